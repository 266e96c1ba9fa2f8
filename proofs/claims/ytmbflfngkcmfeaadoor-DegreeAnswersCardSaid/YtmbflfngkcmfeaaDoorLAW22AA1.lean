/- Part LAW22A.A1 of a proof: lemmas. -/
import Derived.Test.YtmbflfngkcmfeaaDoorLAW22AA0
import Derived.Test.YtmbflfngkcmfeaaDoorProg
set_option linter.unusedVariables false
set_option maxRecDepth 100000
set_option maxHeartbeats 4000000
namespace Go.Dc
open Go.Proofs
open Go.Proofs.Tryd (prog)

/-! deliberation/degree.Strength -/
noncomputable def degree_Strength_l2 (s85 : Int × (List T_api_Fraction)) (t91 : List Int) (s107 : Int × T_api_Fraction) : Option (Sum ((Sum (List T_api_Fraction × Int) (T_api_Fraction))) (Int × T_api_Fraction)) :=
  bif decide (s107.1 < (t91.length : Int)) then
    Option.bind (idxM t91 s107.1) fun a_110 =>
    Option.bind (idxM s85.2 a_110) fun t111 =>
    Option.bind (degree_add_m s107.2 t111) fun t112 =>
    bif !t112.2 then
      some (Sum.inl (Sum.inl ([], 2)))
    else
      some (Sum.inr (iadd .i64 s107.1 1, t112.1))
  else
    some (Sum.inl (Sum.inr s107.2))

noncomputable def degree_Strength_l1 (base_1 : (List T_api_Fraction)) (t6 : T_network_Net) (t8 : List Int × Bool) (s85 : Int × (List T_api_Fraction)) : Option (Sum ((Sum (List T_api_Fraction × Int) ((List T_api_Fraction)))) (Int × (List T_api_Fraction))) :=
  bif decide (s85.1 < (t8.1.length : Int)) then
    Option.bind (idxM t8.1 s85.1) fun i88 =>
    Option.bind (idxM t6.By i88) fun t90 =>
    Option.bind (network_Set_List_m t90) fun t91 =>
    Option.bind (loopC (degree_Strength_l2 s85 t91) (0, (T_api_Fraction.mk 1 1))) (sumK (fun a : List T_api_Fraction × Int => some (Sum.inl (Sum.inl a))) fun q114 : T_api_Fraction =>
      Option.bind (idxM base_1 i88) fun t116 =>
      Option.bind (degree_reduce_m t116) fun t117 =>
      Option.bind (degree_divide_m t117 q114) fun t118 =>
      Option.bind (idxM s85.2 i88) fun t119 =>
      bif !t118.2 then
        some (Sum.inl (Sum.inl ([], 2)))
      else
        some (Sum.inr (iadd .i64 s85.1 1, s85.2.set (Int.toNat i88) t118.1)))
  else
    some (Sum.inl (Sum.inr s85.2))

noncomputable def degree_Strength_m (g_0 : T_api_Graph) (base_1 : (List T_api_Fraction)) : Option (List T_api_Fraction × Int) :=
  Option.bind (graph_Validate_m g_0) fun e2 =>
  bif e2 != 0 then
    some ([], e2)
  else
    bif (base_1.length : Int) != g_0.N then
      some ([], 1)
    else
      Option.bind (slices_ContainsFunc_api_Fraction_api_Fraction_m base_1) fun t4 =>
      bif t4 then
        some ([], 1)
      else
        Option.bind (network_New_m g_0) fun t6 =>
        Option.bind (degree_order_m t6) fun t8 =>
        bif !t8.2 then
          some ([], 8)
        else
          Option.bind (mkM 16 (T_api_Fraction.mk 0 0) g_0.N) fun out11 =>
          Option.bind (loopC (degree_Strength_l1 base_1 t6 t8) (0, out11)) (sumK (fun a : List T_api_Fraction × Int => some a) fun q121 : (List T_api_Fraction) =>
            some (q121, 0))

theorem degree_Strength_ok {g_0 : T_api_Graph} {base_1 : (List T_api_Fraction)} {r : List T_api_Fraction × Int} (hm : degree_Strength_m g_0 base_1 = some r) :
    FnOk prog 20 [ag [iv .i64 g_0.N, slv rT_api_Pair g_0.L], slv rT_api_Fraction base_1] [tbO (rI .u8) 0 tab_0] (fun (x : (Value × List Nat)) => [pv x.1, iv .i64 r.2]) (fun (x : (Value × List Nat)) => [tbO (rI .u8) 0 tab_0, oa rT_api_Fraction x.1 x.2 r.1]) := by
  refine fn_ok (X := (Value × List Nat)) (fn := Tryd.f20) (N := 89) (res := fun r x => [pv x.1, iv .i64 r.2]) (Ω1 := fun r x => [tbO (rI .u8) 0 tab_0, oa rT_api_Fraction x.1 x.2 r.1]) Tryd.func20 rfl rfl hm rfl (fun E hM => ?_)
  unfold degree_Strength_m
  refine ref_seq (ref_region ?_)
  refine s_st (s_box (part_agO (ψs := [iv .i64 g_0.N, slv rT_api_Pair g_0.L]) rfl ⟨.inl iv_at, .inl slv_at, trivial⟩)) rfl (fun b1 => ?_)
  refine as1 rfl rfl ?_
  refine as1 rfl rfl ?_
  refine l_nil (n_then (ref_seq (ref_seq (ref_region ?_))))
  refine s_rd (r_cloadS Tryd.isAgg27 Tryd.sizeOf27 rfl (j := 1) rfl rfl rfl) rfl ?_
  refine pull fun e2 h_e2 => ?_
  refine s_st (s_call (ψ := fun (_ : Unit) => iv .i64 e2) (args := [.tmp 16]) Tryd.call36 rfl (graph_Validate_ok h_e2) ⟨arg rfl, trivial⟩ (fun _ _ _ _ h => h)) rfl (fun _ => ?_)
  refine as1 rfl rfl ?_
  refine l_nil (n_then (ref_seq (ref_region ?_)))
  refine mv1 rfl rfl ?_
  refine s_rd (r_neq rfl rfl) rfl ?_
  refine l_nil (n_then ?_)
  refine ref_cond rfl (fun hb3 => ?_) (fun hb3 => ?_)
  · refine ref_seq (ref_region ?_)
    refine mv1 rfl rfl ?_
    refine as1 rfl rfl ?_
    refine as1 rfl rfl ?_
    refine l_nil (n_then (ref_ret (r_then ?_)))
    refine b_of (own_nil rT_api_Fraction) ?_
    exact fin2 (.inl rfl) ((.slice none 0 0), []) [0, 2] rfl ⟨rfl, rfl, trivial⟩ rfl (rv_tmp rfl) (rv_tmp rfl)
  refine ref_skip (n_then (ref_seq (ref_seq (ref_region ?_))))
  refine mv1 rfl rfl ?_
  refine s_rd (r_len Tryd.underlying40 rfl) rfl ?_
  refine s_rd (r_faddr (fo := 0) Tryd.underlying27 rfl rfl Tryd.sizeOf3 rfl) rfl ?_
  refine s_rd (r_cload Tryd.isAgg3 rfl (j := 1) rfl rfl) rfl ?_
  refine s_rd (r_neq rfl rfl) rfl ?_
  refine mv1 rfl rfl ?_
  refine b_split (t := 26) rfl (fun _ => ?_) (fun _ => ?_)
  · refine s_off rfl rfl rfl rfl rfl ?_
    refine s_off rfl rfl rfl rfl rfl ?_
    refine s_rd (r_pickT rfl rfl) rfl ?_
    refine l_nil (n_then ?_)
    refine ref_condT rfl rfl ?_
    refine ref_seq (ref_region ?_)
    refine as1 rfl rfl ?_
    refine as1 rfl rfl ?_
    refine l_nil (n_then (ref_ret (r_then ?_)))
    refine b_of (own_nil rT_api_Fraction) ?_
    exact fin2 (.inl rfl) ((.slice none 0 0), []) [0, 2] rfl ⟨rfl, rfl, trivial⟩ rfl (rv_tmp rfl) (rv_tmp rfl)
  refine s_on rfl rfl rfl ?_
  refine mv1 rfl rfl ?_
  refine s_on rfl rfl rfl ?_
  refine pull fun t4 h_t4 => ?_
  refine s_st (s_call (ψ := fun (_ : Unit) => bv t4) (args := [.tmp 27, .func 46]) Tryd.call45 rfl (slices_ContainsFunc_api_Fraction_api_Fraction_ok h_t4) ⟨arg rfl, arg rfl, trivial⟩ (fun _ _ _ _ h => h)) rfl (fun _ => ?_)
  refine s_rd (r_pickF rfl rfl) rfl ?_
  refine l_nil (n_then ?_)
  refine ref_cond rfl (fun hb5 => ?_) (fun hb5 => ?_)
  · refine ref_seq (ref_region ?_)
    refine as1 rfl rfl ?_
    refine as1 rfl rfl ?_
    refine l_nil (n_then (ref_ret (r_then ?_)))
    refine b_of (own_nil rT_api_Fraction) ?_
    exact fin2 (.inl rfl) ((.slice none 0 0), []) [0, 2] rfl ⟨rfl, rfl, trivial⟩ rfl (rv_tmp rfl) (rv_tmp rfl)
  refine ref_skip (n_then (ref_seq (ref_region ?_)))
  refine s_rd (r_cloadS Tryd.isAgg27 Tryd.sizeOf27 rfl (j := 1) rfl rfl rfl) rfl ?_
  refine pull fun t6 h_t6 => ?_
  refine s_st (s_call (ψ := fun (_ : Unit) => ag [iv .u64 t6.All, slv (rI .u64) t6.By, slv (rI .u64) t6.Out]) (args := [.tmp 30]) Tryd.call39 rfl (network_New_ok h_t6) ⟨arg rfl, trivial⟩ (fun _ _ _ _ h => h)) rfl (fun _ => ?_)
  refine s_st (s_alloc zt_80) rfl (fun b7 => ?_)
  refine s_st0 (s_cstore (out := [iv .u64 t6.All, slv (rI .u64) t6.By, slv (rI .u64) t6.Out]) Tryd.sizeOf80 rfl (j := 2) rfl (part_agO (ψs := [iv .u64 t6.All, slv (rI .u64) t6.By, slv (rI .u64) t6.Out]) rfl ⟨.inl iv_at, .inl slv_at, .inl slv_at, trivial⟩) rfl rfl rfl) (fun _ => ?_)
  refine l_nil ?_
  refine b_of (nrm [tbO (rI .u8) 0 tab_0, oc b1 [iv .i64 g_0.N, slv rT_api_Pair g_0.L], oc b7 [iv .u64 t6.All, slv (rI .u64) t6.By, slv (rI .u64) t6.Out]] rfl) ?_
  refine n_then (ref_seq (ref_region ?_))
  refine s_rd (r_cloadS Tryd.isAgg80 Tryd.sizeOf80 rfl (j := 2) rfl rfl rfl) rfl ?_
  refine pull fun t8 h_t8 => ?_
  refine s_st (s_callC [0] [true] (fun (x9 : (Value × List Nat)) => [tbO (rI .u8) 0 tab_0]) (fun (x9 : (Value × List Nat)) => [oa (rI .i64) x9.1 x9.2 t8.1]) (fun (x9 : (Value × List Nat)) => tup [pv x9.1, bv t8.2]) (args := [.tmp 33]) (caps := []) Tryd.call47 rfl (degree_order_ok h_t8) ⟨rfl, rfl, trivial⟩ (fun _ => rfl) (fun _ => trivial) (fun _ => rfl) ⟨arg rfl, trivial⟩ (fun _ _ _ _ h => h)) rfl (fun x9 => ?_)
  refine mv1 rfl rfl ?_
  refine s_rd (r_extract rfl rfl) rfl ?_
  refine s_rd (r_extract rfl rfl) rfl ?_
  refine as1 rfl rfl ?_
  refine as1 rfl rfl ?_
  refine l_nil (n_then (ref_seq (ref_seq (ref_region ?_))))
  refine mv1 rfl rfl ?_
  refine s_rd (r_not rfl) rfl ?_
  refine l_nil (n_then ?_)
  refine ref_cond rfl (fun hb10 => ?_) (fun hb10 => ?_)
  · refine ref_seq (ref_region ?_)
    refine as1 rfl rfl ?_
    refine as1 rfl rfl ?_
    refine l_nil (n_then (ref_ret (r_then ?_)))
    refine b_of (own_nil rT_api_Fraction) ?_
    exact fin2 (.inl rfl) ((.slice none 0 0), []) [0, 4] rfl ⟨rfl, rfl, trivial⟩ rfl (rv_tmp rfl) (rv_tmp rfl)
  refine ref_skip (n_then (ref_seq (ref_region ?_)))
  refine s_rd (r_faddr (fo := 0) Tryd.underlying27 rfl rfl Tryd.sizeOf3 rfl) rfl ?_
  refine s_rd (r_cload Tryd.isAgg3 rfl (j := 1) rfl rfl) rfl ?_
  refine pull fun out11 h_out11 => ?_
  refine s_st (s_make h_out11 Tryd.underlying40 el_53 ze_53 rfl rfl) rfl (fun o12 => ?_)
  refine as1 rfl rfl ?_
  refine l_nil (n_then (ref_seq (ref_seq (ref_region ?_))))
  refine mv1 rfl rfl ?_
  refine s_rd (r_olen Tryd.underlying22 rfl (j := 3) rfl) rfl ?_
  refine mv1 rfl rfl ?_
  refine l_nil (n_then ?_)
  refine ref_loopX (f := (degree_Strength_l1 base_1 t6 t8)) (Γl := (fun (s85 : Int × (List T_api_Fraction)) (x86 : Unit) => [(1, slv rT_api_Fraction base_1), (7, pv (ptr b7 0)), (10, pv o12.1), (42, pv x9.1), (43, iv .i64 (t8.1.length : Int)), (44, iv .i64 s85.1)])) (Ωl := (fun (s85 : Int × (List T_api_Fraction)) (x86 : Unit) => [tbO (rI .u8) 0 tab_0, oc b7 [iv .u64 t6.All, slv (rI .u64) t6.By, slv (rI .u64) t6.Out], oa rT_api_Fraction o12.1 o12.2 s85.2, oa (rI .i64) x9.1 x9.2 t8.1])) (Γb := (fun (q121 : (List T_api_Fraction)) (y122 : Unit) => [(10, pv o12.1)])) (Ωb := (fun (q121 : (List T_api_Fraction)) (y122 : Unit) => [oa rT_api_Fraction o12.1 o12.2 q121, tbO (rI .u8) 0 tab_0])) (kr := (fun a : List T_api_Fraction × Int => some a)) (0, out11) () (weak [0, 2, 4, 3] ⟨rfl, rfl, rfl, rfl, rfl, rfl, trivial⟩ ⟨rfl, rfl, rfl, rfl, trivial⟩) (fun s85 x86 => ?_) (fun q121 y122 => ?_)
  · unfold degree_Strength_l1
    refine ref_seq (ref_region ?_)
    refine s_rd (r_lss rfl rfl) rfl ?_
    refine l_nil (n_then (ref_seq ?_))
    refine ref_cond rfl (fun hb87 => ?_) (fun hb87 => ?_)
    · refine ref_skip (n_then (ref_seq (ref_block (ref_seq (ref_region ?_)))))
      refine pull fun i88 h_i88 => ?_
      refine s_rd (r_oindex h_i88 Tryd.underlying22 el_3 rfl (j := 3) rfl rfl) rfl ?_
      refine s_rd (r_oload h_i88 el_3 rfl (j := 3) rfl) rfl ?_
      refine as1 rfl rfl ?_
      refine l_nil (n_then (ref_seq (ref_region ?_)))
      refine s_rd (r_build (ps := [(0, .const (.int .i64 (1))), (1, .const (.int .i64 (1)))]) (rs := [(0, [iv .i64 1]), (1, [iv .i64 1])]) st_53 zs_53 ⟨rfl, (part_at rfl iv_at), ⟨rfl, (part_at rfl iv_at), trivial⟩⟩ rfl rfl) rfl ?_
      refine s_st (s_alloc zt_53) rfl (fun b89 => ?_)
      refine s_st0 (s_cstore (out := [iv .i64 1, iv .i64 1]) Tryd.sizeOf53 rfl (j := 4) rfl (part_agO (ψs := [iv .i64 1, iv .i64 1]) rfl ⟨.inl iv_at, .inl iv_at, trivial⟩) rfl rfl rfl) (fun _ => ?_)
      refine l_nil ?_
      refine b_of (nrm [tbO (rI .u8) 0 tab_0, oc b7 [iv .u64 t6.All, slv (rI .u64) t6.By, slv (rI .u64) t6.Out], oa rT_api_Fraction o12.1 o12.2 s85.2, oa (rI .i64) x9.1 x9.2 t8.1, oc b89 [iv .i64 1, iv .i64 1]] rfl) ?_
      refine n_then (ref_seq (ref_seq (ref_region ?_)))
      refine s_rd (r_faddr (fo := 1) Tryd.underlying80 rfl rfl Tryd.sizeOf78 rfl) rfl ?_
      refine s_rd (r_cload Tryd.isAgg78 rfl (j := 1) rfl rfl) rfl ?_
      refine mv1 rfl rfl ?_
      refine pull fun t90 h_t90 => ?_
      refine s_rd (r_index h_t90 Tryd.underlying78 el_77 rfl rfl) rfl ?_
      refine s_rd (r_load el_77 rfl) rfl ?_
      refine pull fun t91 h_t91 => ?_
      refine s_st (s_callC [0] [true] (fun (x92 : (Value × List Nat)) => [tbO (rI .u8) 0 tab_0]) (fun (x92 : (Value × List Nat)) => [oa (rI .i64) x92.1 x92.2 t91]) (fun (x92 : (Value × List Nat)) => pv x92.1) (args := [.tmp 53]) (caps := []) Tryd.call48 rfl (network_Set_List_ok h_t91) ⟨rfl, rfl, trivial⟩ (fun _ => rfl) (fun _ => trivial) (fun _ => rfl) ⟨arg rfl, trivial⟩ (fun _ _ _ _ h => h)) rfl (fun x92 => ?_)
      refine s_rd (r_olen Tryd.underlying22 rfl (j := 5) rfl) rfl ?_
      refine mv1 rfl rfl ?_
      refine l_nil (n_then ?_)
      refine ref_loopX (f := (degree_Strength_l2 s85 t91)) (Γl := (fun (s107 : Int × T_api_Fraction) (x108 : Unit) => [(1, slv rT_api_Fraction base_1), (7, pv (ptr b7 0)), (10, pv o12.1), (12, iv .i64 i88), (13, pv (ptr b89 0)), (42, pv x9.1), (43, iv .i64 (t8.1.length : Int)), (44, iv .i64 s85.1), (54, pv x92.1), (55, iv .i64 (t91.length : Int)), (56, iv .i64 s107.1)])) (Ωl := (fun (s107 : Int × T_api_Fraction) (x108 : Unit) => [tbO (rI .u8) 0 tab_0, oc b7 [iv .u64 t6.All, slv (rI .u64) t6.By, slv (rI .u64) t6.Out], oa rT_api_Fraction o12.1 o12.2 s85.2, oc b89 [iv .i64 s107.2.Num, iv .i64 s107.2.Den], oa (rI .i64) x9.1 x9.2 t8.1, oa (rI .i64) x92.1 x92.2 t91])) (Γb := (fun (q114 : T_api_Fraction) (y115 : Unit) => [(1, slv rT_api_Fraction base_1), (7, pv (ptr b7 0)), (10, pv o12.1), (12, iv .i64 i88), (13, pv (ptr b89 0)), (42, pv x9.1), (43, iv .i64 (t8.1.length : Int)), (44, iv .i64 s85.1)])) (Ωb := (fun (q114 : T_api_Fraction) (y115 : Unit) => [oc b7 [iv .u64 t6.All, slv (rI .u64) t6.By, slv (rI .u64) t6.Out], oa rT_api_Fraction o12.1 o12.2 s85.2, oc b89 [iv .i64 q114.Num, iv .i64 q114.Den], oa (rI .i64) x9.1 x9.2 t8.1, tbO (rI .u8) 0 tab_0])) (kr := (fun a : List T_api_Fraction × Int => some (Sum.inl (Sum.inl a)))) (0, (T_api_Fraction.mk 1 1)) () (weak [0, 1, 2, 4, 3, 5] ⟨rfl, rfl, rfl, rfl, rfl, rfl, rfl, rfl, rfl, rfl, rfl, trivial⟩ ⟨rfl, rfl, rfl, rfl, rfl, rfl, trivial⟩) (fun s107 x108 => ?_) (fun q114 y115 => ?_)
      · unfold degree_Strength_l2
        refine ref_seq (ref_region ?_)
        refine s_rd (r_lss rfl rfl) rfl ?_
        refine l_nil (n_then (ref_seq ?_))
        refine ref_cond rfl (fun hb109 => ?_) (fun hb109 => ?_)
        · refine ref_skip (n_then (ref_seq (ref_block (ref_seq (ref_region ?_)))))
          refine pull fun a_110 h_a_110 => ?_
          refine s_rd (r_oindex h_a_110 Tryd.underlying22 el_3 rfl (j := 5) rfl rfl) rfl ?_
          refine s_rd (r_oload h_a_110 el_3 rfl (j := 5) rfl) rfl ?_
          refine as1 rfl rfl ?_
          refine l_nil (n_then (ref_seq ?_))
          refine ref_draw [0, 1, 2, 3, 4, 6, 7, 8] rfl (by kernel_rfl) (fun hok => ?_)
          refine a_rd (i := 0) hok rfl (by kernel_rfl) rfl (r_cloadS Tryd.isAgg53 Tryd.sizeOf53 rfl (j := 3) rfl rfl rfl) rfl ?_
          refine a_rd (i := 1) hok rfl (by kernel_rfl) rfl (r_move rfl) rfl ?_
          refine a_rd (i := 2) hok rfl (by kernel_rfl) rfl (r_move rfl) rfl ?_
          refine pull fun t111 h_t111 => ?_
          refine a_rd (i := 3) hok rfl (by kernel_rfl) rfl (r_oindex h_t111 Tryd.underlying40 el_53 rfl (j := 2) rfl rfl) rfl ?_
          refine a_rd (i := 4) hok rfl (by kernel_rfl) rfl (r_oload h_t111 el_53 rfl (j := 2) rfl) rfl ?_
          refine pull fun t112 h_t112 => ?_
          refine a_next hok 5 [] (by kernel_rfl) ?_ trivial
          refine a_st (i := 5) hok rfl rfl (s_call (ψ := fun (_ : Unit) => tup [ag [iv .i64 t112.1.Num, iv .i64 t112.1.Den], bv t112.2]) (args := [.tmp 61, .tmp 65]) Tryd.call49 rfl (degree_add_ok h_t112) ⟨arg rfl, arg rfl, trivial⟩ (fun _ _ _ _ h => h)) (by intro _ h; cases h; rfl) (fun _ => ⟨trivial, ⟨trivial, ⟨trivial, ⟨trivial, ⟨trivial, trivial⟩⟩⟩⟩⟩) (fun _ => ?_)
          refine a_rd (i := 6) hok rfl (by kernel_rfl) rfl (r_move rfl) rfl ?_
          refine a_rd (i := 7) hok rfl (by kernel_rfl) rfl (r_extract rfl rfl) rfl ?_
          refine a_rd (i := 8) hok rfl (by kernel_rfl) rfl (r_extract rfl rfl) rfl ?_
          refine a_next hok 9 [] (by kernel_rfl) ?_ trivial
          refine a_st (i := 9) hok rfl rfl (s_cstore (out := [iv .i64 t112.1.Num, iv .i64 t112.1.Den]) Tryd.sizeOf53 rfl (j := 3) rfl (part_agO (ψs := [iv .i64 t112.1.Num, iv .i64 t112.1.Den]) rfl ⟨.inl iv_at, .inl iv_at, trivial⟩) rfl rfl rfl) (by intro _ h; cases h) (fun _ => ⟨trivial, ⟨trivial, ⟨trivial, ⟨trivial, ⟨trivial, ⟨trivial, ⟨trivial, ⟨trivial, trivial⟩⟩⟩⟩⟩⟩⟩⟩) (fun _ => ?_)
          refine a_next hok 10 [] (by kernel_rfl) ?_ trivial
          refine a_st (i := 10) hok rfl rfl (St.ofRd (r_assign rfl)) (by intro _ h; cases h; rfl) (fun _ => ⟨trivial, ⟨trivial, ⟨trivial, ⟨trivial, ⟨trivial, ⟨trivial, ⟨trivial, ⟨trivial, trivial⟩⟩⟩⟩⟩⟩⟩⟩) (fun _ => ?_)
          refine a_fin hok (by kernel_rfl) ?_
          refine b_of (nrm [tbO (rI .u8) 0 tab_0, oc b7 [iv .u64 t6.All, slv (rI .u64) t6.By, slv (rI .u64) t6.Out], oa rT_api_Fraction o12.1 o12.2 s85.2, oc b89 [iv .i64 t112.1.Num, iv .i64 t112.1.Den], oa (rI .i64) x9.1 x9.2 t8.1, oa (rI .i64) x92.1 x92.2 t91] rfl) ?_
          refine n_then (ref_seq (ref_region ?_))
          refine mv1 rfl rfl ?_
          refine s_rd (r_not rfl) rfl ?_
          refine l_nil (n_then ?_)
          refine ref_cond rfl (fun hb113 => ?_) (fun hb113 => ?_)
          · refine ref_seq (ref_region ?_)
            refine as1 rfl rfl ?_
            refine as1 rfl rfl ?_
            refine l_nil (n_then (ref_ret (r_block (r_then ?_))))
            refine retX ?_
            refine r_block (r_then (r_block (r_then ?_)))
            refine retX ?_
            refine r_block (r_then ?_)
            refine b_of (own_nil rT_api_Fraction) ?_
            exact fin2 (.inl rfl) ((.slice none 0 0), []) [0, 6] rfl ⟨rfl, rfl, trivial⟩ rfl (rv_tmp rfl) (rv_tmp rfl)
          refine ref_skip (n_block (n_then (ref_region ?_)))
          refine s_rd (r_add rfl rfl) rfl ?_
          refine mv1 rfl rfl ?_
          refine l_nil ?_
          exact goX () (weak [0, 1, 2, 3, 4, 5] ⟨rfl, rfl, rfl, rfl, rfl, rfl, rfl, rfl, rfl, rfl, rfl, trivial⟩ ⟨rfl, rfl, rfl, rfl, rfl, rfl, trivial⟩)
        refine ref_exit (x_then ?_)
        exact brkX () (weak [1, 2, 3, 4, 0] ⟨rfl, rfl, rfl, rfl, rfl, rfl, rfl, rfl, trivial⟩ ⟨rfl, rfl, rfl, rfl, rfl, trivial⟩)
      refine n_then (ref_seq ?_)
      refine ref_draw [0, 1, 2, 3, 4, 5, 7, 9, 10, 11, 12] rfl (by kernel_rfl) (fun hok => ?_)
      refine a_rd (i := 0) hok rfl (by kernel_rfl) rfl (r_move rfl) rfl ?_
      refine a_rd (i := 1) hok rfl (by kernel_rfl) rfl (r_move rfl) rfl ?_
      refine a_rd (i := 2) hok rfl (by kernel_rfl) rfl (r_move rfl) rfl ?_
      refine a_rd (i := 3) hok rfl (by kernel_rfl) rfl (r_move rfl) rfl ?_
      refine pull fun t116 h_t116 => ?_
      refine a_rd (i := 4) hok rfl (by kernel_rfl) rfl (r_index h_t116 Tryd.underlying40 el_53 rfl rfl) rfl ?_
      refine a_rd (i := 5) hok rfl (by kernel_rfl) rfl (r_load el_53 rfl) rfl ?_
      refine a_rd (i := 7) hok rfl (by kernel_rfl) rfl (r_cloadS Tryd.isAgg53 Tryd.sizeOf53 rfl (j := 2) rfl rfl rfl) rfl ?_
      refine pull fun t117 h_t117 => ?_
      refine a_next hok 6 [] (by kernel_rfl) ?_ trivial
      refine a_st (i := 6) hok rfl rfl (s_call (ψ := fun (_ : Unit) => ag [iv .i64 t117.Num, iv .i64 t117.Den]) (args := [.tmp 78]) Tryd.call51 rfl (degree_reduce_ok h_t117) ⟨arg rfl, trivial⟩ (fun _ _ _ _ h => h)) (by intro _ h; cases h; rfl) (fun _ => ⟨⟨⟨rfl, rfl⟩, trivial⟩, ⟨trivial, ⟨trivial, ⟨trivial, ⟨trivial, ⟨trivial, ⟨trivial, trivial⟩⟩⟩⟩⟩⟩⟩) (fun _ => ?_)
      refine pull fun t118 h_t118 => ?_
      refine a_next hok 8 [] (by kernel_rfl) ?_ trivial
      refine a_st (i := 8) hok rfl rfl (s_call (ψ := fun (_ : Unit) => tup [ag [iv .i64 t118.1.Num, iv .i64 t118.1.Den], bv t118.2]) (args := [.tmp 79, .tmp 80]) Tryd.call50 rfl (degree_divide_ok h_t118) ⟨arg rfl, arg rfl, trivial⟩ (fun _ _ _ _ h => h)) (by intro _ h; cases h; rfl) (fun _ => ⟨trivial, ⟨trivial, ⟨trivial, ⟨trivial, ⟨trivial, ⟨trivial, ⟨trivial, trivial⟩⟩⟩⟩⟩⟩⟩) (fun _ => ?_)
      refine a_rd (i := 9) hok rfl (by kernel_rfl) rfl (r_move rfl) rfl ?_
      refine a_rd (i := 10) hok rfl (by kernel_rfl) rfl (r_extract rfl rfl) rfl ?_
      refine a_rd (i := 11) hok rfl (by kernel_rfl) rfl (r_extract rfl rfl) rfl ?_
      refine pull fun t119 h_t119 => ?_
      refine a_rd (i := 12) hok rfl (by kernel_rfl) rfl (r_oindex h_t119 Tryd.underlying40 el_53 rfl (j := 1) rfl rfl) rfl ?_
      refine a_next hok 13 [] (by kernel_rfl) ?_ trivial
      refine a_st (i := 13) hok rfl rfl (s_ostore (u := t118.1) h_t119 el_53 rfl (j := 1) rfl (part_agO (ψs := [iv .i64 t118.1.Num, iv .i64 t118.1.Den]) rfl ⟨.inl iv_at, .inl iv_at, trivial⟩)) (by intro _ h; cases h) (fun _ => ⟨trivial, ⟨trivial, ⟨trivial, ⟨trivial, ⟨trivial, ⟨trivial, ⟨trivial, ⟨trivial, ⟨trivial, ⟨trivial, ⟨trivial, trivial⟩⟩⟩⟩⟩⟩⟩⟩⟩⟩⟩) (fun _ => ?_)
      refine a_next hok 14 [] (by kernel_rfl) ?_ trivial
      refine a_st (i := 14) hok rfl rfl (St.ofRd (r_assign rfl)) (by intro _ h; cases h; rfl) (fun _ => ⟨trivial, ⟨trivial, ⟨trivial, ⟨trivial, ⟨trivial, ⟨trivial, ⟨trivial, ⟨trivial, ⟨trivial, ⟨trivial, ⟨trivial, trivial⟩⟩⟩⟩⟩⟩⟩⟩⟩⟩⟩) (fun _ => ?_)
      refine a_fin hok (by kernel_rfl) ?_
      refine b_of (nrm [oc b7 [iv .u64 t6.All, slv (rI .u64) t6.By, slv (rI .u64) t6.Out], oa rT_api_Fraction o12.1 o12.2 (s85.2.set (Int.toNat i88) t118.1), oc b89 [iv .i64 q114.Num, iv .i64 q114.Den], oa (rI .i64) x9.1 x9.2 t8.1, tbO (rI .u8) 0 tab_0] rfl) ?_
      refine n_then (ref_seq (ref_region ?_))
      refine mv1 rfl rfl ?_
      refine s_rd (r_not rfl) rfl ?_
      refine l_nil (n_then ?_)
      refine ref_cond rfl (fun hb120 => ?_) (fun hb120 => ?_)
      · refine ref_seq (ref_region ?_)
        refine as1 rfl rfl ?_
        refine as1 rfl rfl ?_
        refine l_nil (n_then (ref_ret (r_block (r_then ?_))))
        refine retX ?_
        refine r_block (r_then ?_)
        refine b_of (own_nil rT_api_Fraction) ?_
        exact fin2 (.inl rfl) ((.slice none 0 0), []) [4, 5] rfl ⟨rfl, rfl, trivial⟩ rfl (rv_tmp rfl) (rv_tmp rfl)
      refine ref_skip (n_block (n_then (ref_region ?_)))
      refine s_rd (r_add rfl rfl) rfl ?_
      refine mv1 rfl rfl ?_
      refine l_nil ?_
      exact goX () (weak [4, 0, 1, 3] ⟨rfl, rfl, rfl, rfl, rfl, rfl, trivial⟩ ⟨rfl, rfl, rfl, rfl, trivial⟩)
    refine ref_exit (x_then ?_)
    exact brkX () (weak [2, 0] ⟨rfl, trivial⟩ ⟨rfl, rfl, trivial⟩)
  refine n_then (ref_seq (ref_region ?_))
  refine mv1 rfl rfl ?_
  refine as1 rfl rfl ?_
  refine as1 rfl rfl ?_
  refine l_nil (n_then (ref_ret ?_))
  exact fin2 (.inl rfl) o12 [1, 0] rfl ⟨rfl, rfl, trivial⟩ rfl (rv_tmp rfl) (rv_tmp rfl)

/-! deliberation/deliberationkeep.Ints -/
noncomputable def keep_Ints_l1 (a__0 : (List Int)) (b_1 : (List Int)) (s8 : Int) : Option (Sum ((Sum (Bool) (Unit))) (Int)) :=
  bif decide (s8 < (a__0.length : Int)) then
    Option.bind (idxM a__0 s8) fun t11 =>
    Option.bind (idxM b_1 s8) fun t12 =>
    bif t11 != t12 then
      some (Sum.inl (Sum.inl false))
    else
      some (Sum.inr (iadd .i64 s8 1))
  else
    some (Sum.inl (Sum.inr ()))

noncomputable def keep_Ints_m (a__0 : (List Int)) (b_1 : (List Int)) : Option (Bool) :=
  bif (a__0.length : Int) != (b_1.length : Int) then
    some false
  else
    Option.bind (loopC (keep_Ints_l1 a__0 b_1) 0) (sumK (fun a : Bool => some a) fun q14 : Unit =>
      some true)

theorem keep_Ints_ok {a__0 : (List Int)} {b_1 : (List Int)} {r : Bool} (hm : keep_Ints_m a__0 b_1 = some r) :
    FnOk prog 28 [slv (rI .i64) a__0, slv (rI .i64) b_1] [] (fun (x : Unit) => [bv r]) (fun (x : Unit) => []) := by
  refine fn_ok (fn := Tryd.f28) (N := 26) (res := fun r x => [bv r]) (Ω1 := fun r x => []) Tryd.func28 rfl rfl hm rfl (fun E hM => ?_)
  unfold keep_Ints_m
  refine ref_seq (ref_region ?_)
  refine as1 rfl rfl ?_
  refine l_nil (n_then (ref_seq (ref_seq (ref_region ?_))))
  refine mv1 rfl rfl ?_
  refine s_rd (r_len Tryd.underlying22 rfl) rfl ?_
  refine mv1 rfl rfl ?_
  refine s_rd (r_len Tryd.underlying22 rfl) rfl ?_
  refine s_rd (r_neq rfl rfl) rfl ?_
  refine l_nil (n_then ?_)
  refine ref_cond rfl (fun hb1 => ?_) (fun hb1 => ?_)
  · refine ref_seq (ref_region ?_)
    refine as1 rfl rfl ?_
    refine l_nil (n_then (ref_ret (r_then ?_)))
    exact fin1 (.inl rfl) () [] rfl trivial rfl (rv_tmp rfl)
  refine ref_skip (n_then (ref_seq (ref_seq (ref_region ?_))))
  refine mv1 rfl rfl ?_
  refine s_rd (r_len Tryd.underlying22 rfl) rfl ?_
  refine mv1 rfl rfl ?_
  refine l_nil (n_then ?_)
  refine ref_loopX (f := (keep_Ints_l1 a__0 b_1)) (Γl := (fun (s8 : Int) (x9 : Unit) => [(0, slv (rI .i64) a__0), (1, slv (rI .i64) b_1), (12, iv .i64 (a__0.length : Int)), (13, iv .i64 s8)])) (Ωl := (fun (s8 : Int) (x9 : Unit) => [])) (Γb := (fun (q14 : Unit) (y15 : Unit) => [])) (Ωb := (fun (q14 : Unit) (y15 : Unit) => [])) (kr := (fun a : Bool => some a)) 0 () (weak [] ⟨rfl, rfl, rfl, rfl, trivial⟩ trivial) (fun s8 x9 => ?_) (fun q14 y15 => ?_)
  · unfold keep_Ints_l1
    refine ref_seq (ref_region ?_)
    refine s_rd (r_lss rfl rfl) rfl ?_
    refine l_nil (n_then (ref_seq ?_))
    refine ref_cond rfl (fun hb10 => ?_) (fun hb10 => ?_)
    · refine ref_skip (n_then (ref_seq (ref_block (ref_seq (ref_region ?_)))))
      refine mv1 rfl rfl ?_
      refine as1 rfl rfl ?_
      refine l_nil (n_then (ref_seq ?_))
      refine ref_draw [0, 1, 2, 3, 4, 5, 6, 7, 8] rfl (by kernel_rfl) (fun hok => ?_)
      refine a_rd (i := 0) hok rfl (by kernel_rfl) rfl (r_move rfl) rfl ?_
      refine a_rd (i := 1) hok rfl (by kernel_rfl) rfl (r_move rfl) rfl ?_
      refine pull fun t11 h_t11 => ?_
      refine a_rd (i := 2) hok rfl (by kernel_rfl) rfl (r_index h_t11 Tryd.underlying22 el_3 rfl rfl) rfl ?_
      refine a_rd (i := 3) hok rfl (by kernel_rfl) rfl (r_load el_3 rfl) rfl ?_
      refine a_rd (i := 4) hok rfl (by kernel_rfl) rfl (r_move rfl) rfl ?_
      refine a_rd (i := 5) hok rfl (by kernel_rfl) rfl (r_move rfl) rfl ?_
      refine pull fun t12 h_t12 => ?_
      refine a_rd (i := 6) hok rfl (by kernel_rfl) rfl (r_index h_t12 Tryd.underlying22 el_3 rfl rfl) rfl ?_
      refine a_rd (i := 7) hok rfl (by kernel_rfl) rfl (r_load el_3 rfl) rfl ?_
      refine a_rd (i := 8) hok rfl (by kernel_rfl) rfl (r_neq rfl rfl) rfl ?_
      refine a_fin hok (by kernel_rfl) ?_
      refine n_then ?_
      refine ref_cond rfl (fun hb13 => ?_) (fun hb13 => ?_)
      · refine ref_seq (ref_region ?_)
        refine as1 rfl rfl ?_
        refine l_nil (n_then (ref_ret (r_block (r_then ?_))))
        refine retX ?_
        refine r_block (r_then ?_)
        exact fin1 (.inl rfl) () [] rfl trivial rfl (rv_tmp rfl)
      refine ref_skip (n_block (n_then (ref_region ?_)))
      refine s_rd (r_add rfl rfl) rfl ?_
      refine mv1 rfl rfl ?_
      refine l_nil ?_
      exact goX () (weak [] ⟨rfl, rfl, rfl, rfl, trivial⟩ trivial)
    refine ref_exit (x_then ?_)
    exact brkX () (weak [] trivial trivial)
  refine n_then (ref_seq (ref_region ?_))
  refine as1 rfl rfl ?_
  refine l_nil (n_then (ref_ret ?_))
  exact fin1 (.inl rfl) () [] rfl trivial rfl (rv_tmp rfl)

/-! deliberation/deliberationref22.Same -/
noncomputable def ref22_Same_l1 (a__0 : (List T_api_Fraction)) (b_1 : (List T_api_Fraction)) (s8 : Int) : Option (Sum ((Sum (Bool) (Unit))) (Int)) :=
  bif decide (s8 < (a__0.length : Int)) then
    Option.bind (idxM a__0 s8) fun t11 =>
    Option.bind (idxM b_1 s8) fun t12 =>
    bif !decide (t11 = t12) then
      some (Sum.inl (Sum.inl false))
    else
      some (Sum.inr (iadd .i64 s8 1))
  else
    some (Sum.inl (Sum.inr ()))

noncomputable def ref22_Same_m (a__0 : (List T_api_Fraction)) (b_1 : (List T_api_Fraction)) : Option (Bool) :=
  bif (a__0.length : Int) != (b_1.length : Int) then
    some false
  else
    Option.bind (loopC (ref22_Same_l1 a__0 b_1) 0) (sumK (fun a : Bool => some a) fun q14 : Unit =>
      some true)

theorem ref22_Same_ok {a__0 : (List T_api_Fraction)} {b_1 : (List T_api_Fraction)} {r : Bool} (hm : ref22_Same_m a__0 b_1 = some r) :
    FnOk prog 22 [slv rT_api_Fraction a__0, slv rT_api_Fraction b_1] [] (fun (x : Unit) => [bv r]) (fun (x : Unit) => []) := by
  refine fn_ok (fn := Tryd.f22) (N := 26) (res := fun r x => [bv r]) (Ω1 := fun r x => []) Tryd.func22 rfl rfl hm rfl (fun E hM => ?_)
  unfold ref22_Same_m
  refine ref_seq (ref_region ?_)
  refine as1 rfl rfl ?_
  refine l_nil (n_then (ref_seq (ref_seq (ref_region ?_))))
  refine mv1 rfl rfl ?_
  refine s_rd (r_len Tryd.underlying40 rfl) rfl ?_
  refine mv1 rfl rfl ?_
  refine s_rd (r_len Tryd.underlying40 rfl) rfl ?_
  refine s_rd (r_neq rfl rfl) rfl ?_
  refine l_nil (n_then ?_)
  refine ref_cond rfl (fun hb1 => ?_) (fun hb1 => ?_)
  · refine ref_seq (ref_region ?_)
    refine as1 rfl rfl ?_
    refine l_nil (n_then (ref_ret (r_then ?_)))
    exact fin1 (.inl rfl) () [] rfl trivial rfl (rv_tmp rfl)
  refine ref_skip (n_then (ref_seq (ref_seq (ref_region ?_))))
  refine as1 rfl rfl ?_
  refine l_nil (n_then ?_)
  refine ref_loopX (f := (ref22_Same_l1 a__0 b_1)) (Γl := (fun (s8 : Int) (x9 : Unit) => [(0, slv rT_api_Fraction a__0), (1, slv rT_api_Fraction b_1), (5, iv .i64 s8)])) (Ωl := (fun (s8 : Int) (x9 : Unit) => [])) (Γb := (fun (q14 : Unit) (y15 : Unit) => [])) (Ωb := (fun (q14 : Unit) (y15 : Unit) => [])) (kr := (fun a : Bool => some a)) 0 () (weak [] ⟨rfl, rfl, rfl, trivial⟩ trivial) (fun s8 x9 => ?_) (fun q14 y15 => ?_)
  · unfold ref22_Same_l1
    refine ref_seq (ref_seq (ref_region ?_))
    refine mv1 rfl rfl ?_
    refine mv1 rfl rfl ?_
    refine s_rd (r_len Tryd.underlying40 rfl) rfl ?_
    refine s_rd (r_lss rfl rfl) rfl ?_
    refine l_nil (n_then ?_)
    refine ref_cond rfl (fun hb10 => ?_) (fun hb10 => ?_)
    · refine ref_skip (n_then (ref_seq (ref_block (ref_seq ?_))))
      refine ref_draw [0, 1, 2, 3, 4, 5, 6, 7, 8] rfl (by kernel_rfl) (fun hok => ?_)
      refine a_rd (i := 0) hok rfl (by kernel_rfl) rfl (r_move rfl) rfl ?_
      refine a_rd (i := 1) hok rfl (by kernel_rfl) rfl (r_move rfl) rfl ?_
      refine pull fun t11 h_t11 => ?_
      refine a_rd (i := 2) hok rfl (by kernel_rfl) rfl (r_index h_t11 Tryd.underlying40 el_53 rfl rfl) rfl ?_
      refine a_rd (i := 3) hok rfl (by kernel_rfl) rfl (r_load el_53 rfl) rfl ?_
      refine a_rd (i := 4) hok rfl (by kernel_rfl) rfl (r_move rfl) rfl ?_
      refine a_rd (i := 5) hok rfl (by kernel_rfl) rfl (r_move rfl) rfl ?_
      refine pull fun t12 h_t12 => ?_
      refine a_rd (i := 6) hok rfl (by kernel_rfl) rfl (r_index h_t12 Tryd.underlying40 el_53 rfl rfl) rfl ?_
      refine a_rd (i := 7) hok rfl (by kernel_rfl) rfl (r_load el_53 rfl) rfl ?_
      refine a_rd (i := 8) hok rfl (by kernel_rfl) rfl (r_stneq (u := t11) (v := t12) eq_53 rfl rfl rfl rfl) rfl ?_
      refine a_fin hok (by kernel_rfl) ?_
      refine n_then ?_
      refine ref_cond rfl (fun hb13 => ?_) (fun hb13 => ?_)
      · refine ref_seq (ref_region ?_)
        refine as1 rfl rfl ?_
        refine l_nil (n_then (ref_ret (r_block (r_then ?_))))
        refine retX ?_
        refine r_block (r_then ?_)
        exact fin1 (.inl rfl) () [] rfl trivial rfl (rv_tmp rfl)
      refine ref_skip (n_block (n_then (ref_region ?_)))
      refine mv1 rfl rfl ?_
      refine s_rd (r_add rfl rfl) rfl ?_
      refine as1 rfl rfl ?_
      refine l_nil ?_
      exact goX () (weak [] ⟨rfl, rfl, rfl, trivial⟩ trivial)
    refine ref_exit (x_then ?_)
    exact brkX () (weak [] trivial trivial)
  refine n_then (ref_seq (ref_region ?_))
  refine as1 rfl rfl ?_
  refine l_nil (n_then (ref_ret ?_))
  exact fin1 (.inl rfl) () [] rfl trivial rfl (rv_tmp rfl)

/-! deliberation/deliberationlaw22.awake -/
noncomputable def law22_awake_m  : Option (Bool) :=
  Option.bind (degree_Budget_m (T_api_Graph.mk 3 [(T_api_Pair.mk 0 1), (T_api_Pair.mk 1 2)]) [5, 3] 1) fun t3 =>
  Option.bind (degree_Levels_m (T_api_Graph.mk 3 [(T_api_Pair.mk 0 1), (T_api_Pair.mk 1 2)]) [5, 3] 1) fun t5 =>
  Option.bind (degree_Strength_m (T_api_Graph.mk 3 [(T_api_Pair.mk 0 1), (T_api_Pair.mk 1 2)]) [(T_api_Fraction.mk 1 1), (T_api_Fraction.mk 1 1), (T_api_Fraction.mk 1 1)]) fun t7 =>
  bif t3.2 == 0 then
    bif t5.2 == 0 then
      bif t7.2 == 0 then
        bif t3.1.Weight == 5 then
          Option.bind (keep_Ints_m t3.1.Dropped [0]) fun t9 =>
          bif t9 then
            Option.bind (keep_Ints_m t5.1 [2, 2, 1]) fun t10 =>
            bif t10 then
              Option.bind (ref22_Same_m t7.1 [(T_api_Fraction.mk 1 1), (T_api_Fraction.mk 1 2), (T_api_Fraction.mk 2 3)]) fun t11 =>
              some t11
            else
              some false
          else
            some false
        else
          some false
      else
        some false
    else
      some false
  else
    some false

theorem law22_awake_ok  {r : Bool} (hm : law22_awake_m  = some r) :
    FnOk prog 14 [] [tbO (rI .u8) 0 tab_0] (fun (x : Unit) => [bv r]) (fun (x : Unit) => [tbO (rI .u8) 0 tab_0]) := by
  refine fn_ok (fn := Tryd.f14) (N := 69) (res := fun r x => [bv r]) (Ω1 := fun r x => [tbO (rI .u8) 0 tab_0]) Tryd.func14 rfl rfl hm rfl (fun E hM => ?_)
  unfold law22_awake_m
  refine ref_seq (ref_region ?_)
  refine as1 rfl rfl ?_
  refine l_nil (n_then (ref_seq (ref_region ?_)))
  refine s_rd (r_build (ps := [(0, .const (.int .i64 (0))), (1, .const (.int .i64 (1)))]) (rs := [(0, [iv .i64 0]), (1, [iv .i64 1])]) st_56 zs_56 ⟨rfl, (part_at rfl iv_at), ⟨rfl, (part_at rfl iv_at), trivial⟩⟩ rfl rfl) rfl ?_
  refine s_rd (r_build (ps := [(0, .const (.int .i64 (1))), (1, .const (.int .i64 (2)))]) (rs := [(0, [iv .i64 1]), (1, [iv .i64 2])]) st_56 zs_56 ⟨rfl, (part_at rfl iv_at), ⟨rfl, (part_at rfl iv_at), trivial⟩⟩ rfl rfl) rfl ?_
  refine s_st (s_bslice (xs := [.tmp 9, .tmp 10]) (ds := [(T_api_Pair.mk 0 1), (T_api_Pair.mk 1 2)]) Tryd.underlying25 el_56 rfl (Nat.le_of_ble_eq_true rfl) ⟨(part_agO (ψs := [iv .i64 0, iv .i64 1]) rfl ⟨.inl iv_at, .inl iv_at, trivial⟩), ⟨(part_agO (ψs := [iv .i64 1, iv .i64 2]) rfl ⟨.inl iv_at, .inl iv_at, trivial⟩), trivial⟩⟩) rfl (fun _ => ?_)
  refine s_rd (r_build (ps := [(0, .const (.int .i64 (3))), (1, .tmp 11)]) (rs := [(0, [iv .i64 3]), (1, [slv rT_api_Pair [(T_api_Pair.mk 0 1), (T_api_Pair.mk 1 2)]])]) st_27 zs_27 ⟨rfl, (part_at rfl iv_at), ⟨rfl, (part_at rfl slv_at), trivial⟩⟩ rfl rfl) rfl ?_
  refine s_st (s_alloc zt_27) rfl (fun b1 => ?_)
  refine s_st0 (s_cstore (out := [iv .i64 3, slv rT_api_Pair [(T_api_Pair.mk 0 1), (T_api_Pair.mk 1 2)]]) Tryd.sizeOf27 rfl (j := 1) rfl (part_agO (ψs := [iv .i64 3, slv rT_api_Pair [(T_api_Pair.mk 0 1), (T_api_Pair.mk 1 2)]]) rfl ⟨.inl iv_at, .inl slv_at, trivial⟩) rfl rfl rfl) (fun _ => ?_)
  refine l_nil (n_then (ref_seq (ref_region ?_)))
  refine s_rd (r_build (ps := [(0, .const (.int .i64 (1))), (1, .const (.int .i64 (1)))]) (rs := [(0, [iv .i64 1]), (1, [iv .i64 1])]) st_53 zs_53 ⟨rfl, (part_at rfl iv_at), ⟨rfl, (part_at rfl iv_at), trivial⟩⟩ rfl rfl) rfl ?_
  refine s_st (s_alloc zt_53) rfl (fun b2 => ?_)
  refine s_st0 (s_cstore (out := [iv .i64 1, iv .i64 1]) Tryd.sizeOf53 rfl (j := 2) rfl (part_agO (ψs := [iv .i64 1, iv .i64 1]) rfl ⟨.inl iv_at, .inl iv_at, trivial⟩) rfl rfl rfl) (fun _ => ?_)
  refine l_nil ?_
  refine b_of (nrm [tbO (rI .u8) 0 tab_0, oc b1 [iv .i64 3, slv rT_api_Pair [(T_api_Pair.mk 0 1), (T_api_Pair.mk 1 2)]], oc b2 [iv .i64 1, iv .i64 1]] rfl) ?_
  refine n_then (ref_seq (ref_region ?_))
  refine s_rd (r_cloadS Tryd.isAgg27 Tryd.sizeOf27 rfl (j := 1) rfl rfl rfl) rfl ?_
  refine s_st (s_bslice (xs := [.const (.int .i64 (5)), .const (.int .i64 (3))]) (ds := [5, 3]) Tryd.underlying22 el_3 rfl (Nat.le_of_ble_eq_true rfl) ⟨(part_at rfl iv_at), ⟨(part_at rfl iv_at), trivial⟩⟩) rfl (fun _ => ?_)
  refine pull fun t3 h_t3 => ?_
  refine s_st (s_callC [0] [true] (fun (_ : Unit) => [tbO (rI .u8) 0 tab_0]) (fun (_ : Unit) => []) (fun (_ : Unit) => tup [ag [iv .i64 t3.1.Weight, slv (rI .i64) t3.1.Dropped], iv .i64 t3.2]) (args := [.tmp 15, .tmp 16, .const (.int .i64 (1))]) (caps := []) Tryd.call12 rfl (degree_Budget_ok h_t3) ⟨rfl, rfl, trivial⟩ (fun _ => rfl) (fun _ => trivial) (fun _ => rfl) ⟨arg rfl, arg rfl, arg rfl, trivial⟩ (fun _ _ _ _ h => h)) rfl (fun _ => ?_)
  refine mv1 rfl rfl ?_
  refine s_rd (r_extract rfl rfl) rfl ?_
  refine s_rd (r_extract rfl rfl) rfl ?_
  refine s_st (s_alloc zt_32) rfl (fun b4 => ?_)
  refine s_st0 (s_cstore (out := [iv .i64 t3.1.Weight, slv (rI .i64) t3.1.Dropped]) Tryd.sizeOf32 rfl (j := 3) rfl (part_agO (ψs := [iv .i64 t3.1.Weight, slv (rI .i64) t3.1.Dropped]) rfl ⟨.inl iv_at, .inl slv_at, trivial⟩) rfl rfl rfl) (fun _ => ?_)
  refine as1 rfl rfl ?_
  refine l_nil ?_
  refine b_of (nrm [tbO (rI .u8) 0 tab_0, oc b1 [iv .i64 3, slv rT_api_Pair [(T_api_Pair.mk 0 1), (T_api_Pair.mk 1 2)]], oc b2 [iv .i64 1, iv .i64 1], oc b4 [iv .i64 t3.1.Weight, slv (rI .i64) t3.1.Dropped]] rfl) ?_
  refine n_then (ref_seq (ref_region ?_))
  refine s_rd (r_cloadS Tryd.isAgg27 Tryd.sizeOf27 rfl (j := 1) rfl rfl rfl) rfl ?_
  refine s_st (s_bslice (xs := [.const (.int .i64 (5)), .const (.int .i64 (3))]) (ds := [5, 3]) Tryd.underlying22 el_3 rfl (Nat.le_of_ble_eq_true rfl) ⟨(part_at rfl iv_at), ⟨(part_at rfl iv_at), trivial⟩⟩) rfl (fun _ => ?_)
  refine pull fun t5 h_t5 => ?_
  refine s_st (s_callC [0] [true] (fun (x6 : (Value × List Nat)) => [tbO (rI .u8) 0 tab_0]) (fun (x6 : (Value × List Nat)) => [oa (rI .i64) x6.1 x6.2 t5.1]) (fun (x6 : (Value × List Nat)) => tup [pv x6.1, iv .i64 t5.2]) (args := [.tmp 21, .tmp 22, .const (.int .i64 (1))]) (caps := []) Tryd.call26 rfl (degree_Levels_ok h_t5) ⟨rfl, rfl, trivial⟩ (fun _ => rfl) (fun _ => trivial) (fun _ => rfl) ⟨arg rfl, arg rfl, arg rfl, trivial⟩ (fun _ _ _ _ h => h)) rfl (fun x6 => ?_)
  refine mv1 rfl rfl ?_
  refine s_rd (r_extract rfl rfl) rfl ?_
  refine s_rd (r_extract rfl rfl) rfl ?_
  refine as1 rfl rfl ?_
  refine as1 rfl rfl ?_
  refine l_nil (n_then (ref_seq (ref_region ?_)))
  refine s_rd (r_cloadS Tryd.isAgg27 Tryd.sizeOf27 rfl (j := 1) rfl rfl rfl) rfl ?_
  refine s_rd (r_cloadS Tryd.isAgg53 Tryd.sizeOf53 rfl (j := 2) rfl rfl rfl) rfl ?_
  refine s_rd (r_cloadS Tryd.isAgg53 Tryd.sizeOf53 rfl (j := 2) rfl rfl rfl) rfl ?_
  refine s_rd (r_cloadS Tryd.isAgg53 Tryd.sizeOf53 rfl (j := 2) rfl rfl rfl) rfl ?_
  refine s_st (s_bslice (xs := [.tmp 28, .tmp 29, .tmp 30]) (ds := [(T_api_Fraction.mk 1 1), (T_api_Fraction.mk 1 1), (T_api_Fraction.mk 1 1)]) Tryd.underlying40 el_53 rfl (Nat.le_of_ble_eq_true rfl) ⟨(part_agO (ψs := [iv .i64 1, iv .i64 1]) rfl ⟨.inl iv_at, .inl iv_at, trivial⟩), ⟨(part_agO (ψs := [iv .i64 1, iv .i64 1]) rfl ⟨.inl iv_at, .inl iv_at, trivial⟩), ⟨(part_agO (ψs := [iv .i64 1, iv .i64 1]) rfl ⟨.inl iv_at, .inl iv_at, trivial⟩), trivial⟩⟩⟩) rfl (fun _ => ?_)
  refine pull fun t7 h_t7 => ?_
  refine s_st (s_callC [0] [true] (fun (x8 : (Value × List Nat)) => [tbO (rI .u8) 0 tab_0]) (fun (x8 : (Value × List Nat)) => [oa rT_api_Fraction x8.1 x8.2 t7.1]) (fun (x8 : (Value × List Nat)) => tup [pv x8.1, iv .i64 t7.2]) (args := [.tmp 27, .tmp 31]) (caps := []) Tryd.call20 rfl (degree_Strength_ok h_t7) ⟨rfl, rfl, trivial⟩ (fun _ => rfl) (fun _ => trivial) (fun _ => rfl) ⟨arg rfl, arg rfl, trivial⟩ (fun _ _ _ _ h => h)) rfl (fun x8 => ?_)
  refine mv1 rfl rfl ?_
  refine s_rd (r_extract rfl rfl) rfl ?_
  refine s_rd (r_extract rfl rfl) rfl ?_
  refine as1 rfl rfl ?_
  refine as1 rfl rfl ?_
  refine l_nil ?_
  refine b_of (nrm [tbO (rI .u8) 0 tab_0, oc b1 [iv .i64 3, slv rT_api_Pair [(T_api_Pair.mk 0 1), (T_api_Pair.mk 1 2)]], oc b2 [iv .i64 1, iv .i64 1], oc b4 [iv .i64 t3.1.Weight, slv (rI .i64) t3.1.Dropped], oa (rI .i64) x6.1 x6.2 t5.1, oa rT_api_Fraction x8.1 x8.2 t7.1] rfl) ?_
  refine n_then (ref_seq (ref_region ?_))
  refine mv1 rfl rfl ?_
  refine s_rd (r_eql rfl rfl) rfl ?_
  refine mv1 rfl rfl ?_
  refine b_split (t := 37) rfl (fun _ => ?_) (fun _ => ?_)
  · refine s_on rfl rfl rfl ?_
    refine mv1 rfl rfl ?_
    refine s_on rfl rfl rfl ?_
    refine s_rd (r_eql rfl rfl) rfl ?_
    refine s_rd (r_pickT rfl rfl) rfl ?_
    refine mv1 rfl rfl ?_
    refine b_split (t := 41) rfl (fun _ => ?_) (fun _ => ?_)
    · refine s_on rfl rfl rfl ?_
      refine mv1 rfl rfl ?_
      refine s_on rfl rfl rfl ?_
      refine s_rd (r_eql rfl rfl) rfl ?_
      refine s_rd (r_pickT rfl rfl) rfl ?_
      refine mv1 rfl rfl ?_
      refine b_split (t := 45) rfl (fun _ => ?_) (fun _ => ?_)
      · refine s_on rfl rfl rfl ?_
        refine s_rd (r_faddr (fo := 0) Tryd.underlying32 rfl rfl Tryd.sizeOf3 rfl) rfl ?_
        refine s_on rfl rfl rfl ?_
        refine s_rd (r_cload Tryd.isAgg3 rfl (j := 3) rfl rfl) rfl ?_
        refine s_on rfl rfl rfl ?_
        refine s_rd (r_eql rfl rfl) rfl ?_
        refine s_rd (r_pickT rfl rfl) rfl ?_
        refine mv1 rfl rfl ?_
        refine b_split (t := 50) rfl (fun _ => ?_) (fun _ => ?_)
        · refine s_on rfl rfl rfl ?_
          refine s_rd (r_faddr (fo := 1) Tryd.underlying32 rfl rfl Tryd.sizeOf22 rfl) rfl ?_
          refine s_on rfl rfl rfl ?_
          refine s_rd (r_cload Tryd.isAgg22 rfl (j := 3) rfl rfl) rfl ?_
          refine s_on rfl rfl rfl ?_
          refine s_st (s_bslice (xs := [.const (.int .i64 (0))]) (ds := [0]) Tryd.underlying22 el_3 rfl (Nat.le_of_ble_eq_true rfl) ⟨(part_at rfl iv_at), trivial⟩) rfl (fun _ => ?_)
          refine s_on rfl rfl rfl ?_
          refine pull fun t9 h_t9 => ?_
          refine s_st (s_call (ψ := fun (_ : Unit) => bv t9) (args := [.tmp 52, .tmp 53]) Tryd.call28 rfl (keep_Ints_ok h_t9) ⟨arg rfl, arg rfl, trivial⟩ (fun _ _ _ _ h => h)) rfl (fun _ => ?_)
          refine s_rd (r_pickT rfl rfl) rfl ?_
          refine mv1 rfl rfl ?_
          refine b_split (t := 56) rfl (fun _ => ?_) (fun _ => ?_)
          · refine s_on rfl rfl rfl ?_
            refine mv1 rfl rfl ?_
            refine s_on rfl rfl rfl ?_
            refine s_st (s_bslice (xs := [.const (.int .i64 (2)), .const (.int .i64 (2)), .const (.int .i64 (1))]) (ds := [2, 2, 1]) Tryd.underlying22 el_3 rfl (Nat.le_of_ble_eq_true rfl) ⟨(part_at rfl iv_at), ⟨(part_at rfl iv_at), ⟨(part_at rfl iv_at), trivial⟩⟩⟩) rfl (fun _ => ?_)
            refine s_on rfl rfl rfl ?_
            refine pull fun t10 h_t10 => ?_
            refine s_st (s_callB (ψ := fun (_ : Unit) => bv t10) (args := [.tmp 57, .tmp 58]) Tryd.call28 rfl (keep_Ints_ok h_t10) ⟨argO rfl (j := 4) rfl, argB rfl, trivial⟩ (fun _ _ _ _ _ h => h)) rfl (fun _ => ?_)
            refine s_rd (r_pickT rfl rfl) rfl ?_
            refine mv1 rfl rfl ?_
            refine b_split (t := 61) rfl (fun _ => ?_) (fun _ => ?_)
            · refine s_on rfl rfl rfl ?_
              refine mv1 rfl rfl ?_
              refine s_on rfl rfl rfl ?_
              refine s_rd (r_cloadS Tryd.isAgg53 Tryd.sizeOf53 rfl (j := 2) rfl rfl rfl) rfl ?_
              refine s_on rfl rfl rfl ?_
              refine s_rd (r_build (ps := [(0, .const (.int .i64 (1))), (1, .const (.int .i64 (2)))]) (rs := [(0, [iv .i64 1]), (1, [iv .i64 2])]) st_53 zs_53 ⟨rfl, (part_at rfl iv_at), ⟨rfl, (part_at rfl iv_at), trivial⟩⟩ rfl rfl) rfl ?_
              refine s_on rfl rfl rfl ?_
              refine s_rd (r_build (ps := [(0, .const (.int .i64 (2))), (1, .const (.int .i64 (3)))]) (rs := [(0, [iv .i64 2]), (1, [iv .i64 3])]) st_53 zs_53 ⟨rfl, (part_at rfl iv_at), ⟨rfl, (part_at rfl iv_at), trivial⟩⟩ rfl rfl) rfl ?_
              refine s_on rfl rfl rfl ?_
              refine s_st (s_bslice (xs := [.tmp 63, .tmp 64, .tmp 65]) (ds := [(T_api_Fraction.mk 1 1), (T_api_Fraction.mk 1 2), (T_api_Fraction.mk 2 3)]) Tryd.underlying40 el_53 rfl (Nat.le_of_ble_eq_true rfl) ⟨(part_agO (ψs := [iv .i64 1, iv .i64 1]) rfl ⟨.inl iv_at, .inl iv_at, trivial⟩), ⟨(part_agO (ψs := [iv .i64 1, iv .i64 2]) rfl ⟨.inl iv_at, .inl iv_at, trivial⟩), ⟨(part_agO (ψs := [iv .i64 2, iv .i64 3]) rfl ⟨.inl iv_at, .inl iv_at, trivial⟩), trivial⟩⟩⟩) rfl (fun _ => ?_)
              refine s_on rfl rfl rfl ?_
              refine pull fun t11 h_t11 => ?_
              refine s_st (s_callB (ψ := fun (_ : Unit) => bv t11) (args := [.tmp 62, .tmp 66]) Tryd.call22 rfl (ref22_Same_ok h_t11) ⟨argO rfl (j := 5) rfl, argB rfl, trivial⟩ (fun _ _ _ _ _ h => h)) rfl (fun _ => ?_)
              refine s_rd (r_pickT rfl rfl) rfl ?_
              refine as1 rfl rfl ?_
              refine l_nil ?_
              refine b_of (nrm [tbO (rI .u8) 0 tab_0, oc b1 [iv .i64 3, slv rT_api_Pair [(T_api_Pair.mk 0 1), (T_api_Pair.mk 1 2)]], oc b2 [iv .i64 1, iv .i64 1], oc b4 [iv .i64 t3.1.Weight, slv (rI .i64) t3.1.Dropped], oa (rI .i64) x6.1 x6.2 t5.1, oa rT_api_Fraction x8.1 x8.2 t7.1] rfl) ?_
              refine n_then (ref_ret ?_)
              exact fin1 (.inl rfl) () [0] rfl ⟨rfl, trivial⟩ rfl (rv_tmp rfl)
            refine s_off rfl rfl rfl rfl rfl ?_
            refine s_off rfl rfl rfl rfl rfl ?_
            refine s_off rfl rfl rfl rfl rfl ?_
            refine s_off rfl rfl rfl rfl rfl ?_
            refine s_off rfl rfl rfl rfl rfl ?_
            refine s_off rfl rfl rfl rfl rfl ?_
            refine s_rd (r_pickF rfl rfl) rfl ?_
            refine as1 rfl rfl ?_
            refine l_nil ?_
            refine b_of (nrm [tbO (rI .u8) 0 tab_0, oc b1 [iv .i64 3, slv rT_api_Pair [(T_api_Pair.mk 0 1), (T_api_Pair.mk 1 2)]], oc b2 [iv .i64 1, iv .i64 1], oc b4 [iv .i64 t3.1.Weight, slv (rI .i64) t3.1.Dropped], oa (rI .i64) x6.1 x6.2 t5.1, oa rT_api_Fraction x8.1 x8.2 t7.1] rfl) ?_
            refine n_then (ref_ret ?_)
            exact fin1 (.inl rfl) () [0] rfl ⟨rfl, trivial⟩ rfl (rv_tmp rfl)
          refine s_off rfl rfl rfl rfl rfl ?_
          refine s_off rfl rfl rfl rfl rfl ?_
          refine s_off rfl rfl rfl rfl rfl ?_
          refine s_rd (r_pickF rfl rfl) rfl ?_
          refine mv1 rfl rfl ?_
          refine s_off rfl rfl rfl rfl rfl ?_
          refine s_off rfl rfl rfl rfl rfl ?_
          refine s_off rfl rfl rfl rfl rfl ?_
          refine s_off rfl rfl rfl rfl rfl ?_
          refine s_off rfl rfl rfl rfl rfl ?_
          refine s_off rfl rfl rfl rfl rfl ?_
          refine s_rd (r_pickF rfl rfl) rfl ?_
          refine as1 rfl rfl ?_
          refine l_nil (n_then (ref_ret ?_))
          exact fin1 (.inl rfl) () [0] rfl ⟨rfl, trivial⟩ rfl (rv_tmp rfl)
        refine s_off rfl rfl rfl rfl rfl ?_
        refine s_off rfl rfl rfl rfl rfl ?_
        refine s_off rfl rfl rfl rfl rfl ?_
        refine s_off rfl rfl rfl rfl rfl ?_
        refine s_rd (r_pickF rfl rfl) rfl ?_
        refine mv1 rfl rfl ?_
        refine s_off rfl rfl rfl rfl rfl ?_
        refine s_off rfl rfl rfl rfl rfl ?_
        refine s_off rfl rfl rfl rfl rfl ?_
        refine s_rd (r_pickF rfl rfl) rfl ?_
        refine mv1 rfl rfl ?_
        refine s_off rfl rfl rfl rfl rfl ?_
        refine s_off rfl rfl rfl rfl rfl ?_
        refine s_off rfl rfl rfl rfl rfl ?_
        refine s_off rfl rfl rfl rfl rfl ?_
        refine s_off rfl rfl rfl rfl rfl ?_
        refine s_off rfl rfl rfl rfl rfl ?_
        refine s_rd (r_pickF rfl rfl) rfl ?_
        refine as1 rfl rfl ?_
        refine l_nil (n_then (ref_ret ?_))
        exact fin1 (.inl rfl) () [0] rfl ⟨rfl, trivial⟩ rfl (rv_tmp rfl)
      refine s_off rfl rfl rfl rfl rfl ?_
      refine s_off rfl rfl rfl rfl rfl ?_
      refine s_off rfl rfl rfl rfl rfl ?_
      refine s_rd (r_pickF rfl rfl) rfl ?_
      refine mv1 rfl rfl ?_
      refine s_off rfl rfl rfl rfl rfl ?_
      refine s_off rfl rfl rfl rfl rfl ?_
      refine s_off rfl rfl rfl rfl rfl ?_
      refine s_off rfl rfl rfl rfl rfl ?_
      refine s_rd (r_pickF rfl rfl) rfl ?_
      refine mv1 rfl rfl ?_
      refine s_off rfl rfl rfl rfl rfl ?_
      refine s_off rfl rfl rfl rfl rfl ?_
      refine s_off rfl rfl rfl rfl rfl ?_
      refine s_rd (r_pickF rfl rfl) rfl ?_
      refine mv1 rfl rfl ?_
      refine s_off rfl rfl rfl rfl rfl ?_
      refine s_off rfl rfl rfl rfl rfl ?_
      refine s_off rfl rfl rfl rfl rfl ?_
      refine s_off rfl rfl rfl rfl rfl ?_
      refine s_off rfl rfl rfl rfl rfl ?_
      refine s_off rfl rfl rfl rfl rfl ?_
      refine s_rd (r_pickF rfl rfl) rfl ?_
      refine as1 rfl rfl ?_
      refine l_nil (n_then (ref_ret ?_))
      exact fin1 (.inl rfl) () [0] rfl ⟨rfl, trivial⟩ rfl (rv_tmp rfl)
    refine s_off rfl rfl rfl rfl rfl ?_
    refine s_off rfl rfl rfl rfl rfl ?_
    refine s_rd (r_pickF rfl rfl) rfl ?_
    refine mv1 rfl rfl ?_
    refine s_off rfl rfl rfl rfl rfl ?_
    refine s_off rfl rfl rfl rfl rfl ?_
    refine s_off rfl rfl rfl rfl rfl ?_
    refine s_rd (r_pickF rfl rfl) rfl ?_
    refine mv1 rfl rfl ?_
    refine s_off rfl rfl rfl rfl rfl ?_
    refine s_off rfl rfl rfl rfl rfl ?_
    refine s_off rfl rfl rfl rfl rfl ?_
    refine s_off rfl rfl rfl rfl rfl ?_
    refine s_rd (r_pickF rfl rfl) rfl ?_
    refine mv1 rfl rfl ?_
    refine s_off rfl rfl rfl rfl rfl ?_
    refine s_off rfl rfl rfl rfl rfl ?_
    refine s_off rfl rfl rfl rfl rfl ?_
    refine s_rd (r_pickF rfl rfl) rfl ?_
    refine mv1 rfl rfl ?_
    refine s_off rfl rfl rfl rfl rfl ?_
    refine s_off rfl rfl rfl rfl rfl ?_
    refine s_off rfl rfl rfl rfl rfl ?_
    refine s_off rfl rfl rfl rfl rfl ?_
    refine s_off rfl rfl rfl rfl rfl ?_
    refine s_off rfl rfl rfl rfl rfl ?_
    refine s_rd (r_pickF rfl rfl) rfl ?_
    refine as1 rfl rfl ?_
    refine l_nil (n_then (ref_ret ?_))
    exact fin1 (.inl rfl) () [0] rfl ⟨rfl, trivial⟩ rfl (rv_tmp rfl)
  refine s_off rfl rfl rfl rfl rfl ?_
  refine s_off rfl rfl rfl rfl rfl ?_
  refine s_rd (r_pickF rfl rfl) rfl ?_
  refine mv1 rfl rfl ?_
  refine s_off rfl rfl rfl rfl rfl ?_
  refine s_off rfl rfl rfl rfl rfl ?_
  refine s_rd (r_pickF rfl rfl) rfl ?_
  refine mv1 rfl rfl ?_
  refine s_off rfl rfl rfl rfl rfl ?_
  refine s_off rfl rfl rfl rfl rfl ?_
  refine s_off rfl rfl rfl rfl rfl ?_
  refine s_rd (r_pickF rfl rfl) rfl ?_
  refine mv1 rfl rfl ?_
  refine s_off rfl rfl rfl rfl rfl ?_
  refine s_off rfl rfl rfl rfl rfl ?_
  refine s_off rfl rfl rfl rfl rfl ?_
  refine s_off rfl rfl rfl rfl rfl ?_
  refine s_rd (r_pickF rfl rfl) rfl ?_
  refine mv1 rfl rfl ?_
  refine s_off rfl rfl rfl rfl rfl ?_
  refine s_off rfl rfl rfl rfl rfl ?_
  refine s_off rfl rfl rfl rfl rfl ?_
  refine s_rd (r_pickF rfl rfl) rfl ?_
  refine mv1 rfl rfl ?_
  refine s_off rfl rfl rfl rfl rfl ?_
  refine s_off rfl rfl rfl rfl rfl ?_
  refine s_off rfl rfl rfl rfl rfl ?_
  refine s_off rfl rfl rfl rfl rfl ?_
  refine s_off rfl rfl rfl rfl rfl ?_
  refine s_off rfl rfl rfl rfl rfl ?_
  refine s_rd (r_pickF rfl rfl) rfl ?_
  refine as1 rfl rfl ?_
  refine l_nil (n_then (ref_ret ?_))
  exact fin1 (.inl rfl) () [0] rfl ⟨rfl, trivial⟩ rfl (rv_tmp rfl)

/-! deliberation/deliberationkeep.New -/
noncomputable def keep_New_m (l_0 : (List Int)) : Option (T_deliberationkeep_Src) :=
  Option.bind (slM l_0 0 (imin (l_0.length : Int) 2000)) fun t1 =>
  some (T_deliberationkeep_Src.mk t1 0)

theorem keep_New_ok {l_0 : (List Int)} {r : T_deliberationkeep_Src} (hm : keep_New_m l_0 = some r) :
    FnOk prog 9 [slv (rI .i64) l_0] [] (fun (x : Nat) => [pv (ptr x 0)]) (fun (x : Nat) => [oc x [slv (rI .i64) r.L, iv .i64 r.At]]) := by
  refine fn_ok (X := Nat) (fn := Tryd.f9) (N := 10) (res := fun r x => [pv (ptr x 0)]) (Ω1 := fun r x => [oc x [slv (rI .i64) r.L, iv .i64 r.At]]) Tryd.func9 rfl rfl hm rfl (fun E hM => ?_)
  unfold keep_New_m
  refine ref_seq (ref_region ?_)
  refine as1 rfl rfl ?_
  refine l_nil (n_then (ref_seq (ref_region ?_)))
  refine mv1 rfl rfl ?_
  refine mv1 rfl rfl ?_
  refine s_rd (r_len Tryd.underlying22 rfl) rfl ?_
  refine s_rd (r_min rfl rfl) rfl ?_
  refine pull fun t1 h_t1 => ?_
  refine s_rd (r_slice h_t1 Tryd.underlying22 el_3 rfl .dft (.of rfl)) rfl ?_
  refine s_rd (r_build (ps := [(0, .tmp 7)]) (rs := [(0, [slv (rI .i64) t1])]) st_69 zs_69 ⟨rfl, (part_at rfl slv_at), trivial⟩ rfl rfl) rfl ?_
  refine s_st (s_box (part_agO (ψs := [slv (rI .i64) t1, iv .i64 0]) rfl ⟨.inl slv_at, .inl iv_at, trivial⟩)) rfl (fun b2 => ?_)
  refine as1 rfl rfl ?_
  refine l_nil (n_then (ref_ret ?_))
  exact fin1 (.inl rfl) b2 [0] rfl ⟨rfl, trivial⟩ rfl (rv_tmp rfl)

/-! (*deliberation/deliberationkeep.Src).Raw -/
noncomputable def keep_Src_Raw_m (s_0 : T_deliberationkeep_Src) : Option (Int × T_deliberationkeep_Src) :=
  bif decide (s_0.At ≥ (s_0.L.length : Int)) then
    some (0, s_0)
  else
    Option.bind (idxM s_0.L (isub .i64 (iadd .i64 s_0.At 1) 1)) fun t2 =>
    some (t2, (T_deliberationkeep_Src.mk s_0.L (iadd .i64 s_0.At 1)))

theorem keep_Src_Raw_ok {s_0 : T_deliberationkeep_Src} {b_0 : Nat} {r : Int × T_deliberationkeep_Src} (hm : keep_Src_Raw_m s_0 = some r) :
    FnOk prog 35 [pv (ptr b_0 0)] [oc b_0 [slv (rI .i64) s_0.L, iv .i64 s_0.At]] (fun (x : Unit) => [iv .i64 r.1]) (fun (x : Unit) => [oc b_0 [slv (rI .i64) r.2.L, iv .i64 r.2.At]]) := by
  refine fn_ok (fn := Tryd.f35) (N := 31) (res := fun r x => [iv .i64 r.1]) (Ω1 := fun r x => [oc b_0 [slv (rI .i64) r.2.L, iv .i64 r.2.At]]) Tryd.func35 rfl rfl hm rfl (fun E hM => ?_)
  unfold keep_Src_Raw_m
  refine ref_seq (ref_region ?_)
  refine as1 rfl rfl ?_
  refine l_nil (n_then (ref_seq (ref_seq ?_)))
  refine ref_draw [0, 1, 2, 3, 4, 5, 6, 7, 8, 9] rfl (by kernel_rfl) (fun hok => ?_)
  refine a_rd (i := 0) hok rfl (by kernel_rfl) rfl (r_move rfl) rfl ?_
  refine a_rd (i := 1) hok rfl (by kernel_rfl) rfl (r_nilc rfl) rfl ?_
  refine a_rd (i := 2) hok rfl (by kernel_rfl) rfl (r_faddr (fo := 1) Tryd.underlying69 rfl rfl Tryd.sizeOf3 rfl) rfl ?_
  refine a_rd (i := 3) hok rfl (by kernel_rfl) rfl (r_cload Tryd.isAgg3 rfl (j := 0) rfl rfl) rfl ?_
  refine a_rd (i := 4) hok rfl (by kernel_rfl) rfl (r_move rfl) rfl ?_
  refine a_rd (i := 5) hok rfl (by kernel_rfl) rfl (r_nilc rfl) rfl ?_
  refine a_rd (i := 6) hok rfl (by kernel_rfl) rfl (r_faddr (fo := 0) Tryd.underlying69 rfl rfl Tryd.sizeOf22 rfl) rfl ?_
  refine a_rd (i := 7) hok rfl (by kernel_rfl) rfl (r_cload Tryd.isAgg22 rfl (j := 0) rfl rfl) rfl ?_
  refine a_rd (i := 8) hok rfl (by kernel_rfl) rfl (r_len Tryd.underlying22 rfl) rfl ?_
  refine a_rd (i := 9) hok rfl (by kernel_rfl) rfl (r_geq rfl rfl) rfl ?_
  refine a_fin hok (by kernel_rfl) ?_
  refine n_then ?_
  refine ref_cond rfl (fun hb1 => ?_) (fun hb1 => ?_)
  · refine ref_seq (ref_region ?_)
    refine as1 rfl rfl ?_
    refine l_nil (n_then (ref_ret (r_then ?_)))
    exact fin1 (.inl rfl) () [0] rfl ⟨rfl, trivial⟩ rfl (rv_tmp rfl)
  refine ref_skip (n_then (ref_seq (ref_region ?_)))
  refine mv1 rfl rfl ?_
  refine s_rd (r_nilc rfl) rfl ?_
  refine s_rd (r_faddr (fo := 1) Tryd.underlying69 rfl rfl Tryd.sizeOf3 rfl) rfl ?_
  refine s_rd (r_cload Tryd.isAgg3 rfl (j := 0) rfl rfl) rfl ?_
  refine s_rd (r_add rfl rfl) rfl ?_
  refine s_rd (r_nilc rfl) rfl ?_
  refine s_rd (r_faddr (fo := 1) Tryd.underlying69 rfl rfl Tryd.sizeOf3 rfl) rfl ?_
  refine s_st0 (s_cstore (out := [slv (rI .i64) s_0.L, iv .i64 (iadd .i64 s_0.At 1)]) Tryd.sizeOf3 rfl (j := 0) rfl (part_at rfl iv_at) rfl rfl rfl) (fun _ => ?_)
  refine l_nil (n_then (ref_seq ?_))
  refine ref_draw [0, 1, 2, 3, 4, 5, 6, 7, 8, 9, 10] rfl (by kernel_rfl) (fun hok => ?_)
  refine a_rd (i := 0) hok rfl (by kernel_rfl) rfl (r_move rfl) rfl ?_
  refine a_rd (i := 1) hok rfl (by kernel_rfl) rfl (r_nilc rfl) rfl ?_
  refine a_rd (i := 2) hok rfl (by kernel_rfl) rfl (r_faddr (fo := 0) Tryd.underlying69 rfl rfl Tryd.sizeOf22 rfl) rfl ?_
  refine a_rd (i := 3) hok rfl (by kernel_rfl) rfl (r_cload Tryd.isAgg22 rfl (j := 0) rfl rfl) rfl ?_
  refine a_rd (i := 4) hok rfl (by kernel_rfl) rfl (r_move rfl) rfl ?_
  refine a_rd (i := 5) hok rfl (by kernel_rfl) rfl (r_nilc rfl) rfl ?_
  refine a_rd (i := 6) hok rfl (by kernel_rfl) rfl (r_faddr (fo := 1) Tryd.underlying69 rfl rfl Tryd.sizeOf3 rfl) rfl ?_
  refine a_rd (i := 7) hok rfl (by kernel_rfl) rfl (r_cload Tryd.isAgg3 rfl (j := 0) rfl rfl) rfl ?_
  refine a_rd (i := 8) hok rfl (by kernel_rfl) rfl (r_sub rfl rfl) rfl ?_
  refine pull fun t2 h_t2 => ?_
  refine a_rd (i := 9) hok rfl (by kernel_rfl) rfl (r_index h_t2 Tryd.underlying22 el_3 rfl rfl) rfl ?_
  refine a_rd (i := 10) hok rfl (by kernel_rfl) rfl (r_load el_3 rfl) rfl ?_
  refine a_next hok 11 [] (by kernel_rfl) ?_ trivial
  refine a_st (i := 11) hok rfl rfl (St.ofRd (r_assign rfl)) (by intro _ h; cases h; rfl) (fun _ => ⟨trivial, ⟨trivial, ⟨trivial, ⟨trivial, ⟨trivial, ⟨trivial, ⟨trivial, ⟨trivial, ⟨trivial, ⟨trivial, ⟨trivial, trivial⟩⟩⟩⟩⟩⟩⟩⟩⟩⟩⟩) (fun _ => ?_)
  refine a_fin hok (by kernel_rfl) ?_
  refine n_then (ref_ret ?_)
  exact fin1 (.inl rfl) () [0] rfl ⟨rfl, trivial⟩ rfl (rv_tmp rfl)

/-! deliberation/deliberationkeep.Mod -/
noncomputable def keep_Mod_m (x_0 : Int) (n_1 : Int) : Option (Int) :=
  bif decide (n_1 < 1) then
    some 0
  else
    Option.bind (iremM .i64 x_0 n_1) fun x2 =>
    bif decide (x2 < 0) then
      letM (iadd .i64 x2 n_1) fun x4 =>
      some x4
    else
      some x2

theorem keep_Mod_ok {x_0 : Int} {n_1 : Int} {r : Int} (hm : keep_Mod_m x_0 n_1 = some r) :
    FnOk prog 19 [iv .i64 x_0, iv .i64 n_1] [] (fun (x : Unit) => [iv .i64 r]) (fun (x : Unit) => []) := by
  refine fn_ok (fn := Tryd.f19) (N := 16) (res := fun r x => [iv .i64 r]) (Ω1 := fun r x => []) Tryd.func19 rfl rfl hm rfl (fun E hM => ?_)
  unfold keep_Mod_m
  refine ref_seq (ref_region ?_)
  refine as1 rfl rfl ?_
  refine l_nil (n_then (ref_seq (ref_seq (ref_region ?_))))
  refine mv1 rfl rfl ?_
  refine s_rd (r_lss rfl rfl) rfl ?_
  refine l_nil (n_then ?_)
  refine ref_cond rfl (fun hb1 => ?_) (fun hb1 => ?_)
  · refine ref_seq (ref_region ?_)
    refine as1 rfl rfl ?_
    refine l_nil (n_then (ref_ret (r_then ?_)))
    exact fin1 (.inl rfl) () [] rfl trivial rfl (rv_tmp rfl)
  refine ref_skip (n_then (ref_seq (ref_region ?_)))
  refine mv1 rfl rfl ?_
  refine mv1 rfl rfl ?_
  refine pull fun x2 h_x2 => ?_
  refine s_rd (r_remM h_x2 rfl rfl) rfl ?_
  refine as1 rfl rfl ?_
  refine l_nil (n_then (ref_seq (ref_seq (ref_region ?_))))
  refine mv1 rfl rfl ?_
  refine s_rd (r_lss rfl rfl) rfl ?_
  refine l_nil (n_then ?_)
  refine ref_cond rfl (fun hb3 => ?_) (fun hb3 => ?_)
  · refine ref_region ?_
    refine mv1 rfl rfl ?_
    refine mv1 rfl rfl ?_
    refine s_rd (r_add rfl rfl) rfl ?_
    refine as1 rfl rfl ?_
    refine b_let (f := iv .i64) (t := 0) rfl fun x4 => ?_
    refine l_nil (n_then (ref_seq (ref_region ?_)))
    refine mv1 rfl rfl ?_
    refine as1 rfl rfl ?_
    refine l_nil (n_then (ref_ret ?_))
    exact fin1 (.inl rfl) () [] rfl trivial rfl (rv_tmp rfl)
  refine ref_skip (n_then (ref_seq (ref_region ?_)))
  refine mv1 rfl rfl ?_
  refine as1 rfl rfl ?_
  refine l_nil (n_then (ref_ret ?_))
  exact fin1 (.inl rfl) () [] rfl trivial rfl (rv_tmp rfl)

/-! (*deliberation/deliberationkeep.Src).N -/
noncomputable def keep_Src_N_m (s_0 : T_deliberationkeep_Src) (n_1 : Int) : Option (Int × T_deliberationkeep_Src) :=
  Option.bind (keep_Src_Raw_m s_0) fun t1 =>
  Option.bind (keep_Mod_m t1.1 n_1) fun t2 =>
  some (t2, t1.2)

theorem keep_Src_N_ok {s_0 : T_deliberationkeep_Src} {n_1 : Int} {b_0 : Nat} {r : Int × T_deliberationkeep_Src} (hm : keep_Src_N_m s_0 n_1 = some r) :
    FnOk prog 11 [pv (ptr b_0 0), iv .i64 n_1] [oc b_0 [slv (rI .i64) s_0.L, iv .i64 s_0.At]] (fun (x : Unit) => [iv .i64 r.1]) (fun (x : Unit) => [oc b_0 [slv (rI .i64) r.2.L, iv .i64 r.2.At]]) := by
  refine fn_ok (fn := Tryd.f11) (N := 9) (res := fun r x => [iv .i64 r.1]) (Ω1 := fun r x => [oc b_0 [slv (rI .i64) r.2.L, iv .i64 r.2.At]]) Tryd.func11 rfl rfl hm rfl (fun E hM => ?_)
  unfold keep_Src_N_m
  refine ref_seq (ref_region ?_)
  refine as1 rfl rfl ?_
  refine l_nil (n_then (ref_seq (ref_region ?_)))
  refine mv1 rfl rfl ?_
  refine pull fun t1 h_t1 => ?_
  refine s_st (s_callC [0] [true] (fun (_ : Unit) => [oc b_0 [slv (rI .i64) t1.2.L, iv .i64 t1.2.At]]) (fun (_ : Unit) => []) (fun (_ : Unit) => iv .i64 t1.1) (args := [.tmp 5]) (caps := []) Tryd.call35 rfl (keep_Src_Raw_ok h_t1) ⟨rfl, rfl, trivial⟩ (fun _ => rfl) (fun _ => trivial) (fun _ => rfl) ⟨arg rfl, trivial⟩ (fun _ _ _ _ h => h)) rfl (fun _ => ?_)
  refine mv1 rfl rfl ?_
  refine pull fun t2 h_t2 => ?_
  refine s_st (s_call (ψ := fun (_ : Unit) => iv .i64 t2) (args := [.tmp 6, .tmp 7]) Tryd.call19 rfl (keep_Mod_ok h_t2) ⟨arg rfl, arg rfl, trivial⟩ (fun _ _ _ _ h => h)) rfl (fun _ => ?_)
  refine as1 rfl rfl ?_
  refine l_nil (n_then (ref_ret ?_))
  exact fin1 (.inl rfl) () [0] rfl ⟨rfl, trivial⟩ rfl (rv_tmp rfl)

/-! (*deliberation/deliberationkeep.Src).Range -/
noncomputable def keep_Src_Range_m (s_0 : T_deliberationkeep_Src) (lo_1 : Int) (hi_2 : Int) : Option (Int × T_deliberationkeep_Src) :=
  Option.bind (keep_Src_N_m s_0 (iadd .i64 (isub .i64 hi_2 lo_1) 1)) fun t1 =>
  letM (iadd .i64 lo_1 t1.1) fun t2 =>
  some (t2, t1.2)

theorem keep_Src_Range_ok {s_0 : T_deliberationkeep_Src} {lo_1 : Int} {hi_2 : Int} {b_0 : Nat} {r : Int × T_deliberationkeep_Src} (hm : keep_Src_Range_m s_0 lo_1 hi_2 = some r) :
    FnOk prog 24 [pv (ptr b_0 0), iv .i64 lo_1, iv .i64 hi_2] [oc b_0 [slv (rI .i64) s_0.L, iv .i64 s_0.At]] (fun (x : Unit) => [iv .i64 r.1]) (fun (x : Unit) => [oc b_0 [slv (rI .i64) r.2.L, iv .i64 r.2.At]]) := by
  refine fn_ok (fn := Tryd.f24) (N := 15) (res := fun r x => [iv .i64 r.1]) (Ω1 := fun r x => [oc b_0 [slv (rI .i64) r.2.L, iv .i64 r.2.At]]) Tryd.func24 rfl rfl hm rfl (fun E hM => ?_)
  unfold keep_Src_Range_m
  refine ref_seq (ref_region ?_)
  refine as1 rfl rfl ?_
  refine l_nil (n_then (ref_seq (ref_region ?_)))
  refine mv1 rfl rfl ?_
  refine mv1 rfl rfl ?_
  refine mv1 rfl rfl ?_
  refine mv1 rfl rfl ?_
  refine s_rd (r_sub rfl rfl) rfl ?_
  refine s_rd (r_add rfl rfl) rfl ?_
  refine pull fun t1 h_t1 => ?_
  refine s_st (s_callC [0] [true] (fun (_ : Unit) => [oc b_0 [slv (rI .i64) t1.2.L, iv .i64 t1.2.At]]) (fun (_ : Unit) => []) (fun (_ : Unit) => iv .i64 t1.1) (args := [.tmp 8, .tmp 12]) (caps := []) Tryd.call11 rfl (keep_Src_N_ok h_t1) ⟨rfl, rfl, trivial⟩ (fun _ => rfl) (fun _ => trivial) (fun _ => rfl) ⟨arg rfl, arg rfl, trivial⟩ (fun _ _ _ _ h => h)) rfl (fun _ => ?_)
  refine s_rd (r_add rfl rfl) rfl ?_
  refine as1 rfl rfl ?_
  refine b_let (f := iv .i64) (t := 6) rfl fun t2 => ?_
  refine l_nil (n_then (ref_ret ?_))
  exact fin1 (.inl rfl) () [0] rfl ⟨rfl, trivial⟩ rfl (rv_tmp rfl)

/-! deliberation/deliberationnet.Graph -/
noncomputable def net_Graph_l2 (t2 : Int × T_deliberationkeep_Src) (dense4 : Int × T_deliberationkeep_Src) (s159 : Int × T_deliberationkeep_Src × (List T_api_Pair)) (s186 : Int × T_deliberationkeep_Src × (List T_api_Pair)) : Option (Sum (T_deliberationkeep_Src × (List T_api_Pair)) (Int × T_deliberationkeep_Src × (List T_api_Pair))) :=
  bif decide (s186.1 < t2.1) then
    joinM (fun j190 : Int =>
        Option.bind (keep_Src_N_m s186.2.1 j190) fun t193 =>
        bif t193.1 == 1 then
          Option.bind (appM 16 s186.2.2 [(T_api_Pair.mk s159.1 s186.1)]) fun t195 =>
          letM (iadd .i64 s186.1 1) fun b197 =>
          some (Sum.inr (b197, t193.2, t195))
        else
          letM (iadd .i64 s186.1 1) fun b198 =>
          some (Sum.inr (b198, t193.2, s186.2.2))) fun k192 =>
    bif s159.1 == s186.1 then
      k192 9
    else
      k192 dense4.1
  else
    some (Sum.inl (s186.2.1, s186.2.2))

noncomputable def net_Graph_l1 (t2 : Int × T_deliberationkeep_Src) (dense4 : Int × T_deliberationkeep_Src) (s159 : Int × T_deliberationkeep_Src × (List T_api_Pair)) : Option (Sum (T_deliberationkeep_Src × (List T_api_Pair)) (Int × T_deliberationkeep_Src × (List T_api_Pair))) :=
  bif decide (s159.1 < t2.1) then
    Option.bind (loopC (net_Graph_l2 t2 dense4 s159) (0, s159.2.1, s159.2.2)) fun q199 : T_deliberationkeep_Src × (List T_api_Pair) =>
    letM (iadd .i64 s159.1 1) fun a_201 =>
    some (Sum.inr (a_201, q199.1, q199.2))
  else
    some (Sum.inl (s159.2.1, s159.2.2))

noncomputable def net_Graph_m (s_0 : T_deliberationkeep_Src) (n_1 : Int) : Option (T_api_Graph × T_deliberationkeep_Src) :=
  Option.bind (keep_Src_Range_m s_0 1 n_1) fun t2 =>
  Option.bind (keep_Src_Range_m t2.2 2 5) fun dense4 =>
  Option.bind (loopC (net_Graph_l1 t2 dense4) (0, dense4.2, [])) fun q202 : T_deliberationkeep_Src × (List T_api_Pair) =>
  some ((T_api_Graph.mk t2.1 q202.2), q202.1)

theorem net_Graph_ok {s_0 : T_deliberationkeep_Src} {n_1 : Int} {b_0 : Nat} {r : T_api_Graph × T_deliberationkeep_Src} (hm : net_Graph_m s_0 n_1 = some r) :
    FnOk prog 17 [pv (ptr b_0 0), iv .i64 n_1] [oc b_0 [slv (rI .i64) s_0.L, iv .i64 s_0.At]] (fun (x : Unit) => [ag [iv .i64 r.1.N, slv rT_api_Pair r.1.L]]) (fun (x : Unit) => [oc b_0 [slv (rI .i64) r.2.L, iv .i64 r.2.At]]) := by
  refine fn_ok (fn := Tryd.f17) (N := 45) (res := fun r x => [ag [iv .i64 r.1.N, slv rT_api_Pair r.1.L]]) (Ω1 := fun r x => [oc b_0 [slv (rI .i64) r.2.L, iv .i64 r.2.At]]) Tryd.func17 rfl rfl hm rfl (fun E hM => ?_)
  unfold net_Graph_m
  refine ref_seq (ref_region ?_)
  refine s_st (s_alloc zt_27) rfl (fun b1 => ?_)
  refine l_nil (n_then (ref_seq (ref_region ?_)))
  refine mv1 rfl rfl ?_
  refine mv1 rfl rfl ?_
  refine pull fun t2 h_t2 => ?_
  refine s_st (s_callC [0] [true] (fun (_ : Unit) => [oc b_0 [slv (rI .i64) t2.2.L, iv .i64 t2.2.At]]) (fun (_ : Unit) => []) (fun (_ : Unit) => iv .i64 t2.1) (args := [.tmp 10, .const (.int .i64 (1)), .tmp 11]) (caps := []) Tryd.call24 rfl (keep_Src_Range_ok h_t2) ⟨rfl, rfl, trivial⟩ (fun _ => rfl) (fun _ => trivial) (fun _ => rfl) ⟨arg rfl, arg rfl, arg rfl, trivial⟩ (fun _ _ _ _ h => h)) rfl (fun _ => ?_)
  refine s_rd (r_build (ps := [(0, .tmp 12)]) (rs := [(0, [iv .i64 t2.1])]) st_27 zs_27 ⟨rfl, (part_at rfl iv_at), trivial⟩ rfl rfl) rfl ?_
  refine s_st (s_alloc zt_27) rfl (fun b3 => ?_)
  refine s_st0 (s_cstore (out := [iv .i64 t2.1, pv (.slice none 0 0)]) Tryd.sizeOf27 rfl (j := 2) rfl (part_agO (ψs := [iv .i64 t2.1, pv (.slice none 0 0)]) rfl ⟨.inl iv_at, .inl (pv_at rfl), trivial⟩) rfl rfl rfl) (fun _ => ?_)
  refine l_nil ?_
  refine b_of (nrm [oc b_0 [slv (rI .i64) t2.2.L, iv .i64 t2.2.At], oc b1 [iv .i64 0, pv (.slice none 0 0)], oc b3 [iv .i64 t2.1, pv (.slice none 0 0)]] rfl) ?_
  refine n_then (ref_seq (ref_region ?_))
  refine mv1 rfl rfl ?_
  refine pull fun dense4 h_dense4 => ?_
  refine s_st (s_callC [0] [true] (fun (_ : Unit) => [oc b_0 [slv (rI .i64) dense4.2.L, iv .i64 dense4.2.At]]) (fun (_ : Unit) => []) (fun (_ : Unit) => iv .i64 dense4.1) (args := [.tmp 14, .const (.int .i64 (2)), .const (.int .i64 (5))]) (caps := []) Tryd.call24 rfl (keep_Src_Range_ok h_dense4) ⟨rfl, rfl, trivial⟩ (fun _ => rfl) (fun _ => trivial) (fun _ => rfl) ⟨arg rfl, arg rfl, arg rfl, trivial⟩ (fun _ _ _ _ h => h)) rfl (fun _ => ?_)
  refine as1 rfl rfl ?_
  refine l_nil (n_then (ref_seq (ref_seq (ref_region ?_))))
  refine as1 rfl rfl ?_
  refine l_nil (n_then ?_)
  refine b_of (own_nil rT_api_Pair) ?_
  refine ref_loopB (f := (net_Graph_l1 t2 dense4)) (Γl := (fun (s159 : Int × T_deliberationkeep_Src × (List T_api_Pair)) (x160 : (Value × List Nat)) => [(0, pv (ptr b_0 0)), (4, pv (ptr b1 0)), (5, pv (ptr b3 0)), (6, iv .i64 dense4.1), (7, iv .i64 s159.1)])) (Ωl := (fun (s159 : Int × T_deliberationkeep_Src × (List T_api_Pair)) (x160 : (Value × List Nat)) => [oc b_0 [slv (rI .i64) s159.2.1.L, iv .i64 s159.2.1.At], oc b1 [iv .i64 0, pv (.slice none 0 0)], oc b3 [iv .i64 t2.1, pv x160.1], oa rT_api_Pair x160.1 x160.2 s159.2.2])) (Γb := (fun (q202 : T_deliberationkeep_Src × (List T_api_Pair)) (y203 : (Value × List Nat)) => [(0, pv (ptr b_0 0)), (4, pv (ptr b1 0)), (5, pv (ptr b3 0))])) (Ωb := (fun (q202 : T_deliberationkeep_Src × (List T_api_Pair)) (y203 : (Value × List Nat)) => [oc b_0 [slv (rI .i64) q202.1.L, iv .i64 q202.1.At], oc b1 [iv .i64 0, pv (.slice none 0 0)], oc b3 [iv .i64 t2.1, pv y203.1], oa rT_api_Pair y203.1 y203.2 q202.2])) (0, dense4.2, []) ((.slice none 0 0), []) (weak [0, 1, 2, 3] ⟨rfl, rfl, rfl, rfl, rfl, trivial⟩ ⟨rfl, rfl, rfl, rfl, trivial⟩) (fun s159 x160 => ?_) (fun q202 y203 => ?_)
  · unfold net_Graph_l1
    refine ref_seq (ref_seq (ref_region ?_))
    refine mv1 rfl rfl ?_
    refine s_rd (r_faddr (fo := 0) Tryd.underlying27 rfl rfl Tryd.sizeOf3 rfl) rfl ?_
    refine s_rd (r_cload Tryd.isAgg3 rfl (j := 2) rfl rfl) rfl ?_
    refine s_rd (r_lss rfl rfl) rfl ?_
    refine l_nil (n_then ?_)
    refine ref_cond rfl (fun hb161 => ?_) (fun hb161 => ?_)
    · refine ref_skip (n_then (ref_seq (ref_block (ref_seq (ref_region ?_)))))
      refine as1 rfl rfl ?_
      refine l_nil (n_then ?_)
      refine ref_loopB (f := (net_Graph_l2 t2 dense4 s159)) (Γl := (fun (s186 : Int × T_deliberationkeep_Src × (List T_api_Pair)) (x187 : (Value × List Nat)) => [(0, pv (ptr b_0 0)), (4, pv (ptr b1 0)), (5, pv (ptr b3 0)), (6, iv .i64 dense4.1), (7, iv .i64 s159.1), (8, iv .i64 s186.1)])) (Ωl := (fun (s186 : Int × T_deliberationkeep_Src × (List T_api_Pair)) (x187 : (Value × List Nat)) => [oc b_0 [slv (rI .i64) s186.2.1.L, iv .i64 s186.2.1.At], oc b1 [iv .i64 0, pv (.slice none 0 0)], oc b3 [iv .i64 t2.1, pv x187.1], oa rT_api_Pair x187.1 x187.2 s186.2.2])) (Γb := (fun (q199 : T_deliberationkeep_Src × (List T_api_Pair)) (y200 : (Value × List Nat)) => [(0, pv (ptr b_0 0)), (4, pv (ptr b1 0)), (5, pv (ptr b3 0)), (6, iv .i64 dense4.1), (7, iv .i64 s159.1)])) (Ωb := (fun (q199 : T_deliberationkeep_Src × (List T_api_Pair)) (y200 : (Value × List Nat)) => [oc b_0 [slv (rI .i64) q199.1.L, iv .i64 q199.1.At], oc b1 [iv .i64 0, pv (.slice none 0 0)], oc b3 [iv .i64 t2.1, pv y200.1], oa rT_api_Pair y200.1 y200.2 q199.2])) (0, s159.2.1, s159.2.2) x160 (weak [0, 1, 2, 3] ⟨rfl, rfl, rfl, rfl, rfl, rfl, trivial⟩ ⟨rfl, rfl, rfl, rfl, trivial⟩) (fun s186 x187 => ?_) (fun q199 y200 => ?_)
      · unfold net_Graph_l2
        refine ref_seq (ref_seq (ref_region ?_))
        refine mv1 rfl rfl ?_
        refine s_rd (r_faddr (fo := 0) Tryd.underlying27 rfl rfl Tryd.sizeOf3 rfl) rfl ?_
        refine s_rd (r_cload Tryd.isAgg3 rfl (j := 2) rfl rfl) rfl ?_
        refine s_rd (r_lss rfl rfl) rfl ?_
        refine l_nil (n_then ?_)
        refine ref_cond rfl (fun hb188 => ?_) (fun hb188 => ?_)
        · refine ref_skip (n_then (ref_seq (ref_block (ref_seq (ref_region ?_)))))
          refine mv1 rfl rfl ?_
          refine as1 rfl rfl ?_
          refine l_nil (n_then (ref_seq ?_))
          refine ref_join (fun (j190 : Int) (x191 : Unit) => [(0, pv (ptr b_0 0)), (4, pv (ptr b1 0)), (5, pv (ptr b3 0)), (6, iv .i64 dense4.1), (7, iv .i64 s159.1), (8, iv .i64 s186.1), (9, iv .i64 j190)]) (fun (j190 : Int) (x191 : Unit) => [oc b_0 [slv (rI .i64) s186.2.1.L, iv .i64 s186.2.1.At], oc b1 [iv .i64 0, pv (.slice none 0 0)], oc b3 [iv .i64 t2.1, pv x187.1], oa rT_api_Pair x187.1 x187.2 s186.2.2]) (fun k192 hk192 => ?_) (fun j190 x191 => ?_)
          · refine ref_seq (ref_region ?_)
            refine mv1 rfl rfl ?_
            refine mv1 rfl rfl ?_
            refine s_rd (r_eql rfl rfl) rfl ?_
            refine l_nil (n_then ?_)
            refine ref_cond rfl (fun hb189 => ?_) (fun hb189 => ?_)
            · refine ref_region ?_
              refine as1 rfl rfl ?_
              refine l_nil ?_
              exact b_to (hk192 9 ()) (weak [0, 1, 2, 3] ⟨rfl, rfl, rfl, rfl, rfl, rfl, rfl, trivial⟩ ⟨rfl, rfl, rfl, rfl, trivial⟩)
            refine ref_skip ?_
            exact b_to (hk192 dense4.1 ()) (weak [0, 1, 2, 3] ⟨rfl, rfl, rfl, rfl, rfl, rfl, rfl, trivial⟩ ⟨rfl, rfl, rfl, rfl, trivial⟩)
          refine n_then (ref_seq (ref_region ?_))
          refine mv1 rfl rfl ?_
          refine mv1 rfl rfl ?_
          refine pull fun t193 h_t193 => ?_
          refine s_st (s_callC [0] [true] (fun (_ : Unit) => [oc b_0 [slv (rI .i64) t193.2.L, iv .i64 t193.2.At]]) (fun (_ : Unit) => []) (fun (_ : Unit) => iv .i64 t193.1) (args := [.tmp 32, .tmp 33]) (caps := []) Tryd.call11 rfl (keep_Src_N_ok h_t193) ⟨rfl, rfl, trivial⟩ (fun _ => rfl) (fun _ => trivial) (fun _ => rfl) ⟨arg rfl, arg rfl, trivial⟩ (fun _ _ _ _ h => h)) rfl (fun _ => ?_)
          refine s_rd (r_eql rfl rfl) rfl ?_
          refine l_nil (n_then ?_)
          refine ref_cond rfl (fun hb194 => ?_) (fun hb194 => ?_)
          · refine ref_region ?_
            refine s_rd (r_faddr (fo := 1) Tryd.underlying27 rfl rfl Tryd.sizeOf25 rfl) rfl ?_
            refine s_rd (r_cload Tryd.isAgg25 rfl (j := 2) rfl rfl) rfl ?_
            refine mv1 rfl rfl ?_
            refine mv1 rfl rfl ?_
            refine s_rd (r_build (ps := [(0, .tmp 38), (1, .tmp 39)]) (rs := [(0, [iv .i64 s159.1]), (1, [iv .i64 s186.1])]) st_56 zs_56 ⟨rfl, (part_at rfl iv_at), ⟨rfl, (part_at rfl iv_at), trivial⟩⟩ rfl rfl) rfl ?_
            refine s_st (s_bslice (xs := [.tmp 40]) (ds := [(T_api_Pair.mk s159.1 s186.1)]) Tryd.underlying25 el_56 rfl (Nat.le_of_ble_eq_true rfl) ⟨(part_agO (ψs := [iv .i64 s159.1, iv .i64 s186.1]) rfl ⟨.inl iv_at, .inl iv_at, trivial⟩), trivial⟩) rfl (fun _ => ?_)
            refine pull fun t195 h_t195 => ?_
            refine s_st (s_append h_t195 Tryd.underlying25 el_56 rfl (j := 3) rfl rfl) rfl (fun o196 => ?_)
            refine s_rd (r_faddr (fo := 1) Tryd.underlying27 rfl rfl Tryd.sizeOf25 rfl) rfl ?_
            refine s_st0 (s_cstore (out := [iv .i64 t2.1, pv o196.1]) Tryd.sizeOf25 rfl (j := 2) rfl (part_own rfl (j := 3) rfl) rfl rfl rfl) (fun _ => ?_)
            refine l_nil ?_
            refine b_of (nrm [oc b_0 [slv (rI .i64) t193.2.L, iv .i64 t193.2.At], oc b1 [iv .i64 0, pv (.slice none 0 0)], oc b3 [iv .i64 t2.1, pv o196.1], oa rT_api_Pair o196.1 o196.2 t195] rfl) ?_
            refine n_block (n_then (ref_region ?_))
            refine mv1 rfl rfl ?_
            refine s_rd (r_add rfl rfl) rfl ?_
            refine as1 rfl rfl ?_
            refine b_let (f := iv .i64) (t := 8) rfl fun b197 => ?_
            refine l_nil ?_
            exact goB o196 (weak [0, 1, 2, 3] ⟨rfl, rfl, rfl, rfl, rfl, rfl, trivial⟩ ⟨rfl, rfl, rfl, rfl, trivial⟩)
          refine ref_skip (n_block (n_then (ref_region ?_)))
          refine mv1 rfl rfl ?_
          refine s_rd (r_add rfl rfl) rfl ?_
          refine as1 rfl rfl ?_
          refine b_let (f := iv .i64) (t := 8) rfl fun b198 => ?_
          refine l_nil ?_
          exact goB x187 (weak [0, 1, 2, 3] ⟨rfl, rfl, rfl, rfl, rfl, rfl, trivial⟩ ⟨rfl, rfl, rfl, rfl, trivial⟩)
        refine ref_exit (x_then ?_)
        exact brkB x187 (weak [0, 1, 2, 3] ⟨rfl, rfl, rfl, rfl, rfl, trivial⟩ ⟨rfl, rfl, rfl, rfl, trivial⟩)
      refine n_block (n_then (ref_region ?_))
      refine mv1 rfl rfl ?_
      refine s_rd (r_add rfl rfl) rfl ?_
      refine as1 rfl rfl ?_
      refine b_let (f := iv .i64) (t := 7) rfl fun a_201 => ?_
      refine l_nil ?_
      exact goB y200 (weak [0, 1, 2, 3] ⟨rfl, rfl, rfl, rfl, rfl, trivial⟩ ⟨rfl, rfl, rfl, rfl, trivial⟩)
    refine ref_exit (x_then ?_)
    exact brkB x160 (weak [0, 1, 2, 3] ⟨rfl, rfl, rfl, trivial⟩ ⟨rfl, rfl, rfl, rfl, trivial⟩)
  refine n_then (ref_seq (ref_region ?_))
  refine s_rd (r_cloadS Tryd.isAgg27 Tryd.sizeOf27 rfl (j := 2) rfl rfl rfl) rfl ?_
  refine s_st0 (s_cstore (out := [iv .i64 t2.1, pv y203.1]) Tryd.sizeOf27 rfl (j := 1) rfl (part_agO (ψs := [iv .i64 t2.1, pv y203.1]) rfl ⟨.inl iv_at, .inr ⟨_, _, _, _, _, 3, rfl, rfl⟩, trivial⟩) rfl rfl rfl) (fun _ => ?_)
  refine l_nil (n_then (ref_ret ?_))
  refine b_of (frzGL [(44, ag [iv .i64 t2.1, slv rT_api_Pair q202.2])] [(1, b1, [iv .i64 t2.1, slv rT_api_Pair q202.2]), (2, b3, [iv .i64 t2.1, slv rT_api_Pair q202.2])] (j := 3) rfl ⟨⟨_, rfl, .inr ⟨_, _, rfl, rfl, ⟨.inl rfl, .inr ⟨rfl, rfl⟩, trivial⟩⟩⟩, trivial⟩ ⟨⟨_, rfl, ⟨.inl rfl, .inr ⟨rfl, rfl⟩, trivial⟩⟩, ⟨_, rfl, ⟨.inl rfl, .inr ⟨rfl, rfl⟩, trivial⟩⟩, trivial⟩) ?_
  refine b_of (nrm [oc b_0 [slv (rI .i64) q202.1.L, iv .i64 q202.1.At], oc b1 [iv .i64 t2.1, slv rT_api_Pair q202.2], oc b3 [iv .i64 t2.1, slv rT_api_Pair q202.2], dead] rfl) ?_
  exact fin1 (.inl rfl) () [0] rfl ⟨rfl, trivial⟩ rfl (rv_cell rfl (j := 1) rfl Tryd.isAgg27 Tryd.sizeOf27 rfl rfl)

/-! (*deliberation/deliberationkeep.Src).Pick -/
noncomputable def keep_Src_Pick_m (s_0 : T_deliberationkeep_Src) (l_1 : (List Int)) : Option (Int × T_deliberationkeep_Src) :=
  Option.bind (keep_Src_N_m s_0 (l_1.length : Int)) fun t1 =>
  Option.bind (idxM l_1 t1.1) fun t2 =>
  some (t2, t1.2)

theorem keep_Src_Pick_ok {s_0 : T_deliberationkeep_Src} {l_1 : (List Int)} {b_0 : Nat} {r : Int × T_deliberationkeep_Src} (hm : keep_Src_Pick_m s_0 l_1 = some r) :
    FnOk prog 34 [pv (ptr b_0 0), slv (rI .i64) l_1] [oc b_0 [slv (rI .i64) s_0.L, iv .i64 s_0.At]] (fun (x : Unit) => [iv .i64 r.1]) (fun (x : Unit) => [oc b_0 [slv (rI .i64) r.2.L, iv .i64 r.2.At]]) := by
  refine fn_ok (fn := Tryd.f34) (N := 12) (res := fun r x => [iv .i64 r.1]) (Ω1 := fun r x => [oc b_0 [slv (rI .i64) r.2.L, iv .i64 r.2.At]]) Tryd.func34 rfl rfl hm rfl (fun E hM => ?_)
  unfold keep_Src_Pick_m
  refine ref_seq (ref_region ?_)
  refine as1 rfl rfl ?_
  refine l_nil (n_then (ref_seq (ref_region ?_)))
  refine mv1 rfl rfl ?_
  refine mv1 rfl rfl ?_
  refine mv1 rfl rfl ?_
  refine s_rd (r_len Tryd.underlying22 rfl) rfl ?_
  refine pull fun t1 h_t1 => ?_
  refine s_st (s_callC [0] [true] (fun (_ : Unit) => [oc b_0 [slv (rI .i64) t1.2.L, iv .i64 t1.2.At]]) (fun (_ : Unit) => []) (fun (_ : Unit) => iv .i64 t1.1) (args := [.tmp 6, .tmp 8]) (caps := []) Tryd.call11 rfl (keep_Src_N_ok h_t1) ⟨rfl, rfl, trivial⟩ (fun _ => rfl) (fun _ => trivial) (fun _ => rfl) ⟨arg rfl, arg rfl, trivial⟩ (fun _ _ _ _ h => h)) rfl (fun _ => ?_)
  refine pull fun t2 h_t2 => ?_
  refine s_rd (r_index h_t2 Tryd.underlying22 el_3 rfl rfl) rfl ?_
  refine s_rd (r_load el_3 rfl) rfl ?_
  refine as1 rfl rfl ?_
  refine l_nil (n_then (ref_ret ?_))
  exact fin1 (.inl rfl) () [0] rfl ⟨rfl, trivial⟩ rfl (rv_tmp rfl)

/-! deliberation/deliberationlaw22.weighted -/
noncomputable def law22_weighted_l1 (t4 : (List T_api_Pair)) (s18 : Int × T_deliberationkeep_Src × (List Int)) : Option (Sum (T_deliberationkeep_Src × (List Int)) (Int × T_deliberationkeep_Src × (List Int))) :=
  bif decide (s18.1 < (t4.length : Int)) then
    Option.bind (keep_Src_Pick_m s18.2.1 [1, 2, 3, 0, 5, 1000]) fun t21 =>
    Option.bind (appM 8 s18.2.2 [t21.1]) fun w_22 =>
    letM (iadd .i64 s18.1 1) fun i24 =>
    some (Sum.inr (i24, t21.2, w_22))
  else
    some (Sum.inl (s18.2.1, s18.2.2))

noncomputable def law22_weighted_m (s_0 : T_deliberationkeep_Src) (n_1 : Int) (k_2 : Int) : Option (T_api_Graph × List Int × T_deliberationkeep_Src) :=
  Option.bind (net_Graph_m s_0 n_1) fun t2 =>
  Option.bind (slM t2.1.L 0 (imin k_2 (t2.1.L.length : Int))) fun t4 =>
  Option.bind (loopC (law22_weighted_l1 t4) (0, t2.2, [])) fun q25 : T_deliberationkeep_Src × (List Int) =>
  some ((T_api_Graph.mk t2.1.N t4), q25.2, q25.1)

theorem law22_weighted_ok {s_0 : T_deliberationkeep_Src} {n_1 : Int} {k_2 : Int} {b_0 : Nat} {r : T_api_Graph × List Int × T_deliberationkeep_Src} (hm : law22_weighted_m s_0 n_1 k_2 = some r) :
    FnOk prog 10 [pv (ptr b_0 0), iv .i64 n_1, iv .i64 k_2] [oc b_0 [slv (rI .i64) s_0.L, iv .i64 s_0.At]] (fun (x : (Value × List Nat)) => [ag [iv .i64 r.1.N, slv rT_api_Pair r.1.L], pv x.1]) (fun (x : (Value × List Nat)) => [oc b_0 [slv (rI .i64) r.2.2.L, iv .i64 r.2.2.At], oa (rI .i64) x.1 x.2 r.2.1]) := by
  refine fn_ok (X := (Value × List Nat)) (fn := Tryd.f10) (N := 38) (res := fun r x => [ag [iv .i64 r.1.N, slv rT_api_Pair r.1.L], pv x.1]) (Ω1 := fun r x => [oc b_0 [slv (rI .i64) r.2.2.L, iv .i64 r.2.2.At], oa (rI .i64) x.1 x.2 r.2.1]) Tryd.func10 rfl rfl hm rfl (fun E hM => ?_)
  unfold law22_weighted_m
  refine ref_seq (ref_region ?_)
  refine s_st (s_alloc zt_27) rfl (fun b1 => ?_)
  refine as1 rfl rfl ?_
  refine l_nil (n_then (ref_seq (ref_region ?_)))
  refine mv1 rfl rfl ?_
  refine mv1 rfl rfl ?_
  refine pull fun t2 h_t2 => ?_
  refine s_st (s_callC [0] [true] (fun (_ : Unit) => [oc b_0 [slv (rI .i64) t2.2.L, iv .i64 t2.2.At]]) (fun (_ : Unit) => []) (fun (_ : Unit) => ag [iv .i64 t2.1.N, slv rT_api_Pair t2.1.L]) (args := [.tmp 11, .tmp 12]) (caps := []) Tryd.call17 rfl (net_Graph_ok h_t2) ⟨rfl, rfl, trivial⟩ (fun _ => rfl) (fun _ => trivial) (fun _ => rfl) ⟨arg rfl, arg rfl, trivial⟩ (fun _ _ _ _ h => h)) rfl (fun _ => ?_)
  refine s_st (s_alloc zt_27) rfl (fun b3 => ?_)
  refine s_st0 (s_cstore (out := [iv .i64 t2.1.N, slv rT_api_Pair t2.1.L]) Tryd.sizeOf27 rfl (j := 2) rfl (part_agO (ψs := [iv .i64 t2.1.N, slv rT_api_Pair t2.1.L]) rfl ⟨.inl iv_at, .inl slv_at, trivial⟩) rfl rfl rfl) (fun _ => ?_)
  refine l_nil ?_
  refine b_of (nrm [oc b_0 [slv (rI .i64) t2.2.L, iv .i64 t2.2.At], oc b1 [iv .i64 0, pv (.slice none 0 0)], oc b3 [iv .i64 t2.1.N, slv rT_api_Pair t2.1.L]] rfl) ?_
  refine n_then (ref_seq (ref_region ?_))
  refine s_rd (r_faddr (fo := 1) Tryd.underlying27 rfl rfl Tryd.sizeOf25 rfl) rfl ?_
  refine s_rd (r_cload Tryd.isAgg25 rfl (j := 2) rfl rfl) rfl ?_
  refine mv1 rfl rfl ?_
  refine s_rd (r_faddr (fo := 1) Tryd.underlying27 rfl rfl Tryd.sizeOf25 rfl) rfl ?_
  refine s_rd (r_cload Tryd.isAgg25 rfl (j := 2) rfl rfl) rfl ?_
  refine s_rd (r_len Tryd.underlying25 rfl) rfl ?_
  refine s_rd (r_min rfl rfl) rfl ?_
  refine pull fun t4 h_t4 => ?_
  refine s_rd (r_slice h_t4 Tryd.underlying25 el_56 rfl .dft (.of rfl)) rfl ?_
  refine s_rd (r_faddr (fo := 1) Tryd.underlying27 rfl rfl Tryd.sizeOf25 rfl) rfl ?_
  refine s_st0 (s_cstore (out := [iv .i64 t2.1.N, slv rT_api_Pair t4]) Tryd.sizeOf25 rfl (j := 2) rfl (part_at rfl slv_at) rfl rfl rfl) (fun _ => ?_)
  refine l_nil (n_then (ref_seq (ref_region ?_)))
  refine as1 rfl rfl ?_
  refine l_nil (n_then (ref_seq (ref_seq (ref_region ?_))))
  refine as1 rfl rfl ?_
  refine l_nil (n_then ?_)
  refine b_of (own_nil (rI .i64)) ?_
  refine ref_loopB (f := (law22_weighted_l1 t4)) (Γl := (fun (s18 : Int × T_deliberationkeep_Src × (List Int)) (x19 : (Value × List Nat)) => [(0, pv (ptr b_0 0)), (6, pv (ptr b1 0)), (8, pv (ptr b3 0)), (9, pv x19.1), (10, iv .i64 s18.1)])) (Ωl := (fun (s18 : Int × T_deliberationkeep_Src × (List Int)) (x19 : (Value × List Nat)) => [oc b_0 [slv (rI .i64) s18.2.1.L, iv .i64 s18.2.1.At], oc b1 [iv .i64 0, pv (.slice none 0 0)], oc b3 [iv .i64 t2.1.N, slv rT_api_Pair t4], oa (rI .i64) x19.1 x19.2 s18.2.2])) (Γb := (fun (q25 : T_deliberationkeep_Src × (List Int)) (y26 : (Value × List Nat)) => [(0, pv (ptr b_0 0)), (6, pv (ptr b1 0)), (8, pv (ptr b3 0)), (9, pv y26.1)])) (Ωb := (fun (q25 : T_deliberationkeep_Src × (List Int)) (y26 : (Value × List Nat)) => [oc b_0 [slv (rI .i64) q25.1.L, iv .i64 q25.1.At], oc b1 [iv .i64 0, pv (.slice none 0 0)], oc b3 [iv .i64 t2.1.N, slv rT_api_Pair t4], oa (rI .i64) y26.1 y26.2 q25.2])) (0, t2.2, []) ((.slice none 0 0), []) (weak [0, 1, 2, 3] ⟨rfl, rfl, rfl, rfl, rfl, trivial⟩ ⟨rfl, rfl, rfl, rfl, trivial⟩) (fun s18 x19 => ?_) (fun q25 y26 => ?_)
  · unfold law22_weighted_l1
    refine ref_seq (ref_seq (ref_region ?_))
    refine mv1 rfl rfl ?_
    refine s_rd (r_faddr (fo := 1) Tryd.underlying27 rfl rfl Tryd.sizeOf25 rfl) rfl ?_
    refine s_rd (r_cload Tryd.isAgg25 rfl (j := 2) rfl rfl) rfl ?_
    refine s_rd (r_len Tryd.underlying25 rfl) rfl ?_
    refine s_rd (r_lss rfl rfl) rfl ?_
    refine l_nil (n_then ?_)
    refine ref_cond rfl (fun hb20 => ?_) (fun hb20 => ?_)
    · refine ref_skip (n_then (ref_seq (ref_block (ref_region ?_))))
      refine mv1 rfl rfl ?_
      refine mv1 rfl rfl ?_
      refine s_st (s_bslice (xs := [.const (.int .i64 (1)), .const (.int .i64 (2)), .const (.int .i64 (3)), .const (.int .i64 (0)), .const (.int .i64 (5)), .const (.int .i64 (1000))]) (ds := [1, 2, 3, 0, 5, 1000]) Tryd.underlying22 el_3 rfl (Nat.le_of_ble_eq_true rfl) ⟨(part_at rfl iv_at), ⟨(part_at rfl iv_at), ⟨(part_at rfl iv_at), ⟨(part_at rfl iv_at), ⟨(part_at rfl iv_at), ⟨(part_at rfl iv_at), trivial⟩⟩⟩⟩⟩⟩) rfl (fun _ => ?_)
      refine pull fun t21 h_t21 => ?_
      refine s_st (s_callC [0] [true] (fun (_ : Unit) => [oc b_0 [slv (rI .i64) t21.2.L, iv .i64 t21.2.At]]) (fun (_ : Unit) => []) (fun (_ : Unit) => iv .i64 t21.1) (args := [.tmp 31, .tmp 32]) (caps := []) Tryd.call34 rfl (keep_Src_Pick_ok h_t21) ⟨rfl, rfl, trivial⟩ (fun _ => rfl) (fun _ => trivial) (fun _ => rfl) ⟨arg rfl, arg rfl, trivial⟩ (fun _ _ _ _ h => h)) rfl (fun _ => ?_)
      refine s_st (s_bslice (xs := [.tmp 33]) (ds := [t21.1]) Tryd.underlying22 el_3 rfl (Nat.le_of_ble_eq_true rfl) ⟨(part_at rfl iv_at), trivial⟩) rfl (fun _ => ?_)
      refine pull fun w_22 h_w_22 => ?_
      refine s_st (s_append h_w_22 Tryd.underlying22 el_3 rfl (j := 3) rfl rfl) rfl (fun o23 => ?_)
      refine as1 rfl rfl ?_
      refine l_nil ?_
      refine b_of (nrm [oc b_0 [slv (rI .i64) t21.2.L, iv .i64 t21.2.At], oc b1 [iv .i64 0, pv (.slice none 0 0)], oc b3 [iv .i64 t2.1.N, slv rT_api_Pair t4], oa (rI .i64) o23.1 o23.2 w_22] rfl) ?_
      refine n_block (n_then (ref_region ?_))
      refine mv1 rfl rfl ?_
      refine s_rd (r_add rfl rfl) rfl ?_
      refine as1 rfl rfl ?_
      refine b_let (f := iv .i64) (t := 10) rfl fun i24 => ?_
      refine l_nil ?_
      exact goB o23 (weak [0, 1, 2, 3] ⟨rfl, rfl, rfl, rfl, rfl, trivial⟩ ⟨rfl, rfl, rfl, rfl, trivial⟩)
    refine ref_exit (x_then ?_)
    exact brkB x19 (weak [0, 1, 2, 3] ⟨rfl, rfl, rfl, rfl, trivial⟩ ⟨rfl, rfl, rfl, rfl, trivial⟩)
  refine n_then (ref_seq (ref_region ?_))
  refine s_rd (r_cloadS Tryd.isAgg27 Tryd.sizeOf27 rfl (j := 2) rfl rfl rfl) rfl ?_
  refine mv1 rfl rfl ?_
  refine s_st0 (s_cstore (out := [iv .i64 t2.1.N, slv rT_api_Pair t4]) Tryd.sizeOf27 rfl (j := 1) rfl (part_agO (ψs := [iv .i64 t2.1.N, slv rT_api_Pair t4]) rfl ⟨.inl iv_at, .inl slv_at, trivial⟩) rfl rfl rfl) (fun _ => ?_)
  refine as1 rfl rfl ?_
  refine l_nil (n_then (ref_ret ?_))
  exact fin2 (.inl rfl) y26 [0, 3] rfl ⟨rfl, rfl, trivial⟩ rfl (rv_cell rfl (j := 1) rfl Tryd.isAgg27 Tryd.sizeOf27 rfl rfl) (rv_tmp rfl)

/-! deliberation/deliberationref10.Validate -/
noncomputable def ref10_Validate_l1 (g_0 : T_api_Graph) (s13 : Int) : Option (Sum ((Sum (Int) (Unit))) (Int)) :=
  bif decide (s13 < (g_0.L.length : Int)) then
    Option.bind (idxM g_0.L s13) fun t16 =>
    bif decide (t16.From < 0) then
      some (Sum.inl (Sum.inl 1))
    else
      bif decide (t16.From ≥ g_0.N) then
        some (Sum.inl (Sum.inl 1))
      else
        bif decide (t16.To < 0) then
          some (Sum.inl (Sum.inl 1))
        else
          bif decide (t16.To ≥ g_0.N) then
            some (Sum.inl (Sum.inl 1))
          else
            bif decide (s13 > 0) then
              Option.bind (idxM g_0.L (isub .i64 s13 1)) fun t19 =>
              bif decide (t19.From > t16.From) then
                some (Sum.inl (Sum.inl 8))
              else
                Option.bind (idxM g_0.L (isub .i64 s13 1)) fun t20 =>
                bif t20.From == t16.From then
                  Option.bind (idxM g_0.L (isub .i64 s13 1)) fun t21 =>
                  bif decide (t21.To ≥ t16.To) then
                    some (Sum.inl (Sum.inl 8))
                  else
                    letM (iadd .i64 s13 1) fun i23 =>
                    some (Sum.inr i23)
                else
                  letM (iadd .i64 s13 1) fun i24 =>
                  some (Sum.inr i24)
            else
              letM (iadd .i64 s13 1) fun i25 =>
              some (Sum.inr i25)
  else
    some (Sum.inl (Sum.inr ()))

noncomputable def ref10_Validate_m (g_0 : T_api_Graph) : Option (Int) :=
  bif decide (g_0.N < 0) then
    some 1
  else
    bif decide (g_0.N > 40) then
      some 1
    else
      Option.bind (loopC (ref10_Validate_l1 g_0) 0) (sumK (fun a : Int => some a) fun q26 : Unit =>
        some 0)

theorem ref10_Validate_ok {g_0 : T_api_Graph} {r : Int} (hm : ref10_Validate_m g_0 = some r) :
    FnOk prog 52 [ag [iv .i64 g_0.N, slv rT_api_Pair g_0.L]] [] (fun (x : Unit) => [iv .i64 r]) (fun (x : Unit) => []) := by
  refine fn_ok (fn := Tryd.f52) (N := 85) (res := fun r x => [iv .i64 r]) (Ω1 := fun r x => []) Tryd.func52 rfl rfl hm rfl (fun E hM => ?_)
  unfold ref10_Validate_m
  refine ref_seq (ref_region ?_)
  refine s_st (s_box (part_agO (ψs := [iv .i64 g_0.N, slv rT_api_Pair g_0.L]) rfl ⟨.inl iv_at, .inl slv_at, trivial⟩)) rfl (fun b1 => ?_)
  refine as1 rfl rfl ?_
  refine l_nil (n_then (ref_seq (ref_seq (ref_region ?_))))
  refine s_rd (r_faddr (fo := 0) Tryd.underlying27 rfl rfl Tryd.sizeOf3 rfl) rfl ?_
  refine s_rd (r_cload Tryd.isAgg3 rfl (j := 0) rfl rfl) rfl ?_
  refine s_rd (r_lss rfl rfl) rfl ?_
  refine mv1 rfl rfl ?_
  refine b_split (t := 8) rfl (fun _ => ?_) (fun _ => ?_)
  · refine s_off rfl rfl rfl rfl rfl ?_
    refine s_off rfl rfl rfl rfl rfl ?_
    refine s_off rfl rfl rfl rfl rfl ?_
    refine s_rd (r_pickT rfl rfl) rfl ?_
    refine l_nil (n_then ?_)
    refine ref_condT rfl rfl ?_
    refine ref_seq (ref_region ?_)
    refine as1 rfl rfl ?_
    refine l_nil (n_then (ref_ret (r_then ?_)))
    exact fin1 (.inl rfl) () [] rfl trivial rfl (rv_tmp rfl)
  refine s_on rfl rfl rfl ?_
  refine s_rd (r_faddr (fo := 0) Tryd.underlying27 rfl rfl Tryd.sizeOf3 rfl) rfl ?_
  refine s_on rfl rfl rfl ?_
  refine s_rd (r_cload Tryd.isAgg3 rfl (j := 0) rfl rfl) rfl ?_
  refine s_on rfl rfl rfl ?_
  refine s_rd (r_gtr rfl rfl) rfl ?_
  refine s_rd (r_pickF rfl rfl) rfl ?_
  refine l_nil (n_then ?_)
  refine ref_cond rfl (fun hb2 => ?_) (fun hb2 => ?_)
  · refine ref_seq (ref_region ?_)
    refine as1 rfl rfl ?_
    refine l_nil (n_then (ref_ret (r_then ?_)))
    exact fin1 (.inl rfl) () [] rfl trivial rfl (rv_tmp rfl)
  refine ref_skip (n_then (ref_seq (ref_seq (ref_region ?_))))
  refine as1 rfl rfl ?_
  refine l_nil (n_then ?_)
  refine ref_loopX (f := (ref10_Validate_l1 g_0)) (Γl := (fun (s13 : Int) (x14 : Unit) => [(1, pv (ptr b1 0)), (3, iv .i64 s13)])) (Ωl := (fun (s13 : Int) (x14 : Unit) => [oc b1 [iv .i64 g_0.N, slv rT_api_Pair g_0.L]])) (Γb := (fun (q26 : Unit) (y27 : Unit) => [])) (Ωb := (fun (q26 : Unit) (y27 : Unit) => [])) (kr := (fun a : Int => some a)) 0 () (weak [0] ⟨rfl, rfl, trivial⟩ ⟨rfl, trivial⟩) (fun s13 x14 => ?_) (fun q26 y27 => ?_)
  · unfold ref10_Validate_l1
    refine ref_seq (ref_seq (ref_region ?_))
    refine mv1 rfl rfl ?_
    refine s_rd (r_faddr (fo := 1) Tryd.underlying27 rfl rfl Tryd.sizeOf25 rfl) rfl ?_
    refine s_rd (r_cload Tryd.isAgg25 rfl (j := 0) rfl rfl) rfl ?_
    refine s_rd (r_len Tryd.underlying25 rfl) rfl ?_
    refine s_rd (r_lss rfl rfl) rfl ?_
    refine l_nil (n_then ?_)
    refine ref_cond rfl (fun hb15 => ?_) (fun hb15 => ?_)
    · refine ref_skip (n_then (ref_seq (ref_block (ref_seq (ref_region ?_)))))
      refine s_rd (r_faddr (fo := 1) Tryd.underlying27 rfl rfl Tryd.sizeOf25 rfl) rfl ?_
      refine s_rd (r_cload Tryd.isAgg25 rfl (j := 0) rfl rfl) rfl ?_
      refine mv1 rfl rfl ?_
      refine pull fun t16 h_t16 => ?_
      refine s_rd (r_index h_t16 Tryd.underlying25 el_56 rfl rfl) rfl ?_
      refine s_rd (r_load el_56 rfl) rfl ?_
      refine s_st (s_alloc zt_56) rfl (fun b17 => ?_)
      refine s_st0 (s_cstore (out := [iv .i64 t16.From, iv .i64 t16.To]) Tryd.sizeOf56 rfl (j := 1) rfl (part_agO (ψs := [iv .i64 t16.From, iv .i64 t16.To]) rfl ⟨.inl iv_at, .inl iv_at, trivial⟩) rfl rfl rfl) (fun _ => ?_)
      refine l_nil (n_then (ref_seq (ref_seq (ref_region ?_))))
      refine s_rd (r_faddr (fo := 0) Tryd.underlying56 rfl rfl Tryd.sizeOf3 rfl) rfl ?_
      refine s_rd (r_cload Tryd.isAgg3 rfl (j := 1) rfl rfl) rfl ?_
      refine s_rd (r_lss rfl rfl) rfl ?_
      refine mv1 rfl rfl ?_
      refine b_split (t := 28) rfl (fun _ => ?_) (fun _ => ?_)
      · refine s_off rfl rfl rfl rfl rfl ?_
        refine s_off rfl rfl rfl rfl rfl ?_
        refine s_off rfl rfl rfl rfl rfl ?_
        refine s_off rfl rfl rfl rfl rfl ?_
        refine s_off rfl rfl rfl rfl rfl ?_
        refine s_rd (r_pickT rfl rfl) rfl ?_
        refine mv1 rfl rfl ?_
        refine s_off rfl rfl rfl rfl rfl ?_
        refine s_off rfl rfl rfl rfl rfl ?_
        refine s_off rfl rfl rfl rfl rfl ?_
        refine s_rd (r_pickT rfl rfl) rfl ?_
        refine mv1 rfl rfl ?_
        refine s_off rfl rfl rfl rfl rfl ?_
        refine s_off rfl rfl rfl rfl rfl ?_
        refine s_off rfl rfl rfl rfl rfl ?_
        refine s_off rfl rfl rfl rfl rfl ?_
        refine s_off rfl rfl rfl rfl rfl ?_
        refine s_rd (r_pickT rfl rfl) rfl ?_
        refine l_nil (n_then ?_)
        refine ref_condT rfl rfl ?_
        refine ref_seq (ref_region ?_)
        refine as1 rfl rfl ?_
        refine l_nil (n_then (ref_ret (r_then (r_block (r_then ?_)))))
        refine retX ?_
        refine r_block (r_then ?_)
        exact fin1 (.inl rfl) () [] rfl trivial rfl (rv_tmp rfl)
      refine s_on rfl rfl rfl ?_
      refine s_rd (r_faddr (fo := 0) Tryd.underlying56 rfl rfl Tryd.sizeOf3 rfl) rfl ?_
      refine s_on rfl rfl rfl ?_
      refine s_rd (r_cload Tryd.isAgg3 rfl (j := 1) rfl rfl) rfl ?_
      refine s_on rfl rfl rfl ?_
      refine s_rd (r_faddr (fo := 0) Tryd.underlying27 rfl rfl Tryd.sizeOf3 rfl) rfl ?_
      refine s_on rfl rfl rfl ?_
      refine s_rd (r_cload Tryd.isAgg3 rfl (j := 0) rfl rfl) rfl ?_
      refine s_on rfl rfl rfl ?_
      refine s_rd (r_geq rfl rfl) rfl ?_
      refine s_rd (r_pickF rfl rfl) rfl ?_
      refine mv1 rfl rfl ?_
      refine b_split (t := 35) rfl (fun _ => ?_) (fun _ => ?_)
      · refine s_off rfl rfl rfl rfl rfl ?_
        refine s_off rfl rfl rfl rfl rfl ?_
        refine s_off rfl rfl rfl rfl rfl ?_
        refine s_rd (r_pickT rfl rfl) rfl ?_
        refine mv1 rfl rfl ?_
        refine s_off rfl rfl rfl rfl rfl ?_
        refine s_off rfl rfl rfl rfl rfl ?_
        refine s_off rfl rfl rfl rfl rfl ?_
        refine s_off rfl rfl rfl rfl rfl ?_
        refine s_off rfl rfl rfl rfl rfl ?_
        refine s_rd (r_pickT rfl rfl) rfl ?_
        refine l_nil (n_then ?_)
        refine ref_condT rfl rfl ?_
        refine ref_seq (ref_region ?_)
        refine as1 rfl rfl ?_
        refine l_nil (n_then (ref_ret (r_then (r_block (r_then ?_)))))
        refine retX ?_
        refine r_block (r_then ?_)
        exact fin1 (.inl rfl) () [] rfl trivial rfl (rv_tmp rfl)
      refine s_on rfl rfl rfl ?_
      refine s_rd (r_faddr (fo := 1) Tryd.underlying56 rfl rfl Tryd.sizeOf3 rfl) rfl ?_
      refine s_on rfl rfl rfl ?_
      refine s_rd (r_cload Tryd.isAgg3 rfl (j := 1) rfl rfl) rfl ?_
      refine s_on rfl rfl rfl ?_
      refine s_rd (r_lss rfl rfl) rfl ?_
      refine s_rd (r_pickF rfl rfl) rfl ?_
      refine mv1 rfl rfl ?_
      refine b_split (t := 40) rfl (fun _ => ?_) (fun _ => ?_)
      · refine s_off rfl rfl rfl rfl rfl ?_
        refine s_off rfl rfl rfl rfl rfl ?_
        refine s_off rfl rfl rfl rfl rfl ?_
        refine s_off rfl rfl rfl rfl rfl ?_
        refine s_off rfl rfl rfl rfl rfl ?_
        refine s_rd (r_pickT rfl rfl) rfl ?_
        refine l_nil (n_then ?_)
        refine ref_condT rfl rfl ?_
        refine ref_seq (ref_region ?_)
        refine as1 rfl rfl ?_
        refine l_nil (n_then (ref_ret (r_then (r_block (r_then ?_)))))
        refine retX ?_
        refine r_block (r_then ?_)
        exact fin1 (.inl rfl) () [] rfl trivial rfl (rv_tmp rfl)
      refine s_on rfl rfl rfl ?_
      refine s_rd (r_faddr (fo := 1) Tryd.underlying56 rfl rfl Tryd.sizeOf3 rfl) rfl ?_
      refine s_on rfl rfl rfl ?_
      refine s_rd (r_cload Tryd.isAgg3 rfl (j := 1) rfl rfl) rfl ?_
      refine s_on rfl rfl rfl ?_
      refine s_rd (r_faddr (fo := 0) Tryd.underlying27 rfl rfl Tryd.sizeOf3 rfl) rfl ?_
      refine s_on rfl rfl rfl ?_
      refine s_rd (r_cload Tryd.isAgg3 rfl (j := 0) rfl rfl) rfl ?_
      refine s_on rfl rfl rfl ?_
      refine s_rd (r_geq rfl rfl) rfl ?_
      refine s_rd (r_pickF rfl rfl) rfl ?_
      refine l_nil (n_then ?_)
      refine ref_cond rfl (fun hb18 => ?_) (fun hb18 => ?_)
      · refine ref_seq (ref_region ?_)
        refine as1 rfl rfl ?_
        refine l_nil (n_then (ref_ret (r_then (r_block (r_then ?_)))))
        refine retX ?_
        refine r_block (r_then ?_)
        exact fin1 (.inl rfl) () [] rfl trivial rfl (rv_tmp rfl)
      refine ref_skip (n_then (ref_seq ?_))
      refine ref_draw [0, 1, 2, 3, 4, 5, 6, 7, 8, 9, 10, 11, 12, 13, 14, 15, 16, 17, 18, 19, 20, 21, 22, 23, 24, 25, 26, 27, 28, 29, 30, 31, 32, 33, 34, 35, 36, 37] rfl (by kernel_rfl) (fun hok => ?_)
      refine a_rd (i := 0) hok rfl (by kernel_rfl) rfl (r_move rfl) rfl ?_
      refine a_rd (i := 1) hok rfl (by kernel_rfl) rfl (r_gtr rfl rfl) rfl ?_
      refine a_rd (i := 2) hok rfl (by kernel_rfl) rfl (r_move rfl) rfl ?_
      refine b_split (t := 49) rfl (fun _ => ?_) (fun _ => ?_)
      · refine a_rdOn (i := 3) hok rfl rfl rfl rfl (by kernel_rfl) rfl (r_faddr (fo := 1) Tryd.underlying27 rfl rfl Tryd.sizeOf25 rfl) rfl ?_
        refine a_rdOn (i := 4) hok rfl rfl rfl rfl (by kernel_rfl) rfl (r_cload Tryd.isAgg25 rfl (j := 0) rfl rfl) rfl ?_
        refine a_rdOn (i := 5) hok rfl rfl rfl rfl (by kernel_rfl) rfl (r_move rfl) rfl ?_
        refine a_rdOn (i := 6) hok rfl rfl rfl rfl (by kernel_rfl) rfl (r_sub rfl rfl) rfl ?_
        refine pull fun t19 h_t19 => ?_
        refine a_rdOn (i := 7) hok rfl rfl rfl rfl (by kernel_rfl) rfl (r_index h_t19 Tryd.underlying25 el_56 rfl rfl) rfl ?_
        refine a_rdOn (i := 8) hok rfl rfl rfl rfl (by kernel_rfl) rfl (r_fea (fo := 0) (ρ := rT_api_Pair) (y := t19) (ρ' := (rI .i64)) (z := t19.From) Tryd.underlying56 rfl rfl Tryd.sizeOf3 rfl rfl rfl) rfl ?_
        refine a_rdOn (i := 9) hok rfl rfl rfl rfl (by kernel_rfl) rfl (r_load el_3 rfl) rfl ?_
        refine a_rdOn (i := 10) hok rfl rfl rfl rfl (by kernel_rfl) rfl (r_faddr (fo := 0) Tryd.underlying56 rfl rfl Tryd.sizeOf3 rfl) rfl ?_
        refine a_rdOn (i := 11) hok rfl rfl rfl rfl (by kernel_rfl) rfl (r_cload Tryd.isAgg3 rfl (j := 1) rfl rfl) rfl ?_
        refine a_rdOn (i := 12) hok rfl rfl rfl rfl (by kernel_rfl) rfl (r_gtr rfl rfl) rfl ?_
        refine a_rdOn (i := 13) hok rfl rfl rfl rfl (by kernel_rfl) rfl (r_move rfl) rfl ?_
        refine b_split (t := 60) rfl (fun _ => ?_) (fun _ => ?_)
        · refine a_off (i := 14) hok rfl rfl rfl rfl rfl (by kernel_rfl) rfl rfl ?_
          refine a_off (i := 15) hok rfl rfl rfl rfl rfl (by kernel_rfl) rfl rfl ?_
          refine a_off (i := 16) hok rfl rfl rfl rfl rfl (by kernel_rfl) rfl rfl ?_
          refine a_off (i := 17) hok rfl rfl rfl rfl rfl (by kernel_rfl) rfl rfl ?_
          refine a_off (i := 18) hok rfl rfl rfl rfl rfl (by kernel_rfl) rfl rfl ?_
          refine a_off (i := 19) hok rfl rfl rfl rfl rfl (by kernel_rfl) rfl rfl ?_
          refine a_off (i := 20) hok rfl rfl rfl rfl rfl (by kernel_rfl) rfl rfl ?_
          refine a_off (i := 21) hok rfl rfl rfl rfl rfl (by kernel_rfl) rfl rfl ?_
          refine a_off (i := 22) hok rfl rfl rfl rfl rfl (by kernel_rfl) rfl rfl ?_
          refine a_off (i := 23) hok rfl rfl rfl rfl rfl (by kernel_rfl) rfl rfl ?_
          refine a_off (i := 24) hok rfl rfl rfl rfl rfl (by kernel_rfl) rfl rfl ?_
          refine a_offU (i := 25) hok rfl rfl rfl (by kernel_rfl) rfl rfl ?_
          refine a_offU (i := 26) hok rfl rfl rfl (by kernel_rfl) rfl rfl ?_
          refine a_offU (i := 27) hok rfl rfl rfl (by kernel_rfl) rfl rfl ?_
          refine a_offU (i := 28) hok rfl rfl rfl (by kernel_rfl) rfl rfl ?_
          refine a_offU (i := 29) hok rfl rfl rfl (by kernel_rfl) rfl rfl ?_
          refine a_offU (i := 30) hok rfl rfl rfl (by kernel_rfl) rfl rfl ?_
          refine a_offU (i := 31) hok rfl rfl rfl (by kernel_rfl) rfl rfl ?_
          refine a_offU (i := 32) hok rfl rfl rfl (by kernel_rfl) rfl rfl ?_
          refine a_offU (i := 33) hok rfl rfl rfl (by kernel_rfl) rfl rfl ?_
          refine a_offU (i := 34) hok rfl rfl rfl (by kernel_rfl) rfl rfl ?_
          refine a_off (i := 35) hok rfl rfl rfl rfl rfl (by kernel_rfl) rfl rfl ?_
          refine a_rdOn (i := 36) hok rfl rfl rfl rfl (by kernel_rfl) rfl (r_pickT rfl rfl) rfl ?_
          refine a_rd (i := 37) hok rfl (by kernel_rfl) rfl (r_pickT rfl rfl) rfl ?_
          refine a_fin hok (by kernel_rfl) ?_
          refine n_then ?_
          refine ref_condT rfl rfl ?_
          refine ref_seq (ref_region ?_)
          refine as1 rfl rfl ?_
          refine l_nil (n_then (ref_ret (r_block (r_then ?_))))
          refine retX ?_
          refine r_block (r_then ?_)
          exact fin1 (.inl rfl) () [] rfl trivial rfl (rv_tmp rfl)
        refine a_rdOn (i := 14) hok rfl rfl rfl rfl (by kernel_rfl) rfl (r_faddr (fo := 1) Tryd.underlying27 rfl rfl Tryd.sizeOf25 rfl) rfl ?_
        refine a_rdOn (i := 15) hok rfl rfl rfl rfl (by kernel_rfl) rfl (r_cload Tryd.isAgg25 rfl (j := 0) rfl rfl) rfl ?_
        refine a_rdOn (i := 16) hok rfl rfl rfl rfl (by kernel_rfl) rfl (r_move rfl) rfl ?_
        refine a_rdOn (i := 17) hok rfl rfl rfl rfl (by kernel_rfl) rfl (r_sub rfl rfl) rfl ?_
        refine pull fun t20 h_t20 => ?_
        refine a_rdOn (i := 18) hok rfl rfl rfl rfl (by kernel_rfl) rfl (r_index h_t20 Tryd.underlying25 el_56 rfl rfl) rfl ?_
        refine a_rdOn (i := 19) hok rfl rfl rfl rfl (by kernel_rfl) rfl (r_fea (fo := 0) (ρ := rT_api_Pair) (y := t20) (ρ' := (rI .i64)) (z := t20.From) Tryd.underlying56 rfl rfl Tryd.sizeOf3 rfl rfl rfl) rfl ?_
        refine a_rdOn (i := 20) hok rfl rfl rfl rfl (by kernel_rfl) rfl (r_load el_3 rfl) rfl ?_
        refine a_rdOn (i := 21) hok rfl rfl rfl rfl (by kernel_rfl) rfl (r_faddr (fo := 0) Tryd.underlying56 rfl rfl Tryd.sizeOf3 rfl) rfl ?_
        refine a_rdOn (i := 22) hok rfl rfl rfl rfl (by kernel_rfl) rfl (r_cload Tryd.isAgg3 rfl (j := 1) rfl rfl) rfl ?_
        refine a_rdOn (i := 23) hok rfl rfl rfl rfl (by kernel_rfl) rfl (r_eql rfl rfl) rfl ?_
        refine a_rdOn (i := 24) hok rfl rfl rfl rfl (by kernel_rfl) rfl (r_move rfl) rfl ?_
        refine b_split (t := 71) rfl (fun _ => ?_) (fun _ => ?_)
        · refine a_rdOn (i := 25) hok rfl rfl rfl rfl (by kernel_rfl) rfl (r_faddr (fo := 1) Tryd.underlying27 rfl rfl Tryd.sizeOf25 rfl) rfl ?_
          refine a_rdOn (i := 26) hok rfl rfl rfl rfl (by kernel_rfl) rfl (r_cload Tryd.isAgg25 rfl (j := 0) rfl rfl) rfl ?_
          refine a_rdOn (i := 27) hok rfl rfl rfl rfl (by kernel_rfl) rfl (r_move rfl) rfl ?_
          refine a_rdOn (i := 28) hok rfl rfl rfl rfl (by kernel_rfl) rfl (r_sub rfl rfl) rfl ?_
          refine pull fun t21 h_t21 => ?_
          refine a_rdOn (i := 29) hok rfl rfl rfl rfl (by kernel_rfl) rfl (r_index h_t21 Tryd.underlying25 el_56 rfl rfl) rfl ?_
          refine a_rdOn (i := 30) hok rfl rfl rfl rfl (by kernel_rfl) rfl (r_fea (fo := 1) (ρ := rT_api_Pair) (y := t21) (ρ' := (rI .i64)) (z := t21.To) Tryd.underlying56 rfl rfl Tryd.sizeOf3 rfl rfl rfl) rfl ?_
          refine a_rdOn (i := 31) hok rfl rfl rfl rfl (by kernel_rfl) rfl (r_load el_3 rfl) rfl ?_
          refine a_rdOn (i := 32) hok rfl rfl rfl rfl (by kernel_rfl) rfl (r_faddr (fo := 1) Tryd.underlying56 rfl rfl Tryd.sizeOf3 rfl) rfl ?_
          refine a_rdOn (i := 33) hok rfl rfl rfl rfl (by kernel_rfl) rfl (r_cload Tryd.isAgg3 rfl (j := 1) rfl rfl) rfl ?_
          refine a_rdOn (i := 34) hok rfl rfl rfl rfl (by kernel_rfl) rfl (r_geq rfl rfl) rfl ?_
          refine a_rdOn (i := 35) hok rfl rfl rfl rfl (by kernel_rfl) rfl (r_pickT rfl rfl) rfl ?_
          refine a_rdOn (i := 36) hok rfl rfl rfl rfl (by kernel_rfl) rfl (r_pickF rfl rfl) rfl ?_
          refine a_rd (i := 37) hok rfl (by kernel_rfl) rfl (r_pickT rfl rfl) rfl ?_
          refine a_fin hok (by kernel_rfl) ?_
          refine n_then ?_
          refine ref_cond rfl (fun hb22 => ?_) (fun hb22 => ?_)
          · refine ref_seq (ref_region ?_)
            refine as1 rfl rfl ?_
            refine l_nil (n_then (ref_ret (r_block (r_then ?_))))
            refine retX ?_
            refine r_block (r_then ?_)
            exact fin1 (.inl rfl) () [] rfl trivial rfl (rv_tmp rfl)
          refine ref_skip (n_block (n_then (ref_region ?_)))
          refine mv1 rfl rfl ?_
          refine s_rd (r_add rfl rfl) rfl ?_
          refine as1 rfl rfl ?_
          refine b_let (f := iv .i64) (t := 3) rfl fun i23 => ?_
          refine l_nil ?_
          exact goX () (weak [0] ⟨rfl, rfl, trivial⟩ ⟨rfl, trivial⟩)
        refine a_off (i := 25) hok rfl rfl rfl rfl rfl (by kernel_rfl) rfl rfl ?_
        refine a_off (i := 26) hok rfl rfl rfl rfl rfl (by kernel_rfl) rfl rfl ?_
        refine a_off (i := 27) hok rfl rfl rfl rfl rfl (by kernel_rfl) rfl rfl ?_
        refine a_off (i := 28) hok rfl rfl rfl rfl rfl (by kernel_rfl) rfl rfl ?_
        refine a_off (i := 29) hok rfl rfl rfl rfl rfl (by kernel_rfl) rfl rfl ?_
        refine a_off (i := 30) hok rfl rfl rfl rfl rfl (by kernel_rfl) rfl rfl ?_
        refine a_off (i := 31) hok rfl rfl rfl rfl rfl (by kernel_rfl) rfl rfl ?_
        refine a_off (i := 32) hok rfl rfl rfl rfl rfl (by kernel_rfl) rfl rfl ?_
        refine a_off (i := 33) hok rfl rfl rfl rfl rfl (by kernel_rfl) rfl rfl ?_
        refine a_off (i := 34) hok rfl rfl rfl rfl rfl (by kernel_rfl) rfl rfl ?_
        refine a_rdOn (i := 35) hok rfl rfl rfl rfl (by kernel_rfl) rfl (r_pickF rfl rfl) rfl ?_
        refine a_rdOn (i := 36) hok rfl rfl rfl rfl (by kernel_rfl) rfl (r_pickF rfl rfl) rfl ?_
        refine a_rd (i := 37) hok rfl (by kernel_rfl) rfl (r_pickT rfl rfl) rfl ?_
        refine a_fin hok (by kernel_rfl) ?_
        refine n_then ?_
        refine ref_condF rfl rfl ?_
        refine ref_skip (n_block (n_then (ref_region ?_)))
        refine mv1 rfl rfl ?_
        refine s_rd (r_add rfl rfl) rfl ?_
        refine as1 rfl rfl ?_
        refine b_let (f := iv .i64) (t := 3) rfl fun i24 => ?_
        refine l_nil ?_
        exact goX () (weak [0] ⟨rfl, rfl, trivial⟩ ⟨rfl, trivial⟩)
      refine a_off (i := 3) hok rfl rfl rfl rfl rfl (by kernel_rfl) rfl rfl ?_
      refine a_off (i := 4) hok rfl rfl rfl rfl rfl (by kernel_rfl) rfl rfl ?_
      refine a_off (i := 5) hok rfl rfl rfl rfl rfl (by kernel_rfl) rfl rfl ?_
      refine a_off (i := 6) hok rfl rfl rfl rfl rfl (by kernel_rfl) rfl rfl ?_
      refine a_off (i := 7) hok rfl rfl rfl rfl rfl (by kernel_rfl) rfl rfl ?_
      refine a_off (i := 8) hok rfl rfl rfl rfl rfl (by kernel_rfl) rfl rfl ?_
      refine a_off (i := 9) hok rfl rfl rfl rfl rfl (by kernel_rfl) rfl rfl ?_
      refine a_off (i := 10) hok rfl rfl rfl rfl rfl (by kernel_rfl) rfl rfl ?_
      refine a_off (i := 11) hok rfl rfl rfl rfl rfl (by kernel_rfl) rfl rfl ?_
      refine a_off (i := 12) hok rfl rfl rfl rfl rfl (by kernel_rfl) rfl rfl ?_
      refine a_off (i := 13) hok rfl rfl rfl rfl rfl (by kernel_rfl) rfl rfl ?_
      refine a_offU (i := 14) hok rfl rfl rfl (by kernel_rfl) rfl rfl ?_
      refine a_offU (i := 15) hok rfl rfl rfl (by kernel_rfl) rfl rfl ?_
      refine a_offU (i := 16) hok rfl rfl rfl (by kernel_rfl) rfl rfl ?_
      refine a_offU (i := 17) hok rfl rfl rfl (by kernel_rfl) rfl rfl ?_
      refine a_offU (i := 18) hok rfl rfl rfl (by kernel_rfl) rfl rfl ?_
      refine a_offU (i := 19) hok rfl rfl rfl (by kernel_rfl) rfl rfl ?_
      refine a_offU (i := 20) hok rfl rfl rfl (by kernel_rfl) rfl rfl ?_
      refine a_offU (i := 21) hok rfl rfl rfl (by kernel_rfl) rfl rfl ?_
      refine a_offU (i := 22) hok rfl rfl rfl (by kernel_rfl) rfl rfl ?_
      refine a_offU (i := 23) hok rfl rfl rfl (by kernel_rfl) rfl rfl ?_
      refine a_offU (i := 24) hok rfl rfl rfl (by kernel_rfl) rfl rfl ?_
      refine a_offU (i := 25) hok rfl rfl rfl (by kernel_rfl) rfl rfl ?_
      refine a_offU (i := 26) hok rfl rfl rfl (by kernel_rfl) rfl rfl ?_
      refine a_offU (i := 27) hok rfl rfl rfl (by kernel_rfl) rfl rfl ?_
      refine a_offU (i := 28) hok rfl rfl rfl (by kernel_rfl) rfl rfl ?_
      refine a_offU (i := 29) hok rfl rfl rfl (by kernel_rfl) rfl rfl ?_
      refine a_offU (i := 30) hok rfl rfl rfl (by kernel_rfl) rfl rfl ?_
      refine a_offU (i := 31) hok rfl rfl rfl (by kernel_rfl) rfl rfl ?_
      refine a_offU (i := 32) hok rfl rfl rfl (by kernel_rfl) rfl rfl ?_
      refine a_offU (i := 33) hok rfl rfl rfl (by kernel_rfl) rfl rfl ?_
      refine a_offU (i := 34) hok rfl rfl rfl (by kernel_rfl) rfl rfl ?_
      refine a_offU (i := 35) hok rfl rfl rfl (by kernel_rfl) rfl rfl ?_
      refine a_off (i := 36) hok rfl rfl rfl rfl rfl (by kernel_rfl) rfl rfl ?_
      refine a_rd (i := 37) hok rfl (by kernel_rfl) rfl (r_pickF rfl rfl) rfl ?_
      refine a_fin hok (by kernel_rfl) ?_
      refine n_then ?_
      refine ref_condF rfl rfl ?_
      refine ref_skip (n_block (n_then (ref_region ?_)))
      refine mv1 rfl rfl ?_
      refine s_rd (r_add rfl rfl) rfl ?_
      refine as1 rfl rfl ?_
      refine b_let (f := iv .i64) (t := 3) rfl fun i25 => ?_
      refine l_nil ?_
      exact goX () (weak [0] ⟨rfl, rfl, trivial⟩ ⟨rfl, trivial⟩)
    refine ref_exit (x_then ?_)
    exact brkX () (weak [] trivial trivial)
  refine n_then (ref_seq (ref_region ?_))
  refine as1 rfl rfl ?_
  refine l_nil (n_then (ref_ret ?_))
  exact fin1 (.inl rfl) () [] rfl trivial rfl (rv_tmp rfl)

/-! deliberation/deliberationref22.Weights -/
noncomputable def ref22_Weights_l1 (weights_1 : (List Int)) (s8 : Int) : Option (Sum ((Sum (Bool) (Unit))) (Int)) :=
  bif decide (s8 < (weights_1.length : Int)) then
    Option.bind (idxM weights_1 s8) fun t11 =>
    bif decide (t11 < 0) then
      some (Sum.inl (Sum.inl false))
    else
      Option.bind (idxM weights_1 s8) fun t12 =>
      bif decide (t12 > 1000) then
        some (Sum.inl (Sum.inl false))
      else
        some (Sum.inr (iadd .i64 s8 1))
  else
    some (Sum.inl (Sum.inr ()))

noncomputable def ref22_Weights_m (g_0 : T_api_Graph) (weights_1 : (List Int)) : Option (Bool) :=
  Option.bind (loopC (ref22_Weights_l1 weights_1) 0) (sumK (fun a : Bool => some a) fun q14 : Unit =>
    letM ((weights_1.length : Int) == (g_0.L.length : Int)) fun t16 =>
    some t16)

theorem ref22_Weights_ok {g_0 : T_api_Graph} {weights_1 : (List Int)} {r : Bool} (hm : ref22_Weights_m g_0 weights_1 = some r) :
    FnOk prog 58 [ag [iv .i64 g_0.N, slv rT_api_Pair g_0.L], slv (rI .i64) weights_1] [] (fun (x : Unit) => [bv r]) (fun (x : Unit) => []) := by
  refine fn_ok (fn := Tryd.f58) (N := 30) (res := fun r x => [bv r]) (Ω1 := fun r x => []) Tryd.func58 rfl rfl hm rfl (fun E hM => ?_)
  unfold ref22_Weights_m
  refine ref_seq (ref_region ?_)
  refine s_st (s_box (part_agO (ψs := [iv .i64 g_0.N, slv rT_api_Pair g_0.L]) rfl ⟨.inl iv_at, .inl slv_at, trivial⟩)) rfl (fun b1 => ?_)
  refine as1 rfl rfl ?_
  refine l_nil (n_then (ref_seq (ref_seq (ref_region ?_))))
  refine as1 rfl rfl ?_
  refine l_nil (n_then ?_)
  refine ref_loopX (f := (ref22_Weights_l1 weights_1)) (Γl := (fun (s8 : Int) (x9 : Unit) => [(1, slv (rI .i64) weights_1), (2, pv (ptr b1 0)), (5, iv .i64 s8)])) (Ωl := (fun (s8 : Int) (x9 : Unit) => [oc b1 [iv .i64 g_0.N, slv rT_api_Pair g_0.L]])) (Γb := (fun (q14 : Unit) (y15 : Unit) => [(1, slv (rI .i64) weights_1), (2, pv (ptr b1 0))])) (Ωb := (fun (q14 : Unit) (y15 : Unit) => [oc b1 [iv .i64 g_0.N, slv rT_api_Pair g_0.L]])) (kr := (fun a : Bool => some a)) 0 () (weak [0] ⟨rfl, rfl, rfl, trivial⟩ ⟨rfl, trivial⟩) (fun s8 x9 => ?_) (fun q14 y15 => ?_)
  · unfold ref22_Weights_l1
    refine ref_seq (ref_seq (ref_region ?_))
    refine mv1 rfl rfl ?_
    refine mv1 rfl rfl ?_
    refine s_rd (r_len Tryd.underlying22 rfl) rfl ?_
    refine s_rd (r_lss rfl rfl) rfl ?_
    refine l_nil (n_then ?_)
    refine ref_cond rfl (fun hb10 => ?_) (fun hb10 => ?_)
    · refine ref_skip (n_then (ref_seq (ref_block (ref_seq (ref_region ?_)))))
      refine mv1 rfl rfl ?_
      refine mv1 rfl rfl ?_
      refine pull fun t11 h_t11 => ?_
      refine s_rd (r_index h_t11 Tryd.underlying22 el_3 rfl rfl) rfl ?_
      refine s_rd (r_load el_3 rfl) rfl ?_
      refine s_rd (r_lss rfl rfl) rfl ?_
      refine mv1 rfl rfl ?_
      refine b_split (t := 17) rfl (fun _ => ?_) (fun _ => ?_)
      · refine s_off rfl rfl rfl rfl rfl ?_
        refine s_off rfl rfl rfl rfl rfl ?_
        refine s_off rfl rfl rfl rfl rfl ?_
        refine s_off rfl rfl rfl rfl rfl ?_
        refine s_off rfl rfl rfl rfl rfl ?_
        refine s_rd (r_pickT rfl rfl) rfl ?_
        refine l_nil (n_then ?_)
        refine ref_condT rfl rfl ?_
        refine ref_seq (ref_region ?_)
        refine as1 rfl rfl ?_
        refine l_nil (n_then (ref_ret (r_block (r_then ?_))))
        refine retX ?_
        refine r_block (r_then ?_)
        exact fin1 (.inl rfl) () [] rfl trivial rfl (rv_tmp rfl)
      refine s_on rfl rfl rfl ?_
      refine mv1 rfl rfl ?_
      refine s_on rfl rfl rfl ?_
      refine mv1 rfl rfl ?_
      refine s_on rfl rfl rfl ?_
      refine pull fun t12 h_t12 => ?_
      refine s_rd (r_index h_t12 Tryd.underlying22 el_3 rfl rfl) rfl ?_
      refine s_on rfl rfl rfl ?_
      refine s_rd (r_load el_3 rfl) rfl ?_
      refine s_on rfl rfl rfl ?_
      refine s_rd (r_gtr rfl rfl) rfl ?_
      refine s_rd (r_pickF rfl rfl) rfl ?_
      refine l_nil (n_then ?_)
      refine ref_cond rfl (fun hb13 => ?_) (fun hb13 => ?_)
      · refine ref_seq (ref_region ?_)
        refine as1 rfl rfl ?_
        refine l_nil (n_then (ref_ret (r_block (r_then ?_))))
        refine retX ?_
        refine r_block (r_then ?_)
        exact fin1 (.inl rfl) () [] rfl trivial rfl (rv_tmp rfl)
      refine ref_skip (n_block (n_then (ref_region ?_)))
      refine mv1 rfl rfl ?_
      refine s_rd (r_add rfl rfl) rfl ?_
      refine as1 rfl rfl ?_
      refine l_nil ?_
      exact goX () (weak [0] ⟨rfl, rfl, rfl, trivial⟩ ⟨rfl, trivial⟩)
    refine ref_exit (x_then ?_)
    exact brkX () (weak [0] ⟨rfl, rfl, trivial⟩ ⟨rfl, trivial⟩)
  refine n_then (ref_seq (ref_region ?_))
  refine mv1 rfl rfl ?_
  refine s_rd (r_len Tryd.underlying22 rfl) rfl ?_
  refine s_rd (r_faddr (fo := 1) Tryd.underlying27 rfl rfl Tryd.sizeOf25 rfl) rfl ?_
  refine s_rd (r_cload Tryd.isAgg25 rfl (j := 0) rfl rfl) rfl ?_
  refine s_rd (r_len Tryd.underlying25 rfl) rfl ?_
  refine s_rd (r_eql rfl rfl) rfl ?_
  refine as1 rfl rfl ?_
  refine b_let (f := bv) (t := 4) rfl fun t16 => ?_
  refine l_nil (n_then (ref_ret ?_))
  exact fin1 (.inl rfl) () [] rfl trivial rfl (rv_tmp rfl)

/-! deliberation/deliberationnet.Members -/
noncomputable def net_Members_l1 (bits_0 : Int) (s15 : Int × (List Int)) : Option (Sum ((List Int)) (Int × (List Int))) :=
  bif decide (s15.1 < 64) then
    Option.bind (ishrM .u64 bits_0 (IntKind.wrap .u64 s15.1)) fun t18 =>
    bif (iand .u64 t18 1) == 1 then
      Option.bind (appM 8 s15.2 [s15.1]) fun out20 =>
      letM (iadd .i64 s15.1 1) fun i22 =>
      some (Sum.inr (i22, out20))
    else
      letM (iadd .i64 s15.1 1) fun i23 =>
      some (Sum.inr (i23, s15.2))
  else
    some (Sum.inl s15.2)

noncomputable def net_Members_m (bits_0 : Int) : Option (List Int) :=
  Option.bind (loopC (net_Members_l1 bits_0) (0, [])) fun q24 : (List Int) =>
  some q24

theorem net_Members_ok {bits_0 : Int} {r : List Int} (hm : net_Members_m bits_0 = some r) :
    FnOk prog 59 [iv .u64 bits_0] [] (fun (x : (Value × List Nat)) => [pv x.1]) (fun (x : (Value × List Nat)) => [oa (rI .i64) x.1 x.2 r]) := by
  refine fn_ok (X := (Value × List Nat)) (fn := Tryd.f59) (N := 20) (res := fun r x => [pv x.1]) (Ω1 := fun r x => [oa (rI .i64) x.1 x.2 r]) Tryd.func59 rfl rfl hm rfl (fun E hM => ?_)
  unfold net_Members_m
  refine ref_seq (ref_region ?_)
  refine as1 rfl rfl ?_
  refine l_nil (n_then (ref_seq (ref_region ?_)))
  refine as1 rfl rfl ?_
  refine l_nil (n_then (ref_seq (ref_seq (ref_region ?_))))
  refine as1 rfl rfl ?_
  refine l_nil (n_then ?_)
  refine b_of (own_nil (rI .i64)) ?_
  refine ref_loopB (f := (net_Members_l1 bits_0)) (Γl := (fun (s15 : Int × (List Int)) (x16 : (Value × List Nat)) => [(0, iv .u64 bits_0), (3, pv x16.1), (4, iv .i64 s15.1)])) (Ωl := (fun (s15 : Int × (List Int)) (x16 : (Value × List Nat)) => [oa (rI .i64) x16.1 x16.2 s15.2])) (Γb := (fun (q24 : (List Int)) (y25 : (Value × List Nat)) => [(3, pv y25.1)])) (Ωb := (fun (q24 : (List Int)) (y25 : (Value × List Nat)) => [oa (rI .i64) y25.1 y25.2 q24])) (0, []) ((.slice none 0 0), []) (weak [0] ⟨rfl, rfl, rfl, trivial⟩ ⟨rfl, trivial⟩) (fun s15 x16 => ?_) (fun q24 y25 => ?_)
  · unfold net_Members_l1
    refine ref_seq (ref_seq (ref_region ?_))
    refine mv1 rfl rfl ?_
    refine s_rd (r_lss rfl rfl) rfl ?_
    refine l_nil (n_then ?_)
    refine ref_cond rfl (fun hb17 => ?_) (fun hb17 => ?_)
    · refine ref_skip (n_then (ref_seq (ref_block (ref_seq (ref_region ?_)))))
      refine mv1 rfl rfl ?_
      refine mv1 rfl rfl ?_
      refine s_rd (r_conv (k' := .u64) rfl rfl rfl) rfl ?_
      refine pull fun t18 h_t18 => ?_
      refine s_rd (r_shrM h_t18 rfl rfl) rfl ?_
      refine s_rd (r_and rfl rfl) rfl ?_
      refine s_rd (r_eql rfl rfl) rfl ?_
      refine l_nil (n_then ?_)
      refine ref_cond rfl (fun hb19 => ?_) (fun hb19 => ?_)
      · refine ref_region ?_
        refine mv1 rfl rfl ?_
        refine mv1 rfl rfl ?_
        refine s_st (s_bslice (xs := [.tmp 16]) (ds := [s15.1]) Tryd.underlying22 el_3 rfl (Nat.le_of_ble_eq_true rfl) ⟨(part_at rfl iv_at), trivial⟩) rfl (fun _ => ?_)
        refine pull fun out20 h_out20 => ?_
        refine s_st (s_append h_out20 Tryd.underlying22 el_3 rfl (j := 0) rfl rfl) rfl (fun o21 => ?_)
        refine as1 rfl rfl ?_
        refine l_nil (n_block (n_then (ref_region ?_)))
        refine mv1 rfl rfl ?_
        refine s_rd (r_add rfl rfl) rfl ?_
        refine as1 rfl rfl ?_
        refine b_let (f := iv .i64) (t := 4) rfl fun i22 => ?_
        refine l_nil ?_
        exact goB o21 (weak [0] ⟨rfl, rfl, rfl, trivial⟩ ⟨rfl, trivial⟩)
      refine ref_skip (n_block (n_then (ref_region ?_)))
      refine mv1 rfl rfl ?_
      refine s_rd (r_add rfl rfl) rfl ?_
      refine as1 rfl rfl ?_
      refine b_let (f := iv .i64) (t := 4) rfl fun i23 => ?_
      refine l_nil ?_
      exact goB x16 (weak [0] ⟨rfl, rfl, rfl, trivial⟩ ⟨rfl, trivial⟩)
    refine ref_exit (x_then ?_)
    exact brkB x16 (weak [0] ⟨rfl, trivial⟩ ⟨rfl, trivial⟩)
  refine n_then (ref_seq (ref_region ?_))
  refine mv1 rfl rfl ?_
  refine as1 rfl rfl ?_
  refine l_nil (n_then (ref_ret ?_))
  exact fin1 (.inl rfl) y25 [0] rfl ⟨rfl, trivial⟩ rfl (rv_tmp rfl)

/-! deliberation/deliberationref22.Before -/
noncomputable def ref22_Before_l1 (a__0 : (List Int)) (b_1 : (List Int)) (s9 : Int) : Option (Sum ((Sum (Bool) (Unit))) (Int)) :=
  bif decide (s9 < (a__0.length : Int)) then
    bif decide (s9 < (b_1.length : Int)) then
      Option.bind (idxM a__0 s9) fun t12 =>
      Option.bind (idxM b_1 s9) fun t13 =>
      bif t12 != t13 then
        Option.bind (idxM a__0 s9) fun t15 =>
        Option.bind (idxM b_1 s9) fun t16 =>
        some (Sum.inl (Sum.inl (decide (t15 < t16))))
      else
        some (Sum.inr (iadd .i64 s9 1))
    else
      some (Sum.inl (Sum.inr ()))
  else
    some (Sum.inl (Sum.inr ()))

noncomputable def ref22_Before_m (a__0 : (List Int)) (b_1 : (List Int)) : Option (Bool) :=
  Option.bind (loopC (ref22_Before_l1 a__0 b_1) 0) (sumK (fun a : Bool => some a) fun q17 : Unit =>
    letM (decide ((a__0.length : Int) < (b_1.length : Int))) fun t19 =>
    some t19)

theorem ref22_Before_ok {a__0 : (List Int)} {b_1 : (List Int)} {r : Bool} (hm : ref22_Before_m a__0 b_1 = some r) :
    FnOk prog 60 [slv (rI .i64) a__0, slv (rI .i64) b_1] [] (fun (x : Unit) => [bv r]) (fun (x : Unit) => []) := by
  refine fn_ok (fn := Tryd.f60) (N := 41) (res := fun r x => [bv r]) (Ω1 := fun r x => []) Tryd.func60 rfl rfl hm rfl (fun E hM => ?_)
  unfold ref22_Before_m
  refine ref_seq (ref_region ?_)
  refine as1 rfl rfl ?_
  refine l_nil (n_then (ref_seq (ref_seq (ref_region ?_))))
  refine as1 rfl rfl ?_
  refine l_nil (n_then ?_)
  refine ref_loopX (f := (ref22_Before_l1 a__0 b_1)) (Γl := (fun (s9 : Int) (x10 : Unit) => [(0, slv (rI .i64) a__0), (1, slv (rI .i64) b_1), (5, iv .i64 s9)])) (Ωl := (fun (s9 : Int) (x10 : Unit) => [])) (Γb := (fun (q17 : Unit) (y18 : Unit) => [(0, slv (rI .i64) a__0), (1, slv (rI .i64) b_1)])) (Ωb := (fun (q17 : Unit) (y18 : Unit) => [])) (kr := (fun a : Bool => some a)) 0 () (weak [] ⟨rfl, rfl, rfl, trivial⟩ trivial) (fun s9 x10 => ?_) (fun q17 y18 => ?_)
  · unfold ref22_Before_l1
    refine ref_seq (ref_seq (ref_region ?_))
    refine mv1 rfl rfl ?_
    refine mv1 rfl rfl ?_
    refine s_rd (r_len Tryd.underlying22 rfl) rfl ?_
    refine s_rd (r_lss rfl rfl) rfl ?_
    refine mv1 rfl rfl ?_
    refine b_split (t := 10) rfl (fun _ => ?_) (fun _ => ?_)
    · refine s_on rfl rfl rfl ?_
      refine mv1 rfl rfl ?_
      refine s_on rfl rfl rfl ?_
      refine mv1 rfl rfl ?_
      refine s_on rfl rfl rfl ?_
      refine s_rd (r_len Tryd.underlying22 rfl) rfl ?_
      refine s_on rfl rfl rfl ?_
      refine s_rd (r_lss rfl rfl) rfl ?_
      refine s_rd (r_pickT rfl rfl) rfl ?_
      refine l_nil (n_then ?_)
      refine ref_cond rfl (fun hb11 => ?_) (fun hb11 => ?_)
      · refine ref_skip (n_then (ref_seq (ref_block (ref_seq ?_))))
        refine ref_draw [0, 1, 2, 3, 4, 5, 6, 7, 8] rfl (by kernel_rfl) (fun hok => ?_)
        refine a_rd (i := 0) hok rfl (by kernel_rfl) rfl (r_move rfl) rfl ?_
        refine a_rd (i := 1) hok rfl (by kernel_rfl) rfl (r_move rfl) rfl ?_
        refine pull fun t12 h_t12 => ?_
        refine a_rd (i := 2) hok rfl (by kernel_rfl) rfl (r_index h_t12 Tryd.underlying22 el_3 rfl rfl) rfl ?_
        refine a_rd (i := 3) hok rfl (by kernel_rfl) rfl (r_load el_3 rfl) rfl ?_
        refine a_rd (i := 4) hok rfl (by kernel_rfl) rfl (r_move rfl) rfl ?_
        refine a_rd (i := 5) hok rfl (by kernel_rfl) rfl (r_move rfl) rfl ?_
        refine pull fun t13 h_t13 => ?_
        refine a_rd (i := 6) hok rfl (by kernel_rfl) rfl (r_index h_t13 Tryd.underlying22 el_3 rfl rfl) rfl ?_
        refine a_rd (i := 7) hok rfl (by kernel_rfl) rfl (r_load el_3 rfl) rfl ?_
        refine a_rd (i := 8) hok rfl (by kernel_rfl) rfl (r_neq rfl rfl) rfl ?_
        refine a_fin hok (by kernel_rfl) ?_
        refine n_then ?_
        refine ref_cond rfl (fun hb14 => ?_) (fun hb14 => ?_)
        · refine ref_seq ?_
          refine ref_draw [0, 1, 2, 3, 4, 5, 6, 7, 8] rfl (by kernel_rfl) (fun hok => ?_)
          refine a_rd (i := 0) hok rfl (by kernel_rfl) rfl (r_move rfl) rfl ?_
          refine a_rd (i := 1) hok rfl (by kernel_rfl) rfl (r_move rfl) rfl ?_
          refine pull fun t15 h_t15 => ?_
          refine a_rd (i := 2) hok rfl (by kernel_rfl) rfl (r_index h_t15 Tryd.underlying22 el_3 rfl rfl) rfl ?_
          refine a_rd (i := 3) hok rfl (by kernel_rfl) rfl (r_load el_3 rfl) rfl ?_
          refine a_rd (i := 4) hok rfl (by kernel_rfl) rfl (r_move rfl) rfl ?_
          refine a_rd (i := 5) hok rfl (by kernel_rfl) rfl (r_move rfl) rfl ?_
          refine pull fun t16 h_t16 => ?_
          refine a_rd (i := 6) hok rfl (by kernel_rfl) rfl (r_index h_t16 Tryd.underlying22 el_3 rfl rfl) rfl ?_
          refine a_rd (i := 7) hok rfl (by kernel_rfl) rfl (r_load el_3 rfl) rfl ?_
          refine a_rd (i := 8) hok rfl (by kernel_rfl) rfl (r_lss rfl rfl) rfl ?_
          refine a_next hok 9 [] (by kernel_rfl) ?_ trivial
          refine a_st (i := 9) hok rfl rfl (St.ofRd (r_assign rfl)) (by intro _ h; cases h; rfl) (fun _ => ⟨trivial, ⟨trivial, ⟨trivial, ⟨trivial, ⟨trivial, ⟨trivial, ⟨trivial, ⟨trivial, ⟨trivial, trivial⟩⟩⟩⟩⟩⟩⟩⟩⟩) (fun _ => ?_)
          refine a_fin hok (by kernel_rfl) ?_
          refine n_then (ref_ret (r_block (r_then ?_)))
          refine retX ?_
          refine r_block (r_then ?_)
          exact fin1 (.inl rfl) () [] rfl trivial rfl (rv_tmp rfl)
        refine ref_skip (n_block (n_then (ref_region ?_)))
        refine mv1 rfl rfl ?_
        refine s_rd (r_add rfl rfl) rfl ?_
        refine as1 rfl rfl ?_
        refine l_nil ?_
        exact goX () (weak [] ⟨rfl, rfl, rfl, trivial⟩ trivial)
      refine ref_exit (x_then ?_)
      exact brkX () (weak [] ⟨rfl, rfl, trivial⟩ trivial)
    refine s_off rfl rfl rfl rfl rfl ?_
    refine s_off rfl rfl rfl rfl rfl ?_
    refine s_off rfl rfl rfl rfl rfl ?_
    refine s_off rfl rfl rfl rfl rfl ?_
    refine s_rd (r_pickF rfl rfl) rfl ?_
    refine l_nil (n_then ?_)
    refine ref_condF rfl rfl ?_
    refine ref_exit (x_then ?_)
    exact brkX () (weak [] ⟨rfl, rfl, trivial⟩ trivial)
  refine n_then (ref_seq (ref_region ?_))
  refine mv1 rfl rfl ?_
  refine s_rd (r_len Tryd.underlying22 rfl) rfl ?_
  refine mv1 rfl rfl ?_
  refine s_rd (r_len Tryd.underlying22 rfl) rfl ?_
  refine s_rd (r_lss rfl rfl) rfl ?_
  refine as1 rfl rfl ?_
  refine b_let (f := bv) (t := 4) rfl fun t19 => ?_
  refine l_nil (n_then (ref_ret ?_))
  exact fin1 (.inl rfl) () [] rfl trivial rfl (rv_tmp rfl)

/-! deliberation/deliberationnet.In -/
noncomputable def net_In_l1 (l_0 : (List Int)) (x_1 : Int) (s6 : Int) : Option (Sum ((Sum (Bool) (Unit))) (Int)) :=
  bif decide (s6 < (l_0.length : Int)) then
    Option.bind (idxM l_0 s6) fun t9 =>
    bif t9 == x_1 then
      some (Sum.inl (Sum.inl true))
    else
      some (Sum.inr (iadd .i64 s6 1))
  else
    some (Sum.inl (Sum.inr ()))

noncomputable def net_In_m (l_0 : (List Int)) (x_1 : Int) : Option (Bool) :=
  Option.bind (loopC (net_In_l1 l_0 x_1) 0) (sumK (fun a : Bool => some a) fun q11 : Unit =>
    some false)

theorem net_In_ok {l_0 : (List Int)} {x_1 : Int} {r : Bool} (hm : net_In_m l_0 x_1 = some r) :
    FnOk prog 76 [slv (rI .i64) l_0, iv .i64 x_1] [] (fun (x : Unit) => [bv r]) (fun (x : Unit) => []) := by
  refine fn_ok (fn := Tryd.f76) (N := 18) (res := fun r x => [bv r]) (Ω1 := fun r x => []) Tryd.func76 rfl rfl hm rfl (fun E hM => ?_)
  unfold net_In_m
  refine ref_seq (ref_region ?_)
  refine as1 rfl rfl ?_
  refine l_nil (n_then (ref_seq (ref_seq (ref_region ?_))))
  refine as1 rfl rfl ?_
  refine l_nil (n_then ?_)
  refine ref_loopX (f := (net_In_l1 l_0 x_1)) (Γl := (fun (s6 : Int) (x7 : Unit) => [(0, slv (rI .i64) l_0), (1, iv .i64 x_1), (5, iv .i64 s6)])) (Ωl := (fun (s6 : Int) (x7 : Unit) => [])) (Γb := (fun (q11 : Unit) (y12 : Unit) => [])) (Ωb := (fun (q11 : Unit) (y12 : Unit) => [])) (kr := (fun a : Bool => some a)) 0 () (weak [] ⟨rfl, rfl, rfl, trivial⟩ trivial) (fun s6 x7 => ?_) (fun q11 y12 => ?_)
  · unfold net_In_l1
    refine ref_seq (ref_seq (ref_region ?_))
    refine mv1 rfl rfl ?_
    refine mv1 rfl rfl ?_
    refine s_rd (r_len Tryd.underlying22 rfl) rfl ?_
    refine s_rd (r_lss rfl rfl) rfl ?_
    refine l_nil (n_then ?_)
    refine ref_cond rfl (fun hb8 => ?_) (fun hb8 => ?_)
    · refine ref_skip (n_then (ref_seq (ref_block (ref_seq (ref_region ?_)))))
      refine mv1 rfl rfl ?_
      refine mv1 rfl rfl ?_
      refine pull fun t9 h_t9 => ?_
      refine s_rd (r_index h_t9 Tryd.underlying22 el_3 rfl rfl) rfl ?_
      refine s_rd (r_load el_3 rfl) rfl ?_
      refine mv1 rfl rfl ?_
      refine s_rd (r_eql rfl rfl) rfl ?_
      refine l_nil (n_then ?_)
      refine ref_cond rfl (fun hb10 => ?_) (fun hb10 => ?_)
      · refine ref_seq (ref_region ?_)
        refine as1 rfl rfl ?_
        refine l_nil (n_then (ref_ret (r_block (r_then ?_))))
        refine retX ?_
        refine r_block (r_then ?_)
        exact fin1 (.inl rfl) () [] rfl trivial rfl (rv_tmp rfl)
      refine ref_skip (n_block (n_then (ref_region ?_)))
      refine mv1 rfl rfl ?_
      refine s_rd (r_add rfl rfl) rfl ?_
      refine as1 rfl rfl ?_
      refine l_nil ?_
      exact goX () (weak [] ⟨rfl, rfl, rfl, trivial⟩ trivial)
    refine ref_exit (x_then ?_)
    exact brkX () (weak [] trivial trivial)
  refine n_then (ref_seq (ref_region ?_))
  refine as1 rfl rfl ?_
  refine l_nil (n_then (ref_ret ?_))
  exact fin1 (.inl rfl) () [] rfl trivial rfl (rv_tmp rfl)

/-! deliberation/deliberationref22.drop -/
noncomputable def ref22_drop_l1 (g_0 : T_api_Graph) (gone_1 : (List Int)) (s32 : Int × (List T_api_Pair)) : Option (Sum ((List T_api_Pair)) (Int × (List T_api_Pair))) :=
  bif decide (s32.1 < (g_0.L.length : Int)) then
    Option.bind (net_In_m gone_1 s32.1) fun t35 =>
    bif !t35 then
      Option.bind (idxM g_0.L s32.1) fun t37 =>
      Option.bind (appM 16 s32.2 [t37]) fun t38 =>
      letM (iadd .i64 s32.1 1) fun i40 =>
      some (Sum.inr (i40, t38))
    else
      letM (iadd .i64 s32.1 1) fun i41 =>
      some (Sum.inr (i41, s32.2))
  else
    some (Sum.inl s32.2)

noncomputable def ref22_drop_m (g_0 : T_api_Graph) (gone_1 : (List Int)) : Option (T_api_Graph) :=
  Option.bind (loopC (ref22_drop_l1 g_0 gone_1) (0, [])) fun q42 : (List T_api_Pair) =>
  some (T_api_Graph.mk g_0.N q42)

theorem ref22_drop_ok {g_0 : T_api_Graph} {gone_1 : (List Int)} {r : T_api_Graph} (hm : ref22_drop_m g_0 gone_1 = some r) :
    FnOk prog 44 [ag [iv .i64 g_0.N, slv rT_api_Pair g_0.L], slv (rI .i64) gone_1] [] (fun (x : Unit) => [ag [iv .i64 r.N, slv rT_api_Pair r.L]]) (fun (x : Unit) => []) := by
  refine fn_ok (fn := Tryd.f44) (N := 32) (res := fun r x => [ag [iv .i64 r.N, slv rT_api_Pair r.L]]) (Ω1 := fun r x => []) Tryd.func44 rfl rfl hm rfl (fun E hM => ?_)
  unfold ref22_drop_m
  refine ref_seq (ref_region ?_)
  refine s_st (s_box (part_agO (ψs := [iv .i64 g_0.N, slv rT_api_Pair g_0.L]) rfl ⟨.inl iv_at, .inl slv_at, trivial⟩)) rfl (fun b1 => ?_)
  refine s_st (s_alloc zt_27) rfl (fun b2 => ?_)
  refine l_nil (n_then (ref_seq (ref_region ?_)))
  refine s_rd (r_faddr (fo := 0) Tryd.underlying27 rfl rfl Tryd.sizeOf3 rfl) rfl ?_
  refine s_rd (r_cload Tryd.isAgg3 rfl (j := 0) rfl rfl) rfl ?_
  refine s_rd (r_build (ps := [(0, .tmp 8)]) (rs := [(0, [iv .i64 g_0.N])]) st_27 zs_27 ⟨rfl, (part_at rfl iv_at), trivial⟩ rfl rfl) rfl ?_
  refine s_st (s_alloc zt_27) rfl (fun b3 => ?_)
  refine s_st0 (s_cstore (out := [iv .i64 g_0.N, pv (.slice none 0 0)]) Tryd.sizeOf27 rfl (j := 2) rfl (part_agO (ψs := [iv .i64 g_0.N, pv (.slice none 0 0)]) rfl ⟨.inl iv_at, .inl (pv_at rfl), trivial⟩) rfl rfl rfl) (fun _ => ?_)
  refine l_nil ?_
  refine b_of (nrm [oc b1 [iv .i64 g_0.N, slv rT_api_Pair g_0.L], oc b2 [iv .i64 0, pv (.slice none 0 0)], oc b3 [iv .i64 g_0.N, pv (.slice none 0 0)]] rfl) ?_
  refine n_then (ref_seq (ref_seq (ref_region ?_)))
  refine as1 rfl rfl ?_
  refine l_nil (n_then ?_)
  refine b_of (own_nil rT_api_Pair) ?_
  refine ref_loopB (f := (ref22_drop_l1 g_0 gone_1)) (Γl := (fun (s32 : Int × (List T_api_Pair)) (x33 : (Value × List Nat)) => [(1, slv (rI .i64) gone_1), (2, pv (ptr b1 0)), (4, pv (ptr b2 0)), (5, pv (ptr b3 0)), (6, iv .i64 s32.1)])) (Ωl := (fun (s32 : Int × (List T_api_Pair)) (x33 : (Value × List Nat)) => [oc b1 [iv .i64 g_0.N, slv rT_api_Pair g_0.L], oc b2 [iv .i64 0, pv (.slice none 0 0)], oc b3 [iv .i64 g_0.N, pv x33.1], oa rT_api_Pair x33.1 x33.2 s32.2])) (Γb := (fun (q42 : (List T_api_Pair)) (y43 : (Value × List Nat)) => [(4, pv (ptr b2 0)), (5, pv (ptr b3 0))])) (Ωb := (fun (q42 : (List T_api_Pair)) (y43 : (Value × List Nat)) => [oc b2 [iv .i64 0, pv (.slice none 0 0)], oc b3 [iv .i64 g_0.N, pv y43.1], oa rT_api_Pair y43.1 y43.2 q42])) (0, []) ((.slice none 0 0), []) (weak [0, 1, 2, 3] ⟨rfl, rfl, rfl, rfl, rfl, trivial⟩ ⟨rfl, rfl, rfl, rfl, trivial⟩) (fun s32 x33 => ?_) (fun q42 y43 => ?_)
  · unfold ref22_drop_l1
    refine ref_seq (ref_seq (ref_region ?_))
    refine mv1 rfl rfl ?_
    refine s_rd (r_faddr (fo := 1) Tryd.underlying27 rfl rfl Tryd.sizeOf25 rfl) rfl ?_
    refine s_rd (r_cload Tryd.isAgg25 rfl (j := 0) rfl rfl) rfl ?_
    refine s_rd (r_len Tryd.underlying25 rfl) rfl ?_
    refine s_rd (r_lss rfl rfl) rfl ?_
    refine l_nil (n_then ?_)
    refine ref_cond rfl (fun hb34 => ?_) (fun hb34 => ?_)
    · refine ref_skip (n_then (ref_seq (ref_block (ref_seq (ref_region ?_)))))
      refine mv1 rfl rfl ?_
      refine mv1 rfl rfl ?_
      refine pull fun t35 h_t35 => ?_
      refine s_st (s_call (ψ := fun (_ : Unit) => bv t35) (args := [.tmp 17, .tmp 18]) Tryd.call76 rfl (net_In_ok h_t35) ⟨arg rfl, arg rfl, trivial⟩ (fun _ _ _ _ h => h)) rfl (fun _ => ?_)
      refine s_rd (r_not rfl) rfl ?_
      refine l_nil (n_then ?_)
      refine ref_cond rfl (fun hb36 => ?_) (fun hb36 => ?_)
      · refine ref_draw [0, 1, 2, 3, 4, 5, 6, 9] rfl (by kernel_rfl) (fun hok => ?_)
        refine a_rd (i := 0) hok rfl (by kernel_rfl) rfl (r_faddr (fo := 1) Tryd.underlying27 rfl rfl Tryd.sizeOf25 rfl) rfl ?_
        refine a_rd (i := 1) hok rfl (by kernel_rfl) rfl (r_cload Tryd.isAgg25 rfl (j := 2) rfl rfl) rfl ?_
        refine a_rd (i := 2) hok rfl (by kernel_rfl) rfl (r_faddr (fo := 1) Tryd.underlying27 rfl rfl Tryd.sizeOf25 rfl) rfl ?_
        refine a_rd (i := 3) hok rfl (by kernel_rfl) rfl (r_cload Tryd.isAgg25 rfl (j := 0) rfl rfl) rfl ?_
        refine a_rd (i := 4) hok rfl (by kernel_rfl) rfl (r_move rfl) rfl ?_
        refine pull fun t37 h_t37 => ?_
        refine a_rd (i := 5) hok rfl (by kernel_rfl) rfl (r_index h_t37 Tryd.underlying25 el_56 rfl rfl) rfl ?_
        refine a_rd (i := 6) hok rfl (by kernel_rfl) rfl (r_load el_56 rfl) rfl ?_
        refine a_next hok 7 [] (by kernel_rfl) ?_ trivial
        refine a_st (i := 7) hok rfl rfl (s_bslice (xs := [.tmp 27]) (ds := [t37]) Tryd.underlying25 el_56 rfl (Nat.le_of_ble_eq_true rfl) ⟨(part_agO (ψs := [iv .i64 t37.From, iv .i64 t37.To]) rfl ⟨.inl iv_at, .inl iv_at, trivial⟩), trivial⟩) (by intro _ h; cases h; rfl) (fun _ => ⟨trivial, ⟨trivial, ⟨trivial, ⟨⟨⟨rfl, rfl⟩, trivial⟩, ⟨trivial, ⟨⟨⟨rfl, rfl⟩, trivial⟩, ⟨trivial, trivial⟩⟩⟩⟩⟩⟩⟩) (fun _ => ?_)
        refine pull fun t38 h_t38 => ?_
        refine a_next hok 8 [] (by kernel_rfl) ?_ trivial
        refine a_st (i := 8) hok rfl rfl (s_append h_t38 Tryd.underlying25 el_56 rfl (j := 3) rfl rfl) (by intro _ h; cases h; rfl) (fun _ => ⟨trivial, ⟨trivial, ⟨trivial, ⟨⟨⟨rfl, rfl⟩, trivial⟩, ⟨trivial, ⟨trivial, ⟨trivial, trivial⟩⟩⟩⟩⟩⟩⟩) (fun o39 => ?_)
        refine a_rd (i := 9) hok rfl (by kernel_rfl) rfl (r_faddr (fo := 1) Tryd.underlying27 rfl rfl Tryd.sizeOf25 rfl) rfl ?_
        refine a_next hok 10 [] (by kernel_rfl) ?_ trivial
        refine a_st (i := 10) hok rfl rfl (s_cstore (out := [iv .i64 g_0.N, pv o39.1]) Tryd.sizeOf25 rfl (j := 2) rfl (part_own rfl (j := 3) rfl) rfl rfl rfl) (by intro _ h; cases h) (fun _ => ⟨trivial, ⟨trivial, ⟨trivial, ⟨trivial, ⟨trivial, ⟨trivial, ⟨trivial, ⟨trivial, trivial⟩⟩⟩⟩⟩⟩⟩⟩) (fun _ => ?_)
        refine a_fin hok (by kernel_rfl) ?_
        refine b_of (nrm [oc b1 [iv .i64 g_0.N, slv rT_api_Pair g_0.L], oc b2 [iv .i64 0, pv (.slice none 0 0)], oc b3 [iv .i64 g_0.N, pv o39.1], oa rT_api_Pair o39.1 o39.2 t38] rfl) ?_
        refine n_block (n_then (ref_region ?_))
        refine mv1 rfl rfl ?_
        refine s_rd (r_add rfl rfl) rfl ?_
        refine as1 rfl rfl ?_
        refine b_let (f := iv .i64) (t := 6) rfl fun i40 => ?_
        refine l_nil ?_
        exact goB o39 (weak [0, 1, 2, 3] ⟨rfl, rfl, rfl, rfl, rfl, trivial⟩ ⟨rfl, rfl, rfl, rfl, trivial⟩)
      refine ref_skip (n_block (n_then (ref_region ?_)))
      refine mv1 rfl rfl ?_
      refine s_rd (r_add rfl rfl) rfl ?_
      refine as1 rfl rfl ?_
      refine b_let (f := iv .i64) (t := 6) rfl fun i41 => ?_
      refine l_nil ?_
      exact goB x33 (weak [0, 1, 2, 3] ⟨rfl, rfl, rfl, rfl, rfl, trivial⟩ ⟨rfl, rfl, rfl, rfl, trivial⟩)
    refine ref_exit (x_then ?_)
    exact brkB x33 (weak [1, 2, 3] ⟨rfl, rfl, trivial⟩ ⟨rfl, rfl, rfl, trivial⟩)
  refine n_then (ref_seq (ref_region ?_))
  refine s_rd (r_cloadS Tryd.isAgg27 Tryd.sizeOf27 rfl (j := 1) rfl rfl rfl) rfl ?_
  refine s_st0 (s_cstore (out := [iv .i64 g_0.N, pv y43.1]) Tryd.sizeOf27 rfl (j := 0) rfl (part_agO (ψs := [iv .i64 g_0.N, pv y43.1]) rfl ⟨.inl iv_at, .inr ⟨_, _, _, _, _, 2, rfl, rfl⟩, trivial⟩) rfl rfl rfl) (fun _ => ?_)
  refine l_nil (n_then (ref_ret ?_))
  refine b_of (frzGL [(31, ag [iv .i64 g_0.N, slv rT_api_Pair q42])] [(0, b2, [iv .i64 g_0.N, slv rT_api_Pair q42]), (1, b3, [iv .i64 g_0.N, slv rT_api_Pair q42])] (j := 2) rfl ⟨⟨_, rfl, .inr ⟨_, _, rfl, rfl, ⟨.inl rfl, .inr ⟨rfl, rfl⟩, trivial⟩⟩⟩, trivial⟩ ⟨⟨_, rfl, ⟨.inl rfl, .inr ⟨rfl, rfl⟩, trivial⟩⟩, ⟨_, rfl, ⟨.inl rfl, .inr ⟨rfl, rfl⟩, trivial⟩⟩, trivial⟩) ?_
  refine b_of (nrm [oc b2 [iv .i64 g_0.N, slv rT_api_Pair q42], oc b3 [iv .i64 g_0.N, slv rT_api_Pair q42], dead] rfl) ?_
  exact fin1 (.inl rfl) () [] rfl trivial rfl (rv_cell rfl (j := 0) rfl Tryd.isAgg27 Tryd.sizeOf27 rfl rfl)

/-! deliberation/deliberationnet.Has -/
noncomputable def net_Has_l1 (g_0 : T_api_Graph) (from__1 : Int) (to__2 : Int) (s8 : Int) : Option (Sum ((Sum (Bool) (Unit))) (Int)) :=
  bif decide (s8 < (g_0.L.length : Int)) then
    Option.bind (idxM g_0.L s8) fun t11 =>
    bif t11.From == from__1 then
      Option.bind (idxM g_0.L s8) fun t12 =>
      bif t12.To == to__2 then
        some (Sum.inl (Sum.inl true))
      else
        some (Sum.inr (iadd .i64 s8 1))
    else
      some (Sum.inr (iadd .i64 s8 1))
  else
    some (Sum.inl (Sum.inr ()))

noncomputable def net_Has_m (g_0 : T_api_Graph) (from__1 : Int) (to__2 : Int) : Option (Bool) :=
  Option.bind (loopC (net_Has_l1 g_0 from__1 to__2) 0) (sumK (fun a : Bool => some a) fun q14 : Unit =>
    some false)

theorem net_Has_ok {g_0 : T_api_Graph} {from__1 : Int} {to__2 : Int} {r : Bool} (hm : net_Has_m g_0 from__1 to__2 = some r) :
    FnOk prog 23 [ag [iv .i64 g_0.N, slv rT_api_Pair g_0.L], iv .i64 from__1, iv .i64 to__2] [] (fun (x : Unit) => [bv r]) (fun (x : Unit) => []) := by
  refine fn_ok (fn := Tryd.f23) (N := 33) (res := fun r x => [bv r]) (Ω1 := fun r x => []) Tryd.func23 rfl rfl hm rfl (fun E hM => ?_)
  unfold net_Has_m
  refine ref_seq (ref_region ?_)
  refine s_st (s_box (part_agO (ψs := [iv .i64 g_0.N, slv rT_api_Pair g_0.L]) rfl ⟨.inl iv_at, .inl slv_at, trivial⟩)) rfl (fun b1 => ?_)
  refine as1 rfl rfl ?_
  refine l_nil (n_then (ref_seq (ref_seq (ref_region ?_))))
  refine as1 rfl rfl ?_
  refine l_nil (n_then ?_)
  refine ref_loopX (f := (net_Has_l1 g_0 from__1 to__2)) (Γl := (fun (s8 : Int) (x9 : Unit) => [(1, iv .i64 from__1), (2, iv .i64 to__2), (3, pv (ptr b1 0)), (7, iv .i64 s8)])) (Ωl := (fun (s8 : Int) (x9 : Unit) => [oc b1 [iv .i64 g_0.N, slv rT_api_Pair g_0.L]])) (Γb := (fun (q14 : Unit) (y15 : Unit) => [])) (Ωb := (fun (q14 : Unit) (y15 : Unit) => [])) (kr := (fun a : Bool => some a)) 0 () (weak [0] ⟨rfl, rfl, rfl, rfl, trivial⟩ ⟨rfl, trivial⟩) (fun s8 x9 => ?_) (fun q14 y15 => ?_)
  · unfold net_Has_l1
    refine ref_seq (ref_seq (ref_region ?_))
    refine mv1 rfl rfl ?_
    refine s_rd (r_faddr (fo := 1) Tryd.underlying27 rfl rfl Tryd.sizeOf25 rfl) rfl ?_
    refine s_rd (r_cload Tryd.isAgg25 rfl (j := 0) rfl rfl) rfl ?_
    refine s_rd (r_len Tryd.underlying25 rfl) rfl ?_
    refine s_rd (r_lss rfl rfl) rfl ?_
    refine l_nil (n_then ?_)
    refine ref_cond rfl (fun hb10 => ?_) (fun hb10 => ?_)
    · refine ref_skip (n_then (ref_seq (ref_block (ref_seq (ref_region ?_)))))
      refine s_rd (r_faddr (fo := 1) Tryd.underlying27 rfl rfl Tryd.sizeOf25 rfl) rfl ?_
      refine s_rd (r_cload Tryd.isAgg25 rfl (j := 0) rfl rfl) rfl ?_
      refine mv1 rfl rfl ?_
      refine pull fun t11 h_t11 => ?_
      refine s_rd (r_index h_t11 Tryd.underlying25 el_56 rfl rfl) rfl ?_
      refine s_rd (r_fea (fo := 0) (ρ := rT_api_Pair) (y := t11) (ρ' := (rI .i64)) (z := t11.From) Tryd.underlying56 rfl rfl Tryd.sizeOf3 rfl rfl rfl) rfl ?_
      refine s_rd (r_load el_3 rfl) rfl ?_
      refine mv1 rfl rfl ?_
      refine s_rd (r_eql rfl rfl) rfl ?_
      refine mv1 rfl rfl ?_
      refine b_split (t := 23) rfl (fun _ => ?_) (fun _ => ?_)
      · refine s_on rfl rfl rfl ?_
        refine s_rd (r_faddr (fo := 1) Tryd.underlying27 rfl rfl Tryd.sizeOf25 rfl) rfl ?_
        refine s_on rfl rfl rfl ?_
        refine s_rd (r_cload Tryd.isAgg25 rfl (j := 0) rfl rfl) rfl ?_
        refine s_on rfl rfl rfl ?_
        refine mv1 rfl rfl ?_
        refine s_on rfl rfl rfl ?_
        refine pull fun t12 h_t12 => ?_
        refine s_rd (r_index h_t12 Tryd.underlying25 el_56 rfl rfl) rfl ?_
        refine s_on rfl rfl rfl ?_
        refine s_rd (r_fea (fo := 1) (ρ := rT_api_Pair) (y := t12) (ρ' := (rI .i64)) (z := t12.To) Tryd.underlying56 rfl rfl Tryd.sizeOf3 rfl rfl rfl) rfl ?_
        refine s_on rfl rfl rfl ?_
        refine s_rd (r_load el_3 rfl) rfl ?_
        refine s_on rfl rfl rfl ?_
        refine mv1 rfl rfl ?_
        refine s_on rfl rfl rfl ?_
        refine s_rd (r_eql rfl rfl) rfl ?_
        refine s_rd (r_pickT rfl rfl) rfl ?_
        refine l_nil (n_then ?_)
        refine ref_cond rfl (fun hb13 => ?_) (fun hb13 => ?_)
        · refine ref_seq (ref_region ?_)
          refine as1 rfl rfl ?_
          refine l_nil (n_then (ref_ret (r_block (r_then ?_))))
          refine retX ?_
          refine r_block (r_then ?_)
          exact fin1 (.inl rfl) () [] rfl trivial rfl (rv_tmp rfl)
        refine ref_skip (n_block (n_then (ref_region ?_)))
        refine mv1 rfl rfl ?_
        refine s_rd (r_add rfl rfl) rfl ?_
        refine as1 rfl rfl ?_
        refine l_nil ?_
        exact goX () (weak [0] ⟨rfl, rfl, rfl, rfl, trivial⟩ ⟨rfl, trivial⟩)
      refine s_off rfl rfl rfl rfl rfl ?_
      refine s_off rfl rfl rfl rfl rfl ?_
      refine s_off rfl rfl rfl rfl rfl ?_
      refine s_off rfl rfl rfl rfl rfl ?_
      refine s_off rfl rfl rfl rfl rfl ?_
      refine s_off rfl rfl rfl rfl rfl ?_
      refine s_off rfl rfl rfl rfl rfl ?_
      refine s_off rfl rfl rfl rfl rfl ?_
      refine s_rd (r_pickF rfl rfl) rfl ?_
      refine l_nil (n_then ?_)
      refine ref_condF rfl rfl ?_
      refine ref_skip (n_block (n_then (ref_region ?_)))
      refine mv1 rfl rfl ?_
      refine s_rd (r_add rfl rfl) rfl ?_
      refine as1 rfl rfl ?_
      refine l_nil ?_
      exact goX () (weak [0] ⟨rfl, rfl, rfl, rfl, trivial⟩ ⟨rfl, trivial⟩)
    refine ref_exit (x_then ?_)
    exact brkX () (weak [] trivial trivial)
  refine n_then (ref_seq (ref_region ?_))
  refine as1 rfl rfl ?_
  refine l_nil (n_then (ref_ret ?_))
  exact fin1 (.inl rfl) () [] rfl trivial rfl (rv_tmp rfl)

/-! deliberation/deliberationnet.Attacked -/
noncomputable def net_Attacked_l1 (g_0 : T_api_Graph) (s_1 : (List Int)) (a__2 : Int) (s8 : Int) : Option (Sum ((Sum (Bool) (Unit))) (Int)) :=
  bif decide (s8 < (s_1.length : Int)) then
    Option.bind (idxM s_1 s8) fun t11 =>
    Option.bind (net_Has_m g_0 t11 a__2) fun t12 =>
    bif t12 then
      some (Sum.inl (Sum.inl true))
    else
      some (Sum.inr (iadd .i64 s8 1))
  else
    some (Sum.inl (Sum.inr ()))

noncomputable def net_Attacked_m (g_0 : T_api_Graph) (s_1 : (List Int)) (a__2 : Int) : Option (Bool) :=
  Option.bind (loopC (net_Attacked_l1 g_0 s_1 a__2) 0) (sumK (fun a : Bool => some a) fun q14 : Unit =>
    some false)

theorem net_Attacked_ok {g_0 : T_api_Graph} {s_1 : (List Int)} {a__2 : Int} {r : Bool} (hm : net_Attacked_m g_0 s_1 a__2 = some r) :
    FnOk prog 69 [ag [iv .i64 g_0.N, slv rT_api_Pair g_0.L], slv (rI .i64) s_1, iv .i64 a__2] [] (fun (x : Unit) => [bv r]) (fun (x : Unit) => []) := by
  refine fn_ok (fn := Tryd.f69) (N := 21) (res := fun r x => [bv r]) (Ω1 := fun r x => []) Tryd.func69 rfl rfl hm rfl (fun E hM => ?_)
  unfold net_Attacked_m
  refine ref_seq (ref_region ?_)
  refine s_st (s_box (part_agO (ψs := [iv .i64 g_0.N, slv rT_api_Pair g_0.L]) rfl ⟨.inl iv_at, .inl slv_at, trivial⟩)) rfl (fun b1 => ?_)
  refine as1 rfl rfl ?_
  refine l_nil (n_then (ref_seq (ref_seq (ref_region ?_))))
  refine as1 rfl rfl ?_
  refine l_nil (n_then ?_)
  refine ref_loopX (f := (net_Attacked_l1 g_0 s_1 a__2)) (Γl := (fun (s8 : Int) (x9 : Unit) => [(1, slv (rI .i64) s_1), (2, iv .i64 a__2), (3, pv (ptr b1 0)), (7, iv .i64 s8)])) (Ωl := (fun (s8 : Int) (x9 : Unit) => [oc b1 [iv .i64 g_0.N, slv rT_api_Pair g_0.L]])) (Γb := (fun (q14 : Unit) (y15 : Unit) => [])) (Ωb := (fun (q14 : Unit) (y15 : Unit) => [])) (kr := (fun a : Bool => some a)) 0 () (weak [0] ⟨rfl, rfl, rfl, rfl, trivial⟩ ⟨rfl, trivial⟩) (fun s8 x9 => ?_) (fun q14 y15 => ?_)
  · unfold net_Attacked_l1
    refine ref_seq (ref_seq (ref_region ?_))
    refine mv1 rfl rfl ?_
    refine mv1 rfl rfl ?_
    refine s_rd (r_len Tryd.underlying22 rfl) rfl ?_
    refine s_rd (r_lss rfl rfl) rfl ?_
    refine l_nil (n_then ?_)
    refine ref_cond rfl (fun hb10 => ?_) (fun hb10 => ?_)
    · refine ref_skip (n_then (ref_seq (ref_block (ref_seq ?_))))
      refine ref_draw [0, 1, 2, 3, 4, 5] rfl (by kernel_rfl) (fun hok => ?_)
      refine a_rd (i := 0) hok rfl (by kernel_rfl) rfl (r_cloadS Tryd.isAgg27 Tryd.sizeOf27 rfl (j := 0) rfl rfl rfl) rfl ?_
      refine a_rd (i := 1) hok rfl (by kernel_rfl) rfl (r_move rfl) rfl ?_
      refine a_rd (i := 2) hok rfl (by kernel_rfl) rfl (r_move rfl) rfl ?_
      refine pull fun t11 h_t11 => ?_
      refine a_rd (i := 3) hok rfl (by kernel_rfl) rfl (r_index h_t11 Tryd.underlying22 el_3 rfl rfl) rfl ?_
      refine a_rd (i := 4) hok rfl (by kernel_rfl) rfl (r_load el_3 rfl) rfl ?_
      refine a_rd (i := 5) hok rfl (by kernel_rfl) rfl (r_move rfl) rfl ?_
      refine pull fun t12 h_t12 => ?_
      refine a_next hok 6 [] (by kernel_rfl) ?_ trivial
      refine a_st (i := 6) hok rfl rfl (s_call (ψ := fun (_ : Unit) => bv t12) (args := [.tmp 14, .tmp 18, .tmp 19]) Tryd.call23 rfl (net_Has_ok h_t12) ⟨arg rfl, arg rfl, arg rfl, trivial⟩ (fun _ _ _ _ h => h)) (by intro _ h; cases h; rfl) (fun _ => ⟨trivial, ⟨trivial, ⟨trivial, ⟨trivial, ⟨trivial, ⟨trivial, trivial⟩⟩⟩⟩⟩⟩) (fun _ => ?_)
      refine a_fin hok (by kernel_rfl) ?_
      refine n_then ?_
      refine ref_cond rfl (fun hb13 => ?_) (fun hb13 => ?_)
      · refine ref_seq (ref_region ?_)
        refine as1 rfl rfl ?_
        refine l_nil (n_then (ref_ret (r_block (r_then ?_))))
        refine retX ?_
        refine r_block (r_then ?_)
        exact fin1 (.inl rfl) () [] rfl trivial rfl (rv_tmp rfl)
      refine ref_skip (n_block (n_then (ref_region ?_)))
      refine mv1 rfl rfl ?_
      refine s_rd (r_add rfl rfl) rfl ?_
      refine as1 rfl rfl ?_
      refine l_nil ?_
      exact goX () (weak [0] ⟨rfl, rfl, rfl, rfl, trivial⟩ ⟨rfl, trivial⟩)
    refine ref_exit (x_then ?_)
    exact brkX () (weak [] trivial trivial)
  refine n_then (ref_seq (ref_region ?_))
  refine as1 rfl rfl ?_
  refine l_nil (n_then (ref_ret ?_))
  exact fin1 (.inl rfl) () [] rfl trivial rfl (rv_tmp rfl)

/-! deliberation/deliberationnet.Grounded -/
noncomputable def net_Grounded_l1 (g_0 : T_api_Graph) (s16 : Int × (List Int)) : Option (Sum ((List Int)) (Int × (List Int))) :=
  bif decide (s16.1 < g_0.N) then
    Option.bind (idxM s16.2 s16.1) fun t19 =>
    letM (iadd .i64 s16.1 1) fun i20 =>
    some (Sum.inr (i20, s16.2.set (Int.toNat s16.1) 3))
  else
    some (Sum.inl s16.2)

noncomputable def net_Grounded_l4 (g_0 : T_api_Graph) (s292 : Int × (List Int) × (List Int)) (s341 : Int × (List Int)) (s350 : Bool × Int) : Option (Sum (Bool) (Bool × Int)) :=
  bif decide (s350.2 < g_0.N) then
    bif s350.1 then
      Option.bind (net_Has_m g_0 s350.2 s341.1) fun t353 =>
      bif !t353 then
        letM (iadd .i64 s350.2 1) fun b355 =>
        some (Sum.inr (true, b355))
      else
        Option.bind (idxM s292.2.1 s350.2) fun t354 =>
        letM (iadd .i64 s350.2 1) fun b356 =>
        some (Sum.inr (t354 == 2, b356))
    else
      letM (iadd .i64 s350.2 1) fun b357 =>
      some (Sum.inr (false, b357))
  else
    some (Sum.inl s350.1)

noncomputable def net_Grounded_l3 (g_0 : T_api_Graph) (s292 : Int × (List Int) × (List Int)) (s341 : Int × (List Int)) : Option (Sum ((List Int)) (Int × (List Int))) :=
  bif decide (s341.1 < g_0.N) then
    Option.bind (idxM s292.2.1 s341.1) fun t344 =>
    Option.bind (loopC (net_Grounded_l4 g_0 s292 s341) (t344 == 3, 0)) fun q358 : Bool =>
    bif q358 then
      Option.bind (appM 8 s341.2 [s341.1]) fun now361 =>
      letM (iadd .i64 s341.1 1) fun a_363 =>
      some (Sum.inr (a_363, now361))
    else
      letM (iadd .i64 s341.1 1) fun a_364 =>
      some (Sum.inr (a_364, s341.2))
  else
    some (Sum.inl s341.2)

noncomputable def net_Grounded_l5 (s292 : Int × (List Int) × (List Int)) (q365 : (List Int)) (s379 : Int × (List Int) × (List Int)) : Option (Sum ((List Int) × (List Int)) (Int × (List Int) × (List Int))) :=
  bif decide (s379.1 < (q365.length : Int)) then
    Option.bind (idxM q365 s379.1) fun a_382 =>
    Option.bind (idxM s379.2.1 a_382) fun t383 =>
    Option.bind (idxM s379.2.2 a_382) fun t384 =>
    some (Sum.inr (iadd .i64 s379.1 1, s379.2.1.set (Int.toNat a_382) 1, s379.2.2.set (Int.toNat a_382) s292.1))
  else
    some (Sum.inl (s379.2.1, s379.2.2))

noncomputable def net_Grounded_l6 (g_0 : T_api_Graph) (s292 : Int × (List Int) × (List Int)) (q365 : (List Int)) (s411 : Int × (List Int) × (List Int)) : Option (Sum ((List Int) × (List Int)) (Int × (List Int) × (List Int))) :=
  bif decide (s411.1 < g_0.N) then
    joinM (fun j416 : Bool =>
        bif j416 then
          Option.bind (idxM s411.2.1 s411.1) fun t420 =>
          Option.bind (idxM s411.2.2 s411.1) fun t421 =>
          letM (iadd .i64 s411.1 1) fun b422 =>
          some (Sum.inr (b422, s411.2.1.set (Int.toNat s411.1) 2, s411.2.2.set (Int.toNat s411.1) s292.1))
        else
          letM (iadd .i64 s411.1 1) fun b423 =>
          some (Sum.inr (b423, s411.2.1, s411.2.2))) fun k418 =>
    Option.bind (idxM s411.2.1 s411.1) fun t414 =>
    bif t414 == 3 then
      Option.bind (net_Attacked_m g_0 q365 s411.1) fun t415 =>
      k418 t415
    else
      k418 false
  else
    some (Sum.inl (s411.2.1, s411.2.2))

noncomputable def net_Grounded_l2 (g_0 : T_api_Graph) (s292 : Int × (List Int) × (List Int)) : Option (Sum ((List Int) × (List Int)) (Int × (List Int) × (List Int))) :=
  bif decide (s292.1 ≤ (iadd .i64 g_0.N 1)) then
    Option.bind (loopC (net_Grounded_l3 g_0 s292) (0, [])) fun q365 : (List Int) =>
    Option.bind (loopC (net_Grounded_l5 s292 q365) (0, s292.2.1, s292.2.2)) fun q385 : (List Int) × (List Int) =>
    Option.bind (loopC (net_Grounded_l6 g_0 s292 q365) (0, q385.1, q385.2)) fun q424 : (List Int) × (List Int) =>
    letM (iadd .i64 s292.1 1) fun round426 =>
    some (Sum.inr (round426, q424.1, q424.2))
  else
    some (Sum.inl (s292.2.1, s292.2.2))

noncomputable def net_Grounded_m (g_0 : T_api_Graph) : Option (List Int × List Int) :=
  Option.bind (mkM 8 0 g_0.N) fun labels3 =>
  Option.bind (mkM 8 0 g_0.N) fun ranks5 =>
  Option.bind (loopC (net_Grounded_l1 g_0) (0, labels3)) fun q21 : (List Int) =>
  Option.bind (loopC (net_Grounded_l2 g_0) (1, q21, ranks5)) fun q427 : (List Int) × (List Int) =>
  some (q427.1, q427.2)

theorem net_Grounded_ok {g_0 : T_api_Graph} {r : List Int × List Int} (hm : net_Grounded_m g_0 = some r) :
    FnOk prog 33 [ag [iv .i64 g_0.N, slv rT_api_Pair g_0.L]] [] (fun (x : (Value × List Nat) × (Value × List Nat)) => [pv x.1.1, pv x.2.1]) (fun (x : (Value × List Nat) × (Value × List Nat)) => [oa (rI .i64) x.1.1 x.1.2 r.1, oa (rI .i64) x.2.1 x.2.2 r.2]) := by
  refine fn_ok (X := (Value × List Nat) × (Value × List Nat)) (fn := Tryd.f33) (N := 114) (res := fun r x => [pv x.1.1, pv x.2.1]) (Ω1 := fun r x => [oa (rI .i64) x.1.1 x.1.2 r.1, oa (rI .i64) x.2.1 x.2.2 r.2]) Tryd.func33 rfl rfl hm rfl (fun E hM => ?_)
  unfold net_Grounded_m
  refine ref_seq (ref_region ?_)
  refine s_st (s_box (part_agO (ψs := [iv .i64 g_0.N, slv rT_api_Pair g_0.L]) rfl ⟨.inl iv_at, .inl slv_at, trivial⟩)) rfl (fun b1 => ?_)
  refine as1 rfl rfl ?_
  refine as1 rfl rfl ?_
  refine l_nil (n_then (ref_seq ?_))
  refine pull fun labels3 h_labels3 => ?_
  refine pull fun ranks5 h_ranks5 => ?_
  refine ref_drawI 2 [⟨[], [], [], [], [], fun us u => pv (ptr b1 0), fun us u => []⟩, ⟨[0], [], [], [0], [], fun us u => iv .i64 g_0.N, fun us u => []⟩, ⟨[0, 1], [], [1], [1], [], fun us u => pv u.V.1, fun us u => [oa (rI .i64) u.V.1 u.V.2 labels3]⟩, ⟨[], [], [], [], [], fun us u => pv (ptr b1 0), fun us u => []⟩, ⟨[3], [], [], [0], [], fun us u => iv .i64 g_0.N, fun us u => []⟩, ⟨[3, 4], [], [2], [2], [], fun us u => pv u.V.1, fun us u => [oa (rI .i64) u.V.1 u.V.2 ranks5]⟩, ⟨[0, 1, 2], [2], [], [], [], fun us u => pv (us.getD 0 .none).V.1, fun us u => []⟩, ⟨[0, 1, 2, 3, 4, 5, 6], [5], [], [], [], fun us u => pv (us.getD 0 .none).V.1, fun us u => []⟩] (fun χ2 => [(1, pv (ptr b1 0)), (4, pv (χ2 2).V.1), (5, pv (χ2 5).V.1)]) (fun χ2 => [oc b1 [iv .i64 g_0.N, slv rT_api_Pair g_0.L], oa (rI .i64) (χ2 2).V.1 (χ2 2).V.2 labels3, oa (rI .i64) (χ2 5).V.1 (χ2 5).V.2 ranks5]) rfl (by kernel_rfl) ⟨fun χ2 Ω _ => St.toR (r_faddr (fo := 0) Tryd.underlying27 rfl rfl Tryd.sizeOf3 rfl) (fun _ => rfl) (fun _ => rfl), (by intro _ h; cases h; rfl), ⟨fun χ2 Ω ⟨h0, _⟩ => St.toR (r_cload Tryd.isAgg3 rfl (j := 0) h0 rfl) (fun _ => rfl) (fun _ => rfl), (by intro _ h; cases h; rfl), ⟨fun χ2 Ω ⟨h1, _⟩ => St.to XU.V XU.hV (St.placeL (os := fun _ => [_]) [1] (s_make h_labels3 Tryd.underlying22 el_3 ze_3 rfl rfl) (fun _ => rfl) (fun _ => ⟨h1, rfl, trivial⟩)) (fun _ => rfl) (fun _ => rfl), (by intro _ h; cases h; rfl), ⟨fun χ2 Ω _ => St.toR (r_faddr (fo := 0) Tryd.underlying27 rfl rfl Tryd.sizeOf3 rfl) (fun _ => rfl) (fun _ => rfl), (by intro _ h; cases h; rfl), ⟨fun χ2 Ω ⟨h0, _⟩ => St.toR (r_cload Tryd.isAgg3 rfl (j := 0) h0 rfl) (fun _ => rfl) (fun _ => rfl), (by intro _ h; cases h; rfl), ⟨fun χ2 Ω ⟨h2, _⟩ => St.to XU.V XU.hV (St.placeL (os := fun _ => [_]) [2] (s_make h_ranks5 Tryd.underlying22 el_3 ze_3 rfl rfl) (fun _ => rfl) (fun _ => ⟨h2, rfl, trivial⟩)) (fun _ => rfl) (fun _ => rfl), (by intro _ h; cases h; rfl), ⟨fun χ2 Ω _ => St.toR (r_assign rfl) (fun _ => rfl) (fun _ => rfl), (by intro _ h; cases h; rfl), ⟨fun χ2 Ω _ => St.toR (r_assign rfl) (fun _ => rfl) (fun _ => rfl), (by intro _ h; cases h; rfl), trivial⟩⟩⟩⟩⟩⟩⟩⟩ (fun _ => ⟨rfl, rfl, rfl, trivial⟩) (fun _ => rfl) (fun χ2 => ?_)
  refine n_then (ref_seq (ref_seq (ref_region ?_)))
  refine as1 rfl rfl ?_
  refine l_nil (n_then ?_)
  refine ref_loopB (f := (net_Grounded_l1 g_0)) (Γl := (fun (s16 : Int × (List Int)) (x17 : Unit) => [(1, pv (ptr b1 0)), (4, pv (χ2 2).V.1), (5, pv (χ2 5).V.1), (6, iv .i64 s16.1)])) (Ωl := (fun (s16 : Int × (List Int)) (x17 : Unit) => [oc b1 [iv .i64 g_0.N, slv rT_api_Pair g_0.L], oa (rI .i64) (χ2 2).V.1 (χ2 2).V.2 s16.2, oa (rI .i64) (χ2 5).V.1 (χ2 5).V.2 ranks5])) (Γb := (fun (q21 : (List Int)) (y22 : Unit) => [(1, pv (ptr b1 0)), (4, pv (χ2 2).V.1), (5, pv (χ2 5).V.1)])) (Ωb := (fun (q21 : (List Int)) (y22 : Unit) => [oc b1 [iv .i64 g_0.N, slv rT_api_Pair g_0.L], oa (rI .i64) (χ2 2).V.1 (χ2 2).V.2 q21, oa (rI .i64) (χ2 5).V.1 (χ2 5).V.2 ranks5])) (0, labels3) () (weak [0, 1, 2] ⟨rfl, rfl, rfl, rfl, trivial⟩ ⟨rfl, rfl, rfl, trivial⟩) (fun s16 x17 => ?_) (fun q21 y22 => ?_)
  · unfold net_Grounded_l1
    refine ref_seq (ref_seq (ref_region ?_))
    refine mv1 rfl rfl ?_
    refine s_rd (r_faddr (fo := 0) Tryd.underlying27 rfl rfl Tryd.sizeOf3 rfl) rfl ?_
    refine s_rd (r_cload Tryd.isAgg3 rfl (j := 0) rfl rfl) rfl ?_
    refine s_rd (r_lss rfl rfl) rfl ?_
    refine l_nil (n_then ?_)
    refine ref_cond rfl (fun hb18 => ?_) (fun hb18 => ?_)
    · refine ref_skip (n_then (ref_seq (ref_block (ref_region ?_))))
      refine mv1 rfl rfl ?_
      refine mv1 rfl rfl ?_
      refine pull fun t19 h_t19 => ?_
      refine s_rd (r_oindex h_t19 Tryd.underlying22 el_3 rfl (j := 1) rfl rfl) rfl ?_
      refine s_st0 (s_ostore (u := 3) h_t19 el_3 rfl (j := 1) rfl (part_at rfl iv_at)) (fun _ => ?_)
      refine l_nil (n_block (n_then (ref_region ?_)))
      refine mv1 rfl rfl ?_
      refine s_rd (r_add rfl rfl) rfl ?_
      refine as1 rfl rfl ?_
      refine b_let (f := iv .i64) (t := 6) rfl fun i20 => ?_
      refine l_nil ?_
      exact goB () (weak [0, 1, 2] ⟨rfl, rfl, rfl, rfl, trivial⟩ ⟨rfl, rfl, rfl, trivial⟩)
    refine ref_exit (x_then ?_)
    exact brkB () (weak [0, 1, 2] ⟨rfl, rfl, rfl, trivial⟩ ⟨rfl, rfl, rfl, trivial⟩)
  refine n_then (ref_seq (ref_seq (ref_region ?_)))
  refine as1 rfl rfl ?_
  refine l_nil (n_then ?_)
  refine ref_loopB (f := (net_Grounded_l2 g_0)) (Γl := (fun (s292 : Int × (List Int) × (List Int)) (x293 : Unit) => [(1, pv (ptr b1 0)), (4, pv (χ2 2).V.1), (5, pv (χ2 5).V.1), (7, iv .i64 s292.1)])) (Ωl := (fun (s292 : Int × (List Int) × (List Int)) (x293 : Unit) => [oc b1 [iv .i64 g_0.N, slv rT_api_Pair g_0.L], oa (rI .i64) (χ2 2).V.1 (χ2 2).V.2 s292.2.1, oa (rI .i64) (χ2 5).V.1 (χ2 5).V.2 s292.2.2])) (Γb := (fun (q427 : (List Int) × (List Int)) (y428 : Unit) => [(4, pv (χ2 2).V.1), (5, pv (χ2 5).V.1)])) (Ωb := (fun (q427 : (List Int) × (List Int)) (y428 : Unit) => [oa (rI .i64) (χ2 2).V.1 (χ2 2).V.2 q427.1, oa (rI .i64) (χ2 5).V.1 (χ2 5).V.2 q427.2])) (1, q21, ranks5) () (weak [0, 1, 2] ⟨rfl, rfl, rfl, rfl, trivial⟩ ⟨rfl, rfl, rfl, trivial⟩) (fun s292 x293 => ?_) (fun q427 y428 => ?_)
  · unfold net_Grounded_l2
    refine ref_seq (ref_seq (ref_region ?_))
    refine mv1 rfl rfl ?_
    refine s_rd (r_faddr (fo := 0) Tryd.underlying27 rfl rfl Tryd.sizeOf3 rfl) rfl ?_
    refine s_rd (r_cload Tryd.isAgg3 rfl (j := 0) rfl rfl) rfl ?_
    refine s_rd (r_add rfl rfl) rfl ?_
    refine s_rd (r_leq rfl rfl) rfl ?_
    refine l_nil (n_then ?_)
    refine ref_cond rfl (fun hb294 => ?_) (fun hb294 => ?_)
    · refine ref_skip (n_then (ref_seq (ref_block (ref_seq (ref_region ?_)))))
      refine as1 rfl rfl ?_
      refine l_nil (n_then (ref_seq (ref_seq (ref_region ?_))))
      refine as1 rfl rfl ?_
      refine l_nil (n_then ?_)
      refine b_of (own_nil (rI .i64)) ?_
      refine ref_loopB (f := (net_Grounded_l3 g_0 s292)) (Γl := (fun (s341 : Int × (List Int)) (x342 : (Value × List Nat)) => [(1, pv (ptr b1 0)), (4, pv (χ2 2).V.1), (5, pv (χ2 5).V.1), (7, iv .i64 s292.1), (8, pv x342.1), (9, iv .i64 s341.1)])) (Ωl := (fun (s341 : Int × (List Int)) (x342 : (Value × List Nat)) => [oc b1 [iv .i64 g_0.N, slv rT_api_Pair g_0.L], oa (rI .i64) (χ2 2).V.1 (χ2 2).V.2 s292.2.1, oa (rI .i64) (χ2 5).V.1 (χ2 5).V.2 s292.2.2, oa (rI .i64) x342.1 x342.2 s341.2])) (Γb := (fun (q365 : (List Int)) (y366 : (Value × List Nat)) => [(1, pv (ptr b1 0)), (4, pv (χ2 2).V.1), (5, pv (χ2 5).V.1), (7, iv .i64 s292.1), (8, pv y366.1)])) (Ωb := (fun (q365 : (List Int)) (y366 : (Value × List Nat)) => [oc b1 [iv .i64 g_0.N, slv rT_api_Pair g_0.L], oa (rI .i64) (χ2 2).V.1 (χ2 2).V.2 s292.2.1, oa (rI .i64) (χ2 5).V.1 (χ2 5).V.2 s292.2.2, oa (rI .i64) y366.1 y366.2 q365])) (0, []) ((.slice none 0 0), []) (weak [0, 1, 2, 3] ⟨rfl, rfl, rfl, rfl, rfl, rfl, trivial⟩ ⟨rfl, rfl, rfl, rfl, trivial⟩) (fun s341 x342 => ?_) (fun q365 y366 => ?_)
      · unfold net_Grounded_l3
        refine ref_seq (ref_seq (ref_region ?_))
        refine mv1 rfl rfl ?_
        refine s_rd (r_faddr (fo := 0) Tryd.underlying27 rfl rfl Tryd.sizeOf3 rfl) rfl ?_
        refine s_rd (r_cload Tryd.isAgg3 rfl (j := 0) rfl rfl) rfl ?_
        refine s_rd (r_lss rfl rfl) rfl ?_
        refine l_nil (n_then ?_)
        refine ref_cond rfl (fun hb343 => ?_) (fun hb343 => ?_)
        · refine ref_skip (n_then (ref_seq (ref_block (ref_seq (ref_region ?_)))))
          refine mv1 rfl rfl ?_
          refine mv1 rfl rfl ?_
          refine pull fun t344 h_t344 => ?_
          refine s_rd (r_oindex h_t344 Tryd.underlying22 el_3 rfl (j := 1) rfl rfl) rfl ?_
          refine s_rd (r_oload h_t344 el_3 rfl (j := 1) rfl) rfl ?_
          refine s_rd (r_eql rfl rfl) rfl ?_
          refine as1 rfl rfl ?_
          refine l_nil (n_then (ref_seq (ref_seq (ref_region ?_))))
          refine as1 rfl rfl ?_
          refine l_nil (n_then ?_)
          refine ref_loopB (f := (net_Grounded_l4 g_0 s292 s341)) (Γl := (fun (s350 : Bool × Int) (x351 : Unit) => [(1, pv (ptr b1 0)), (4, pv (χ2 2).V.1), (5, pv (χ2 5).V.1), (7, iv .i64 s292.1), (8, pv x342.1), (9, iv .i64 s341.1), (10, bv s350.1), (11, iv .i64 s350.2)])) (Ωl := (fun (s350 : Bool × Int) (x351 : Unit) => [oc b1 [iv .i64 g_0.N, slv rT_api_Pair g_0.L], oa (rI .i64) (χ2 2).V.1 (χ2 2).V.2 s292.2.1, oa (rI .i64) (χ2 5).V.1 (χ2 5).V.2 s292.2.2, oa (rI .i64) x342.1 x342.2 s341.2])) (Γb := (fun (q358 : Bool) (y359 : Unit) => [(1, pv (ptr b1 0)), (4, pv (χ2 2).V.1), (5, pv (χ2 5).V.1), (7, iv .i64 s292.1), (8, pv x342.1), (9, iv .i64 s341.1), (10, bv q358)])) (Ωb := (fun (q358 : Bool) (y359 : Unit) => [oc b1 [iv .i64 g_0.N, slv rT_api_Pair g_0.L], oa (rI .i64) (χ2 2).V.1 (χ2 2).V.2 s292.2.1, oa (rI .i64) (χ2 5).V.1 (χ2 5).V.2 s292.2.2, oa (rI .i64) x342.1 x342.2 s341.2])) (t344 == 3, 0) () (weak [0, 1, 2, 3] ⟨rfl, rfl, rfl, rfl, rfl, rfl, rfl, rfl, trivial⟩ ⟨rfl, rfl, rfl, rfl, trivial⟩) (fun s350 x351 => ?_) (fun q358 y359 => ?_)
          · unfold net_Grounded_l4
            refine ref_seq (ref_seq (ref_region ?_))
            refine mv1 rfl rfl ?_
            refine s_rd (r_faddr (fo := 0) Tryd.underlying27 rfl rfl Tryd.sizeOf3 rfl) rfl ?_
            refine s_rd (r_cload Tryd.isAgg3 rfl (j := 0) rfl rfl) rfl ?_
            refine s_rd (r_lss rfl rfl) rfl ?_
            refine l_nil (n_then ?_)
            refine ref_cond rfl (fun hb352 => ?_) (fun hb352 => ?_)
            · refine ref_skip (n_then (ref_seq (ref_block (ref_region ?_))))
              refine mv1 rfl rfl ?_
              refine mv1 rfl rfl ?_
              refine b_split (t := 55) rfl (fun _ => ?_) (fun _ => ?_)
              · refine s_on rfl rfl rfl ?_
                refine s_rd (r_cloadS Tryd.isAgg27 Tryd.sizeOf27 rfl (j := 0) rfl rfl rfl) rfl ?_
                refine s_on rfl rfl rfl ?_
                refine mv1 rfl rfl ?_
                refine s_on rfl rfl rfl ?_
                refine mv1 rfl rfl ?_
                refine s_on rfl rfl rfl ?_
                refine pull fun t353 h_t353 => ?_
                refine s_st (s_call (ψ := fun (_ : Unit) => bv t353) (args := [.tmp 56, .tmp 57, .tmp 58]) Tryd.call23 rfl (net_Has_ok h_t353) ⟨arg rfl, arg rfl, arg rfl, trivial⟩ (fun _ _ _ _ h => h)) rfl (fun _ => ?_)
                refine s_on rfl rfl rfl ?_
                refine s_rd (r_not rfl) rfl ?_
                refine s_on rfl rfl rfl ?_
                refine mv1 rfl rfl ?_
                refine b_split (t := 61) rfl (fun _ => ?_) (fun _ => ?_)
                · refine s_off rfl rfl rfl rfl rfl ?_
                  refine s_off rfl rfl rfl rfl rfl ?_
                  refine s_off rfl rfl rfl rfl rfl ?_
                  refine s_off rfl rfl rfl rfl rfl ?_
                  refine s_off rfl rfl rfl rfl rfl ?_
                  refine s_on rfl rfl rfl ?_
                  refine s_rd (r_pickT rfl rfl) rfl ?_
                  refine s_rd (r_pickT rfl rfl) rfl ?_
                  refine as1 rfl rfl ?_
                  refine l_nil (n_block (n_then (ref_region ?_)))
                  refine mv1 rfl rfl ?_
                  refine s_rd (r_add rfl rfl) rfl ?_
                  refine as1 rfl rfl ?_
                  refine b_let (f := iv .i64) (t := 11) rfl fun b355 => ?_
                  refine l_nil ?_
                  exact goB () (weak [0, 1, 2, 3] ⟨rfl, rfl, rfl, rfl, rfl, rfl, rfl, rfl, trivial⟩ ⟨rfl, rfl, rfl, rfl, trivial⟩)
                refine s_on rfl rfl rfl ?_
                refine mv1 rfl rfl ?_
                refine s_on rfl rfl rfl ?_
                refine mv1 rfl rfl ?_
                refine s_on rfl rfl rfl ?_
                refine pull fun t354 h_t354 => ?_
                refine s_rd (r_oindex h_t354 Tryd.underlying22 el_3 rfl (j := 1) rfl rfl) rfl ?_
                refine s_on rfl rfl rfl ?_
                refine s_rd (r_oload h_t354 el_3 rfl (j := 1) rfl) rfl ?_
                refine s_on rfl rfl rfl ?_
                refine s_rd (r_eql rfl rfl) rfl ?_
                refine s_on rfl rfl rfl ?_
                refine s_rd (r_pickF rfl rfl) rfl ?_
                refine s_rd (r_pickT rfl rfl) rfl ?_
                refine as1 rfl rfl ?_
                refine l_nil (n_block (n_then (ref_region ?_)))
                refine mv1 rfl rfl ?_
                refine s_rd (r_add rfl rfl) rfl ?_
                refine as1 rfl rfl ?_
                refine b_let (f := iv .i64) (t := 11) rfl fun b356 => ?_
                refine l_nil ?_
                exact goB () (weak [0, 1, 2, 3] ⟨rfl, rfl, rfl, rfl, rfl, rfl, rfl, rfl, trivial⟩ ⟨rfl, rfl, rfl, rfl, trivial⟩)
              refine s_off rfl rfl rfl rfl rfl ?_
              refine s_off rfl rfl rfl rfl rfl ?_
              refine s_off rfl rfl rfl rfl rfl ?_
              refine s_off rfl rfl rfl rfl rfl ?_
              refine s_off rfl rfl rfl rfl rfl ?_
              refine s_off rfl rfl rfl rfl rfl ?_
              refine s_offU rfl rfl rfl ?_
              refine s_offU rfl rfl rfl ?_
              refine s_offU rfl rfl rfl ?_
              refine s_offU rfl rfl rfl ?_
              refine s_offU rfl rfl rfl ?_
              refine s_off rfl rfl rfl rfl rfl ?_
              refine s_rd (r_pickF rfl rfl) rfl ?_
              refine as1 rfl rfl ?_
              refine l_nil (n_block (n_then (ref_region ?_)))
              refine mv1 rfl rfl ?_
              refine s_rd (r_add rfl rfl) rfl ?_
              refine as1 rfl rfl ?_
              refine b_let (f := iv .i64) (t := 11) rfl fun b357 => ?_
              refine l_nil ?_
              exact goB () (weak [0, 1, 2, 3] ⟨rfl, rfl, rfl, rfl, rfl, rfl, rfl, rfl, trivial⟩ ⟨rfl, rfl, rfl, rfl, trivial⟩)
            refine ref_exit (x_then ?_)
            exact brkB () (weak [0, 1, 2, 3] ⟨rfl, rfl, rfl, rfl, rfl, rfl, rfl, trivial⟩ ⟨rfl, rfl, rfl, rfl, trivial⟩)
          refine n_then (ref_seq (ref_region ?_))
          refine mv1 rfl rfl ?_
          refine l_nil (n_then ?_)
          refine ref_cond rfl (fun hb360 => ?_) (fun hb360 => ?_)
          · refine ref_region ?_
            refine mv1 rfl rfl ?_
            refine mv1 rfl rfl ?_
            refine s_st (s_bslice (xs := [.tmp 71]) (ds := [s341.1]) Tryd.underlying22 el_3 rfl (Nat.le_of_ble_eq_true rfl) ⟨(part_at rfl iv_at), trivial⟩) rfl (fun _ => ?_)
            refine pull fun now361 h_now361 => ?_
            refine s_st (s_append h_now361 Tryd.underlying22 el_3 rfl (j := 3) rfl rfl) rfl (fun o362 => ?_)
            refine as1 rfl rfl ?_
            refine l_nil (n_block (n_then (ref_region ?_)))
            refine mv1 rfl rfl ?_
            refine s_rd (r_add rfl rfl) rfl ?_
            refine as1 rfl rfl ?_
            refine b_let (f := iv .i64) (t := 9) rfl fun a_363 => ?_
            refine l_nil ?_
            exact goB o362 (weak [0, 1, 2, 3] ⟨rfl, rfl, rfl, rfl, rfl, rfl, trivial⟩ ⟨rfl, rfl, rfl, rfl, trivial⟩)
          refine ref_skip (n_block (n_then (ref_region ?_)))
          refine mv1 rfl rfl ?_
          refine s_rd (r_add rfl rfl) rfl ?_
          refine as1 rfl rfl ?_
          refine b_let (f := iv .i64) (t := 9) rfl fun a_364 => ?_
          refine l_nil ?_
          exact goB x342 (weak [0, 1, 2, 3] ⟨rfl, rfl, rfl, rfl, rfl, rfl, trivial⟩ ⟨rfl, rfl, rfl, rfl, trivial⟩)
        refine ref_exit (x_then ?_)
        exact brkB x342 (weak [0, 1, 2, 3] ⟨rfl, rfl, rfl, rfl, rfl, trivial⟩ ⟨rfl, rfl, rfl, rfl, trivial⟩)
      refine n_then (ref_seq (ref_seq (ref_region ?_)))
      refine mv1 rfl rfl ?_
      refine s_rd (r_olen Tryd.underlying22 rfl (j := 3) rfl) rfl ?_
      refine mv1 rfl rfl ?_
      refine l_nil (n_then ?_)
      refine ref_loopB (f := (net_Grounded_l5 s292 q365)) (Γl := (fun (s379 : Int × (List Int) × (List Int)) (x380 : Unit) => [(1, pv (ptr b1 0)), (4, pv (χ2 2).V.1), (5, pv (χ2 5).V.1), (7, iv .i64 s292.1), (8, pv y366.1), (74, pv y366.1), (75, iv .i64 (q365.length : Int)), (76, iv .i64 s379.1)])) (Ωl := (fun (s379 : Int × (List Int) × (List Int)) (x380 : Unit) => [oc b1 [iv .i64 g_0.N, slv rT_api_Pair g_0.L], oa (rI .i64) (χ2 2).V.1 (χ2 2).V.2 s379.2.1, oa (rI .i64) (χ2 5).V.1 (χ2 5).V.2 s379.2.2, oa (rI .i64) y366.1 y366.2 q365])) (Γb := (fun (q385 : (List Int) × (List Int)) (y386 : Unit) => [(1, pv (ptr b1 0)), (4, pv (χ2 2).V.1), (5, pv (χ2 5).V.1), (7, iv .i64 s292.1), (8, pv y366.1)])) (Ωb := (fun (q385 : (List Int) × (List Int)) (y386 : Unit) => [oc b1 [iv .i64 g_0.N, slv rT_api_Pair g_0.L], oa (rI .i64) (χ2 2).V.1 (χ2 2).V.2 q385.1, oa (rI .i64) (χ2 5).V.1 (χ2 5).V.2 q385.2, oa (rI .i64) y366.1 y366.2 q365])) (0, s292.2.1, s292.2.2) () (weak [0, 1, 2, 3] ⟨rfl, rfl, rfl, rfl, rfl, rfl, rfl, rfl, trivial⟩ ⟨rfl, rfl, rfl, rfl, trivial⟩) (fun s379 x380 => ?_) (fun q385 y386 => ?_)
      · unfold net_Grounded_l5
        refine ref_seq (ref_region ?_)
        refine s_rd (r_lss rfl rfl) rfl ?_
        refine l_nil (n_then (ref_seq ?_))
        refine ref_cond rfl (fun hb381 => ?_) (fun hb381 => ?_)
        · refine ref_skip (n_then (ref_seq (ref_block (ref_seq (ref_region ?_)))))
          refine pull fun a_382 h_a_382 => ?_
          refine s_rd (r_oindex h_a_382 Tryd.underlying22 el_3 rfl (j := 3) rfl rfl) rfl ?_
          refine s_rd (r_oload h_a_382 el_3 rfl (j := 3) rfl) rfl ?_
          refine as1 rfl rfl ?_
          refine l_nil (n_then (ref_region ?_))
          refine mv1 rfl rfl ?_
          refine mv1 rfl rfl ?_
          refine mv1 rfl rfl ?_
          refine mv1 rfl rfl ?_
          refine mv1 rfl rfl ?_
          refine pull fun t383 h_t383 => ?_
          refine s_rd (r_oindex h_t383 Tryd.underlying22 el_3 rfl (j := 1) rfl rfl) rfl ?_
          refine s_st0 (s_ostore (u := 1) h_t383 el_3 rfl (j := 1) rfl (part_at rfl iv_at)) (fun _ => ?_)
          refine pull fun t384 h_t384 => ?_
          refine s_rd (r_oindex h_t384 Tryd.underlying22 el_3 rfl (j := 2) rfl rfl) rfl ?_
          refine s_st0 (s_ostore (u := s292.1) h_t384 el_3 rfl (j := 2) rfl (part_at rfl iv_at)) (fun _ => ?_)
          refine l_nil (n_block (n_then (ref_region ?_)))
          refine s_rd (r_add rfl rfl) rfl ?_
          refine mv1 rfl rfl ?_
          refine l_nil ?_
          exact goB () (weak [0, 1, 2, 3] ⟨rfl, rfl, rfl, rfl, rfl, rfl, rfl, rfl, trivial⟩ ⟨rfl, rfl, rfl, rfl, trivial⟩)
        refine ref_exit (x_then ?_)
        exact brkB () (weak [0, 1, 2, 3] ⟨rfl, rfl, rfl, rfl, rfl, trivial⟩ ⟨rfl, rfl, rfl, rfl, trivial⟩)
      refine n_then (ref_seq (ref_region ?_))
      refine as1 rfl rfl ?_
      refine l_nil (n_then ?_)
      refine ref_loopB (f := (net_Grounded_l6 g_0 s292 q365)) (Γl := (fun (s411 : Int × (List Int) × (List Int)) (x412 : Unit) => [(1, pv (ptr b1 0)), (4, pv (χ2 2).V.1), (5, pv (χ2 5).V.1), (7, iv .i64 s292.1), (8, pv y366.1), (14, iv .i64 s411.1)])) (Ωl := (fun (s411 : Int × (List Int) × (List Int)) (x412 : Unit) => [oc b1 [iv .i64 g_0.N, slv rT_api_Pair g_0.L], oa (rI .i64) (χ2 2).V.1 (χ2 2).V.2 s411.2.1, oa (rI .i64) (χ2 5).V.1 (χ2 5).V.2 s411.2.2, oa (rI .i64) y366.1 y366.2 q365])) (Γb := (fun (q424 : (List Int) × (List Int)) (y425 : Unit) => [(1, pv (ptr b1 0)), (4, pv (χ2 2).V.1), (5, pv (χ2 5).V.1), (7, iv .i64 s292.1)])) (Ωb := (fun (q424 : (List Int) × (List Int)) (y425 : Unit) => [oc b1 [iv .i64 g_0.N, slv rT_api_Pair g_0.L], oa (rI .i64) (χ2 2).V.1 (χ2 2).V.2 q424.1, oa (rI .i64) (χ2 5).V.1 (χ2 5).V.2 q424.2])) (0, q385.1, q385.2) () (weak [0, 1, 2, 3] ⟨rfl, rfl, rfl, rfl, rfl, rfl, trivial⟩ ⟨rfl, rfl, rfl, rfl, trivial⟩) (fun s411 x412 => ?_) (fun q424 y425 => ?_)
      · unfold net_Grounded_l6
        refine ref_seq (ref_seq (ref_region ?_))
        refine mv1 rfl rfl ?_
        refine s_rd (r_faddr (fo := 0) Tryd.underlying27 rfl rfl Tryd.sizeOf3 rfl) rfl ?_
        refine s_rd (r_cload Tryd.isAgg3 rfl (j := 0) rfl rfl) rfl ?_
        refine s_rd (r_lss rfl rfl) rfl ?_
        refine l_nil (n_then ?_)
        refine ref_cond rfl (fun hb413 => ?_) (fun hb413 => ?_)
        · refine ref_skip (n_then (ref_seq (ref_block (ref_seq ?_))))
          refine ref_join (fun (j416 : Bool) (x417 : Unit) => [(1, pv (ptr b1 0)), (4, pv (χ2 2).V.1), (5, pv (χ2 5).V.1), (7, iv .i64 s292.1), (8, pv y366.1), (14, iv .i64 s411.1), (104, bv j416)]) (fun (j416 : Bool) (x417 : Unit) => [oc b1 [iv .i64 g_0.N, slv rT_api_Pair g_0.L], oa (rI .i64) (χ2 2).V.1 (χ2 2).V.2 s411.2.1, oa (rI .i64) (χ2 5).V.1 (χ2 5).V.2 s411.2.2, oa (rI .i64) y366.1 y366.2 q365]) (fun k418 hk418 => ?_) (fun j416 x417 => ?_)
          · refine ref_region ?_
            refine mv1 rfl rfl ?_
            refine mv1 rfl rfl ?_
            refine pull fun t414 h_t414 => ?_
            refine s_rd (r_oindex h_t414 Tryd.underlying22 el_3 rfl (j := 1) rfl rfl) rfl ?_
            refine s_rd (r_oload h_t414 el_3 rfl (j := 1) rfl) rfl ?_
            refine s_rd (r_eql rfl rfl) rfl ?_
            refine mv1 rfl rfl ?_
            refine b_split (t := 99) rfl (fun _ => ?_) (fun _ => ?_)
            · refine s_on rfl rfl rfl ?_
              refine s_rd (r_cloadS Tryd.isAgg27 Tryd.sizeOf27 rfl (j := 0) rfl rfl rfl) rfl ?_
              refine s_on rfl rfl rfl ?_
              refine mv1 rfl rfl ?_
              refine s_on rfl rfl rfl ?_
              refine mv1 rfl rfl ?_
              refine s_on rfl rfl rfl ?_
              refine pull fun t415 h_t415 => ?_
              refine s_st (s_callB (ψ := fun (_ : Unit) => bv t415) (args := [.tmp 100, .tmp 101, .tmp 102]) Tryd.call69 rfl (net_Attacked_ok h_t415) ⟨argB rfl, argO rfl (j := 3) rfl, argB rfl, trivial⟩ (fun _ _ _ _ _ h => h)) rfl (fun _ => ?_)
              refine s_rd (r_pickT rfl rfl) rfl ?_
              refine l_nil ?_
              exact b_to (hk418 t415 ()) (weak [0, 1, 2, 3] ⟨rfl, rfl, rfl, rfl, rfl, rfl, rfl, trivial⟩ ⟨rfl, rfl, rfl, rfl, trivial⟩)
            refine s_off rfl rfl rfl rfl rfl ?_
            refine s_off rfl rfl rfl rfl rfl ?_
            refine s_off rfl rfl rfl rfl rfl ?_
            refine s_off rfl rfl rfl rfl rfl ?_
            refine s_rd (r_pickF rfl rfl) rfl ?_
            refine l_nil ?_
            exact b_to (hk418 false ()) (weak [0, 1, 2, 3] ⟨rfl, rfl, rfl, rfl, rfl, rfl, rfl, trivial⟩ ⟨rfl, rfl, rfl, rfl, trivial⟩)
          refine n_then ?_
          refine ref_cond rfl (fun hb419 => ?_) (fun hb419 => ?_)
          · refine ref_region ?_
            refine mv1 rfl rfl ?_
            refine mv1 rfl rfl ?_
            refine mv1 rfl rfl ?_
            refine mv1 rfl rfl ?_
            refine mv1 rfl rfl ?_
            refine pull fun t420 h_t420 => ?_
            refine s_rd (r_oindex h_t420 Tryd.underlying22 el_3 rfl (j := 1) rfl rfl) rfl ?_
            refine s_st0 (s_ostore (u := 2) h_t420 el_3 rfl (j := 1) rfl (part_at rfl iv_at)) (fun _ => ?_)
            refine pull fun t421 h_t421 => ?_
            refine s_rd (r_oindex h_t421 Tryd.underlying22 el_3 rfl (j := 2) rfl rfl) rfl ?_
            refine s_st0 (s_ostore (u := s292.1) h_t421 el_3 rfl (j := 2) rfl (part_at rfl iv_at)) (fun _ => ?_)
            refine l_nil (n_block (n_then (ref_region ?_)))
            refine mv1 rfl rfl ?_
            refine s_rd (r_add rfl rfl) rfl ?_
            refine as1 rfl rfl ?_
            refine b_let (f := iv .i64) (t := 14) rfl fun b422 => ?_
            refine l_nil ?_
            exact goB () (weak [0, 1, 2, 3] ⟨rfl, rfl, rfl, rfl, rfl, rfl, trivial⟩ ⟨rfl, rfl, rfl, rfl, trivial⟩)
          refine ref_skip (n_block (n_then (ref_region ?_)))
          refine mv1 rfl rfl ?_
          refine s_rd (r_add rfl rfl) rfl ?_
          refine as1 rfl rfl ?_
          refine b_let (f := iv .i64) (t := 14) rfl fun b423 => ?_
          refine l_nil ?_
          exact goB () (weak [0, 1, 2, 3] ⟨rfl, rfl, rfl, rfl, rfl, rfl, trivial⟩ ⟨rfl, rfl, rfl, rfl, trivial⟩)
        refine ref_exit (x_then ?_)
        exact brkB () (weak [0, 1, 2] ⟨rfl, rfl, rfl, rfl, trivial⟩ ⟨rfl, rfl, rfl, trivial⟩)
      refine n_block (n_then (ref_region ?_))
      refine mv1 rfl rfl ?_
      refine s_rd (r_add rfl rfl) rfl ?_
      refine as1 rfl rfl ?_
      refine b_let (f := iv .i64) (t := 7) rfl fun round426 => ?_
      refine l_nil ?_
      exact goB () (weak [0, 1, 2] ⟨rfl, rfl, rfl, rfl, trivial⟩ ⟨rfl, rfl, rfl, trivial⟩)
    refine ref_exit (x_then ?_)
    exact brkB () (weak [1, 2] ⟨rfl, rfl, trivial⟩ ⟨rfl, rfl, trivial⟩)
  refine n_then (ref_seq (ref_region ?_))
  refine mv1 rfl rfl ?_
  refine mv1 rfl rfl ?_
  refine as1 rfl rfl ?_
  refine as1 rfl rfl ?_
  refine l_nil (n_then (ref_ret ?_))
  exact fin2 (.inl rfl) ((χ2 2).V, (χ2 5).V) [0, 1] rfl ⟨rfl, rfl, trivial⟩ rfl (rv_tmp rfl) (rv_tmp rfl)

/-! deliberation/deliberationref22.Frees -/
noncomputable def ref22_Frees_m (g_0 : T_api_Graph) (gone_1 : (List Int)) (node_2 : Int) : Option (Bool) :=
  Option.bind (ref22_drop_m g_0 gone_1) fun t2 =>
  Option.bind (net_Grounded_m t2) fun t3 =>
  Option.bind (idxM t3.1 node_2) fun t5 =>
  some (t5 == 1)

theorem ref22_Frees_ok {g_0 : T_api_Graph} {gone_1 : (List Int)} {node_2 : Int} {r : Bool} (hm : ref22_Frees_m g_0 gone_1 node_2 = some r) :
    FnOk prog 13 [ag [iv .i64 g_0.N, slv rT_api_Pair g_0.L], slv (rI .i64) gone_1, iv .i64 node_2] [] (fun (x : Unit) => [bv r]) (fun (x : Unit) => []) := by
  refine fn_ok (fn := Tryd.f13) (N := 21) (res := fun r x => [bv r]) (Ω1 := fun r x => []) Tryd.func13 rfl rfl hm rfl (fun E hM => ?_)
  unfold ref22_Frees_m
  refine ref_seq (ref_region ?_)
  refine s_st (s_box (part_agO (ψs := [iv .i64 g_0.N, slv rT_api_Pair g_0.L]) rfl ⟨.inl iv_at, .inl slv_at, trivial⟩)) rfl (fun b1 => ?_)
  refine as1 rfl rfl ?_
  refine l_nil (n_then (ref_seq (ref_region ?_)))
  refine s_rd (r_cloadS Tryd.isAgg27 Tryd.sizeOf27 rfl (j := 0) rfl rfl rfl) rfl ?_
  refine mv1 rfl rfl ?_
  refine pull fun t2 h_t2 => ?_
  refine s_st (s_call (ψ := fun (_ : Unit) => ag [iv .i64 t2.N, slv rT_api_Pair t2.L]) (args := [.tmp 10, .tmp 11]) Tryd.call44 rfl (ref22_drop_ok h_t2) ⟨arg rfl, arg rfl, trivial⟩ (fun _ _ _ _ h => h)) rfl (fun _ => ?_)
  refine pull fun t3 h_t3 => ?_
  refine s_st (s_call (ψ := fun (x4 : (Value × List Nat) × (Value × List Nat)) => tup [pv x4.1.1, pv x4.2.1]) (args := [.tmp 12]) Tryd.call33 rfl (net_Grounded_ok h_t3) ⟨arg rfl, trivial⟩ (fun _ _ _ _ h => h)) rfl (fun x4 => ?_)
  refine mv1 rfl rfl ?_
  refine s_rd (r_extract rfl rfl) rfl ?_
  refine s_rd (r_extract rfl rfl) rfl ?_
  refine as1 rfl rfl ?_
  refine as1 rfl rfl ?_
  refine l_nil (n_then (ref_seq (ref_region ?_)))
  refine mv1 rfl rfl ?_
  refine mv1 rfl rfl ?_
  refine pull fun t5 h_t5 => ?_
  refine s_rd (r_oindex h_t5 Tryd.underlying22 el_3 rfl (j := 1) rfl rfl) rfl ?_
  refine s_rd (r_oload h_t5 el_3 rfl (j := 1) rfl) rfl ?_
  refine s_rd (r_eql rfl rfl) rfl ?_
  refine as1 rfl rfl ?_
  refine l_nil (n_then (ref_ret ?_))
  exact fin1 (.inl rfl) () [] rfl trivial rfl (rv_tmp rfl)

/-! deliberation/deliberationref22.Budget -/
noncomputable def ref22_Budget_l2 (weights_1 : (List Int)) (l100 : List Int) (s108 : Int × Int) : Option (Sum (Int) (Int × Int)) :=
  bif decide (s108.2 < (l100.length : Int)) then
    Option.bind (idxM l100 s108.2) fun t111 =>
    Option.bind (idxM weights_1 t111) fun t112 =>
    letM (iadd .i64 s108.1 t112) fun sum113 =>
    letM (iadd .i64 s108.2 1) fun i114 =>
    some (Sum.inr (sum113, i114))
  else
    some (Sum.inl s108.1)

noncomputable def ref22_Budget_l1 (g_0 : T_api_Graph) (weights_1 : (List Int)) (node_2 : Int) (s96 : Bool × Int × Int × (List Int)) : Option (Sum (Int × (List Int)) (Bool × Int × Int × (List Int))) :=
  Option.bind (ishlM .u64 1 (IntKind.wrap .u64 (g_0.L.length : Int))) fun t98 =>
  bif decide (s96.2.1 < t98) then
    Option.bind (net_Members_m s96.2.1) fun l100 =>
    Option.bind (loopC (ref22_Budget_l2 weights_1 l100) (0, 0)) fun q115 : Int =>
    joinM (fun j119 : Unit =>
        Option.bind (ref22_Frees_m g_0 l100 node_2) fun t122 =>
        bif t122 then
          letM (iadd .u64 s96.2.1 1) fun bits126 =>
          some (Sum.inr (true, bits126, q115, l100))
        else
          letM (iadd .u64 s96.2.1 1) fun bits127 =>
          some (Sum.inr (s96.1, bits127, s96.2.2.1, s96.2.2.2))) fun k121 =>
    bif s96.1 then
      bif decide (q115 > s96.2.2.1) then
        letM (iadd .u64 s96.2.1 1) fun bits124 =>
        some (Sum.inr (s96.1, bits124, s96.2.2.1, s96.2.2.2))
      else
        bif q115 == s96.2.2.1 then
          Option.bind (ref22_Before_m l100 s96.2.2.2) fun t117 =>
          bif !t117 then
            letM (iadd .u64 s96.2.1 1) fun bits125 =>
            some (Sum.inr (s96.1, bits125, s96.2.2.1, s96.2.2.2))
          else
            k121 ()
        else
          k121 ()
    else
      k121 ()
  else
    some (Sum.inl (s96.2.2.1, s96.2.2.2))

noncomputable def ref22_Budget_m (g_0 : T_api_Graph) (weights_1 : (List Int)) (node_2 : Int) : Option (T_api_Budget × Int) :=
  Option.bind (ref10_Validate_m g_0) fun e3 =>
  bif e3 != 0 then
    some ((T_api_Budget.mk 0 []), e3)
  else
    bif decide ((g_0.L.length : Int) > 12) then
      some ((T_api_Budget.mk 0 []), 2)
    else
      Option.bind (ref22_Weights_m g_0 weights_1) fun t6 =>
      bif !t6 then
        some ((T_api_Budget.mk 0 []), 1)
      else
        bif decide (node_2 < 0) then
          some ((T_api_Budget.mk 0 []), 1)
        else
          bif decide (node_2 ≥ g_0.N) then
            some ((T_api_Budget.mk 0 []), 1)
          else
            Option.bind (loopC (ref22_Budget_l1 g_0 weights_1 node_2) (false, 0, 0, [])) fun q128 : Int × (List Int) =>
            some ((T_api_Budget.mk q128.1 q128.2), 0)

theorem ref22_Budget_ok {g_0 : T_api_Graph} {weights_1 : (List Int)} {node_2 : Int} {r : T_api_Budget × Int} (hm : ref22_Budget_m g_0 weights_1 node_2 = some r) :
    FnOk prog 25 [ag [iv .i64 g_0.N, slv rT_api_Pair g_0.L], slv (rI .i64) weights_1, iv .i64 node_2] [] (fun (x : Unit) => [ag [iv .i64 r.1.Weight, slv (rI .i64) r.1.Dropped], iv .i64 r.2]) (fun (x : Unit) => []) := by
  refine fn_ok (fn := Tryd.f25) (N := 95) (res := fun r x => [ag [iv .i64 r.1.Weight, slv (rI .i64) r.1.Dropped], iv .i64 r.2]) (Ω1 := fun r x => []) Tryd.func25 rfl rfl hm rfl (fun E hM => ?_)
  unfold ref22_Budget_m
  refine ref_seq (ref_region ?_)
  refine s_st (s_box (part_agO (ψs := [iv .i64 g_0.N, slv rT_api_Pair g_0.L]) rfl ⟨.inl iv_at, .inl slv_at, trivial⟩)) rfl (fun b1 => ?_)
  refine s_st (s_alloc zt_32) rfl (fun b2 => ?_)
  refine as1 rfl rfl ?_
  refine l_nil (n_then (ref_seq (ref_seq (ref_region ?_))))
  refine s_rd (r_cloadS Tryd.isAgg27 Tryd.sizeOf27 rfl (j := 0) rfl rfl rfl) rfl ?_
  refine pull fun e3 h_e3 => ?_
  refine s_st (s_call (ψ := fun (_ : Unit) => iv .i64 e3) (args := [.tmp 15]) Tryd.call52 rfl (ref10_Validate_ok h_e3) ⟨arg rfl, trivial⟩ (fun _ _ _ _ h => h)) rfl (fun _ => ?_)
  refine as1 rfl rfl ?_
  refine l_nil (n_then (ref_seq (ref_region ?_)))
  refine mv1 rfl rfl ?_
  refine s_rd (r_neq rfl rfl) rfl ?_
  refine l_nil (n_then ?_)
  refine ref_cond rfl (fun hb4 => ?_) (fun hb4 => ?_)
  · refine ref_seq (ref_region ?_)
    refine s_rd (r_build (ps := []) (rs := []) st_32 zs_32 trivial rfl rfl) rfl ?_
    refine mv1 rfl rfl ?_
    refine s_st0 (s_cstore (out := [iv .i64 0, pv (.slice none 0 0)]) Tryd.sizeOf32 rfl (j := 1) rfl (part_agO (ψs := [iv .i64 0, pv (.slice none 0 0)]) rfl ⟨.inl iv_at, .inl (pv_at rfl), trivial⟩) rfl rfl rfl) (fun _ => ?_)
    refine as1 rfl rfl ?_
    refine l_nil ?_
    refine b_of (nrm [oc b1 [iv .i64 g_0.N, slv rT_api_Pair g_0.L], oc b2 [iv .i64 0, pv (.slice none 0 0)]] rfl) ?_
    refine n_then (ref_ret (r_then ?_))
    refine b_of (ocW 1 [iv .i64 0, slv (rI .i64) []] rfl ⟨imp_rfl, nil_sl, trivial⟩) ?_
    exact fin2 (.inl rfl) () [] rfl trivial rfl (rv_cell rfl (j := 1) rfl Tryd.isAgg32 Tryd.sizeOf32 rfl rfl) (rv_tmp rfl)
  refine ref_skip (n_then (ref_seq (ref_seq (ref_region ?_))))
  refine s_rd (r_faddr (fo := 1) Tryd.underlying27 rfl rfl Tryd.sizeOf25 rfl) rfl ?_
  refine s_rd (r_cload Tryd.isAgg25 rfl (j := 0) rfl rfl) rfl ?_
  refine s_rd (r_len Tryd.underlying25 rfl) rfl ?_
  refine s_rd (r_gtr rfl rfl) rfl ?_
  refine l_nil (n_then ?_)
  refine ref_cond rfl (fun hb5 => ?_) (fun hb5 => ?_)
  · refine ref_seq (ref_region ?_)
    refine s_rd (r_build (ps := []) (rs := []) st_32 zs_32 trivial rfl rfl) rfl ?_
    refine s_st0 (s_cstore (out := [iv .i64 0, pv (.slice none 0 0)]) Tryd.sizeOf32 rfl (j := 1) rfl (part_agO (ψs := [iv .i64 0, pv (.slice none 0 0)]) rfl ⟨.inl iv_at, .inl (pv_at rfl), trivial⟩) rfl rfl rfl) (fun _ => ?_)
    refine as1 rfl rfl ?_
    refine l_nil ?_
    refine b_of (nrm [oc b1 [iv .i64 g_0.N, slv rT_api_Pair g_0.L], oc b2 [iv .i64 0, pv (.slice none 0 0)]] rfl) ?_
    refine n_then (ref_ret (r_then ?_))
    refine b_of (ocW 1 [iv .i64 0, slv (rI .i64) []] rfl ⟨imp_rfl, nil_sl, trivial⟩) ?_
    exact fin2 (.inl rfl) () [] rfl trivial rfl (rv_cell rfl (j := 1) rfl Tryd.isAgg32 Tryd.sizeOf32 rfl rfl) (rv_tmp rfl)
  refine ref_skip (n_then (ref_seq (ref_seq (ref_region ?_))))
  refine s_rd (r_cloadS Tryd.isAgg27 Tryd.sizeOf27 rfl (j := 0) rfl rfl rfl) rfl ?_
  refine mv1 rfl rfl ?_
  refine pull fun t6 h_t6 => ?_
  refine s_st (s_call (ψ := fun (_ : Unit) => bv t6) (args := [.tmp 26, .tmp 27]) Tryd.call58 rfl (ref22_Weights_ok h_t6) ⟨arg rfl, arg rfl, trivial⟩ (fun _ _ _ _ h => h)) rfl (fun _ => ?_)
  refine s_rd (r_not rfl) rfl ?_
  refine mv1 rfl rfl ?_
  refine b_split (t := 30) rfl (fun _ => ?_) (fun _ => ?_)
  · refine s_off rfl rfl rfl rfl rfl ?_
    refine s_off rfl rfl rfl rfl rfl ?_
    refine s_rd (r_pickT rfl rfl) rfl ?_
    refine mv1 rfl rfl ?_
    refine s_off rfl rfl rfl rfl rfl ?_
    refine s_off rfl rfl rfl rfl rfl ?_
    refine s_off rfl rfl rfl rfl rfl ?_
    refine s_off rfl rfl rfl rfl rfl ?_
    refine s_rd (r_pickT rfl rfl) rfl ?_
    refine l_nil ?_
    refine b_of (nrm [oc b1 [iv .i64 g_0.N, slv rT_api_Pair g_0.L], oc b2 [iv .i64 0, pv (.slice none 0 0)]] rfl) ?_
    refine n_then ?_
    refine ref_condT rfl rfl ?_
    refine ref_seq (ref_region ?_)
    refine s_rd (r_build (ps := []) (rs := []) st_32 zs_32 trivial rfl rfl) rfl ?_
    refine s_st0 (s_cstore (out := [iv .i64 0, pv (.slice none 0 0)]) Tryd.sizeOf32 rfl (j := 1) rfl (part_agO (ψs := [iv .i64 0, pv (.slice none 0 0)]) rfl ⟨.inl iv_at, .inl (pv_at rfl), trivial⟩) rfl rfl rfl) (fun _ => ?_)
    refine as1 rfl rfl ?_
    refine l_nil (n_then (ref_ret (r_then ?_)))
    refine b_of (ocW 1 [iv .i64 0, slv (rI .i64) []] rfl ⟨imp_rfl, nil_sl, trivial⟩) ?_
    exact fin2 (.inl rfl) () [] rfl trivial rfl (rv_cell rfl (j := 1) rfl Tryd.isAgg32 Tryd.sizeOf32 rfl rfl) (rv_tmp rfl)
  refine s_on rfl rfl rfl ?_
  refine mv1 rfl rfl ?_
  refine s_on rfl rfl rfl ?_
  refine s_rd (r_lss rfl rfl) rfl ?_
  refine s_rd (r_pickF rfl rfl) rfl ?_
  refine mv1 rfl rfl ?_
  refine b_split (t := 34) rfl (fun _ => ?_) (fun _ => ?_)
  · refine s_off rfl rfl rfl rfl rfl ?_
    refine s_off rfl rfl rfl rfl rfl ?_
    refine s_off rfl rfl rfl rfl rfl ?_
    refine s_off rfl rfl rfl rfl rfl ?_
    refine s_rd (r_pickT rfl rfl) rfl ?_
    refine l_nil ?_
    refine b_of (nrm [oc b1 [iv .i64 g_0.N, slv rT_api_Pair g_0.L], oc b2 [iv .i64 0, pv (.slice none 0 0)]] rfl) ?_
    refine n_then ?_
    refine ref_condT rfl rfl ?_
    refine ref_seq (ref_region ?_)
    refine s_rd (r_build (ps := []) (rs := []) st_32 zs_32 trivial rfl rfl) rfl ?_
    refine s_st0 (s_cstore (out := [iv .i64 0, pv (.slice none 0 0)]) Tryd.sizeOf32 rfl (j := 1) rfl (part_agO (ψs := [iv .i64 0, pv (.slice none 0 0)]) rfl ⟨.inl iv_at, .inl (pv_at rfl), trivial⟩) rfl rfl rfl) (fun _ => ?_)
    refine as1 rfl rfl ?_
    refine l_nil (n_then (ref_ret (r_then ?_)))
    refine b_of (ocW 1 [iv .i64 0, slv (rI .i64) []] rfl ⟨imp_rfl, nil_sl, trivial⟩) ?_
    exact fin2 (.inl rfl) () [] rfl trivial rfl (rv_cell rfl (j := 1) rfl Tryd.isAgg32 Tryd.sizeOf32 rfl rfl) (rv_tmp rfl)
  refine s_on rfl rfl rfl ?_
  refine mv1 rfl rfl ?_
  refine s_on rfl rfl rfl ?_
  refine s_rd (r_faddr (fo := 0) Tryd.underlying27 rfl rfl Tryd.sizeOf3 rfl) rfl ?_
  refine s_on rfl rfl rfl ?_
  refine s_rd (r_cload Tryd.isAgg3 rfl (j := 0) rfl rfl) rfl ?_
  refine s_on rfl rfl rfl ?_
  refine s_rd (r_geq rfl rfl) rfl ?_
  refine s_rd (r_pickF rfl rfl) rfl ?_
  refine l_nil ?_
  refine b_of (nrm [oc b1 [iv .i64 g_0.N, slv rT_api_Pair g_0.L], oc b2 [iv .i64 0, pv (.slice none 0 0)]] rfl) ?_
  refine n_then ?_
  refine ref_cond rfl (fun hb7 => ?_) (fun hb7 => ?_)
  · refine ref_seq (ref_region ?_)
    refine s_rd (r_build (ps := []) (rs := []) st_32 zs_32 trivial rfl rfl) rfl ?_
    refine s_st0 (s_cstore (out := [iv .i64 0, pv (.slice none 0 0)]) Tryd.sizeOf32 rfl (j := 1) rfl (part_agO (ψs := [iv .i64 0, pv (.slice none 0 0)]) rfl ⟨.inl iv_at, .inl (pv_at rfl), trivial⟩) rfl rfl rfl) (fun _ => ?_)
    refine as1 rfl rfl ?_
    refine l_nil (n_then (ref_ret (r_then ?_)))
    refine b_of (ocW 1 [iv .i64 0, slv (rI .i64) []] rfl ⟨imp_rfl, nil_sl, trivial⟩) ?_
    exact fin2 (.inl rfl) () [] rfl trivial rfl (rv_cell rfl (j := 1) rfl Tryd.isAgg32 Tryd.sizeOf32 rfl rfl) (rv_tmp rfl)
  refine ref_skip (n_then (ref_seq (ref_region ?_)))
  refine s_st (s_alloc zt_32) rfl (fun b8 => ?_)
  refine l_nil (n_then (ref_seq (ref_region ?_)))
  refine as1 rfl rfl ?_
  refine l_nil (n_then (ref_seq (ref_seq (ref_region ?_))))
  refine as1 rfl rfl ?_
  refine l_nil (n_then ?_)
  refine b_of (own_nil (rI .i64)) ?_
  refine ref_loopB (f := (ref22_Budget_l1 g_0 weights_1 node_2)) (Γl := (fun (s96 : Bool × Int × Int × (List Int)) (x97 : (Value × List Nat)) => [(1, slv (rI .i64) weights_1), (2, iv .i64 node_2), (3, pv (ptr b1 0)), (6, pv (ptr b2 0)), (9, pv (ptr b8 0)), (10, bv s96.1), (11, iv .u64 s96.2.1)])) (Ωl := (fun (s96 : Bool × Int × Int × (List Int)) (x97 : (Value × List Nat)) => [oc b1 [iv .i64 g_0.N, slv rT_api_Pair g_0.L], oc b2 [iv .i64 0, pv (.slice none 0 0)], oc b8 [iv .i64 s96.2.2.1, pv x97.1], oa (rI .i64) x97.1 x97.2 s96.2.2.2])) (Γb := (fun (q128 : Int × (List Int)) (y129 : (Value × List Nat)) => [(6, pv (ptr b2 0)), (9, pv (ptr b8 0))])) (Ωb := (fun (q128 : Int × (List Int)) (y129 : (Value × List Nat)) => [oc b2 [iv .i64 0, pv (.slice none 0 0)], oc b8 [iv .i64 q128.1, pv y129.1], oa (rI .i64) y129.1 y129.2 q128.2])) (false, 0, 0, []) ((.slice none 0 0), []) (weak [0, 1, 2, 3] ⟨rfl, rfl, rfl, rfl, rfl, rfl, rfl, trivial⟩ ⟨rfl, rfl, rfl, rfl, trivial⟩) (fun s96 x97 => ?_) (fun q128 y129 => ?_)
  · unfold ref22_Budget_l1
    refine ref_seq (ref_seq (ref_region ?_))
    refine mv1 rfl rfl ?_
    refine s_rd (r_faddr (fo := 1) Tryd.underlying27 rfl rfl Tryd.sizeOf25 rfl) rfl ?_
    refine s_rd (r_cload Tryd.isAgg25 rfl (j := 0) rfl rfl) rfl ?_
    refine s_rd (r_len Tryd.underlying25 rfl) rfl ?_
    refine s_rd (r_conv (k' := .u64) rfl rfl rfl) rfl ?_
    refine pull fun t98 h_t98 => ?_
    refine s_rd (r_shlM h_t98 rfl rfl) rfl ?_
    refine s_rd (r_lss rfl rfl) rfl ?_
    refine l_nil (n_then ?_)
    refine ref_cond rfl (fun hb99 => ?_) (fun hb99 => ?_)
    · refine ref_skip (n_then (ref_seq (ref_block (ref_seq (ref_region ?_)))))
      refine mv1 rfl rfl ?_
      refine pull fun l100 h_l100 => ?_
      refine s_st (s_call (ψ := fun (x101 : (Value × List Nat)) => pv x101.1) (args := [.tmp 50]) Tryd.call59 rfl (net_Members_ok h_l100) ⟨arg rfl, trivial⟩ (fun _ _ _ _ h => h)) rfl (fun x101 => ?_)
      refine as1 rfl rfl ?_
      refine l_nil (n_then (ref_seq (ref_region ?_)))
      refine as1 rfl rfl ?_
      refine l_nil (n_then (ref_seq (ref_seq (ref_region ?_))))
      refine as1 rfl rfl ?_
      refine l_nil (n_then ?_)
      refine ref_loopB (f := (ref22_Budget_l2 weights_1 l100)) (Γl := (fun (s108 : Int × Int) (x109 : Unit) => [(1, slv (rI .i64) weights_1), (2, iv .i64 node_2), (3, pv (ptr b1 0)), (6, pv (ptr b2 0)), (9, pv (ptr b8 0)), (10, bv s96.1), (11, iv .u64 s96.2.1), (12, pv x101.1), (13, iv .i64 s108.1), (14, iv .i64 s108.2)])) (Ωl := (fun (s108 : Int × Int) (x109 : Unit) => [oc b1 [iv .i64 g_0.N, slv rT_api_Pair g_0.L], oc b2 [iv .i64 0, pv (.slice none 0 0)], oc b8 [iv .i64 s96.2.2.1, pv x97.1], oa (rI .i64) x97.1 x97.2 s96.2.2.2, oa (rI .i64) x101.1 x101.2 l100])) (Γb := (fun (q115 : Int) (y116 : Unit) => [(1, slv (rI .i64) weights_1), (2, iv .i64 node_2), (3, pv (ptr b1 0)), (6, pv (ptr b2 0)), (9, pv (ptr b8 0)), (10, bv s96.1), (11, iv .u64 s96.2.1), (12, pv x101.1), (13, iv .i64 q115)])) (Ωb := (fun (q115 : Int) (y116 : Unit) => [oc b1 [iv .i64 g_0.N, slv rT_api_Pair g_0.L], oc b2 [iv .i64 0, pv (.slice none 0 0)], oc b8 [iv .i64 s96.2.2.1, pv x97.1], oa (rI .i64) x97.1 x97.2 s96.2.2.2, oa (rI .i64) x101.1 x101.2 l100])) (0, 0) () (weak [0, 1, 2, 3, 4] ⟨rfl, rfl, rfl, rfl, rfl, rfl, rfl, rfl, rfl, rfl, trivial⟩ ⟨rfl, rfl, rfl, rfl, rfl, trivial⟩) (fun s108 x109 => ?_) (fun q115 y116 => ?_)
      · unfold ref22_Budget_l2
        refine ref_seq (ref_seq (ref_region ?_))
        refine mv1 rfl rfl ?_
        refine mv1 rfl rfl ?_
        refine s_rd (r_olen Tryd.underlying22 rfl (j := 4) rfl) rfl ?_
        refine s_rd (r_lss rfl rfl) rfl ?_
        refine l_nil (n_then ?_)
        refine ref_cond rfl (fun hb110 => ?_) (fun hb110 => ?_)
        · refine ref_skip (n_then (ref_seq (ref_block (ref_region ?_))))
          refine mv1 rfl rfl ?_
          refine mv1 rfl rfl ?_
          refine mv1 rfl rfl ?_
          refine mv1 rfl rfl ?_
          refine pull fun t111 h_t111 => ?_
          refine s_rd (r_oindex h_t111 Tryd.underlying22 el_3 rfl (j := 4) rfl rfl) rfl ?_
          refine s_rd (r_oload h_t111 el_3 rfl (j := 4) rfl) rfl ?_
          refine pull fun t112 h_t112 => ?_
          refine s_rd (r_index h_t112 Tryd.underlying22 el_3 rfl rfl) rfl ?_
          refine s_rd (r_load el_3 rfl) rfl ?_
          refine s_rd (r_add rfl rfl) rfl ?_
          refine as1 rfl rfl ?_
          refine b_let (f := iv .i64) (t := 13) rfl fun sum113 => ?_
          refine l_nil (n_block (n_then (ref_region ?_)))
          refine mv1 rfl rfl ?_
          refine s_rd (r_add rfl rfl) rfl ?_
          refine as1 rfl rfl ?_
          refine b_let (f := iv .i64) (t := 14) rfl fun i114 => ?_
          refine l_nil ?_
          exact goB () (weak [0, 1, 2, 3, 4] ⟨rfl, rfl, rfl, rfl, rfl, rfl, rfl, rfl, rfl, rfl, trivial⟩ ⟨rfl, rfl, rfl, rfl, rfl, trivial⟩)
        refine ref_exit (x_then ?_)
        exact brkB () (weak [0, 1, 2, 3, 4] ⟨rfl, rfl, rfl, rfl, rfl, rfl, rfl, rfl, rfl, trivial⟩ ⟨rfl, rfl, rfl, rfl, rfl, trivial⟩)
      refine n_then (ref_seq ?_)
      refine ref_join (fun (j119 : Unit) (x120 : Unit) => [(1, slv (rI .i64) weights_1), (2, iv .i64 node_2), (3, pv (ptr b1 0)), (6, pv (ptr b2 0)), (9, pv (ptr b8 0)), (10, bv s96.1), (11, iv .u64 s96.2.1), (12, pv x101.1), (13, iv .i64 q115)]) (fun (j119 : Unit) (x120 : Unit) => [oc b1 [iv .i64 g_0.N, slv rT_api_Pair g_0.L], oc b2 [iv .i64 0, pv (.slice none 0 0)], oc b8 [iv .i64 s96.2.2.1, pv x97.1], oa (rI .i64) x97.1 x97.2 s96.2.2.2, oa (rI .i64) x101.1 x101.2 l100]) (fun k121 hk121 => ?_) (fun j119 x120 => ?_)
      · refine ref_seq (ref_region ?_)
        refine mv1 rfl rfl ?_
        refine mv1 rfl rfl ?_
        refine b_split (t := 68) rfl (fun _ => ?_) (fun _ => ?_)
        · refine s_on rfl rfl rfl ?_
          refine mv1 rfl rfl ?_
          refine s_on rfl rfl rfl ?_
          refine s_rd (r_faddr (fo := 0) Tryd.underlying32 rfl rfl Tryd.sizeOf3 rfl) rfl ?_
          refine s_on rfl rfl rfl ?_
          refine s_rd (r_cload Tryd.isAgg3 rfl (j := 2) rfl rfl) rfl ?_
          refine s_on rfl rfl rfl ?_
          refine s_rd (r_gtr rfl rfl) rfl ?_
          refine s_on rfl rfl rfl ?_
          refine mv1 rfl rfl ?_
          refine b_split (t := 73) rfl (fun _ => ?_) (fun _ => ?_)
          · refine s_off rfl rfl rfl rfl rfl ?_
            refine s_off rfl rfl rfl rfl rfl ?_
            refine s_off rfl rfl rfl rfl rfl ?_
            refine s_off rfl rfl rfl rfl rfl ?_
            refine s_off rfl rfl rfl rfl rfl ?_
            refine s_offU rfl rfl rfl ?_
            refine s_offU rfl rfl rfl ?_
            refine s_offU rfl rfl rfl ?_
            refine s_offU rfl rfl rfl ?_
            refine s_offU rfl rfl rfl ?_
            refine s_off rfl rfl rfl rfl rfl ?_
            refine s_on rfl rfl rfl ?_
            refine s_rd (r_pickT rfl rfl) rfl ?_
            refine s_rd (r_pickT rfl rfl) rfl ?_
            refine l_nil (n_then ?_)
            refine ref_condT rfl rfl ?_
            refine ref_exit (x_then (x_eq (n_then (ref_region ?_))))
            refine mv1 rfl rfl ?_
            refine s_rd (r_add rfl rfl) rfl ?_
            refine as1 rfl rfl ?_
            refine b_let (f := iv .u64) (t := 11) rfl fun bits124 => ?_
            refine l_nil ?_
            exact goB x97 (weak [0, 1, 2, 3] ⟨rfl, rfl, rfl, rfl, rfl, rfl, rfl, trivial⟩ ⟨rfl, rfl, rfl, rfl, trivial⟩)
          refine s_on rfl rfl rfl ?_
          refine mv1 rfl rfl ?_
          refine s_on rfl rfl rfl ?_
          refine s_rd (r_faddr (fo := 0) Tryd.underlying32 rfl rfl Tryd.sizeOf3 rfl) rfl ?_
          refine s_on rfl rfl rfl ?_
          refine s_rd (r_cload Tryd.isAgg3 rfl (j := 2) rfl rfl) rfl ?_
          refine s_on rfl rfl rfl ?_
          refine s_rd (r_eql rfl rfl) rfl ?_
          refine s_on rfl rfl rfl ?_
          refine mv1 rfl rfl ?_
          refine b_split (t := 78) rfl (fun _ => ?_) (fun _ => ?_)
          · refine s_on rfl rfl rfl ?_
            refine mv1 rfl rfl ?_
            refine s_on rfl rfl rfl ?_
            refine s_rd (r_faddr (fo := 1) Tryd.underlying32 rfl rfl Tryd.sizeOf22 rfl) rfl ?_
            refine s_on rfl rfl rfl ?_
            refine s_rd (r_cload Tryd.isAgg22 rfl (j := 2) rfl rfl) rfl ?_
            refine s_on rfl rfl rfl ?_
            refine pull fun t117 h_t117 => ?_
            refine s_st (s_callB (ψ := fun (_ : Unit) => bv t117) (args := [.tmp 79, .tmp 81]) Tryd.call60 rfl (ref22_Before_ok h_t117) ⟨argO rfl (j := 4) rfl, argO rfl (j := 3) rfl, trivial⟩ (fun _ _ _ _ _ h => h)) rfl (fun _ => ?_)
            refine s_on rfl rfl rfl ?_
            refine s_rd (r_not rfl) rfl ?_
            refine s_on rfl rfl rfl ?_
            refine s_rd (r_pickT rfl rfl) rfl ?_
            refine s_on rfl rfl rfl ?_
            refine s_rd (r_pickF rfl rfl) rfl ?_
            refine s_rd (r_pickT rfl rfl) rfl ?_
            refine l_nil (n_then ?_)
            refine ref_cond rfl (fun hb118 => ?_) (fun hb118 => ?_)
            · refine ref_exit (x_then (x_eq (n_then (ref_region ?_))))
              refine mv1 rfl rfl ?_
              refine s_rd (r_add rfl rfl) rfl ?_
              refine as1 rfl rfl ?_
              refine b_let (f := iv .u64) (t := 11) rfl fun bits125 => ?_
              refine l_nil ?_
              exact goB x97 (weak [0, 1, 2, 3] ⟨rfl, rfl, rfl, rfl, rfl, rfl, rfl, trivial⟩ ⟨rfl, rfl, rfl, rfl, trivial⟩)
            refine ref_skip ?_
            exact b_to (hk121 () ()) (weak [0, 1, 2, 3, 4] ⟨rfl, rfl, rfl, rfl, rfl, rfl, rfl, rfl, rfl, trivial⟩ ⟨rfl, rfl, rfl, rfl, rfl, trivial⟩)
          refine s_off rfl rfl rfl rfl rfl ?_
          refine s_off rfl rfl rfl rfl rfl ?_
          refine s_off rfl rfl rfl rfl rfl ?_
          refine s_off rfl rfl rfl rfl rfl ?_
          refine s_off rfl rfl rfl rfl rfl ?_
          refine s_on rfl rfl rfl ?_
          refine s_rd (r_pickF rfl rfl) rfl ?_
          refine s_on rfl rfl rfl ?_
          refine s_rd (r_pickF rfl rfl) rfl ?_
          refine s_rd (r_pickT rfl rfl) rfl ?_
          refine l_nil (n_then ?_)
          refine ref_condF rfl rfl ?_
          refine ref_skip ?_
          exact b_to (hk121 () ()) (weak [0, 1, 2, 3, 4] ⟨rfl, rfl, rfl, rfl, rfl, rfl, rfl, rfl, rfl, trivial⟩ ⟨rfl, rfl, rfl, rfl, rfl, trivial⟩)
        refine s_off rfl rfl rfl rfl rfl ?_
        refine s_off rfl rfl rfl rfl rfl ?_
        refine s_off rfl rfl rfl rfl rfl ?_
        refine s_off rfl rfl rfl rfl rfl ?_
        refine s_off rfl rfl rfl rfl rfl ?_
        refine s_offU rfl rfl rfl ?_
        refine s_offU rfl rfl rfl ?_
        refine s_offU rfl rfl rfl ?_
        refine s_offU rfl rfl rfl ?_
        refine s_offU rfl rfl rfl ?_
        refine s_offU rfl rfl rfl ?_
        refine s_offU rfl rfl rfl ?_
        refine s_offU rfl rfl rfl ?_
        refine s_offU rfl rfl rfl ?_
        refine s_offU rfl rfl rfl ?_
        refine s_offU rfl rfl rfl ?_
        refine s_off rfl rfl rfl rfl rfl ?_
        refine s_rd (r_pickF rfl rfl) rfl ?_
        refine l_nil (n_then ?_)
        refine ref_condF rfl rfl ?_
        refine ref_skip ?_
        exact b_to (hk121 () ()) (weak [0, 1, 2, 3, 4] ⟨rfl, rfl, rfl, rfl, rfl, rfl, rfl, rfl, rfl, trivial⟩ ⟨rfl, rfl, rfl, rfl, rfl, trivial⟩)
      refine n_then (ref_seq (ref_region ?_))
      refine s_rd (r_cloadS Tryd.isAgg27 Tryd.sizeOf27 rfl (j := 0) rfl rfl rfl) rfl ?_
      refine mv1 rfl rfl ?_
      refine mv1 rfl rfl ?_
      refine pull fun t122 h_t122 => ?_
      refine s_st (s_callB (ψ := fun (_ : Unit) => bv t122) (args := [.tmp 87, .tmp 88, .tmp 89]) Tryd.call13 rfl (ref22_Frees_ok h_t122) ⟨argB rfl, argO rfl (j := 4) rfl, argB rfl, trivial⟩ (fun _ _ _ _ _ h => h)) rfl (fun _ => ?_)
      refine l_nil (n_then ?_)
      refine ref_cond rfl (fun hb123 => ?_) (fun hb123 => ?_)
      · refine ref_region ?_
        refine mv1 rfl rfl ?_
        refine mv1 rfl rfl ?_
        refine s_rd (r_build (ps := [(0, .tmp 91), (1, .tmp 92)]) (rs := [(0, [iv .i64 q115]), (1, [pv x101.1])]) st_32 zs_32 ⟨rfl, (part_at rfl iv_at), ⟨rfl, (part_own rfl (j := 4) rfl), trivial⟩⟩ rfl rfl) rfl ?_
        refine s_st0 (s_cstore (out := [iv .i64 q115, pv x101.1]) Tryd.sizeOf32 rfl (j := 2) rfl (part_agO (ψs := [iv .i64 q115, pv x101.1]) rfl ⟨.inl iv_at, .inr ⟨_, _, _, _, _, 4, rfl, rfl⟩, trivial⟩) rfl rfl rfl) (fun _ => ?_)
        refine as1 rfl rfl ?_
        refine l_nil (n_block (n_then (ref_region ?_)))
        refine mv1 rfl rfl ?_
        refine s_rd (r_add rfl rfl) rfl ?_
        refine as1 rfl rfl ?_
        refine b_let (f := iv .u64) (t := 11) rfl fun bits126 => ?_
        refine l_nil ?_
        exact goB x101 (weak [0, 1, 2, 4] ⟨rfl, rfl, rfl, rfl, rfl, rfl, rfl, trivial⟩ ⟨rfl, rfl, rfl, rfl, trivial⟩)
      refine ref_skip (n_block (n_then (ref_region ?_)))
      refine mv1 rfl rfl ?_
      refine s_rd (r_add rfl rfl) rfl ?_
      refine as1 rfl rfl ?_
      refine b_let (f := iv .u64) (t := 11) rfl fun bits127 => ?_
      refine l_nil ?_
      exact goB x97 (weak [0, 1, 2, 3] ⟨rfl, rfl, rfl, rfl, rfl, rfl, rfl, trivial⟩ ⟨rfl, rfl, rfl, rfl, trivial⟩)
    refine ref_exit (x_then ?_)
    exact brkB x97 (weak [1, 2, 3] ⟨rfl, rfl, trivial⟩ ⟨rfl, rfl, rfl, trivial⟩)
  refine n_then (ref_seq (ref_region ?_))
  refine s_rd (r_cloadS Tryd.isAgg32 Tryd.sizeOf32 rfl (j := 1) rfl rfl rfl) rfl ?_
  refine s_st0 (s_cstore (out := [iv .i64 q128.1, pv y129.1]) Tryd.sizeOf32 rfl (j := 0) rfl (part_agO (ψs := [iv .i64 q128.1, pv y129.1]) rfl ⟨.inl iv_at, .inr ⟨_, _, _, _, _, 2, rfl, rfl⟩, trivial⟩) rfl rfl rfl) (fun _ => ?_)
  refine as1 rfl rfl ?_
  refine l_nil (n_then (ref_ret ?_))
  refine b_of (frzGL [(94, ag [iv .i64 q128.1, slv (rI .i64) q128.2])] [(0, b2, [iv .i64 q128.1, slv (rI .i64) q128.2]), (1, b8, [iv .i64 q128.1, slv (rI .i64) q128.2])] (j := 2) rfl ⟨⟨_, rfl, .inr ⟨_, _, rfl, rfl, ⟨.inl rfl, .inr ⟨rfl, rfl⟩, trivial⟩⟩⟩, trivial⟩ ⟨⟨_, rfl, ⟨.inl rfl, .inr ⟨rfl, rfl⟩, trivial⟩⟩, ⟨_, rfl, ⟨.inl rfl, .inr ⟨rfl, rfl⟩, trivial⟩⟩, trivial⟩) ?_
  refine b_of (nrm [oc b2 [iv .i64 q128.1, slv (rI .i64) q128.2], oc b8 [iv .i64 q128.1, slv (rI .i64) q128.2], dead] rfl) ?_
  exact fin2 (.inl rfl) () [] rfl trivial rfl (rv_cell rfl (j := 0) rfl Tryd.isAgg32 Tryd.sizeOf32 rfl rfl) (rv_tmp rfl)

/-! deliberation/deliberationref22.Cut -/
noncomputable def ref22_Cut_l1 (weights_1 : (List Int)) (t_2 : Int) (s23 : Int × (List Int)) : Option (Sum ((List Int)) (Int × (List Int))) :=
  bif decide (s23.1 < (weights_1.length : Int)) then
    Option.bind (idxM weights_1 s23.1) fun t26 =>
    bif decide (t26 < t_2) then
      Option.bind (appM 8 s23.2 [s23.1]) fun gone28 =>
      letM (iadd .i64 s23.1 1) fun i30 =>
      some (Sum.inr (i30, gone28))
    else
      letM (iadd .i64 s23.1 1) fun i31 =>
      some (Sum.inr (i31, s23.2))
  else
    some (Sum.inl s23.2)

noncomputable def ref22_Cut_m (g_0 : T_api_Graph) (weights_1 : (List Int)) (t_2 : Int) : Option (T_api_Graph × Int) :=
  Option.bind (ref10_Validate_m g_0) fun e3 =>
  bif e3 != 0 then
    some ((T_api_Graph.mk 0 []), e3)
  else
    Option.bind (ref22_Weights_m g_0 weights_1) fun t5 =>
    bif !t5 then
      some ((T_api_Graph.mk 0 []), 1)
    else
      Option.bind (loopC (ref22_Cut_l1 weights_1 t_2) (0, [])) fun q32 : (List Int) =>
      Option.bind (ref22_drop_m g_0 q32) fun t34 =>
      some (t34, 0)

theorem ref22_Cut_ok {g_0 : T_api_Graph} {weights_1 : (List Int)} {t_2 : Int} {r : T_api_Graph × Int} (hm : ref22_Cut_m g_0 weights_1 t_2 = some r) :
    FnOk prog 30 [ag [iv .i64 g_0.N, slv rT_api_Pair g_0.L], slv (rI .i64) weights_1, iv .i64 t_2] [] (fun (x : Unit) => [ag [iv .i64 r.1.N, slv rT_api_Pair r.1.L], iv .i64 r.2]) (fun (x : Unit) => []) := by
  refine fn_ok (fn := Tryd.f30) (N := 41) (res := fun r x => [ag [iv .i64 r.1.N, slv rT_api_Pair r.1.L], iv .i64 r.2]) (Ω1 := fun r x => []) Tryd.func30 rfl rfl hm rfl (fun E hM => ?_)
  unfold ref22_Cut_m
  refine ref_seq (ref_region ?_)
  refine s_st (s_box (part_agO (ψs := [iv .i64 g_0.N, slv rT_api_Pair g_0.L]) rfl ⟨.inl iv_at, .inl slv_at, trivial⟩)) rfl (fun b1 => ?_)
  refine s_st (s_alloc zt_27) rfl (fun b2 => ?_)
  refine as1 rfl rfl ?_
  refine l_nil (n_then (ref_seq (ref_seq (ref_region ?_))))
  refine s_rd (r_cloadS Tryd.isAgg27 Tryd.sizeOf27 rfl (j := 0) rfl rfl rfl) rfl ?_
  refine pull fun e3 h_e3 => ?_
  refine s_st (s_call (ψ := fun (_ : Unit) => iv .i64 e3) (args := [.tmp 11]) Tryd.call52 rfl (ref10_Validate_ok h_e3) ⟨arg rfl, trivial⟩ (fun _ _ _ _ h => h)) rfl (fun _ => ?_)
  refine as1 rfl rfl ?_
  refine l_nil (n_then (ref_seq (ref_region ?_)))
  refine mv1 rfl rfl ?_
  refine s_rd (r_neq rfl rfl) rfl ?_
  refine l_nil (n_then ?_)
  refine ref_cond rfl (fun hb4 => ?_) (fun hb4 => ?_)
  · refine ref_seq (ref_region ?_)
    refine s_rd (r_build (ps := []) (rs := []) st_27 zs_27 trivial rfl rfl) rfl ?_
    refine mv1 rfl rfl ?_
    refine s_st0 (s_cstore (out := [iv .i64 0, pv (.slice none 0 0)]) Tryd.sizeOf27 rfl (j := 1) rfl (part_agO (ψs := [iv .i64 0, pv (.slice none 0 0)]) rfl ⟨.inl iv_at, .inl (pv_at rfl), trivial⟩) rfl rfl rfl) (fun _ => ?_)
    refine as1 rfl rfl ?_
    refine l_nil ?_
    refine b_of (nrm [oc b1 [iv .i64 g_0.N, slv rT_api_Pair g_0.L], oc b2 [iv .i64 0, pv (.slice none 0 0)]] rfl) ?_
    refine n_then (ref_ret (r_then ?_))
    refine b_of (ocW 1 [iv .i64 0, slv rT_api_Pair []] rfl ⟨imp_rfl, nil_sl, trivial⟩) ?_
    exact fin2 (.inl rfl) () [] rfl trivial rfl (rv_cell rfl (j := 1) rfl Tryd.isAgg27 Tryd.sizeOf27 rfl rfl) (rv_tmp rfl)
  refine ref_skip (n_then (ref_seq (ref_seq (ref_region ?_))))
  refine s_rd (r_cloadS Tryd.isAgg27 Tryd.sizeOf27 rfl (j := 0) rfl rfl rfl) rfl ?_
  refine mv1 rfl rfl ?_
  refine pull fun t5 h_t5 => ?_
  refine s_st (s_call (ψ := fun (_ : Unit) => bv t5) (args := [.tmp 17, .tmp 18]) Tryd.call58 rfl (ref22_Weights_ok h_t5) ⟨arg rfl, arg rfl, trivial⟩ (fun _ _ _ _ h => h)) rfl (fun _ => ?_)
  refine s_rd (r_not rfl) rfl ?_
  refine l_nil ?_
  refine b_of (nrm [oc b1 [iv .i64 g_0.N, slv rT_api_Pair g_0.L], oc b2 [iv .i64 0, pv (.slice none 0 0)]] rfl) ?_
  refine n_then ?_
  refine ref_cond rfl (fun hb6 => ?_) (fun hb6 => ?_)
  · refine ref_seq (ref_region ?_)
    refine s_rd (r_build (ps := []) (rs := []) st_27 zs_27 trivial rfl rfl) rfl ?_
    refine s_st0 (s_cstore (out := [iv .i64 0, pv (.slice none 0 0)]) Tryd.sizeOf27 rfl (j := 1) rfl (part_agO (ψs := [iv .i64 0, pv (.slice none 0 0)]) rfl ⟨.inl iv_at, .inl (pv_at rfl), trivial⟩) rfl rfl rfl) (fun _ => ?_)
    refine as1 rfl rfl ?_
    refine l_nil (n_then (ref_ret (r_then ?_)))
    refine b_of (ocW 1 [iv .i64 0, slv rT_api_Pair []] rfl ⟨imp_rfl, nil_sl, trivial⟩) ?_
    exact fin2 (.inl rfl) () [] rfl trivial rfl (rv_cell rfl (j := 1) rfl Tryd.isAgg27 Tryd.sizeOf27 rfl rfl) (rv_tmp rfl)
  refine ref_skip (n_then (ref_seq (ref_region ?_)))
  refine as1 rfl rfl ?_
  refine l_nil (n_then (ref_seq (ref_seq (ref_region ?_))))
  refine as1 rfl rfl ?_
  refine l_nil (n_then ?_)
  refine b_of (own_nil (rI .i64)) ?_
  refine ref_loopB (f := (ref22_Cut_l1 weights_1 t_2)) (Γl := (fun (s23 : Int × (List Int)) (x24 : (Value × List Nat)) => [(1, slv (rI .i64) weights_1), (2, iv .i64 t_2), (3, pv (ptr b1 0)), (6, pv (ptr b2 0)), (9, pv x24.1), (10, iv .i64 s23.1)])) (Ωl := (fun (s23 : Int × (List Int)) (x24 : (Value × List Nat)) => [oc b1 [iv .i64 g_0.N, slv rT_api_Pair g_0.L], oc b2 [iv .i64 0, pv (.slice none 0 0)], oa (rI .i64) x24.1 x24.2 s23.2])) (Γb := (fun (q32 : (List Int)) (y33 : (Value × List Nat)) => [(3, pv (ptr b1 0)), (6, pv (ptr b2 0)), (9, pv y33.1)])) (Ωb := (fun (q32 : (List Int)) (y33 : (Value × List Nat)) => [oc b1 [iv .i64 g_0.N, slv rT_api_Pair g_0.L], oc b2 [iv .i64 0, pv (.slice none 0 0)], oa (rI .i64) y33.1 y33.2 q32])) (0, []) ((.slice none 0 0), []) (weak [0, 1, 2] ⟨rfl, rfl, rfl, rfl, rfl, rfl, trivial⟩ ⟨rfl, rfl, rfl, trivial⟩) (fun s23 x24 => ?_) (fun q32 y33 => ?_)
  · unfold ref22_Cut_l1
    refine ref_seq (ref_seq (ref_region ?_))
    refine mv1 rfl rfl ?_
    refine mv1 rfl rfl ?_
    refine s_rd (r_len Tryd.underlying22 rfl) rfl ?_
    refine s_rd (r_lss rfl rfl) rfl ?_
    refine l_nil (n_then ?_)
    refine ref_cond rfl (fun hb25 => ?_) (fun hb25 => ?_)
    · refine ref_skip (n_then (ref_seq (ref_block (ref_seq (ref_region ?_)))))
      refine mv1 rfl rfl ?_
      refine mv1 rfl rfl ?_
      refine pull fun t26 h_t26 => ?_
      refine s_rd (r_index h_t26 Tryd.underlying22 el_3 rfl rfl) rfl ?_
      refine s_rd (r_load el_3 rfl) rfl ?_
      refine mv1 rfl rfl ?_
      refine s_rd (r_lss rfl rfl) rfl ?_
      refine l_nil (n_then ?_)
      refine ref_cond rfl (fun hb27 => ?_) (fun hb27 => ?_)
      · refine ref_region ?_
        refine mv1 rfl rfl ?_
        refine mv1 rfl rfl ?_
        refine s_st (s_bslice (xs := [.tmp 35]) (ds := [s23.1]) Tryd.underlying22 el_3 rfl (Nat.le_of_ble_eq_true rfl) ⟨(part_at rfl iv_at), trivial⟩) rfl (fun _ => ?_)
        refine pull fun gone28 h_gone28 => ?_
        refine s_st (s_append h_gone28 Tryd.underlying22 el_3 rfl (j := 2) rfl rfl) rfl (fun o29 => ?_)
        refine as1 rfl rfl ?_
        refine l_nil (n_block (n_then (ref_region ?_)))
        refine mv1 rfl rfl ?_
        refine s_rd (r_add rfl rfl) rfl ?_
        refine as1 rfl rfl ?_
        refine b_let (f := iv .i64) (t := 10) rfl fun i30 => ?_
        refine l_nil ?_
        exact goB o29 (weak [0, 1, 2] ⟨rfl, rfl, rfl, rfl, rfl, rfl, trivial⟩ ⟨rfl, rfl, rfl, trivial⟩)
      refine ref_skip (n_block (n_then (ref_region ?_)))
      refine mv1 rfl rfl ?_
      refine s_rd (r_add rfl rfl) rfl ?_
      refine as1 rfl rfl ?_
      refine b_let (f := iv .i64) (t := 10) rfl fun i31 => ?_
      refine l_nil ?_
      exact goB x24 (weak [0, 1, 2] ⟨rfl, rfl, rfl, rfl, rfl, rfl, trivial⟩ ⟨rfl, rfl, rfl, trivial⟩)
    refine ref_exit (x_then ?_)
    exact brkB x24 (weak [0, 1, 2] ⟨rfl, rfl, rfl, trivial⟩ ⟨rfl, rfl, rfl, trivial⟩)
  refine n_then (ref_seq (ref_region ?_))
  refine s_rd (r_cloadS Tryd.isAgg27 Tryd.sizeOf27 rfl (j := 0) rfl rfl rfl) rfl ?_
  refine mv1 rfl rfl ?_
  refine b_of (frzL [9, 39] (j := 2) rfl ⟨rfl, rfl, trivial⟩) ?_
  refine pull fun t34 h_t34 => ?_
  refine s_st (s_call (ψ := fun (_ : Unit) => ag [iv .i64 t34.N, slv rT_api_Pair t34.L]) (args := [.tmp 38, .tmp 39]) Tryd.call44 rfl (ref22_drop_ok h_t34) ⟨arg rfl, arg rfl, trivial⟩ (fun _ _ _ _ h => h)) rfl (fun _ => ?_)
  refine s_st0 (s_cstore (out := [iv .i64 t34.N, slv rT_api_Pair t34.L]) Tryd.sizeOf27 rfl (j := 1) rfl (part_agO (ψs := [iv .i64 t34.N, slv rT_api_Pair t34.L]) rfl ⟨.inl iv_at, .inl slv_at, trivial⟩) rfl rfl rfl) (fun _ => ?_)
  refine as1 rfl rfl ?_
  refine l_nil (n_then (ref_ret ?_))
  exact fin2 (.inl rfl) () [] rfl trivial rfl (rv_cell rfl (j := 1) rfl Tryd.isAgg27 Tryd.sizeOf27 rfl rfl) (rv_tmp rfl)

/-! deliberation/deliberationref22.Levels -/
noncomputable def ref22_Levels_l2 (weights_1 : (List Int)) (s58 : Int × (List Int)) (s66 : Int × Int) : Option (Sum (Int) (Int × Int)) :=
  bif decide (s66.2 < (weights_1.length : Int)) then
    Option.bind (idxM weights_1 s66.2) fun t69 =>
    bif decide (t69 > s58.1) then
      Option.bind (idxM weights_1 s66.2) fun t71 =>
      letM (iadd .i64 s66.2 1) fun i72 =>
      some (Sum.inr (imin s66.1 t71, i72))
    else
      letM (iadd .i64 s66.2 1) fun i73 =>
      some (Sum.inr (s66.1, i73))
  else
    some (Sum.inl s66.1)

noncomputable def ref22_Levels_l1 (g_0 : T_api_Graph) (weights_1 : (List Int)) (node_2 : Int) (s58 : Int × (List Int)) : Option (Sum (List Int × Int) (Int × (List Int))) :=
  Option.bind (loopC (ref22_Levels_l2 weights_1 s58) (1001, 0)) fun q74 : Int =>
  Option.bind (ref22_Cut_m g_0 weights_1 q74) fun t76 =>
  Option.bind (net_Grounded_m t76.1) fun t78 =>
  Option.bind (idxM t78.1 node_2) fun t80 =>
  Option.bind (appM 8 s58.2 [t80]) fun out81 =>
  bif decide (q74 > 1000) then
    some (Sum.inl (out81, 0))
  else
    some (Sum.inr (q74, out81))

noncomputable def ref22_Levels_m (g_0 : T_api_Graph) (weights_1 : (List Int)) (node_2 : Int) : Option (List Int × Int) :=
  Option.bind (ref10_Validate_m g_0) fun e2 =>
  bif e2 != 0 then
    some ([], e2)
  else
    Option.bind (ref22_Weights_m g_0 weights_1) fun t4 =>
    bif !t4 then
      some ([], 1)
    else
      bif decide (node_2 < 0) then
        some ([], 1)
      else
        bif decide (node_2 ≥ g_0.N) then
          some ([], 1)
        else
          Option.bind (loopC (ref22_Levels_l1 g_0 weights_1 node_2) ((-1), [])) (fun a : List Int × Int => some a)

theorem ref22_Levels_ok {g_0 : T_api_Graph} {weights_1 : (List Int)} {node_2 : Int} {r : List Int × Int} (hm : ref22_Levels_m g_0 weights_1 node_2 = some r) :
    FnOk prog 27 [ag [iv .i64 g_0.N, slv rT_api_Pair g_0.L], slv (rI .i64) weights_1, iv .i64 node_2] [] (fun (x : (Value × List Nat)) => [pv x.1, iv .i64 r.2]) (fun (x : (Value × List Nat)) => [oa (rI .i64) x.1 x.2 r.1]) := by
  refine fn_ok (X := (Value × List Nat)) (fn := Tryd.f27) (N := 77) (res := fun r x => [pv x.1, iv .i64 r.2]) (Ω1 := fun r x => [oa (rI .i64) x.1 x.2 r.1]) Tryd.func27 rfl rfl hm rfl (fun E hM => ?_)
  unfold ref22_Levels_m
  refine ref_seq (ref_region ?_)
  refine s_st (s_box (part_agO (ψs := [iv .i64 g_0.N, slv rT_api_Pair g_0.L]) rfl ⟨.inl iv_at, .inl slv_at, trivial⟩)) rfl (fun b1 => ?_)
  refine as1 rfl rfl ?_
  refine as1 rfl rfl ?_
  refine l_nil (n_then (ref_seq (ref_seq (ref_region ?_))))
  refine s_rd (r_cloadS Tryd.isAgg27 Tryd.sizeOf27 rfl (j := 0) rfl rfl rfl) rfl ?_
  refine pull fun e2 h_e2 => ?_
  refine s_st (s_call (ψ := fun (_ : Unit) => iv .i64 e2) (args := [.tmp 17]) Tryd.call52 rfl (ref10_Validate_ok h_e2) ⟨arg rfl, trivial⟩ (fun _ _ _ _ h => h)) rfl (fun _ => ?_)
  refine as1 rfl rfl ?_
  refine l_nil (n_then (ref_seq (ref_region ?_)))
  refine mv1 rfl rfl ?_
  refine s_rd (r_neq rfl rfl) rfl ?_
  refine l_nil (n_then ?_)
  refine ref_cond rfl (fun hb3 => ?_) (fun hb3 => ?_)
  · refine ref_seq (ref_region ?_)
    refine mv1 rfl rfl ?_
    refine as1 rfl rfl ?_
    refine as1 rfl rfl ?_
    refine l_nil (n_then (ref_ret (r_then ?_)))
    refine b_of (own_nil (rI .i64)) ?_
    exact fin2 (.inl rfl) ((.slice none 0 0), []) [1] rfl ⟨rfl, trivial⟩ rfl (rv_tmp rfl) (rv_tmp rfl)
  refine ref_skip (n_then (ref_seq (ref_seq (ref_region ?_))))
  refine s_rd (r_cloadS Tryd.isAgg27 Tryd.sizeOf27 rfl (j := 0) rfl rfl rfl) rfl ?_
  refine mv1 rfl rfl ?_
  refine pull fun t4 h_t4 => ?_
  refine s_st (s_call (ψ := fun (_ : Unit) => bv t4) (args := [.tmp 22, .tmp 23]) Tryd.call58 rfl (ref22_Weights_ok h_t4) ⟨arg rfl, arg rfl, trivial⟩ (fun _ _ _ _ h => h)) rfl (fun _ => ?_)
  refine s_rd (r_not rfl) rfl ?_
  refine mv1 rfl rfl ?_
  refine b_split (t := 26) rfl (fun _ => ?_) (fun _ => ?_)
  · refine s_off rfl rfl rfl rfl rfl ?_
    refine s_off rfl rfl rfl rfl rfl ?_
    refine s_rd (r_pickT rfl rfl) rfl ?_
    refine mv1 rfl rfl ?_
    refine s_off rfl rfl rfl rfl rfl ?_
    refine s_off rfl rfl rfl rfl rfl ?_
    refine s_off rfl rfl rfl rfl rfl ?_
    refine s_off rfl rfl rfl rfl rfl ?_
    refine s_rd (r_pickT rfl rfl) rfl ?_
    refine l_nil (n_then ?_)
    refine ref_condT rfl rfl ?_
    refine ref_seq (ref_region ?_)
    refine as1 rfl rfl ?_
    refine as1 rfl rfl ?_
    refine l_nil (n_then (ref_ret (r_then ?_)))
    refine b_of (own_nil (rI .i64)) ?_
    exact fin2 (.inl rfl) ((.slice none 0 0), []) [1] rfl ⟨rfl, trivial⟩ rfl (rv_tmp rfl) (rv_tmp rfl)
  refine s_on rfl rfl rfl ?_
  refine mv1 rfl rfl ?_
  refine s_on rfl rfl rfl ?_
  refine s_rd (r_lss rfl rfl) rfl ?_
  refine s_rd (r_pickF rfl rfl) rfl ?_
  refine mv1 rfl rfl ?_
  refine b_split (t := 30) rfl (fun _ => ?_) (fun _ => ?_)
  · refine s_off rfl rfl rfl rfl rfl ?_
    refine s_off rfl rfl rfl rfl rfl ?_
    refine s_off rfl rfl rfl rfl rfl ?_
    refine s_off rfl rfl rfl rfl rfl ?_
    refine s_rd (r_pickT rfl rfl) rfl ?_
    refine l_nil (n_then ?_)
    refine ref_condT rfl rfl ?_
    refine ref_seq (ref_region ?_)
    refine as1 rfl rfl ?_
    refine as1 rfl rfl ?_
    refine l_nil (n_then (ref_ret (r_then ?_)))
    refine b_of (own_nil (rI .i64)) ?_
    exact fin2 (.inl rfl) ((.slice none 0 0), []) [1] rfl ⟨rfl, trivial⟩ rfl (rv_tmp rfl) (rv_tmp rfl)
  refine s_on rfl rfl rfl ?_
  refine mv1 rfl rfl ?_
  refine s_on rfl rfl rfl ?_
  refine s_rd (r_faddr (fo := 0) Tryd.underlying27 rfl rfl Tryd.sizeOf3 rfl) rfl ?_
  refine s_on rfl rfl rfl ?_
  refine s_rd (r_cload Tryd.isAgg3 rfl (j := 0) rfl rfl) rfl ?_
  refine s_on rfl rfl rfl ?_
  refine s_rd (r_geq rfl rfl) rfl ?_
  refine s_rd (r_pickF rfl rfl) rfl ?_
  refine l_nil (n_then ?_)
  refine ref_cond rfl (fun hb5 => ?_) (fun hb5 => ?_)
  · refine ref_seq (ref_region ?_)
    refine as1 rfl rfl ?_
    refine as1 rfl rfl ?_
    refine l_nil (n_then (ref_ret (r_then ?_)))
    refine b_of (own_nil (rI .i64)) ?_
    exact fin2 (.inl rfl) ((.slice none 0 0), []) [1] rfl ⟨rfl, trivial⟩ rfl (rv_tmp rfl) (rv_tmp rfl)
  refine ref_skip (n_then (ref_seq (ref_region ?_)))
  refine as1 rfl rfl ?_
  refine l_nil (n_then (ref_seq (ref_region ?_)))
  refine as1 rfl rfl ?_
  refine l_nil (n_then ?_)
  refine b_of (own_nil (rI .i64)) ?_
  refine ref_block (ref_loop (f := (ref22_Levels_l1 g_0 weights_1 node_2)) (Γl := (fun (s58 : Int × (List Int)) (x59 : (Value × List Nat)) => [(1, slv (rI .i64) weights_1), (2, iv .i64 node_2), (3, pv (ptr b1 0)), (9, pv x59.1), (10, iv .i64 s58.1)])) (Ωl := (fun (s58 : Int × (List Int)) (x59 : (Value × List Nat)) => [oc b1 [iv .i64 g_0.N, slv rT_api_Pair g_0.L], oa (rI .i64) x59.1 x59.2 s58.2])) (k := (fun a : List Int × Int => some a)) ((-1), []) ((.slice none 0 0), []) (weak [0, 1] ⟨rfl, rfl, rfl, rfl, rfl, trivial⟩ ⟨rfl, rfl, trivial⟩) (fun s58 x59 => ?_))
  · unfold ref22_Levels_l1
    refine ref_block (ref_seq (ref_region ?_))
    refine as1 rfl rfl ?_
    refine l_nil (n_then (ref_seq (ref_seq (ref_region ?_))))
    refine as1 rfl rfl ?_
    refine l_nil (n_then ?_)
    refine ref_loopB (f := (ref22_Levels_l2 weights_1 s58)) (Γl := (fun (s66 : Int × Int) (x67 : Unit) => [(1, slv (rI .i64) weights_1), (2, iv .i64 node_2), (3, pv (ptr b1 0)), (9, pv x59.1), (10, iv .i64 s58.1), (11, iv .i64 s66.1), (12, iv .i64 s66.2)])) (Ωl := (fun (s66 : Int × Int) (x67 : Unit) => [oc b1 [iv .i64 g_0.N, slv rT_api_Pair g_0.L], oa (rI .i64) x59.1 x59.2 s58.2])) (Γb := (fun (q74 : Int) (y75 : Unit) => [(1, slv (rI .i64) weights_1), (2, iv .i64 node_2), (3, pv (ptr b1 0)), (9, pv x59.1), (11, iv .i64 q74)])) (Ωb := (fun (q74 : Int) (y75 : Unit) => [oc b1 [iv .i64 g_0.N, slv rT_api_Pair g_0.L], oa (rI .i64) x59.1 x59.2 s58.2])) (1001, 0) () (weak [0, 1] ⟨rfl, rfl, rfl, rfl, rfl, rfl, rfl, trivial⟩ ⟨rfl, rfl, trivial⟩) (fun s66 x67 => ?_) (fun q74 y75 => ?_)
    · unfold ref22_Levels_l2
      refine ref_seq (ref_seq (ref_region ?_))
      refine mv1 rfl rfl ?_
      refine mv1 rfl rfl ?_
      refine s_rd (r_len Tryd.underlying22 rfl) rfl ?_
      refine s_rd (r_lss rfl rfl) rfl ?_
      refine l_nil (n_then ?_)
      refine ref_cond rfl (fun hb68 => ?_) (fun hb68 => ?_)
      · refine ref_skip (n_then (ref_seq (ref_block (ref_seq (ref_region ?_)))))
        refine mv1 rfl rfl ?_
        refine mv1 rfl rfl ?_
        refine pull fun t69 h_t69 => ?_
        refine s_rd (r_index h_t69 Tryd.underlying22 el_3 rfl rfl) rfl ?_
        refine s_rd (r_load el_3 rfl) rfl ?_
        refine mv1 rfl rfl ?_
        refine s_rd (r_gtr rfl rfl) rfl ?_
        refine l_nil (n_then ?_)
        refine ref_cond rfl (fun hb70 => ?_) (fun hb70 => ?_)
        · refine ref_region ?_
          refine mv1 rfl rfl ?_
          refine mv1 rfl rfl ?_
          refine mv1 rfl rfl ?_
          refine pull fun t71 h_t71 => ?_
          refine s_rd (r_index h_t71 Tryd.underlying22 el_3 rfl rfl) rfl ?_
          refine s_rd (r_load el_3 rfl) rfl ?_
          refine s_rd (r_min rfl rfl) rfl ?_
          refine as1 rfl rfl ?_
          refine l_nil (n_block (n_then (ref_region ?_)))
          refine mv1 rfl rfl ?_
          refine s_rd (r_add rfl rfl) rfl ?_
          refine as1 rfl rfl ?_
          refine b_let (f := iv .i64) (t := 12) rfl fun i72 => ?_
          refine l_nil ?_
          exact goB () (weak [0, 1] ⟨rfl, rfl, rfl, rfl, rfl, rfl, rfl, trivial⟩ ⟨rfl, rfl, trivial⟩)
        refine ref_skip (n_block (n_then (ref_region ?_)))
        refine mv1 rfl rfl ?_
        refine s_rd (r_add rfl rfl) rfl ?_
        refine as1 rfl rfl ?_
        refine b_let (f := iv .i64) (t := 12) rfl fun i73 => ?_
        refine l_nil ?_
        exact goB () (weak [0, 1] ⟨rfl, rfl, rfl, rfl, rfl, rfl, rfl, trivial⟩ ⟨rfl, rfl, trivial⟩)
      refine ref_exit (x_then ?_)
      exact brkB () (weak [0, 1] ⟨rfl, rfl, rfl, rfl, rfl, trivial⟩ ⟨rfl, rfl, trivial⟩)
    refine n_then (ref_seq (ref_region ?_))
    refine s_rd (r_cloadS Tryd.isAgg27 Tryd.sizeOf27 rfl (j := 0) rfl rfl rfl) rfl ?_
    refine mv1 rfl rfl ?_
    refine mv1 rfl rfl ?_
    refine pull fun t76 h_t76 => ?_
    refine s_st (s_call (ψ := fun (_ : Unit) => tup [ag [iv .i64 t76.1.N, slv rT_api_Pair t76.1.L], iv .i64 t76.2]) (args := [.tmp 55, .tmp 56, .tmp 57]) Tryd.call30 rfl (ref22_Cut_ok h_t76) ⟨arg rfl, arg rfl, arg rfl, trivial⟩ (fun _ _ _ _ h => h)) rfl (fun _ => ?_)
    refine mv1 rfl rfl ?_
    refine s_rd (r_extract rfl rfl) rfl ?_
    refine s_rd (r_extract rfl rfl) rfl ?_
    refine s_st (s_alloc zt_27) rfl (fun b77 => ?_)
    refine s_st0 (s_cstore (out := [iv .i64 t76.1.N, slv rT_api_Pair t76.1.L]) Tryd.sizeOf27 rfl (j := 2) rfl (part_agO (ψs := [iv .i64 t76.1.N, slv rT_api_Pair t76.1.L]) rfl ⟨.inl iv_at, .inl slv_at, trivial⟩) rfl rfl rfl) (fun _ => ?_)
    refine as1 rfl rfl ?_
    refine l_nil (n_then (ref_seq (ref_region ?_)))
    refine s_rd (r_cloadS Tryd.isAgg27 Tryd.sizeOf27 rfl (j := 2) rfl rfl rfl) rfl ?_
    refine pull fun t78 h_t78 => ?_
    refine s_st (s_call (ψ := fun (x79 : (Value × List Nat) × (Value × List Nat)) => tup [pv x79.1.1, pv x79.2.1]) (args := [.tmp 62]) Tryd.call33 rfl (net_Grounded_ok h_t78) ⟨arg rfl, trivial⟩ (fun _ _ _ _ h => h)) rfl (fun x79 => ?_)
    refine mv1 rfl rfl ?_
    refine s_rd (r_extract rfl rfl) rfl ?_
    refine s_rd (r_extract rfl rfl) rfl ?_
    refine as1 rfl rfl ?_
    refine as1 rfl rfl ?_
    refine l_nil ?_
    refine b_of (nrm [oc b1 [iv .i64 g_0.N, slv rT_api_Pair g_0.L], oa (rI .i64) x59.1 x59.2 s58.2, oc b77 [iv .i64 t76.1.N, slv rT_api_Pair t76.1.L], oa (rI .i64) x79.1.1 x79.1.2 t78.1, oa (rI .i64) x79.2.1 x79.2.2 t78.2] rfl) ?_
    refine n_then (ref_seq (ref_region ?_))
    refine mv1 rfl rfl ?_
    refine mv1 rfl rfl ?_
    refine mv1 rfl rfl ?_
    refine pull fun t80 h_t80 => ?_
    refine s_rd (r_oindex h_t80 Tryd.underlying22 el_3 rfl (j := 3) rfl rfl) rfl ?_
    refine s_rd (r_oload h_t80 el_3 rfl (j := 3) rfl) rfl ?_
    refine s_st (s_bslice (xs := [.tmp 70]) (ds := [t80]) Tryd.underlying22 el_3 rfl (Nat.le_of_ble_eq_true rfl) ⟨(part_at rfl iv_at), trivial⟩) rfl (fun _ => ?_)
    refine pull fun out81 h_out81 => ?_
    refine s_st (s_append h_out81 Tryd.underlying22 el_3 rfl (j := 1) rfl rfl) rfl (fun o82 => ?_)
    refine as1 rfl rfl ?_
    refine l_nil (n_then (ref_seq (ref_seq (ref_region ?_))))
    refine mv1 rfl rfl ?_
    refine s_rd (r_gtr rfl rfl) rfl ?_
    refine l_nil (n_then ?_)
    refine ref_cond rfl (fun hb83 => ?_) (fun hb83 => ?_)
    · refine ref_seq (ref_region ?_)
      refine mv1 rfl rfl ?_
      refine as1 rfl rfl ?_
      refine as1 rfl rfl ?_
      refine l_nil (n_then (ref_ret (r_then (r_block ?_))))
      refine r_loop ?_
      refine r_block ?_
      exact fin2 (.inl rfl) o82 [1] rfl ⟨rfl, trivial⟩ rfl (rv_tmp rfl) (rv_tmp rfl)
    refine ref_skip (n_then (ref_region ?_))
    refine mv1 rfl rfl ?_
    refine as1 rfl rfl ?_
    refine l_nil (n_block ?_)
    exact n_loop o82 (weak [0, 1] ⟨rfl, rfl, rfl, rfl, rfl, trivial⟩ ⟨rfl, rfl, trivial⟩)

/-! deliberation/degree.Cut$1 -/
noncomputable def degree_Cut_1_m (i_0 : Int) (p_1 : (List Int)) (p_2 : Int) : Option (Bool) :=
  Option.bind (idxM p_1 i_0) fun t1 =>
  some (decide (t1 ≥ p_2))

theorem degree_Cut_1_ok {i_0 : Int} {p_1 : (List Int)} {p_2 : Int} {b_1 : Nat} {b_2 : Nat} {r : Bool} (hm : degree_Cut_1_m i_0 p_1 p_2 = some r) :
    FnOk prog 67 [iv .i64 i_0, pv (ptr b_1 0), pv (ptr b_2 0)] [oc b_1 [slv (rI .i64) p_1], oc b_2 [iv .i64 p_2]] (fun (x : Unit) => [bv r]) (fun (x : Unit) => [oc b_1 [slv (rI .i64) p_1], oc b_2 [iv .i64 p_2]]) := by
  refine fn_ok (fn := Tryd.f67) (N := 11) (res := fun r x => [bv r]) (Ω1 := fun r x => [oc b_1 [slv (rI .i64) p_1], oc b_2 [iv .i64 p_2]]) Tryd.func67 rfl rfl hm rfl (fun E hM => ?_)
  unfold degree_Cut_1_m
  refine ref_seq (ref_region ?_)
  refine as1 rfl rfl ?_
  refine l_nil (n_then (ref_seq ?_))
  refine ref_draw [0, 1, 2, 3, 4, 5] rfl (by kernel_rfl) (fun hok => ?_)
  refine a_rd (i := 0) hok rfl (by kernel_rfl) rfl (r_cload Tryd.isAgg22 rfl (j := 0) rfl rfl) rfl ?_
  refine a_rd (i := 1) hok rfl (by kernel_rfl) rfl (r_move rfl) rfl ?_
  refine pull fun t1 h_t1 => ?_
  refine a_rd (i := 2) hok rfl (by kernel_rfl) rfl (r_index h_t1 Tryd.underlying22 el_3 rfl rfl) rfl ?_
  refine a_rd (i := 3) hok rfl (by kernel_rfl) rfl (r_load el_3 rfl) rfl ?_
  refine a_rd (i := 4) hok rfl (by kernel_rfl) rfl (r_cload Tryd.isAgg3 rfl (j := 1) rfl rfl) rfl ?_
  refine a_rd (i := 5) hok rfl (by kernel_rfl) rfl (r_geq rfl rfl) rfl ?_
  refine a_next hok 6 [] (by kernel_rfl) ?_ trivial
  refine a_st (i := 6) hok rfl rfl (St.ofRd (r_assign rfl)) (by intro _ h; cases h; rfl) (fun _ => ⟨trivial, ⟨trivial, ⟨trivial, ⟨trivial, ⟨trivial, ⟨trivial, trivial⟩⟩⟩⟩⟩⟩) (fun _ => ?_)
  refine a_fin hok (by kernel_rfl) ?_
  refine n_then (ref_ret ?_)
  exact fin1 (.inl rfl) () [0, 1] rfl ⟨rfl, rfl, trivial⟩ rfl (rv_tmp rfl)

end Go.Dc
