/- Part LAW28C.A0 of a proof: lemmas. -/
import Derived.Test.YtodnndlcnignbaaLAW28CTypes
import Derived.Test.YtodnndlcnignbaaProg
set_option linter.unusedVariables false
set_option maxRecDepth 100000
set_option maxHeartbeats 4000000
namespace Go.Dc
open Go.Proofs
open Go.Proofs.Try (prog)

/-! deliberation/deliberationnet.Light -/
noncomputable def net_Light_m (g_0 : T_api_Graph) : Option (Bool) :=
  letM (decide ((g_0.L.length : Int) ≤ 300)) fun t2 =>
  some t2

theorem net_Light_ok {g_0 : T_api_Graph} {r : Bool} (hm : net_Light_m g_0 = some r) :
    FnOk prog 7 [ag [iv .i64 g_0.N, slv rT_api_Pair g_0.L]] [] (fun (x : Unit) => [bv r]) (fun (x : Unit) => []) := by
  refine fn_ok (fn := Try.f7) (N := 7) (res := fun r x => [bv r]) (Ω1 := fun r x => []) Try.func7 rfl rfl hm rfl (fun E hM => ?_)
  unfold net_Light_m
  refine ref_seq (ref_region ?_)
  refine s_st (s_box (part_agO (ψs := [iv .i64 g_0.N, slv rT_api_Pair g_0.L]) rfl ⟨.inl iv_at, .inl slv_at, trivial⟩)) rfl (fun b1 => ?_)
  refine as1 rfl rfl ?_
  refine l_nil (n_then (ref_seq (ref_region ?_)))
  refine s_rd (r_faddr (fo := 1) Try.underlying28 rfl rfl Try.sizeOf26 rfl) rfl ?_
  refine s_rd (r_cload Try.isAgg26 rfl (j := 0) rfl rfl) rfl ?_
  refine s_rd (r_len Try.underlying26 rfl) rfl ?_
  refine s_rd (r_leq rfl rfl) rfl ?_
  refine as1 rfl rfl ?_
  refine b_let (f := bv) (t := 2) rfl fun t2 => ?_
  refine l_nil (n_then (ref_ret ?_))
  exact fin1 (.inl rfl) () [] rfl trivial rfl (rv_tmp rfl)

/-! deliberation/deliberationref10.Validate -/
noncomputable def ref10_Validate_l1 (g_0 : T_api_Graph) (s13 : Int) : Option (Sum ((Sum (Int) (Unit))) (Int)) :=
  bif decide (s13 < (g_0.L.length : Int)) then
    Option.bind (idxM g_0.L s13) fun t16 =>
    bif decide (t16.From < 0) then
      some (Sum.inl (Sum.inl 1))
    else
      bif decide (t16.From ≥ g_0.N) then
        some (Sum.inl (Sum.inl 1))
      else
        bif decide (t16.To < 0) then
          some (Sum.inl (Sum.inl 1))
        else
          bif decide (t16.To ≥ g_0.N) then
            some (Sum.inl (Sum.inl 1))
          else
            bif decide (s13 > 0) then
              Option.bind (idxM g_0.L (isub .i64 s13 1)) fun t19 =>
              bif decide (t19.From > t16.From) then
                some (Sum.inl (Sum.inl 8))
              else
                Option.bind (idxM g_0.L (isub .i64 s13 1)) fun t20 =>
                bif t20.From == t16.From then
                  Option.bind (idxM g_0.L (isub .i64 s13 1)) fun t21 =>
                  bif decide (t21.To ≥ t16.To) then
                    some (Sum.inl (Sum.inl 8))
                  else
                    letM (iadd .i64 s13 1) fun i23 =>
                    some (Sum.inr i23)
                else
                  letM (iadd .i64 s13 1) fun i24 =>
                  some (Sum.inr i24)
            else
              letM (iadd .i64 s13 1) fun i25 =>
              some (Sum.inr i25)
  else
    some (Sum.inl (Sum.inr ()))

noncomputable def ref10_Validate_m (g_0 : T_api_Graph) : Option (Int) :=
  bif decide (g_0.N < 0) then
    some 1
  else
    bif decide (g_0.N > 40) then
      some 1
    else
      Option.bind (loopC (ref10_Validate_l1 g_0) 0) (sumK (fun a : Int => some a) fun q26 : Unit =>
        some 0)

theorem ref10_Validate_ok {g_0 : T_api_Graph} {r : Int} (hm : ref10_Validate_m g_0 = some r) :
    FnOk prog 51 [ag [iv .i64 g_0.N, slv rT_api_Pair g_0.L]] [] (fun (x : Unit) => [iv .i64 r]) (fun (x : Unit) => []) := by
  refine fn_ok (fn := Try.f51) (N := 85) (res := fun r x => [iv .i64 r]) (Ω1 := fun r x => []) Try.func51 rfl rfl hm rfl (fun E hM => ?_)
  unfold ref10_Validate_m
  refine ref_seq (ref_region ?_)
  refine s_st (s_box (part_agO (ψs := [iv .i64 g_0.N, slv rT_api_Pair g_0.L]) rfl ⟨.inl iv_at, .inl slv_at, trivial⟩)) rfl (fun b1 => ?_)
  refine as1 rfl rfl ?_
  refine l_nil (n_then (ref_seq (ref_seq (ref_region ?_))))
  refine s_rd (r_faddr (fo := 0) Try.underlying28 rfl rfl Try.sizeOf3 rfl) rfl ?_
  refine s_rd (r_cload Try.isAgg3 rfl (j := 0) rfl rfl) rfl ?_
  refine s_rd (r_lss rfl rfl) rfl ?_
  refine mv1 rfl rfl ?_
  refine b_split (t := 8) rfl (fun _ => ?_) (fun _ => ?_)
  · refine s_off rfl rfl rfl rfl rfl ?_
    refine s_off rfl rfl rfl rfl rfl ?_
    refine s_off rfl rfl rfl rfl rfl ?_
    refine s_rd (r_pickT rfl rfl) rfl ?_
    refine l_nil (n_then ?_)
    refine ref_condT rfl rfl ?_
    refine ref_seq (ref_region ?_)
    refine as1 rfl rfl ?_
    refine l_nil (n_then (ref_ret (r_then ?_)))
    exact fin1 (.inl rfl) () [] rfl trivial rfl (rv_tmp rfl)
  refine s_on rfl rfl rfl ?_
  refine s_rd (r_faddr (fo := 0) Try.underlying28 rfl rfl Try.sizeOf3 rfl) rfl ?_
  refine s_on rfl rfl rfl ?_
  refine s_rd (r_cload Try.isAgg3 rfl (j := 0) rfl rfl) rfl ?_
  refine s_on rfl rfl rfl ?_
  refine s_rd (r_gtr rfl rfl) rfl ?_
  refine s_rd (r_pickF rfl rfl) rfl ?_
  refine l_nil (n_then ?_)
  refine ref_cond rfl (fun hb2 => ?_) (fun hb2 => ?_)
  · refine ref_seq (ref_region ?_)
    refine as1 rfl rfl ?_
    refine l_nil (n_then (ref_ret (r_then ?_)))
    exact fin1 (.inl rfl) () [] rfl trivial rfl (rv_tmp rfl)
  refine ref_skip (n_then (ref_seq (ref_seq (ref_region ?_))))
  refine as1 rfl rfl ?_
  refine l_nil (n_then ?_)
  refine ref_loopX (f := (ref10_Validate_l1 g_0)) (Γl := (fun (s13 : Int) (x14 : Unit) => [(1, pv (ptr b1 0)), (3, iv .i64 s13)])) (Ωl := (fun (s13 : Int) (x14 : Unit) => [oc b1 [iv .i64 g_0.N, slv rT_api_Pair g_0.L]])) (Γb := (fun (q26 : Unit) (y27 : Unit) => [])) (Ωb := (fun (q26 : Unit) (y27 : Unit) => [])) (kr := (fun a : Int => some a)) 0 () (weak [0] ⟨rfl, rfl, trivial⟩ ⟨rfl, trivial⟩) (fun s13 x14 => ?_) (fun q26 y27 => ?_)
  · unfold ref10_Validate_l1
    refine ref_seq (ref_seq (ref_region ?_))
    refine mv1 rfl rfl ?_
    refine s_rd (r_faddr (fo := 1) Try.underlying28 rfl rfl Try.sizeOf26 rfl) rfl ?_
    refine s_rd (r_cload Try.isAgg26 rfl (j := 0) rfl rfl) rfl ?_
    refine s_rd (r_len Try.underlying26 rfl) rfl ?_
    refine s_rd (r_lss rfl rfl) rfl ?_
    refine l_nil (n_then ?_)
    refine ref_cond rfl (fun hb15 => ?_) (fun hb15 => ?_)
    · refine ref_skip (n_then (ref_seq (ref_block (ref_seq (ref_region ?_)))))
      refine s_rd (r_faddr (fo := 1) Try.underlying28 rfl rfl Try.sizeOf26 rfl) rfl ?_
      refine s_rd (r_cload Try.isAgg26 rfl (j := 0) rfl rfl) rfl ?_
      refine mv1 rfl rfl ?_
      refine pull fun t16 h_t16 => ?_
      refine s_rd (r_index h_t16 Try.underlying26 el_67 rfl rfl) rfl ?_
      refine s_rd (r_load el_67 rfl) rfl ?_
      refine s_st (s_alloc zt_67) rfl (fun b17 => ?_)
      refine s_st0 (s_cstore (out := [iv .i64 t16.From, iv .i64 t16.To]) Try.sizeOf67 rfl (j := 1) rfl (part_agO (ψs := [iv .i64 t16.From, iv .i64 t16.To]) rfl ⟨.inl iv_at, .inl iv_at, trivial⟩) rfl rfl rfl) (fun _ => ?_)
      refine l_nil (n_then (ref_seq (ref_seq (ref_region ?_))))
      refine s_rd (r_faddr (fo := 0) Try.underlying67 rfl rfl Try.sizeOf3 rfl) rfl ?_
      refine s_rd (r_cload Try.isAgg3 rfl (j := 1) rfl rfl) rfl ?_
      refine s_rd (r_lss rfl rfl) rfl ?_
      refine mv1 rfl rfl ?_
      refine b_split (t := 28) rfl (fun _ => ?_) (fun _ => ?_)
      · refine s_off rfl rfl rfl rfl rfl ?_
        refine s_off rfl rfl rfl rfl rfl ?_
        refine s_off rfl rfl rfl rfl rfl ?_
        refine s_off rfl rfl rfl rfl rfl ?_
        refine s_off rfl rfl rfl rfl rfl ?_
        refine s_rd (r_pickT rfl rfl) rfl ?_
        refine mv1 rfl rfl ?_
        refine s_off rfl rfl rfl rfl rfl ?_
        refine s_off rfl rfl rfl rfl rfl ?_
        refine s_off rfl rfl rfl rfl rfl ?_
        refine s_rd (r_pickT rfl rfl) rfl ?_
        refine mv1 rfl rfl ?_
        refine s_off rfl rfl rfl rfl rfl ?_
        refine s_off rfl rfl rfl rfl rfl ?_
        refine s_off rfl rfl rfl rfl rfl ?_
        refine s_off rfl rfl rfl rfl rfl ?_
        refine s_off rfl rfl rfl rfl rfl ?_
        refine s_rd (r_pickT rfl rfl) rfl ?_
        refine l_nil (n_then ?_)
        refine ref_condT rfl rfl ?_
        refine ref_seq (ref_region ?_)
        refine as1 rfl rfl ?_
        refine l_nil (n_then (ref_ret (r_then (r_block (r_then ?_)))))
        refine retX ?_
        refine r_block (r_then ?_)
        exact fin1 (.inl rfl) () [] rfl trivial rfl (rv_tmp rfl)
      refine s_on rfl rfl rfl ?_
      refine s_rd (r_faddr (fo := 0) Try.underlying67 rfl rfl Try.sizeOf3 rfl) rfl ?_
      refine s_on rfl rfl rfl ?_
      refine s_rd (r_cload Try.isAgg3 rfl (j := 1) rfl rfl) rfl ?_
      refine s_on rfl rfl rfl ?_
      refine s_rd (r_faddr (fo := 0) Try.underlying28 rfl rfl Try.sizeOf3 rfl) rfl ?_
      refine s_on rfl rfl rfl ?_
      refine s_rd (r_cload Try.isAgg3 rfl (j := 0) rfl rfl) rfl ?_
      refine s_on rfl rfl rfl ?_
      refine s_rd (r_geq rfl rfl) rfl ?_
      refine s_rd (r_pickF rfl rfl) rfl ?_
      refine mv1 rfl rfl ?_
      refine b_split (t := 35) rfl (fun _ => ?_) (fun _ => ?_)
      · refine s_off rfl rfl rfl rfl rfl ?_
        refine s_off rfl rfl rfl rfl rfl ?_
        refine s_off rfl rfl rfl rfl rfl ?_
        refine s_rd (r_pickT rfl rfl) rfl ?_
        refine mv1 rfl rfl ?_
        refine s_off rfl rfl rfl rfl rfl ?_
        refine s_off rfl rfl rfl rfl rfl ?_
        refine s_off rfl rfl rfl rfl rfl ?_
        refine s_off rfl rfl rfl rfl rfl ?_
        refine s_off rfl rfl rfl rfl rfl ?_
        refine s_rd (r_pickT rfl rfl) rfl ?_
        refine l_nil (n_then ?_)
        refine ref_condT rfl rfl ?_
        refine ref_seq (ref_region ?_)
        refine as1 rfl rfl ?_
        refine l_nil (n_then (ref_ret (r_then (r_block (r_then ?_)))))
        refine retX ?_
        refine r_block (r_then ?_)
        exact fin1 (.inl rfl) () [] rfl trivial rfl (rv_tmp rfl)
      refine s_on rfl rfl rfl ?_
      refine s_rd (r_faddr (fo := 1) Try.underlying67 rfl rfl Try.sizeOf3 rfl) rfl ?_
      refine s_on rfl rfl rfl ?_
      refine s_rd (r_cload Try.isAgg3 rfl (j := 1) rfl rfl) rfl ?_
      refine s_on rfl rfl rfl ?_
      refine s_rd (r_lss rfl rfl) rfl ?_
      refine s_rd (r_pickF rfl rfl) rfl ?_
      refine mv1 rfl rfl ?_
      refine b_split (t := 40) rfl (fun _ => ?_) (fun _ => ?_)
      · refine s_off rfl rfl rfl rfl rfl ?_
        refine s_off rfl rfl rfl rfl rfl ?_
        refine s_off rfl rfl rfl rfl rfl ?_
        refine s_off rfl rfl rfl rfl rfl ?_
        refine s_off rfl rfl rfl rfl rfl ?_
        refine s_rd (r_pickT rfl rfl) rfl ?_
        refine l_nil (n_then ?_)
        refine ref_condT rfl rfl ?_
        refine ref_seq (ref_region ?_)
        refine as1 rfl rfl ?_
        refine l_nil (n_then (ref_ret (r_then (r_block (r_then ?_)))))
        refine retX ?_
        refine r_block (r_then ?_)
        exact fin1 (.inl rfl) () [] rfl trivial rfl (rv_tmp rfl)
      refine s_on rfl rfl rfl ?_
      refine s_rd (r_faddr (fo := 1) Try.underlying67 rfl rfl Try.sizeOf3 rfl) rfl ?_
      refine s_on rfl rfl rfl ?_
      refine s_rd (r_cload Try.isAgg3 rfl (j := 1) rfl rfl) rfl ?_
      refine s_on rfl rfl rfl ?_
      refine s_rd (r_faddr (fo := 0) Try.underlying28 rfl rfl Try.sizeOf3 rfl) rfl ?_
      refine s_on rfl rfl rfl ?_
      refine s_rd (r_cload Try.isAgg3 rfl (j := 0) rfl rfl) rfl ?_
      refine s_on rfl rfl rfl ?_
      refine s_rd (r_geq rfl rfl) rfl ?_
      refine s_rd (r_pickF rfl rfl) rfl ?_
      refine l_nil (n_then ?_)
      refine ref_cond rfl (fun hb18 => ?_) (fun hb18 => ?_)
      · refine ref_seq (ref_region ?_)
        refine as1 rfl rfl ?_
        refine l_nil (n_then (ref_ret (r_then (r_block (r_then ?_)))))
        refine retX ?_
        refine r_block (r_then ?_)
        exact fin1 (.inl rfl) () [] rfl trivial rfl (rv_tmp rfl)
      refine ref_skip (n_then (ref_seq ?_))
      refine ref_draw [0, 1, 2, 3, 4, 5, 6, 7, 8, 9, 10, 11, 12, 13, 14, 15, 16, 17, 18, 19, 20, 21, 22, 23, 24, 25, 26, 27, 28, 29, 30, 31, 32, 33, 34, 35, 36, 37] rfl (by kernel_rfl) (fun hok => ?_)
      refine a_rd (i := 0) hok rfl (by kernel_rfl) rfl (r_move rfl) rfl ?_
      refine a_rd (i := 1) hok rfl (by kernel_rfl) rfl (r_gtr rfl rfl) rfl ?_
      refine a_rd (i := 2) hok rfl (by kernel_rfl) rfl (r_move rfl) rfl ?_
      refine b_split (t := 49) rfl (fun _ => ?_) (fun _ => ?_)
      · refine a_rdOn (i := 3) hok rfl rfl rfl rfl (by kernel_rfl) rfl (r_faddr (fo := 1) Try.underlying28 rfl rfl Try.sizeOf26 rfl) rfl ?_
        refine a_rdOn (i := 4) hok rfl rfl rfl rfl (by kernel_rfl) rfl (r_cload Try.isAgg26 rfl (j := 0) rfl rfl) rfl ?_
        refine a_rdOn (i := 5) hok rfl rfl rfl rfl (by kernel_rfl) rfl (r_move rfl) rfl ?_
        refine a_rdOn (i := 6) hok rfl rfl rfl rfl (by kernel_rfl) rfl (r_sub rfl rfl) rfl ?_
        refine pull fun t19 h_t19 => ?_
        refine a_rdOn (i := 7) hok rfl rfl rfl rfl (by kernel_rfl) rfl (r_index h_t19 Try.underlying26 el_67 rfl rfl) rfl ?_
        refine a_rdOn (i := 8) hok rfl rfl rfl rfl (by kernel_rfl) rfl (r_fea (fo := 0) (ρ := rT_api_Pair) (y := t19) (ρ' := (rI .i64)) (z := t19.From) Try.underlying67 rfl rfl Try.sizeOf3 rfl rfl rfl) rfl ?_
        refine a_rdOn (i := 9) hok rfl rfl rfl rfl (by kernel_rfl) rfl (r_load el_3 rfl) rfl ?_
        refine a_rdOn (i := 10) hok rfl rfl rfl rfl (by kernel_rfl) rfl (r_faddr (fo := 0) Try.underlying67 rfl rfl Try.sizeOf3 rfl) rfl ?_
        refine a_rdOn (i := 11) hok rfl rfl rfl rfl (by kernel_rfl) rfl (r_cload Try.isAgg3 rfl (j := 1) rfl rfl) rfl ?_
        refine a_rdOn (i := 12) hok rfl rfl rfl rfl (by kernel_rfl) rfl (r_gtr rfl rfl) rfl ?_
        refine a_rdOn (i := 13) hok rfl rfl rfl rfl (by kernel_rfl) rfl (r_move rfl) rfl ?_
        refine b_split (t := 60) rfl (fun _ => ?_) (fun _ => ?_)
        · refine a_off (i := 14) hok rfl rfl rfl rfl rfl (by kernel_rfl) rfl rfl ?_
          refine a_off (i := 15) hok rfl rfl rfl rfl rfl (by kernel_rfl) rfl rfl ?_
          refine a_off (i := 16) hok rfl rfl rfl rfl rfl (by kernel_rfl) rfl rfl ?_
          refine a_off (i := 17) hok rfl rfl rfl rfl rfl (by kernel_rfl) rfl rfl ?_
          refine a_off (i := 18) hok rfl rfl rfl rfl rfl (by kernel_rfl) rfl rfl ?_
          refine a_off (i := 19) hok rfl rfl rfl rfl rfl (by kernel_rfl) rfl rfl ?_
          refine a_off (i := 20) hok rfl rfl rfl rfl rfl (by kernel_rfl) rfl rfl ?_
          refine a_off (i := 21) hok rfl rfl rfl rfl rfl (by kernel_rfl) rfl rfl ?_
          refine a_off (i := 22) hok rfl rfl rfl rfl rfl (by kernel_rfl) rfl rfl ?_
          refine a_off (i := 23) hok rfl rfl rfl rfl rfl (by kernel_rfl) rfl rfl ?_
          refine a_off (i := 24) hok rfl rfl rfl rfl rfl (by kernel_rfl) rfl rfl ?_
          refine a_offU (i := 25) hok rfl rfl rfl (by kernel_rfl) rfl rfl ?_
          refine a_offU (i := 26) hok rfl rfl rfl (by kernel_rfl) rfl rfl ?_
          refine a_offU (i := 27) hok rfl rfl rfl (by kernel_rfl) rfl rfl ?_
          refine a_offU (i := 28) hok rfl rfl rfl (by kernel_rfl) rfl rfl ?_
          refine a_offU (i := 29) hok rfl rfl rfl (by kernel_rfl) rfl rfl ?_
          refine a_offU (i := 30) hok rfl rfl rfl (by kernel_rfl) rfl rfl ?_
          refine a_offU (i := 31) hok rfl rfl rfl (by kernel_rfl) rfl rfl ?_
          refine a_offU (i := 32) hok rfl rfl rfl (by kernel_rfl) rfl rfl ?_
          refine a_offU (i := 33) hok rfl rfl rfl (by kernel_rfl) rfl rfl ?_
          refine a_offU (i := 34) hok rfl rfl rfl (by kernel_rfl) rfl rfl ?_
          refine a_off (i := 35) hok rfl rfl rfl rfl rfl (by kernel_rfl) rfl rfl ?_
          refine a_rdOn (i := 36) hok rfl rfl rfl rfl (by kernel_rfl) rfl (r_pickT rfl rfl) rfl ?_
          refine a_rd (i := 37) hok rfl (by kernel_rfl) rfl (r_pickT rfl rfl) rfl ?_
          refine a_fin hok (by kernel_rfl) ?_
          refine n_then ?_
          refine ref_condT rfl rfl ?_
          refine ref_seq (ref_region ?_)
          refine as1 rfl rfl ?_
          refine l_nil (n_then (ref_ret (r_block (r_then ?_))))
          refine retX ?_
          refine r_block (r_then ?_)
          exact fin1 (.inl rfl) () [] rfl trivial rfl (rv_tmp rfl)
        refine a_rdOn (i := 14) hok rfl rfl rfl rfl (by kernel_rfl) rfl (r_faddr (fo := 1) Try.underlying28 rfl rfl Try.sizeOf26 rfl) rfl ?_
        refine a_rdOn (i := 15) hok rfl rfl rfl rfl (by kernel_rfl) rfl (r_cload Try.isAgg26 rfl (j := 0) rfl rfl) rfl ?_
        refine a_rdOn (i := 16) hok rfl rfl rfl rfl (by kernel_rfl) rfl (r_move rfl) rfl ?_
        refine a_rdOn (i := 17) hok rfl rfl rfl rfl (by kernel_rfl) rfl (r_sub rfl rfl) rfl ?_
        refine pull fun t20 h_t20 => ?_
        refine a_rdOn (i := 18) hok rfl rfl rfl rfl (by kernel_rfl) rfl (r_index h_t20 Try.underlying26 el_67 rfl rfl) rfl ?_
        refine a_rdOn (i := 19) hok rfl rfl rfl rfl (by kernel_rfl) rfl (r_fea (fo := 0) (ρ := rT_api_Pair) (y := t20) (ρ' := (rI .i64)) (z := t20.From) Try.underlying67 rfl rfl Try.sizeOf3 rfl rfl rfl) rfl ?_
        refine a_rdOn (i := 20) hok rfl rfl rfl rfl (by kernel_rfl) rfl (r_load el_3 rfl) rfl ?_
        refine a_rdOn (i := 21) hok rfl rfl rfl rfl (by kernel_rfl) rfl (r_faddr (fo := 0) Try.underlying67 rfl rfl Try.sizeOf3 rfl) rfl ?_
        refine a_rdOn (i := 22) hok rfl rfl rfl rfl (by kernel_rfl) rfl (r_cload Try.isAgg3 rfl (j := 1) rfl rfl) rfl ?_
        refine a_rdOn (i := 23) hok rfl rfl rfl rfl (by kernel_rfl) rfl (r_eql rfl rfl) rfl ?_
        refine a_rdOn (i := 24) hok rfl rfl rfl rfl (by kernel_rfl) rfl (r_move rfl) rfl ?_
        refine b_split (t := 71) rfl (fun _ => ?_) (fun _ => ?_)
        · refine a_rdOn (i := 25) hok rfl rfl rfl rfl (by kernel_rfl) rfl (r_faddr (fo := 1) Try.underlying28 rfl rfl Try.sizeOf26 rfl) rfl ?_
          refine a_rdOn (i := 26) hok rfl rfl rfl rfl (by kernel_rfl) rfl (r_cload Try.isAgg26 rfl (j := 0) rfl rfl) rfl ?_
          refine a_rdOn (i := 27) hok rfl rfl rfl rfl (by kernel_rfl) rfl (r_move rfl) rfl ?_
          refine a_rdOn (i := 28) hok rfl rfl rfl rfl (by kernel_rfl) rfl (r_sub rfl rfl) rfl ?_
          refine pull fun t21 h_t21 => ?_
          refine a_rdOn (i := 29) hok rfl rfl rfl rfl (by kernel_rfl) rfl (r_index h_t21 Try.underlying26 el_67 rfl rfl) rfl ?_
          refine a_rdOn (i := 30) hok rfl rfl rfl rfl (by kernel_rfl) rfl (r_fea (fo := 1) (ρ := rT_api_Pair) (y := t21) (ρ' := (rI .i64)) (z := t21.To) Try.underlying67 rfl rfl Try.sizeOf3 rfl rfl rfl) rfl ?_
          refine a_rdOn (i := 31) hok rfl rfl rfl rfl (by kernel_rfl) rfl (r_load el_3 rfl) rfl ?_
          refine a_rdOn (i := 32) hok rfl rfl rfl rfl (by kernel_rfl) rfl (r_faddr (fo := 1) Try.underlying67 rfl rfl Try.sizeOf3 rfl) rfl ?_
          refine a_rdOn (i := 33) hok rfl rfl rfl rfl (by kernel_rfl) rfl (r_cload Try.isAgg3 rfl (j := 1) rfl rfl) rfl ?_
          refine a_rdOn (i := 34) hok rfl rfl rfl rfl (by kernel_rfl) rfl (r_geq rfl rfl) rfl ?_
          refine a_rdOn (i := 35) hok rfl rfl rfl rfl (by kernel_rfl) rfl (r_pickT rfl rfl) rfl ?_
          refine a_rdOn (i := 36) hok rfl rfl rfl rfl (by kernel_rfl) rfl (r_pickF rfl rfl) rfl ?_
          refine a_rd (i := 37) hok rfl (by kernel_rfl) rfl (r_pickT rfl rfl) rfl ?_
          refine a_fin hok (by kernel_rfl) ?_
          refine n_then ?_
          refine ref_cond rfl (fun hb22 => ?_) (fun hb22 => ?_)
          · refine ref_seq (ref_region ?_)
            refine as1 rfl rfl ?_
            refine l_nil (n_then (ref_ret (r_block (r_then ?_))))
            refine retX ?_
            refine r_block (r_then ?_)
            exact fin1 (.inl rfl) () [] rfl trivial rfl (rv_tmp rfl)
          refine ref_skip (n_block (n_then (ref_region ?_)))
          refine mv1 rfl rfl ?_
          refine s_rd (r_add rfl rfl) rfl ?_
          refine as1 rfl rfl ?_
          refine b_let (f := iv .i64) (t := 3) rfl fun i23 => ?_
          refine l_nil ?_
          exact goX () (weak [0] ⟨rfl, rfl, trivial⟩ ⟨rfl, trivial⟩)
        refine a_off (i := 25) hok rfl rfl rfl rfl rfl (by kernel_rfl) rfl rfl ?_
        refine a_off (i := 26) hok rfl rfl rfl rfl rfl (by kernel_rfl) rfl rfl ?_
        refine a_off (i := 27) hok rfl rfl rfl rfl rfl (by kernel_rfl) rfl rfl ?_
        refine a_off (i := 28) hok rfl rfl rfl rfl rfl (by kernel_rfl) rfl rfl ?_
        refine a_off (i := 29) hok rfl rfl rfl rfl rfl (by kernel_rfl) rfl rfl ?_
        refine a_off (i := 30) hok rfl rfl rfl rfl rfl (by kernel_rfl) rfl rfl ?_
        refine a_off (i := 31) hok rfl rfl rfl rfl rfl (by kernel_rfl) rfl rfl ?_
        refine a_off (i := 32) hok rfl rfl rfl rfl rfl (by kernel_rfl) rfl rfl ?_
        refine a_off (i := 33) hok rfl rfl rfl rfl rfl (by kernel_rfl) rfl rfl ?_
        refine a_off (i := 34) hok rfl rfl rfl rfl rfl (by kernel_rfl) rfl rfl ?_
        refine a_rdOn (i := 35) hok rfl rfl rfl rfl (by kernel_rfl) rfl (r_pickF rfl rfl) rfl ?_
        refine a_rdOn (i := 36) hok rfl rfl rfl rfl (by kernel_rfl) rfl (r_pickF rfl rfl) rfl ?_
        refine a_rd (i := 37) hok rfl (by kernel_rfl) rfl (r_pickT rfl rfl) rfl ?_
        refine a_fin hok (by kernel_rfl) ?_
        refine n_then ?_
        refine ref_condF rfl rfl ?_
        refine ref_skip (n_block (n_then (ref_region ?_)))
        refine mv1 rfl rfl ?_
        refine s_rd (r_add rfl rfl) rfl ?_
        refine as1 rfl rfl ?_
        refine b_let (f := iv .i64) (t := 3) rfl fun i24 => ?_
        refine l_nil ?_
        exact goX () (weak [0] ⟨rfl, rfl, trivial⟩ ⟨rfl, trivial⟩)
      refine a_off (i := 3) hok rfl rfl rfl rfl rfl (by kernel_rfl) rfl rfl ?_
      refine a_off (i := 4) hok rfl rfl rfl rfl rfl (by kernel_rfl) rfl rfl ?_
      refine a_off (i := 5) hok rfl rfl rfl rfl rfl (by kernel_rfl) rfl rfl ?_
      refine a_off (i := 6) hok rfl rfl rfl rfl rfl (by kernel_rfl) rfl rfl ?_
      refine a_off (i := 7) hok rfl rfl rfl rfl rfl (by kernel_rfl) rfl rfl ?_
      refine a_off (i := 8) hok rfl rfl rfl rfl rfl (by kernel_rfl) rfl rfl ?_
      refine a_off (i := 9) hok rfl rfl rfl rfl rfl (by kernel_rfl) rfl rfl ?_
      refine a_off (i := 10) hok rfl rfl rfl rfl rfl (by kernel_rfl) rfl rfl ?_
      refine a_off (i := 11) hok rfl rfl rfl rfl rfl (by kernel_rfl) rfl rfl ?_
      refine a_off (i := 12) hok rfl rfl rfl rfl rfl (by kernel_rfl) rfl rfl ?_
      refine a_off (i := 13) hok rfl rfl rfl rfl rfl (by kernel_rfl) rfl rfl ?_
      refine a_offU (i := 14) hok rfl rfl rfl (by kernel_rfl) rfl rfl ?_
      refine a_offU (i := 15) hok rfl rfl rfl (by kernel_rfl) rfl rfl ?_
      refine a_offU (i := 16) hok rfl rfl rfl (by kernel_rfl) rfl rfl ?_
      refine a_offU (i := 17) hok rfl rfl rfl (by kernel_rfl) rfl rfl ?_
      refine a_offU (i := 18) hok rfl rfl rfl (by kernel_rfl) rfl rfl ?_
      refine a_offU (i := 19) hok rfl rfl rfl (by kernel_rfl) rfl rfl ?_
      refine a_offU (i := 20) hok rfl rfl rfl (by kernel_rfl) rfl rfl ?_
      refine a_offU (i := 21) hok rfl rfl rfl (by kernel_rfl) rfl rfl ?_
      refine a_offU (i := 22) hok rfl rfl rfl (by kernel_rfl) rfl rfl ?_
      refine a_offU (i := 23) hok rfl rfl rfl (by kernel_rfl) rfl rfl ?_
      refine a_offU (i := 24) hok rfl rfl rfl (by kernel_rfl) rfl rfl ?_
      refine a_offU (i := 25) hok rfl rfl rfl (by kernel_rfl) rfl rfl ?_
      refine a_offU (i := 26) hok rfl rfl rfl (by kernel_rfl) rfl rfl ?_
      refine a_offU (i := 27) hok rfl rfl rfl (by kernel_rfl) rfl rfl ?_
      refine a_offU (i := 28) hok rfl rfl rfl (by kernel_rfl) rfl rfl ?_
      refine a_offU (i := 29) hok rfl rfl rfl (by kernel_rfl) rfl rfl ?_
      refine a_offU (i := 30) hok rfl rfl rfl (by kernel_rfl) rfl rfl ?_
      refine a_offU (i := 31) hok rfl rfl rfl (by kernel_rfl) rfl rfl ?_
      refine a_offU (i := 32) hok rfl rfl rfl (by kernel_rfl) rfl rfl ?_
      refine a_offU (i := 33) hok rfl rfl rfl (by kernel_rfl) rfl rfl ?_
      refine a_offU (i := 34) hok rfl rfl rfl (by kernel_rfl) rfl rfl ?_
      refine a_offU (i := 35) hok rfl rfl rfl (by kernel_rfl) rfl rfl ?_
      refine a_off (i := 36) hok rfl rfl rfl rfl rfl (by kernel_rfl) rfl rfl ?_
      refine a_rd (i := 37) hok rfl (by kernel_rfl) rfl (r_pickF rfl rfl) rfl ?_
      refine a_fin hok (by kernel_rfl) ?_
      refine n_then ?_
      refine ref_condF rfl rfl ?_
      refine ref_skip (n_block (n_then (ref_region ?_)))
      refine mv1 rfl rfl ?_
      refine s_rd (r_add rfl rfl) rfl ?_
      refine as1 rfl rfl ?_
      refine b_let (f := iv .i64) (t := 3) rfl fun i25 => ?_
      refine l_nil ?_
      exact goX () (weak [0] ⟨rfl, rfl, trivial⟩ ⟨rfl, trivial⟩)
    refine ref_exit (x_then ?_)
    exact brkX () (weak [] trivial trivial)
  refine n_then (ref_seq (ref_region ?_))
  refine as1 rfl rfl ?_
  refine l_nil (n_then (ref_ret ?_))
  exact fin1 (.inl rfl) () [] rfl trivial rfl (rv_tmp rfl)

/-! deliberation/deliberationref27.New -/
noncomputable def ref27_New_m (g_0 : T_api_Graph) (root_1 : Int) (limits_2 : T_arr2_3) : Option (T_api_Dialogue × Int) :=
  Option.bind (ref10_Validate_m g_0) fun e4 =>
  bif e4 != 0 then
    some ((T_api_Dialogue.mk (T_api_Graph.mk 0 []) 0 (T_arr2_3.mk 0 0) []), e4)
  else
    bif decide (root_1 < 0) then
      some ((T_api_Dialogue.mk (T_api_Graph.mk 0 []) 0 (T_arr2_3.mk 0 0) []), 1)
    else
      bif decide (root_1 ≥ g_0.N) then
        some ((T_api_Dialogue.mk (T_api_Graph.mk 0 []) 0 (T_arr2_3.mk 0 0) []), 1)
      else
        bif decide (limits_2.i0 < 1) then
          some ((T_api_Dialogue.mk (T_api_Graph.mk 0 []) 0 (T_arr2_3.mk 0 0) []), 1)
        else
          bif decide (limits_2.i0 > 200) then
            some ((T_api_Dialogue.mk (T_api_Graph.mk 0 []) 0 (T_arr2_3.mk 0 0) []), 1)
          else
            bif decide (limits_2.i1 < 0) then
              some ((T_api_Dialogue.mk (T_api_Graph.mk 0 []) 0 (T_arr2_3.mk 0 0) []), 1)
            else
              bif decide (limits_2.i1 > 200) then
                some ((T_api_Dialogue.mk (T_api_Graph.mk 0 []) 0 (T_arr2_3.mk 0 0) []), 1)
              else
                some ((T_api_Dialogue.mk g_0 root_1 limits_2 [(T_api_Move.mk 1 1 root_1 0)]), 0)

theorem ref27_New_ok {g_0 : T_api_Graph} {root_1 : Int} {limits_2 : T_arr2_3} {r : T_api_Dialogue × Int} (hm : ref27_New_m g_0 root_1 limits_2 = some r) :
    FnOk prog 21 [ag [iv .i64 g_0.N, slv rT_api_Pair g_0.L], iv .i64 root_1, ag [iv .i64 limits_2.i0, iv .i64 limits_2.i1]] [] (fun (x : Unit) => [ag [iv .i64 r.1.Graph.N, slv rT_api_Pair r.1.Graph.L, iv .i64 r.1.Root, iv .i64 r.1.Limits.i0, iv .i64 r.1.Limits.i1, slv rT_api_Move r.1.Moves], iv .i64 r.2]) (fun (x : Unit) => []) := by
  refine fn_ok (fn := Try.f21) (N := 51) (res := fun r x => [ag [iv .i64 r.1.Graph.N, slv rT_api_Pair r.1.Graph.L, iv .i64 r.1.Root, iv .i64 r.1.Limits.i0, iv .i64 r.1.Limits.i1, slv rT_api_Move r.1.Moves], iv .i64 r.2]) (Ω1 := fun r x => []) Try.func21 rfl rfl hm rfl (fun E hM => ?_)
  unfold ref27_New_m
  refine ref_seq (ref_region ?_)
  refine s_st (s_box (part_agO (ψs := [iv .i64 g_0.N, slv rT_api_Pair g_0.L]) rfl ⟨.inl iv_at, .inl slv_at, trivial⟩)) rfl (fun b1 => ?_)
  refine s_st (s_box (part_agO (ψs := [iv .i64 limits_2.i0, iv .i64 limits_2.i1]) rfl ⟨.inl iv_at, .inl iv_at, trivial⟩)) rfl (fun b2 => ?_)
  refine s_st (s_alloc zt_35) rfl (fun b3 => ?_)
  refine as1 rfl rfl ?_
  refine l_nil (n_then (ref_seq (ref_seq (ref_region ?_))))
  refine s_rd (r_cloadS Try.isAgg28 Try.sizeOf28 rfl (j := 0) rfl rfl rfl) rfl ?_
  refine pull fun e4 h_e4 => ?_
  refine s_st (s_call (ψ := fun (_ : Unit) => iv .i64 e4) (args := [.tmp 9]) Try.call51 rfl (ref10_Validate_ok h_e4) ⟨arg rfl, trivial⟩ (fun _ _ _ _ h => h)) rfl (fun _ => ?_)
  refine as1 rfl rfl ?_
  refine l_nil ?_
  refine b_of (nrm [oc b1 [iv .i64 g_0.N, slv rT_api_Pair g_0.L], oc b2 [iv .i64 limits_2.i0, iv .i64 limits_2.i1], oc b3 [iv .i64 0, pv (.slice none 0 0), iv .i64 0, iv .i64 0, iv .i64 0, pv (.slice none 0 0)]] rfl) ?_
  refine n_then (ref_seq (ref_region ?_))
  refine mv1 rfl rfl ?_
  refine s_rd (r_neq rfl rfl) rfl ?_
  refine l_nil (n_then ?_)
  refine ref_cond rfl (fun hb5 => ?_) (fun hb5 => ?_)
  · refine ref_seq (ref_region ?_)
    refine s_rd (r_build (ps := []) (rs := []) st_35 zs_35 trivial rfl rfl) rfl ?_
    refine mv1 rfl rfl ?_
    refine s_st0 (s_cstore (out := [iv .i64 0, pv (.slice none 0 0), iv .i64 0, iv .i64 0, iv .i64 0, pv (.slice none 0 0)]) Try.sizeOf35 rfl (j := 2) rfl (part_agO (ψs := [iv .i64 0, pv (.slice none 0 0), iv .i64 0, iv .i64 0, iv .i64 0, pv (.slice none 0 0)]) rfl ⟨.inl iv_at, .inl (pv_at rfl), .inl iv_at, .inl iv_at, .inl iv_at, .inl (pv_at rfl), trivial⟩) rfl rfl rfl) (fun _ => ?_)
    refine as1 rfl rfl ?_
    refine l_nil (n_then (ref_ret (r_then ?_)))
    refine b_of (ocW 2 [iv .i64 0, slv rT_api_Pair [], iv .i64 0, iv .i64 0, iv .i64 0, slv rT_api_Move []] rfl ⟨imp_rfl, nil_sl, imp_rfl, imp_rfl, imp_rfl, nil_sl, trivial⟩) ?_
    exact fin2 (.inl rfl) () [] rfl trivial rfl (rv_cell rfl (j := 2) rfl Try.isAgg35 Try.sizeOf35 rfl rfl) (rv_tmp rfl)
  refine ref_skip (n_then (ref_seq (ref_seq (ref_region ?_))))
  refine mv1 rfl rfl ?_
  refine s_rd (r_lss rfl rfl) rfl ?_
  refine mv1 rfl rfl ?_
  refine b_split (t := 17) rfl (fun _ => ?_) (fun _ => ?_)
  · refine s_off rfl rfl rfl rfl rfl ?_
    refine s_off rfl rfl rfl rfl rfl ?_
    refine s_off rfl rfl rfl rfl rfl ?_
    refine s_off rfl rfl rfl rfl rfl ?_
    refine s_rd (r_pickT rfl rfl) rfl ?_
    refine mv1 rfl rfl ?_
    refine s_off rfl rfl rfl rfl rfl ?_
    refine s_off rfl rfl rfl rfl rfl ?_
    refine s_off rfl rfl rfl rfl rfl ?_
    refine s_rd (r_pickT rfl rfl) rfl ?_
    refine mv1 rfl rfl ?_
    refine s_off rfl rfl rfl rfl rfl ?_
    refine s_off rfl rfl rfl rfl rfl ?_
    refine s_off rfl rfl rfl rfl rfl ?_
    refine s_rd (r_pickT rfl rfl) rfl ?_
    refine mv1 rfl rfl ?_
    refine s_off rfl rfl rfl rfl rfl ?_
    refine s_off rfl rfl rfl rfl rfl ?_
    refine s_off rfl rfl rfl rfl rfl ?_
    refine s_rd (r_pickT rfl rfl) rfl ?_
    refine mv1 rfl rfl ?_
    refine s_off rfl rfl rfl rfl rfl ?_
    refine s_off rfl rfl rfl rfl rfl ?_
    refine s_off rfl rfl rfl rfl rfl ?_
    refine s_rd (r_pickT rfl rfl) rfl ?_
    refine l_nil (n_then ?_)
    refine ref_condT rfl rfl ?_
    refine ref_seq (ref_region ?_)
    refine s_rd (r_build (ps := []) (rs := []) st_35 zs_35 trivial rfl rfl) rfl ?_
    refine s_st0 (s_cstore (out := [iv .i64 0, pv (.slice none 0 0), iv .i64 0, iv .i64 0, iv .i64 0, pv (.slice none 0 0)]) Try.sizeOf35 rfl (j := 2) rfl (part_agO (ψs := [iv .i64 0, pv (.slice none 0 0), iv .i64 0, iv .i64 0, iv .i64 0, pv (.slice none 0 0)]) rfl ⟨.inl iv_at, .inl (pv_at rfl), .inl iv_at, .inl iv_at, .inl iv_at, .inl (pv_at rfl), trivial⟩) rfl rfl rfl) (fun _ => ?_)
    refine as1 rfl rfl ?_
    refine l_nil (n_then (ref_ret (r_then ?_)))
    refine b_of (ocW 2 [iv .i64 0, slv rT_api_Pair [], iv .i64 0, iv .i64 0, iv .i64 0, slv rT_api_Move []] rfl ⟨imp_rfl, nil_sl, imp_rfl, imp_rfl, imp_rfl, nil_sl, trivial⟩) ?_
    exact fin2 (.inl rfl) () [] rfl trivial rfl (rv_cell rfl (j := 2) rfl Try.isAgg35 Try.sizeOf35 rfl rfl) (rv_tmp rfl)
  refine s_on rfl rfl rfl ?_
  refine mv1 rfl rfl ?_
  refine s_on rfl rfl rfl ?_
  refine s_rd (r_faddr (fo := 0) Try.underlying28 rfl rfl Try.sizeOf3 rfl) rfl ?_
  refine s_on rfl rfl rfl ?_
  refine s_rd (r_cload Try.isAgg3 rfl (j := 0) rfl rfl) rfl ?_
  refine s_on rfl rfl rfl ?_
  refine s_rd (r_geq rfl rfl) rfl ?_
  refine s_rd (r_pickF rfl rfl) rfl ?_
  refine mv1 rfl rfl ?_
  refine b_split (t := 23) rfl (fun _ => ?_) (fun _ => ?_)
  · refine s_off rfl rfl rfl rfl rfl ?_
    refine s_off rfl rfl rfl rfl rfl ?_
    refine s_off rfl rfl rfl rfl rfl ?_
    refine s_rd (r_pickT rfl rfl) rfl ?_
    refine mv1 rfl rfl ?_
    refine s_off rfl rfl rfl rfl rfl ?_
    refine s_off rfl rfl rfl rfl rfl ?_
    refine s_off rfl rfl rfl rfl rfl ?_
    refine s_rd (r_pickT rfl rfl) rfl ?_
    refine mv1 rfl rfl ?_
    refine s_off rfl rfl rfl rfl rfl ?_
    refine s_off rfl rfl rfl rfl rfl ?_
    refine s_off rfl rfl rfl rfl rfl ?_
    refine s_rd (r_pickT rfl rfl) rfl ?_
    refine mv1 rfl rfl ?_
    refine s_off rfl rfl rfl rfl rfl ?_
    refine s_off rfl rfl rfl rfl rfl ?_
    refine s_off rfl rfl rfl rfl rfl ?_
    refine s_rd (r_pickT rfl rfl) rfl ?_
    refine l_nil (n_then ?_)
    refine ref_condT rfl rfl ?_
    refine ref_seq (ref_region ?_)
    refine s_rd (r_build (ps := []) (rs := []) st_35 zs_35 trivial rfl rfl) rfl ?_
    refine s_st0 (s_cstore (out := [iv .i64 0, pv (.slice none 0 0), iv .i64 0, iv .i64 0, iv .i64 0, pv (.slice none 0 0)]) Try.sizeOf35 rfl (j := 2) rfl (part_agO (ψs := [iv .i64 0, pv (.slice none 0 0), iv .i64 0, iv .i64 0, iv .i64 0, pv (.slice none 0 0)]) rfl ⟨.inl iv_at, .inl (pv_at rfl), .inl iv_at, .inl iv_at, .inl iv_at, .inl (pv_at rfl), trivial⟩) rfl rfl rfl) (fun _ => ?_)
    refine as1 rfl rfl ?_
    refine l_nil (n_then (ref_ret (r_then ?_)))
    refine b_of (ocW 2 [iv .i64 0, slv rT_api_Pair [], iv .i64 0, iv .i64 0, iv .i64 0, slv rT_api_Move []] rfl ⟨imp_rfl, nil_sl, imp_rfl, imp_rfl, imp_rfl, nil_sl, trivial⟩) ?_
    exact fin2 (.inl rfl) () [] rfl trivial rfl (rv_cell rfl (j := 2) rfl Try.isAgg35 Try.sizeOf35 rfl rfl) (rv_tmp rfl)
  refine s_on rfl rfl rfl ?_
  refine s_rd (r_aaddr (sz := 1) ⟨by decide, by decide⟩ Try.underlying33 Try.sizeOf3 rfl rfl) rfl ?_
  refine s_on rfl rfl rfl ?_
  refine s_rd (r_cload Try.isAgg3 rfl (j := 1) rfl rfl) rfl ?_
  refine s_on rfl rfl rfl ?_
  refine s_rd (r_lss rfl rfl) rfl ?_
  refine s_rd (r_pickF rfl rfl) rfl ?_
  refine mv1 rfl rfl ?_
  refine b_split (t := 28) rfl (fun _ => ?_) (fun _ => ?_)
  · refine s_off rfl rfl rfl rfl rfl ?_
    refine s_off rfl rfl rfl rfl rfl ?_
    refine s_off rfl rfl rfl rfl rfl ?_
    refine s_rd (r_pickT rfl rfl) rfl ?_
    refine mv1 rfl rfl ?_
    refine s_off rfl rfl rfl rfl rfl ?_
    refine s_off rfl rfl rfl rfl rfl ?_
    refine s_off rfl rfl rfl rfl rfl ?_
    refine s_rd (r_pickT rfl rfl) rfl ?_
    refine mv1 rfl rfl ?_
    refine s_off rfl rfl rfl rfl rfl ?_
    refine s_off rfl rfl rfl rfl rfl ?_
    refine s_off rfl rfl rfl rfl rfl ?_
    refine s_rd (r_pickT rfl rfl) rfl ?_
    refine l_nil (n_then ?_)
    refine ref_condT rfl rfl ?_
    refine ref_seq (ref_region ?_)
    refine s_rd (r_build (ps := []) (rs := []) st_35 zs_35 trivial rfl rfl) rfl ?_
    refine s_st0 (s_cstore (out := [iv .i64 0, pv (.slice none 0 0), iv .i64 0, iv .i64 0, iv .i64 0, pv (.slice none 0 0)]) Try.sizeOf35 rfl (j := 2) rfl (part_agO (ψs := [iv .i64 0, pv (.slice none 0 0), iv .i64 0, iv .i64 0, iv .i64 0, pv (.slice none 0 0)]) rfl ⟨.inl iv_at, .inl (pv_at rfl), .inl iv_at, .inl iv_at, .inl iv_at, .inl (pv_at rfl), trivial⟩) rfl rfl rfl) (fun _ => ?_)
    refine as1 rfl rfl ?_
    refine l_nil (n_then (ref_ret (r_then ?_)))
    refine b_of (ocW 2 [iv .i64 0, slv rT_api_Pair [], iv .i64 0, iv .i64 0, iv .i64 0, slv rT_api_Move []] rfl ⟨imp_rfl, nil_sl, imp_rfl, imp_rfl, imp_rfl, nil_sl, trivial⟩) ?_
    exact fin2 (.inl rfl) () [] rfl trivial rfl (rv_cell rfl (j := 2) rfl Try.isAgg35 Try.sizeOf35 rfl rfl) (rv_tmp rfl)
  refine s_on rfl rfl rfl ?_
  refine s_rd (r_aaddr (sz := 1) ⟨by decide, by decide⟩ Try.underlying33 Try.sizeOf3 rfl rfl) rfl ?_
  refine s_on rfl rfl rfl ?_
  refine s_rd (r_cload Try.isAgg3 rfl (j := 1) rfl rfl) rfl ?_
  refine s_on rfl rfl rfl ?_
  refine s_rd (r_gtr rfl rfl) rfl ?_
  refine s_rd (r_pickF rfl rfl) rfl ?_
  refine mv1 rfl rfl ?_
  refine b_split (t := 33) rfl (fun _ => ?_) (fun _ => ?_)
  · refine s_off rfl rfl rfl rfl rfl ?_
    refine s_off rfl rfl rfl rfl rfl ?_
    refine s_off rfl rfl rfl rfl rfl ?_
    refine s_rd (r_pickT rfl rfl) rfl ?_
    refine mv1 rfl rfl ?_
    refine s_off rfl rfl rfl rfl rfl ?_
    refine s_off rfl rfl rfl rfl rfl ?_
    refine s_off rfl rfl rfl rfl rfl ?_
    refine s_rd (r_pickT rfl rfl) rfl ?_
    refine l_nil (n_then ?_)
    refine ref_condT rfl rfl ?_
    refine ref_seq (ref_region ?_)
    refine s_rd (r_build (ps := []) (rs := []) st_35 zs_35 trivial rfl rfl) rfl ?_
    refine s_st0 (s_cstore (out := [iv .i64 0, pv (.slice none 0 0), iv .i64 0, iv .i64 0, iv .i64 0, pv (.slice none 0 0)]) Try.sizeOf35 rfl (j := 2) rfl (part_agO (ψs := [iv .i64 0, pv (.slice none 0 0), iv .i64 0, iv .i64 0, iv .i64 0, pv (.slice none 0 0)]) rfl ⟨.inl iv_at, .inl (pv_at rfl), .inl iv_at, .inl iv_at, .inl iv_at, .inl (pv_at rfl), trivial⟩) rfl rfl rfl) (fun _ => ?_)
    refine as1 rfl rfl ?_
    refine l_nil (n_then (ref_ret (r_then ?_)))
    refine b_of (ocW 2 [iv .i64 0, slv rT_api_Pair [], iv .i64 0, iv .i64 0, iv .i64 0, slv rT_api_Move []] rfl ⟨imp_rfl, nil_sl, imp_rfl, imp_rfl, imp_rfl, nil_sl, trivial⟩) ?_
    exact fin2 (.inl rfl) () [] rfl trivial rfl (rv_cell rfl (j := 2) rfl Try.isAgg35 Try.sizeOf35 rfl rfl) (rv_tmp rfl)
  refine s_on rfl rfl rfl ?_
  refine s_rd (r_aaddr (sz := 1) ⟨by decide, by decide⟩ Try.underlying33 Try.sizeOf3 rfl rfl) rfl ?_
  refine s_on rfl rfl rfl ?_
  refine s_rd (r_cload Try.isAgg3 rfl (j := 1) rfl rfl) rfl ?_
  refine s_on rfl rfl rfl ?_
  refine s_rd (r_lss rfl rfl) rfl ?_
  refine s_rd (r_pickF rfl rfl) rfl ?_
  refine mv1 rfl rfl ?_
  refine b_split (t := 38) rfl (fun _ => ?_) (fun _ => ?_)
  · refine s_off rfl rfl rfl rfl rfl ?_
    refine s_off rfl rfl rfl rfl rfl ?_
    refine s_off rfl rfl rfl rfl rfl ?_
    refine s_rd (r_pickT rfl rfl) rfl ?_
    refine l_nil (n_then ?_)
    refine ref_condT rfl rfl ?_
    refine ref_seq (ref_region ?_)
    refine s_rd (r_build (ps := []) (rs := []) st_35 zs_35 trivial rfl rfl) rfl ?_
    refine s_st0 (s_cstore (out := [iv .i64 0, pv (.slice none 0 0), iv .i64 0, iv .i64 0, iv .i64 0, pv (.slice none 0 0)]) Try.sizeOf35 rfl (j := 2) rfl (part_agO (ψs := [iv .i64 0, pv (.slice none 0 0), iv .i64 0, iv .i64 0, iv .i64 0, pv (.slice none 0 0)]) rfl ⟨.inl iv_at, .inl (pv_at rfl), .inl iv_at, .inl iv_at, .inl iv_at, .inl (pv_at rfl), trivial⟩) rfl rfl rfl) (fun _ => ?_)
    refine as1 rfl rfl ?_
    refine l_nil (n_then (ref_ret (r_then ?_)))
    refine b_of (ocW 2 [iv .i64 0, slv rT_api_Pair [], iv .i64 0, iv .i64 0, iv .i64 0, slv rT_api_Move []] rfl ⟨imp_rfl, nil_sl, imp_rfl, imp_rfl, imp_rfl, nil_sl, trivial⟩) ?_
    exact fin2 (.inl rfl) () [] rfl trivial rfl (rv_cell rfl (j := 2) rfl Try.isAgg35 Try.sizeOf35 rfl rfl) (rv_tmp rfl)
  refine s_on rfl rfl rfl ?_
  refine s_rd (r_aaddr (sz := 1) ⟨by decide, by decide⟩ Try.underlying33 Try.sizeOf3 rfl rfl) rfl ?_
  refine s_on rfl rfl rfl ?_
  refine s_rd (r_cload Try.isAgg3 rfl (j := 1) rfl rfl) rfl ?_
  refine s_on rfl rfl rfl ?_
  refine s_rd (r_gtr rfl rfl) rfl ?_
  refine s_rd (r_pickF rfl rfl) rfl ?_
  refine l_nil (n_then ?_)
  refine ref_cond rfl (fun hb6 => ?_) (fun hb6 => ?_)
  · refine ref_seq (ref_region ?_)
    refine s_rd (r_build (ps := []) (rs := []) st_35 zs_35 trivial rfl rfl) rfl ?_
    refine s_st0 (s_cstore (out := [iv .i64 0, pv (.slice none 0 0), iv .i64 0, iv .i64 0, iv .i64 0, pv (.slice none 0 0)]) Try.sizeOf35 rfl (j := 2) rfl (part_agO (ψs := [iv .i64 0, pv (.slice none 0 0), iv .i64 0, iv .i64 0, iv .i64 0, pv (.slice none 0 0)]) rfl ⟨.inl iv_at, .inl (pv_at rfl), .inl iv_at, .inl iv_at, .inl iv_at, .inl (pv_at rfl), trivial⟩) rfl rfl rfl) (fun _ => ?_)
    refine as1 rfl rfl ?_
    refine l_nil (n_then (ref_ret (r_then ?_)))
    refine b_of (ocW 2 [iv .i64 0, slv rT_api_Pair [], iv .i64 0, iv .i64 0, iv .i64 0, slv rT_api_Move []] rfl ⟨imp_rfl, nil_sl, imp_rfl, imp_rfl, imp_rfl, nil_sl, trivial⟩) ?_
    exact fin2 (.inl rfl) () [] rfl trivial rfl (rv_cell rfl (j := 2) rfl Try.isAgg35 Try.sizeOf35 rfl rfl) (rv_tmp rfl)
  refine ref_skip (n_then (ref_seq (ref_region ?_)))
  refine s_rd (r_cloadS Try.isAgg28 Try.sizeOf28 rfl (j := 0) rfl rfl rfl) rfl ?_
  refine mv1 rfl rfl ?_
  refine s_rd (r_cloadS Try.isAgg33 Try.sizeOf33 rfl (j := 1) rfl rfl rfl) rfl ?_
  refine mv1 rfl rfl ?_
  refine s_rd (r_build (ps := [(0, .const (.int .i64 (1))), (1, .const (.int .i64 (1))), (2, .tmp 47)]) (rs := [(0, [iv .i64 1]), (1, [iv .i64 1]), (2, [iv .i64 root_1])]) st_40 zs_40 ⟨rfl, (part_at rfl iv_at), ⟨rfl, (part_at rfl iv_at), ⟨rfl, (part_at rfl iv_at), trivial⟩⟩⟩ rfl rfl) rfl ?_
  refine s_st (s_bslice (xs := [.tmp 48]) (ds := [(T_api_Move.mk 1 1 root_1 0)]) Try.underlying23 el_40 rfl (Nat.le_of_ble_eq_true rfl) ⟨(part_agO (ψs := [iv .i64 1, iv .i64 1, iv .i64 root_1, iv .i64 0]) rfl ⟨.inl iv_at, .inl iv_at, .inl iv_at, .inl iv_at, trivial⟩), trivial⟩) rfl (fun _ => ?_)
  refine s_rd (r_build (ps := [(0, .tmp 44), (1, .tmp 45), (2, .tmp 46), (3, .tmp 49)]) (rs := [(0, [iv .i64 g_0.N, slv rT_api_Pair g_0.L]), (1, [iv .i64 root_1]), (2, [iv .i64 limits_2.i0, iv .i64 limits_2.i1]), (3, [slv rT_api_Move [(T_api_Move.mk 1 1 root_1 0)]])]) st_35 zs_35 ⟨rfl, (part_agO (ψs := [iv .i64 g_0.N, slv rT_api_Pair g_0.L]) rfl ⟨.inl iv_at, .inl slv_at, trivial⟩), ⟨rfl, (part_at rfl iv_at), ⟨rfl, (part_agO (ψs := [iv .i64 limits_2.i0, iv .i64 limits_2.i1]) rfl ⟨.inl iv_at, .inl iv_at, trivial⟩), ⟨rfl, (part_at rfl slv_at), trivial⟩⟩⟩⟩ rfl rfl) rfl ?_
  refine s_st0 (s_cstore (out := [iv .i64 g_0.N, slv rT_api_Pair g_0.L, iv .i64 root_1, iv .i64 limits_2.i0, iv .i64 limits_2.i1, slv rT_api_Move [(T_api_Move.mk 1 1 root_1 0)]]) Try.sizeOf35 rfl (j := 2) rfl (part_agO (ψs := [iv .i64 g_0.N, slv rT_api_Pair g_0.L, iv .i64 root_1, iv .i64 limits_2.i0, iv .i64 limits_2.i1, slv rT_api_Move [(T_api_Move.mk 1 1 root_1 0)]]) rfl ⟨.inl iv_at, .inl slv_at, .inl iv_at, .inl iv_at, .inl iv_at, .inl slv_at, trivial⟩) rfl rfl rfl) (fun _ => ?_)
  refine as1 rfl rfl ?_
  refine l_nil (n_then (ref_ret ?_))
  exact fin2 (.inl rfl) () [] rfl trivial rfl (rv_cell rfl (j := 2) rfl Try.isAgg35 Try.sizeOf35 rfl rfl) (rv_tmp rfl)

/-! cmp.isNaN[int] -/
noncomputable def cmp_isNaN_int_m (x_0 : Int) : Option (Bool) :=
  some (x_0 != x_0)

theorem cmp_isNaN_int_ok {x_0 : Int} {r : Bool} (hm : cmp_isNaN_int_m x_0 = some r) :
    FnOk prog 84 [iv .i64 x_0] [] (fun (x : Unit) => [bv r]) (fun (x : Unit) => []) := by
  refine fn_ok (fn := Try.f84) (N := 6) (res := fun r x => [bv r]) (Ω1 := fun r x => []) Try.func84 rfl rfl hm rfl (fun E hM => ?_)
  unfold cmp_isNaN_int_m
  refine ref_seq (ref_region ?_)
  refine as1 rfl rfl ?_
  refine l_nil (n_then (ref_seq (ref_region ?_)))
  refine mv1 rfl rfl ?_
  refine mv1 rfl rfl ?_
  refine s_rd (r_neq rfl rfl) rfl ?_
  refine as1 rfl rfl ?_
  refine l_nil (n_then (ref_ret ?_))
  exact fin1 (.inl rfl) () [] rfl trivial rfl (rv_tmp rfl)

/-! cmp.Compare[int] -/
noncomputable def cmp_Compare_int_m (x_0 : Int) (y_1 : Int) : Option (Int) :=
  Option.bind (cmp_isNaN_int_m x_0) fun xNaN1 =>
  Option.bind (cmp_isNaN_int_m y_1) fun yNaN2 =>
  bif xNaN1 then
    bif yNaN2 then
      some 0
    else
      some (-1)
  else
    bif yNaN2 then
      some 1
    else
      bif decide (x_0 < y_1) then
        some (-1)
      else
        bif decide (x_0 > y_1) then
          some 1
        else
          some 0

theorem cmp_Compare_int_ok {x_0 : Int} {y_1 : Int} {r : Int} (hm : cmp_Compare_int_m x_0 y_1 = some r) :
    FnOk prog 70 [iv .i64 x_0, iv .i64 y_1] [] (fun (x : Unit) => [iv .i64 r]) (fun (x : Unit) => []) := by
  refine fn_ok (fn := Try.f70) (N := 20) (res := fun r x => [iv .i64 r]) (Ω1 := fun r x => []) Try.func70 rfl rfl hm rfl (fun E hM => ?_)
  unfold cmp_Compare_int_m
  refine ref_seq (ref_region ?_)
  refine as1 rfl rfl ?_
  refine l_nil (n_then (ref_seq (ref_region ?_)))
  refine mv1 rfl rfl ?_
  refine pull fun xNaN1 h_xNaN1 => ?_
  refine s_st (s_call (ψ := fun (_ : Unit) => bv xNaN1) (args := [.tmp 7]) Try.call84 rfl (cmp_isNaN_int_ok h_xNaN1) ⟨arg rfl, trivial⟩ (fun _ _ _ _ h => h)) rfl (fun _ => ?_)
  refine as1 rfl rfl ?_
  refine l_nil (n_then (ref_seq (ref_region ?_)))
  refine mv1 rfl rfl ?_
  refine pull fun yNaN2 h_yNaN2 => ?_
  refine s_st (s_call (ψ := fun (_ : Unit) => bv yNaN2) (args := [.tmp 9]) Try.call84 rfl (cmp_isNaN_int_ok h_yNaN2) ⟨arg rfl, trivial⟩ (fun _ _ _ _ h => h)) rfl (fun _ => ?_)
  refine as1 rfl rfl ?_
  refine l_nil (n_then (ref_seq (ref_seq (ref_region ?_))))
  refine mv1 rfl rfl ?_
  refine l_nil (n_then ?_)
  refine ref_cond rfl (fun hb3 => ?_) (fun hb3 => ?_)
  · refine ref_seq (ref_seq (ref_region ?_))
    refine mv1 rfl rfl ?_
    refine l_nil (n_then ?_)
    refine ref_cond rfl (fun hb4 => ?_) (fun hb4 => ?_)
    · refine ref_seq (ref_region ?_)
      refine as1 rfl rfl ?_
      refine l_nil (n_then (ref_ret (r_then (r_then ?_))))
      exact fin1 (.inl rfl) () [] rfl trivial rfl (rv_tmp rfl)
    refine ref_skip (n_then (ref_seq (ref_region ?_)))
    refine as1 rfl rfl ?_
    refine l_nil (n_then (ref_ret (r_then ?_)))
    exact fin1 (.inl rfl) () [] rfl trivial rfl (rv_tmp rfl)
  refine ref_skip (n_then (ref_seq (ref_seq (ref_region ?_))))
  refine mv1 rfl rfl ?_
  refine l_nil (n_then ?_)
  refine ref_cond rfl (fun hb5 => ?_) (fun hb5 => ?_)
  · refine ref_seq (ref_region ?_)
    refine as1 rfl rfl ?_
    refine l_nil (n_then (ref_ret (r_then ?_)))
    exact fin1 (.inl rfl) () [] rfl trivial rfl (rv_tmp rfl)
  refine ref_skip (n_then (ref_seq (ref_seq (ref_region ?_))))
  refine mv1 rfl rfl ?_
  refine mv1 rfl rfl ?_
  refine s_rd (r_lss rfl rfl) rfl ?_
  refine l_nil (n_then ?_)
  refine ref_cond rfl (fun hb6 => ?_) (fun hb6 => ?_)
  · refine ref_seq (ref_region ?_)
    refine as1 rfl rfl ?_
    refine l_nil (n_then (ref_ret (r_then ?_)))
    exact fin1 (.inl rfl) () [] rfl trivial rfl (rv_tmp rfl)
  refine ref_skip (n_then (ref_seq (ref_seq (ref_region ?_))))
  refine mv1 rfl rfl ?_
  refine mv1 rfl rfl ?_
  refine s_rd (r_gtr rfl rfl) rfl ?_
  refine l_nil (n_then ?_)
  refine ref_cond rfl (fun hb7 => ?_) (fun hb7 => ?_)
  · refine ref_seq (ref_region ?_)
    refine as1 rfl rfl ?_
    refine l_nil (n_then (ref_ret (r_then ?_)))
    exact fin1 (.inl rfl) () [] rfl trivial rfl (rv_tmp rfl)
  refine ref_skip (n_then (ref_seq (ref_region ?_)))
  refine as1 rfl rfl ?_
  refine l_nil (n_then (ref_ret ?_))
  exact fin1 (.inl rfl) () [] rfl trivial rfl (rv_tmp rfl)

/-! cmp.Or[int] -/
noncomputable def cmp_Or_int_l1 (vals_0 : (List Int)) (s6 : Int) : Option (Sum ((Sum (Int) (Unit))) (Int)) :=
  bif decide (s6 < (vals_0.length : Int)) then
    Option.bind (idxM vals_0 s6) fun val9 =>
    bif val9 != 0 then
      some (Sum.inl (Sum.inl val9))
    else
      some (Sum.inr (iadd .i64 s6 1))
  else
    some (Sum.inl (Sum.inr ()))

noncomputable def cmp_Or_int_m (vals_0 : (List Int)) : Option (Int) :=
  Option.bind (loopC (cmp_Or_int_l1 vals_0) 0) (sumK (fun a : Int => some a) fun q11 : Unit =>
    some 0)

theorem cmp_Or_int_ok {vals_0 : (List Int)} {r : Int} (hm : cmp_Or_int_m vals_0 = some r) :
    FnOk prog 85 [slv (rI .i64) vals_0] [] (fun (x : Unit) => [iv .i64 r]) (fun (x : Unit) => []) := by
  refine fn_ok (fn := Try.f85) (N := 18) (res := fun r x => [iv .i64 r]) (Ω1 := fun r x => []) Try.func85 rfl rfl hm rfl (fun E hM => ?_)
  unfold cmp_Or_int_m
  refine ref_seq (ref_region ?_)
  refine as1 rfl rfl ?_
  refine l_nil (n_then (ref_seq (ref_region ?_)))
  refine as1 rfl rfl ?_
  refine l_nil (n_then (ref_seq (ref_seq (ref_region ?_))))
  refine mv1 rfl rfl ?_
  refine s_rd (r_len Try.underlying22 rfl) rfl ?_
  refine mv1 rfl rfl ?_
  refine l_nil (n_then ?_)
  refine ref_loopX (f := (cmp_Or_int_l1 vals_0)) (Γl := (fun (s6 : Int) (x7 : Unit) => [(3, iv .i64 0), (6, slv (rI .i64) vals_0), (7, iv .i64 (vals_0.length : Int)), (8, iv .i64 s6)])) (Ωl := (fun (s6 : Int) (x7 : Unit) => [])) (Γb := (fun (q11 : Unit) (y12 : Unit) => [(3, iv .i64 0)])) (Ωb := (fun (q11 : Unit) (y12 : Unit) => [])) (kr := (fun a : Int => some a)) 0 () (weak [] ⟨rfl, rfl, rfl, rfl, trivial⟩ trivial) (fun s6 x7 => ?_) (fun q11 y12 => ?_)
  · unfold cmp_Or_int_l1
    refine ref_seq (ref_region ?_)
    refine s_rd (r_lss rfl rfl) rfl ?_
    refine l_nil (n_then (ref_seq ?_))
    refine ref_cond rfl (fun hb8 => ?_) (fun hb8 => ?_)
    · refine ref_skip (n_then (ref_seq (ref_block (ref_seq (ref_region ?_)))))
      refine pull fun val9 h_val9 => ?_
      refine s_rd (r_index h_val9 Try.underlying22 el_3 rfl rfl) rfl ?_
      refine s_rd (r_load el_3 rfl) rfl ?_
      refine as1 rfl rfl ?_
      refine l_nil (n_then (ref_seq (ref_region ?_)))
      refine mv1 rfl rfl ?_
      refine mv1 rfl rfl ?_
      refine s_rd (r_neq rfl rfl) rfl ?_
      refine l_nil (n_then ?_)
      refine ref_cond rfl (fun hb10 => ?_) (fun hb10 => ?_)
      · refine ref_seq (ref_region ?_)
        refine mv1 rfl rfl ?_
        refine as1 rfl rfl ?_
        refine l_nil (n_then (ref_ret (r_block (r_then ?_))))
        refine retX ?_
        refine r_block (r_then ?_)
        exact fin1 (.inl rfl) () [] rfl trivial rfl (rv_tmp rfl)
      refine ref_skip (n_block (n_then (ref_region ?_)))
      refine s_rd (r_add rfl rfl) rfl ?_
      refine mv1 rfl rfl ?_
      refine l_nil ?_
      exact goX () (weak [] ⟨rfl, rfl, rfl, rfl, trivial⟩ trivial)
    refine ref_exit (x_then ?_)
    exact brkX () (weak [] ⟨rfl, trivial⟩ trivial)
  refine n_then (ref_seq (ref_region ?_))
  refine mv1 rfl rfl ?_
  refine as1 rfl rfl ?_
  refine l_nil (n_then (ref_ret ?_))
  exact fin1 (.inl rfl) () [] rfl trivial rfl (rv_tmp rfl)

/-! deliberation/graph.compare -/
noncomputable def graph_compare_m (a__0 : T_api_Pair) (b_1 : T_api_Pair) : Option (Int) :=
  Option.bind (cmp_Compare_int_m a__0.From b_1.From) fun t3 =>
  Option.bind (cmp_Compare_int_m a__0.To b_1.To) fun t4 =>
  Option.bind (cmp_Or_int_m [t3, t4]) fun t5 =>
  some t5

theorem graph_compare_ok {a__0 : T_api_Pair} {b_1 : T_api_Pair} {r : Int} (hm : graph_compare_m a__0 b_1 = some r) :
    FnOk prog 76 [ag [iv .i64 a__0.From, iv .i64 a__0.To], ag [iv .i64 b_1.From, iv .i64 b_1.To]] [] (fun (x : Unit) => [iv .i64 r]) (fun (x : Unit) => []) := by
  refine fn_ok (fn := Try.f76) (N := 17) (res := fun r x => [iv .i64 r]) (Ω1 := fun r x => []) Try.func76 rfl rfl hm rfl (fun E hM => ?_)
  unfold graph_compare_m
  refine ref_seq (ref_region ?_)
  refine s_st (s_box (part_agO (ψs := [iv .i64 a__0.From, iv .i64 a__0.To]) rfl ⟨.inl iv_at, .inl iv_at, trivial⟩)) rfl (fun b1 => ?_)
  refine s_st (s_box (part_agO (ψs := [iv .i64 b_1.From, iv .i64 b_1.To]) rfl ⟨.inl iv_at, .inl iv_at, trivial⟩)) rfl (fun b2 => ?_)
  refine as1 rfl rfl ?_
  refine l_nil (n_then (ref_seq ?_))
  refine ref_draw [0, 1, 2, 3, 5, 6, 7, 8] rfl (by kernel_rfl) (fun hok => ?_)
  refine a_rd (i := 0) hok rfl (by kernel_rfl) rfl (r_faddr (fo := 0) Try.underlying67 rfl rfl Try.sizeOf3 rfl) rfl ?_
  refine a_rd (i := 1) hok rfl (by kernel_rfl) rfl (r_cload Try.isAgg3 rfl (j := 0) rfl rfl) rfl ?_
  refine a_rd (i := 2) hok rfl (by kernel_rfl) rfl (r_faddr (fo := 0) Try.underlying67 rfl rfl Try.sizeOf3 rfl) rfl ?_
  refine a_rd (i := 3) hok rfl (by kernel_rfl) rfl (r_cload Try.isAgg3 rfl (j := 1) rfl rfl) rfl ?_
  refine a_rd (i := 5) hok rfl (by kernel_rfl) rfl (r_faddr (fo := 1) Try.underlying67 rfl rfl Try.sizeOf3 rfl) rfl ?_
  refine a_rd (i := 6) hok rfl (by kernel_rfl) rfl (r_cload Try.isAgg3 rfl (j := 0) rfl rfl) rfl ?_
  refine a_rd (i := 7) hok rfl (by kernel_rfl) rfl (r_faddr (fo := 1) Try.underlying67 rfl rfl Try.sizeOf3 rfl) rfl ?_
  refine a_rd (i := 8) hok rfl (by kernel_rfl) rfl (r_cload Try.isAgg3 rfl (j := 1) rfl rfl) rfl ?_
  refine pull fun t3 h_t3 => ?_
  refine a_next hok 4 [] (by kernel_rfl) ?_ trivial
  refine a_st (i := 4) hok rfl rfl (s_call (ψ := fun (_ : Unit) => iv .i64 t3) (args := [.tmp 6, .tmp 8]) Try.call70 rfl (cmp_Compare_int_ok h_t3) ⟨arg rfl, arg rfl, trivial⟩ (fun _ _ _ _ h => h)) (by intro _ h; cases h; rfl) (fun _ => ⟨⟨⟨rfl, rfl⟩, trivial⟩, ⟨trivial, ⟨⟨⟨rfl, rfl⟩, trivial⟩, ⟨trivial, ⟨trivial, ⟨trivial, ⟨trivial, ⟨trivial, trivial⟩⟩⟩⟩⟩⟩⟩⟩) (fun _ => ?_)
  refine pull fun t4 h_t4 => ?_
  refine a_next hok 9 [] (by kernel_rfl) ?_ trivial
  refine a_st (i := 9) hok rfl rfl (s_call (ψ := fun (_ : Unit) => iv .i64 t4) (args := [.tmp 11, .tmp 13]) Try.call70 rfl (cmp_Compare_int_ok h_t4) ⟨arg rfl, arg rfl, trivial⟩ (fun _ _ _ _ h => h)) (by intro _ h; cases h; rfl) (fun _ => ⟨trivial, ⟨trivial, ⟨trivial, ⟨trivial, ⟨⟨⟨rfl, rfl⟩, trivial⟩, ⟨trivial, ⟨⟨⟨rfl, rfl⟩, trivial⟩, ⟨trivial, trivial⟩⟩⟩⟩⟩⟩⟩⟩) (fun _ => ?_)
  refine a_next hok 10 [] (by kernel_rfl) ?_ trivial
  refine a_st (i := 10) hok rfl rfl (s_bslice (xs := [.tmp 9, .tmp 14]) (ds := [t3, t4]) Try.underlying22 el_3 rfl (Nat.le_of_ble_eq_true rfl) ⟨(part_at rfl iv_at), ⟨(part_at rfl iv_at), trivial⟩⟩) (by intro _ h; cases h; rfl) (fun _ => ⟨⟨⟨rfl, rfl⟩, trivial⟩, ⟨trivial, ⟨⟨⟨rfl, rfl⟩, trivial⟩, ⟨trivial, ⟨⟨⟨rfl, rfl⟩, trivial⟩, ⟨trivial, ⟨⟨⟨rfl, rfl⟩, trivial⟩, ⟨trivial, trivial⟩⟩⟩⟩⟩⟩⟩⟩) (fun _ => ?_)
  refine pull fun t5 h_t5 => ?_
  refine a_next hok 11 [] (by kernel_rfl) ?_ trivial
  refine a_st (i := 11) hok rfl rfl (s_call (ψ := fun (_ : Unit) => iv .i64 t5) (args := [.tmp 15]) Try.call85 rfl (cmp_Or_int_ok h_t5) ⟨arg rfl, trivial⟩ (fun _ _ _ _ h => h)) (by intro _ h; cases h; rfl) (fun _ => ⟨⟨⟨rfl, rfl⟩, trivial⟩, ⟨trivial, ⟨⟨⟨rfl, rfl⟩, trivial⟩, ⟨trivial, ⟨⟨⟨rfl, rfl⟩, trivial⟩, ⟨trivial, ⟨⟨⟨rfl, rfl⟩, trivial⟩, ⟨trivial, trivial⟩⟩⟩⟩⟩⟩⟩⟩) (fun _ => ?_)
  refine a_next hok 12 [] (by kernel_rfl) ?_ trivial
  refine a_st (i := 12) hok rfl rfl (St.ofRd (r_assign rfl)) (by intro _ h; cases h; rfl) (fun _ => ⟨trivial, ⟨trivial, ⟨trivial, ⟨trivial, ⟨trivial, ⟨trivial, ⟨trivial, ⟨trivial, trivial⟩⟩⟩⟩⟩⟩⟩⟩) (fun _ => ?_)
  refine a_fin hok (by kernel_rfl) ?_
  refine b_of (nrm [oc b1 [iv .i64 a__0.From, iv .i64 a__0.To], oc b2 [iv .i64 b_1.From, iv .i64 b_1.To]] rfl) ?_
  refine n_then (ref_ret ?_)
  exact fin1 (.inl rfl) () [] rfl trivial rfl (rv_tmp rfl)

/-! deliberation/graph.Validate -/
noncomputable def graph_Validate_l1 (g_0 : T_api_Graph) (s12 : Int) : Option (Sum ((Sum (Int) (Unit))) (Int)) :=
  bif decide (s12 < (g_0.L.length : Int)) then
    Option.bind (idxM g_0.L s12) fun t15 =>
    bif decide ((imin t15.From t15.To) < 0) then
      some (Sum.inl (Sum.inl 1))
    else
      bif decide ((imax t15.From t15.To) ≥ g_0.N) then
        some (Sum.inl (Sum.inl 1))
      else
        bif decide (s12 > 0) then
          Option.bind (idxM g_0.L (isub .i64 s12 1)) fun t18 =>
          Option.bind (graph_compare_m t18 t15) fun t19 =>
          bif decide (t19 ≥ 0) then
            some (Sum.inl (Sum.inl 8))
          else
            some (Sum.inr (iadd .i64 s12 1))
        else
          some (Sum.inr (iadd .i64 s12 1))
  else
    some (Sum.inl (Sum.inr ()))

noncomputable def graph_Validate_m (g_0 : T_api_Graph) : Option (Int) :=
  bif decide (g_0.N < 0) then
    some 1
  else
    bif decide (g_0.N > 40) then
      some 1
    else
      Option.bind (loopC (graph_Validate_l1 g_0) 0) (sumK (fun a : Int => some a) fun q21 : Unit =>
        some 0)

theorem graph_Validate_ok {g_0 : T_api_Graph} {r : Int} (hm : graph_Validate_m g_0 = some r) :
    FnOk prog 50 [ag [iv .i64 g_0.N, slv rT_api_Pair g_0.L]] [] (fun (x : Unit) => [iv .i64 r]) (fun (x : Unit) => []) := by
  refine fn_ok (fn := Try.f50) (N := 51) (res := fun r x => [iv .i64 r]) (Ω1 := fun r x => []) Try.func50 rfl rfl hm rfl (fun E hM => ?_)
  unfold graph_Validate_m
  refine ref_seq (ref_region ?_)
  refine s_st (s_box (part_agO (ψs := [iv .i64 g_0.N, slv rT_api_Pair g_0.L]) rfl ⟨.inl iv_at, .inl slv_at, trivial⟩)) rfl (fun b1 => ?_)
  refine as1 rfl rfl ?_
  refine l_nil (n_then (ref_seq (ref_seq (ref_region ?_))))
  refine s_rd (r_faddr (fo := 0) Try.underlying28 rfl rfl Try.sizeOf3 rfl) rfl ?_
  refine s_rd (r_cload Try.isAgg3 rfl (j := 0) rfl rfl) rfl ?_
  refine s_rd (r_lss rfl rfl) rfl ?_
  refine mv1 rfl rfl ?_
  refine b_split (t := 8) rfl (fun _ => ?_) (fun _ => ?_)
  · refine s_off rfl rfl rfl rfl rfl ?_
    refine s_off rfl rfl rfl rfl rfl ?_
    refine s_off rfl rfl rfl rfl rfl ?_
    refine s_rd (r_pickT rfl rfl) rfl ?_
    refine l_nil (n_then ?_)
    refine ref_condT rfl rfl ?_
    refine ref_seq (ref_region ?_)
    refine as1 rfl rfl ?_
    refine l_nil (n_then (ref_ret (r_then ?_)))
    exact fin1 (.inl rfl) () [] rfl trivial rfl (rv_tmp rfl)
  refine s_on rfl rfl rfl ?_
  refine s_rd (r_faddr (fo := 0) Try.underlying28 rfl rfl Try.sizeOf3 rfl) rfl ?_
  refine s_on rfl rfl rfl ?_
  refine s_rd (r_cload Try.isAgg3 rfl (j := 0) rfl rfl) rfl ?_
  refine s_on rfl rfl rfl ?_
  refine s_rd (r_gtr rfl rfl) rfl ?_
  refine s_rd (r_pickF rfl rfl) rfl ?_
  refine l_nil (n_then ?_)
  refine ref_cond rfl (fun hb2 => ?_) (fun hb2 => ?_)
  · refine ref_seq (ref_region ?_)
    refine as1 rfl rfl ?_
    refine l_nil (n_then (ref_ret (r_then ?_)))
    exact fin1 (.inl rfl) () [] rfl trivial rfl (rv_tmp rfl)
  refine ref_skip (n_then (ref_seq (ref_seq (ref_region ?_))))
  refine s_rd (r_faddr (fo := 1) Try.underlying28 rfl rfl Try.sizeOf26 rfl) rfl ?_
  refine s_rd (r_cload Try.isAgg26 rfl (j := 0) rfl rfl) rfl ?_
  refine s_rd (r_len Try.underlying26 rfl) rfl ?_
  refine mv1 rfl rfl ?_
  refine l_nil (n_then ?_)
  refine ref_loopX (f := (graph_Validate_l1 g_0)) (Γl := (fun (s12 : Int) (x13 : Unit) => [(1, pv (ptr b1 0)), (14, slv rT_api_Pair g_0.L), (15, iv .i64 (g_0.L.length : Int)), (16, iv .i64 s12)])) (Ωl := (fun (s12 : Int) (x13 : Unit) => [oc b1 [iv .i64 g_0.N, slv rT_api_Pair g_0.L]])) (Γb := (fun (q21 : Unit) (y22 : Unit) => [])) (Ωb := (fun (q21 : Unit) (y22 : Unit) => [])) (kr := (fun a : Int => some a)) 0 () (weak [0] ⟨rfl, rfl, rfl, rfl, trivial⟩ ⟨rfl, trivial⟩) (fun s12 x13 => ?_) (fun q21 y22 => ?_)
  · unfold graph_Validate_l1
    refine ref_seq (ref_region ?_)
    refine s_rd (r_lss rfl rfl) rfl ?_
    refine l_nil (n_then (ref_seq ?_))
    refine ref_cond rfl (fun hb14 => ?_) (fun hb14 => ?_)
    · refine ref_skip (n_then (ref_seq (ref_block (ref_seq (ref_region ?_)))))
      refine mv1 rfl rfl ?_
      refine pull fun t15 h_t15 => ?_
      refine s_rd (r_index h_t15 Try.underlying26 el_67 rfl rfl) rfl ?_
      refine s_rd (r_load el_67 rfl) rfl ?_
      refine s_st (s_alloc zt_67) rfl (fun b16 => ?_)
      refine as1 rfl rfl ?_
      refine s_st0 (s_cstore (out := [iv .i64 t15.From, iv .i64 t15.To]) Try.sizeOf67 rfl (j := 1) rfl (part_agO (ψs := [iv .i64 t15.From, iv .i64 t15.To]) rfl ⟨.inl iv_at, .inl iv_at, trivial⟩) rfl rfl rfl) (fun _ => ?_)
      refine l_nil (n_then (ref_seq (ref_seq (ref_region ?_))))
      refine s_rd (r_faddr (fo := 0) Try.underlying67 rfl rfl Try.sizeOf3 rfl) rfl ?_
      refine s_rd (r_cload Try.isAgg3 rfl (j := 1) rfl rfl) rfl ?_
      refine s_rd (r_faddr (fo := 1) Try.underlying67 rfl rfl Try.sizeOf3 rfl) rfl ?_
      refine s_rd (r_cload Try.isAgg3 rfl (j := 1) rfl rfl) rfl ?_
      refine s_rd (r_min rfl rfl) rfl ?_
      refine s_rd (r_lss rfl rfl) rfl ?_
      refine mv1 rfl rfl ?_
      refine b_split (t := 27) rfl (fun _ => ?_) (fun _ => ?_)
      · refine s_off rfl rfl rfl rfl rfl ?_
        refine s_off rfl rfl rfl rfl rfl ?_
        refine s_off rfl rfl rfl rfl rfl ?_
        refine s_off rfl rfl rfl rfl rfl ?_
        refine s_off rfl rfl rfl rfl rfl ?_
        refine s_off rfl rfl rfl rfl rfl ?_
        refine s_off rfl rfl rfl rfl rfl ?_
        refine s_off rfl rfl rfl rfl rfl ?_
        refine s_rd (r_pickT rfl rfl) rfl ?_
        refine l_nil (n_then ?_)
        refine ref_condT rfl rfl ?_
        refine ref_seq (ref_region ?_)
        refine as1 rfl rfl ?_
        refine l_nil (n_then (ref_ret (r_then (r_block (r_then ?_)))))
        refine retX ?_
        refine r_block (r_then ?_)
        exact fin1 (.inl rfl) () [] rfl trivial rfl (rv_tmp rfl)
      refine s_on rfl rfl rfl ?_
      refine s_rd (r_faddr (fo := 0) Try.underlying67 rfl rfl Try.sizeOf3 rfl) rfl ?_
      refine s_on rfl rfl rfl ?_
      refine s_rd (r_cload Try.isAgg3 rfl (j := 1) rfl rfl) rfl ?_
      refine s_on rfl rfl rfl ?_
      refine s_rd (r_faddr (fo := 1) Try.underlying67 rfl rfl Try.sizeOf3 rfl) rfl ?_
      refine s_on rfl rfl rfl ?_
      refine s_rd (r_cload Try.isAgg3 rfl (j := 1) rfl rfl) rfl ?_
      refine s_on rfl rfl rfl ?_
      refine s_rd (r_max rfl rfl) rfl ?_
      refine s_on rfl rfl rfl ?_
      refine s_rd (r_faddr (fo := 0) Try.underlying28 rfl rfl Try.sizeOf3 rfl) rfl ?_
      refine s_on rfl rfl rfl ?_
      refine s_rd (r_cload Try.isAgg3 rfl (j := 0) rfl rfl) rfl ?_
      refine s_on rfl rfl rfl ?_
      refine s_rd (r_geq rfl rfl) rfl ?_
      refine s_rd (r_pickF rfl rfl) rfl ?_
      refine l_nil (n_then ?_)
      refine ref_cond rfl (fun hb17 => ?_) (fun hb17 => ?_)
      · refine ref_seq (ref_region ?_)
        refine as1 rfl rfl ?_
        refine l_nil (n_then (ref_ret (r_then (r_block (r_then ?_)))))
        refine retX ?_
        refine r_block (r_then ?_)
        exact fin1 (.inl rfl) () [] rfl trivial rfl (rv_tmp rfl)
      refine ref_skip (n_then (ref_seq ?_))
      refine ref_draw [0, 1, 2, 3, 4, 5, 6, 7, 8, 9, 11, 12] rfl (by kernel_rfl) (fun hok => ?_)
      refine a_rd (i := 0) hok rfl (by kernel_rfl) rfl (r_move rfl) rfl ?_
      refine a_rd (i := 1) hok rfl (by kernel_rfl) rfl (r_gtr rfl rfl) rfl ?_
      refine a_rd (i := 2) hok rfl (by kernel_rfl) rfl (r_move rfl) rfl ?_
      refine b_split (t := 39) rfl (fun _ => ?_) (fun _ => ?_)
      · refine a_rdOn (i := 3) hok rfl rfl rfl rfl (by kernel_rfl) rfl (r_faddr (fo := 1) Try.underlying28 rfl rfl Try.sizeOf26 rfl) rfl ?_
        refine a_rdOn (i := 4) hok rfl rfl rfl rfl (by kernel_rfl) rfl (r_cload Try.isAgg26 rfl (j := 0) rfl rfl) rfl ?_
        refine a_rdOn (i := 5) hok rfl rfl rfl rfl (by kernel_rfl) rfl (r_move rfl) rfl ?_
        refine a_rdOn (i := 6) hok rfl rfl rfl rfl (by kernel_rfl) rfl (r_sub rfl rfl) rfl ?_
        refine pull fun t18 h_t18 => ?_
        refine a_rdOn (i := 7) hok rfl rfl rfl rfl (by kernel_rfl) rfl (r_index h_t18 Try.underlying26 el_67 rfl rfl) rfl ?_
        refine a_rdOn (i := 8) hok rfl rfl rfl rfl (by kernel_rfl) rfl (r_load el_67 rfl) rfl ?_
        refine a_rdOn (i := 9) hok rfl rfl rfl rfl (by kernel_rfl) rfl (r_cloadS Try.isAgg67 Try.sizeOf67 rfl (j := 1) rfl rfl rfl) rfl ?_
        refine pull fun t19 h_t19 => ?_
        refine a_next hok 10 [] (by kernel_rfl) ?_ trivial
        refine a_stOn (i := 10) hok rfl rfl rfl rfl rfl (s_call (ψ := fun (_ : Unit) => iv .i64 t19) (args := [.tmp 45, .tmp 46]) Try.call76 rfl (graph_compare_ok h_t19) ⟨arg rfl, arg rfl, trivial⟩ (fun _ _ _ _ h => h)) (by intro _ h; cases h; rfl) (fun _ => ⟨trivial, ⟨trivial, ⟨trivial, ⟨trivial, ⟨trivial, ⟨⟨⟨rfl, rfl⟩, trivial⟩, ⟨trivial, ⟨trivial, ⟨trivial, ⟨trivial, trivial⟩⟩⟩⟩⟩⟩⟩⟩⟩⟩) (fun _ => ?_)
        refine a_rdOn (i := 11) hok rfl rfl rfl rfl (by kernel_rfl) rfl (r_geq rfl rfl) rfl ?_
        refine a_rd (i := 12) hok rfl (by kernel_rfl) rfl (r_pickT rfl rfl) rfl ?_
        refine a_fin hok (by kernel_rfl) ?_
        refine b_of (nrm [oc b1 [iv .i64 g_0.N, slv rT_api_Pair g_0.L], oc b16 [iv .i64 t15.From, iv .i64 t15.To]] rfl) ?_
        refine n_then ?_
        refine ref_cond rfl (fun hb20 => ?_) (fun hb20 => ?_)
        · refine ref_seq (ref_region ?_)
          refine as1 rfl rfl ?_
          refine l_nil (n_then (ref_ret (r_block (r_then ?_))))
          refine retX ?_
          refine r_block (r_then ?_)
          exact fin1 (.inl rfl) () [] rfl trivial rfl (rv_tmp rfl)
        refine ref_skip (n_block (n_then (ref_region ?_)))
        refine s_rd (r_add rfl rfl) rfl ?_
        refine mv1 rfl rfl ?_
        refine l_nil ?_
        exact goX () (weak [0] ⟨rfl, rfl, rfl, rfl, trivial⟩ ⟨rfl, trivial⟩)
      refine a_off (i := 3) hok rfl rfl rfl rfl rfl (by kernel_rfl) rfl rfl ?_
      refine a_off (i := 4) hok rfl rfl rfl rfl rfl (by kernel_rfl) rfl rfl ?_
      refine a_off (i := 5) hok rfl rfl rfl rfl rfl (by kernel_rfl) rfl rfl ?_
      refine a_off (i := 6) hok rfl rfl rfl rfl rfl (by kernel_rfl) rfl rfl ?_
      refine a_off (i := 7) hok rfl rfl rfl rfl rfl (by kernel_rfl) rfl rfl ?_
      refine a_off (i := 8) hok rfl rfl rfl rfl rfl (by kernel_rfl) rfl rfl ?_
      refine a_off (i := 9) hok rfl rfl rfl rfl rfl (by kernel_rfl) rfl rfl ?_
      refine a_next hok 10 [] (by kernel_rfl) ?_ trivial
      refine a_stOff (i := 10) hok rfl rfl rfl rfl rfl rfl (by intro _ h; cases h; rfl) ⟨trivial, ⟨trivial, ⟨trivial, ⟨trivial, ⟨trivial, ⟨trivial, ⟨trivial, ⟨trivial, ⟨trivial, ⟨trivial, trivial⟩⟩⟩⟩⟩⟩⟩⟩⟩⟩ ?_
      refine a_off (i := 11) hok rfl rfl rfl rfl rfl (by kernel_rfl) rfl rfl ?_
      refine a_rd (i := 12) hok rfl (by kernel_rfl) rfl (r_pickF rfl rfl) rfl ?_
      refine a_fin hok (by kernel_rfl) ?_
      refine n_then ?_
      refine ref_condF rfl rfl ?_
      refine ref_skip (n_block (n_then (ref_region ?_)))
      refine s_rd (r_add rfl rfl) rfl ?_
      refine mv1 rfl rfl ?_
      refine l_nil ?_
      exact goX () (weak [0] ⟨rfl, rfl, rfl, rfl, trivial⟩ ⟨rfl, trivial⟩)
    refine ref_exit (x_then ?_)
    exact brkX () (weak [] trivial trivial)
  refine n_then (ref_seq (ref_region ?_))
  refine as1 rfl rfl ?_
  refine l_nil (n_then (ref_ret ?_))
  exact fin1 (.inl rfl) () [] rfl trivial rfl (rv_tmp rfl)

/-! deliberation/participant.Full -/
noncomputable def participant_Full_l1 (g_0 : T_api_Graph) (s21 : Int × (List Int)) : Option (Sum ((List Int)) (Int × (List Int))) :=
  bif decide (s21.1 < g_0.N) then
    Option.bind (appM 8 s21.2 [s21.1]) fun t24 =>
    some (Sum.inr (iadd .i64 s21.1 1, t24))
  else
    some (Sum.inl s21.2)

noncomputable def participant_Full_m (g_0 : T_api_Graph) (style_1 : Int) : Option (T_api_Player) :=
  Option.bind (graph_Validate_m g_0) fun t3 =>
  bif t3 != 0 then
    some (T_api_Player.mk [] [] [] 0)
  else
    Option.bind (loopC (participant_Full_l1 g_0) (0, [])) fun q26 : (List Int) =>
    some (T_api_Player.mk q26 [] [] style_1)

theorem participant_Full_ok {g_0 : T_api_Graph} {style_1 : Int} {r : T_api_Player} (hm : participant_Full_m g_0 style_1 = some r) :
    FnOk prog 17 [ag [iv .i64 g_0.N, slv rT_api_Pair g_0.L], iv .i64 style_1] [] (fun (x : Unit) => [ag [slv (rI .i64) r.Pool, slv (rI .i64) r.Withheld, slv rT_api_Move r.Script, iv .i64 r.Style]]) (fun (x : Unit) => []) := by
  refine fn_ok (fn := Try.f17) (N := 26) (res := fun r x => [ag [slv (rI .i64) r.Pool, slv (rI .i64) r.Withheld, slv rT_api_Move r.Script, iv .i64 r.Style]]) (Ω1 := fun r x => []) Try.func17 rfl rfl hm rfl (fun E hM => ?_)
  unfold participant_Full_m
  refine ref_seq (ref_region ?_)
  refine s_st (s_box (part_agO (ψs := [iv .i64 g_0.N, slv rT_api_Pair g_0.L]) rfl ⟨.inl iv_at, .inl slv_at, trivial⟩)) rfl (fun b1 => ?_)
  refine s_st (s_alloc zt_25) rfl (fun b2 => ?_)
  refine l_nil (n_then (ref_seq (ref_seq (ref_region ?_))))
  refine s_rd (r_cloadS Try.isAgg28 Try.sizeOf28 rfl (j := 0) rfl rfl rfl) rfl ?_
  refine pull fun t3 h_t3 => ?_
  refine s_st (s_call (ψ := fun (_ : Unit) => iv .i64 t3) (args := [.tmp 7]) Try.call50 rfl (graph_Validate_ok h_t3) ⟨arg rfl, trivial⟩ (fun _ _ _ _ h => h)) rfl (fun _ => ?_)
  refine s_rd (r_neq rfl rfl) rfl ?_
  refine l_nil (n_then ?_)
  refine ref_cond rfl (fun hb4 => ?_) (fun hb4 => ?_)
  · refine ref_seq (ref_region ?_)
    refine s_rd (r_build (ps := []) (rs := []) st_25 zs_25 trivial rfl rfl) rfl ?_
    refine s_st0 (s_cstore (out := [pv (.slice none 0 0), pv (.slice none 0 0), pv (.slice none 0 0), iv .i64 0]) Try.sizeOf25 rfl (j := 1) rfl (part_agO (ψs := [pv (.slice none 0 0), pv (.slice none 0 0), pv (.slice none 0 0), iv .i64 0]) rfl ⟨.inl (pv_at rfl), .inl (pv_at rfl), .inl (pv_at rfl), .inl iv_at, trivial⟩) rfl rfl rfl) (fun _ => ?_)
    refine l_nil ?_
    refine b_of (nrm [oc b1 [iv .i64 g_0.N, slv rT_api_Pair g_0.L], oc b2 [pv (.slice none 0 0), pv (.slice none 0 0), pv (.slice none 0 0), iv .i64 0]] rfl) ?_
    refine n_then (ref_ret (r_then ?_))
    refine b_of (ocW 1 [slv (rI .i64) [], slv (rI .i64) [], slv rT_api_Move [], iv .i64 0] rfl ⟨nil_sl, nil_sl, nil_sl, imp_rfl, trivial⟩) ?_
    exact fin1 (.inl rfl) () [] rfl trivial rfl (rv_cell rfl (j := 1) rfl Try.isAgg25 Try.sizeOf25 rfl rfl)
  refine ref_skip (n_then (ref_seq (ref_region ?_)))
  refine mv1 rfl rfl ?_
  refine s_rd (r_build (ps := [(3, .tmp 11)]) (rs := [(3, [iv .i64 style_1])]) st_25 zs_25 ⟨rfl, (part_at rfl iv_at), trivial⟩ rfl rfl) rfl ?_
  refine s_st (s_alloc zt_25) rfl (fun b5 => ?_)
  refine s_st0 (s_cstore (out := [pv (.slice none 0 0), pv (.slice none 0 0), pv (.slice none 0 0), iv .i64 style_1]) Try.sizeOf25 rfl (j := 2) rfl (part_agO (ψs := [pv (.slice none 0 0), pv (.slice none 0 0), pv (.slice none 0 0), iv .i64 style_1]) rfl ⟨.inl (pv_at rfl), .inl (pv_at rfl), .inl (pv_at rfl), .inl iv_at, trivial⟩) rfl rfl rfl) (fun _ => ?_)
  refine l_nil ?_
  refine b_of (nrm [oc b1 [iv .i64 g_0.N, slv rT_api_Pair g_0.L], oc b2 [pv (.slice none 0 0), pv (.slice none 0 0), pv (.slice none 0 0), iv .i64 0], oc b5 [pv (.slice none 0 0), pv (.slice none 0 0), pv (.slice none 0 0), iv .i64 style_1]] rfl) ?_
  refine n_then (ref_seq (ref_seq (ref_region ?_)))
  refine s_rd (r_faddr (fo := 0) Try.underlying28 rfl rfl Try.sizeOf3 rfl) rfl ?_
  refine s_rd (r_cload Try.isAgg3 rfl (j := 0) rfl rfl) rfl ?_
  refine mv1 rfl rfl ?_
  refine l_nil (n_then ?_)
  refine b_of (own_nil (rI .i64)) ?_
  refine ref_loopB (f := (participant_Full_l1 g_0)) (Γl := (fun (s21 : Int × (List Int)) (x22 : (Value × List Nat)) => [(4, pv (ptr b2 0)), (5, pv (ptr b5 0)), (14, iv .i64 g_0.N), (15, iv .i64 s21.1)])) (Ωl := (fun (s21 : Int × (List Int)) (x22 : (Value × List Nat)) => [oc b2 [pv (.slice none 0 0), pv (.slice none 0 0), pv (.slice none 0 0), iv .i64 0], oc b5 [pv x22.1, pv (.slice none 0 0), pv (.slice none 0 0), iv .i64 style_1], oa (rI .i64) x22.1 x22.2 s21.2])) (Γb := (fun (q26 : (List Int)) (y27 : (Value × List Nat)) => [(4, pv (ptr b2 0)), (5, pv (ptr b5 0))])) (Ωb := (fun (q26 : (List Int)) (y27 : (Value × List Nat)) => [oc b2 [pv (.slice none 0 0), pv (.slice none 0 0), pv (.slice none 0 0), iv .i64 0], oc b5 [pv y27.1, pv (.slice none 0 0), pv (.slice none 0 0), iv .i64 style_1], oa (rI .i64) y27.1 y27.2 q26])) (0, []) ((.slice none 0 0), []) (weak [1, 2, 3] ⟨rfl, rfl, rfl, rfl, trivial⟩ ⟨rfl, rfl, rfl, trivial⟩) (fun s21 x22 => ?_) (fun q26 y27 => ?_)
  · unfold participant_Full_l1
    refine ref_seq (ref_region ?_)
    refine s_rd (r_lss rfl rfl) rfl ?_
    refine l_nil (n_then (ref_seq ?_))
    refine ref_cond rfl (fun hb23 => ?_) (fun hb23 => ?_)
    · refine ref_skip (n_then (ref_seq (ref_block (ref_seq (ref_region ?_)))))
      refine mv1 rfl rfl ?_
      refine as1 rfl rfl ?_
      refine l_nil (n_then (ref_region ?_))
      refine s_rd (r_faddr (fo := 0) Try.underlying25 rfl rfl Try.sizeOf22 rfl) rfl ?_
      refine s_rd (r_cload Try.isAgg22 rfl (j := 1) rfl rfl) rfl ?_
      refine mv1 rfl rfl ?_
      refine s_st (s_bslice (xs := [.tmp 20]) (ds := [s21.1]) Try.underlying22 el_3 rfl (Nat.le_of_ble_eq_true rfl) ⟨(part_at rfl iv_at), trivial⟩) rfl (fun _ => ?_)
      refine pull fun t24 h_t24 => ?_
      refine s_st (s_append h_t24 Try.underlying22 el_3 rfl (j := 2) rfl rfl) rfl (fun o25 => ?_)
      refine s_rd (r_faddr (fo := 0) Try.underlying25 rfl rfl Try.sizeOf22 rfl) rfl ?_
      refine s_st0 (s_cstore (out := [pv o25.1, pv (.slice none 0 0), pv (.slice none 0 0), iv .i64 style_1]) Try.sizeOf22 rfl (j := 1) rfl (part_own rfl (j := 2) rfl) rfl rfl rfl) (fun _ => ?_)
      refine l_nil (n_block (n_then (ref_region ?_)))
      refine s_rd (r_add rfl rfl) rfl ?_
      refine mv1 rfl rfl ?_
      refine l_nil ?_
      exact goB o25 (weak [0, 1, 2] ⟨rfl, rfl, rfl, rfl, trivial⟩ ⟨rfl, rfl, rfl, trivial⟩)
    refine ref_exit (x_then ?_)
    exact brkB x22 (weak [0, 1, 2] ⟨rfl, rfl, trivial⟩ ⟨rfl, rfl, rfl, trivial⟩)
  refine n_then (ref_seq (ref_region ?_))
  refine s_rd (r_cloadS Try.isAgg25 Try.sizeOf25 rfl (j := 1) rfl rfl rfl) rfl ?_
  refine s_st0 (s_cstore (out := [pv y27.1, pv (.slice none 0 0), pv (.slice none 0 0), iv .i64 style_1]) Try.sizeOf25 rfl (j := 0) rfl (part_agO (ψs := [pv y27.1, pv (.slice none 0 0), pv (.slice none 0 0), iv .i64 style_1]) rfl ⟨.inr ⟨_, _, _, _, _, 2, rfl, rfl⟩, .inl (pv_at rfl), .inl (pv_at rfl), .inl iv_at, trivial⟩) rfl rfl rfl) (fun _ => ?_)
  refine l_nil (n_then (ref_ret ?_))
  refine b_of (frzGL [(25, ag [slv (rI .i64) q26, pv (.slice none 0 0), pv (.slice none 0 0), iv .i64 style_1])] [(0, b2, [slv (rI .i64) q26, pv (.slice none 0 0), pv (.slice none 0 0), iv .i64 style_1]), (1, b5, [slv (rI .i64) q26, pv (.slice none 0 0), pv (.slice none 0 0), iv .i64 style_1])] (j := 2) rfl ⟨⟨_, rfl, .inr ⟨_, _, rfl, rfl, ⟨.inr ⟨rfl, rfl⟩, .inl rfl, .inl rfl, .inl rfl, trivial⟩⟩⟩, trivial⟩ ⟨⟨_, rfl, ⟨.inr ⟨rfl, rfl⟩, .inl rfl, .inl rfl, .inl rfl, trivial⟩⟩, ⟨_, rfl, ⟨.inr ⟨rfl, rfl⟩, .inl rfl, .inl rfl, .inl rfl, trivial⟩⟩, trivial⟩) ?_
  refine b_of (ocW 0 [slv (rI .i64) q26, slv (rI .i64) [], slv rT_api_Move [], iv .i64 style_1] rfl ⟨imp_rfl, nil_sl, nil_sl, imp_rfl, trivial⟩) ?_
  exact fin1 (.inl rfl) () [] rfl trivial rfl (rv_cell rfl (j := 0) rfl Try.isAgg25 Try.sizeOf25 rfl rfl)

/-! deliberation/network.Ascending -/
noncomputable def network_Ascending_l1 (l_0 : (List Int)) (nodes_1 : Int) (s7 : Int) : Option (Sum ((Sum (Bool) (Unit))) (Int)) :=
  bif decide (s7 < (l_0.length : Int)) then
    Option.bind (idxM l_0 s7) fun n10 =>
    bif decide (n10 < 0) then
      some (Sum.inl (Sum.inl false))
    else
      bif decide (n10 ≥ nodes_1) then
        some (Sum.inl (Sum.inl false))
      else
        bif decide (s7 > 0) then
          Option.bind (idxM l_0 (isub .i64 s7 1)) fun t11 =>
          bif decide (n10 ≤ t11) then
            some (Sum.inl (Sum.inl false))
          else
            some (Sum.inr (iadd .i64 s7 1))
        else
          some (Sum.inr (iadd .i64 s7 1))
  else
    some (Sum.inl (Sum.inr ()))

noncomputable def network_Ascending_m (l_0 : (List Int)) (nodes_1 : Int) : Option (Bool) :=
  Option.bind (loopC (network_Ascending_l1 l_0 nodes_1) 0) (sumK (fun a : Bool => some a) fun q13 : Unit =>
    some true)

theorem network_Ascending_ok {l_0 : (List Int)} {nodes_1 : Int} {r : Bool} (hm : network_Ascending_m l_0 nodes_1 = some r) :
    FnOk prog 63 [slv (rI .i64) l_0, iv .i64 nodes_1] [] (fun (x : Unit) => [bv r]) (fun (x : Unit) => []) := by
  refine fn_ok (fn := Try.f63) (N := 35) (res := fun r x => [bv r]) (Ω1 := fun r x => []) Try.func63 rfl rfl hm rfl (fun E hM => ?_)
  unfold network_Ascending_m
  refine ref_seq (ref_region ?_)
  refine as1 rfl rfl ?_
  refine l_nil (n_then (ref_seq (ref_seq (ref_region ?_))))
  refine mv1 rfl rfl ?_
  refine s_rd (r_len Try.underlying22 rfl) rfl ?_
  refine mv1 rfl rfl ?_
  refine l_nil (n_then ?_)
  refine ref_loopX (f := (network_Ascending_l1 l_0 nodes_1)) (Γl := (fun (s7 : Int) (x8 : Unit) => [(0, slv (rI .i64) l_0), (1, iv .i64 nodes_1), (7, slv (rI .i64) l_0), (8, iv .i64 (l_0.length : Int)), (9, iv .i64 s7)])) (Ωl := (fun (s7 : Int) (x8 : Unit) => [])) (Γb := (fun (q13 : Unit) (y14 : Unit) => [])) (Ωb := (fun (q13 : Unit) (y14 : Unit) => [])) (kr := (fun a : Bool => some a)) 0 () (weak [] ⟨rfl, rfl, rfl, rfl, rfl, trivial⟩ trivial) (fun s7 x8 => ?_) (fun q13 y14 => ?_)
  · unfold network_Ascending_l1
    refine ref_seq (ref_region ?_)
    refine s_rd (r_lss rfl rfl) rfl ?_
    refine l_nil (n_then (ref_seq ?_))
    refine ref_cond rfl (fun hb9 => ?_) (fun hb9 => ?_)
    · refine ref_skip (n_then (ref_seq (ref_block (ref_seq (ref_region ?_)))))
      refine mv1 rfl rfl ?_
      refine pull fun n10 h_n10 => ?_
      refine s_rd (r_index h_n10 Try.underlying22 el_3 rfl rfl) rfl ?_
      refine s_rd (r_load el_3 rfl) rfl ?_
      refine as1 rfl rfl ?_
      refine as1 rfl rfl ?_
      refine l_nil (n_then (ref_seq (ref_region ?_)))
      refine mv1 rfl rfl ?_
      refine s_rd (r_lss rfl rfl) rfl ?_
      refine mv1 rfl rfl ?_
      refine b_split (t := 16) rfl (fun _ => ?_) (fun _ => ?_)
      · refine s_off rfl rfl rfl rfl rfl ?_
        refine s_off rfl rfl rfl rfl rfl ?_
        refine s_off rfl rfl rfl rfl rfl ?_
        refine s_rd (r_pickT rfl rfl) rfl ?_
        refine mv1 rfl rfl ?_
        refine s_off rfl rfl rfl rfl rfl ?_
        refine s_off rfl rfl rfl rfl rfl ?_
        refine s_off rfl rfl rfl rfl rfl ?_
        refine s_offU rfl rfl rfl ?_
        refine s_offU rfl rfl rfl ?_
        refine s_offU rfl rfl rfl ?_
        refine s_offU rfl rfl rfl ?_
        refine s_offU rfl rfl rfl ?_
        refine s_offU rfl rfl rfl ?_
        refine s_offU rfl rfl rfl ?_
        refine s_off rfl rfl rfl rfl rfl ?_
        refine s_rd (r_pickT rfl rfl) rfl ?_
        refine l_nil (n_then ?_)
        refine ref_condT rfl rfl ?_
        refine ref_seq (ref_region ?_)
        refine as1 rfl rfl ?_
        refine l_nil (n_then (ref_ret (r_block (r_then ?_))))
        refine retX ?_
        refine r_block (r_then ?_)
        exact fin1 (.inl rfl) () [] rfl trivial rfl (rv_tmp rfl)
      refine s_on rfl rfl rfl ?_
      refine mv1 rfl rfl ?_
      refine s_on rfl rfl rfl ?_
      refine mv1 rfl rfl ?_
      refine s_on rfl rfl rfl ?_
      refine s_rd (r_geq rfl rfl) rfl ?_
      refine s_rd (r_pickF rfl rfl) rfl ?_
      refine mv1 rfl rfl ?_
      refine b_split (t := 21) rfl (fun _ => ?_) (fun _ => ?_)
      · refine s_off rfl rfl rfl rfl rfl ?_
        refine s_off rfl rfl rfl rfl rfl ?_
        refine s_off rfl rfl rfl rfl rfl ?_
        refine s_offU rfl rfl rfl ?_
        refine s_offU rfl rfl rfl ?_
        refine s_offU rfl rfl rfl ?_
        refine s_offU rfl rfl rfl ?_
        refine s_offU rfl rfl rfl ?_
        refine s_offU rfl rfl rfl ?_
        refine s_offU rfl rfl rfl ?_
        refine s_off rfl rfl rfl rfl rfl ?_
        refine s_rd (r_pickT rfl rfl) rfl ?_
        refine l_nil (n_then ?_)
        refine ref_condT rfl rfl ?_
        refine ref_seq (ref_region ?_)
        refine as1 rfl rfl ?_
        refine l_nil (n_then (ref_ret (r_block (r_then ?_))))
        refine retX ?_
        refine r_block (r_then ?_)
        exact fin1 (.inl rfl) () [] rfl trivial rfl (rv_tmp rfl)
      refine s_on rfl rfl rfl ?_
      refine mv1 rfl rfl ?_
      refine s_on rfl rfl rfl ?_
      refine s_rd (r_gtr rfl rfl) rfl ?_
      refine s_on rfl rfl rfl ?_
      refine mv1 rfl rfl ?_
      refine b_split (t := 24) rfl (fun _ => ?_) (fun _ => ?_)
      · refine s_on rfl rfl rfl ?_
        refine mv1 rfl rfl ?_
        refine s_on rfl rfl rfl ?_
        refine mv1 rfl rfl ?_
        refine s_on rfl rfl rfl ?_
        refine mv1 rfl rfl ?_
        refine s_on rfl rfl rfl ?_
        refine s_rd (r_sub rfl rfl) rfl ?_
        refine s_on rfl rfl rfl ?_
        refine pull fun t11 h_t11 => ?_
        refine s_rd (r_index h_t11 Try.underlying22 el_3 rfl rfl) rfl ?_
        refine s_on rfl rfl rfl ?_
        refine s_rd (r_load el_3 rfl) rfl ?_
        refine s_on rfl rfl rfl ?_
        refine s_rd (r_leq rfl rfl) rfl ?_
        refine s_on rfl rfl rfl ?_
        refine s_rd (r_pickT rfl rfl) rfl ?_
        refine s_rd (r_pickF rfl rfl) rfl ?_
        refine l_nil (n_then ?_)
        refine ref_cond rfl (fun hb12 => ?_) (fun hb12 => ?_)
        · refine ref_seq (ref_region ?_)
          refine as1 rfl rfl ?_
          refine l_nil (n_then (ref_ret (r_block (r_then ?_))))
          refine retX ?_
          refine r_block (r_then ?_)
          exact fin1 (.inl rfl) () [] rfl trivial rfl (rv_tmp rfl)
        refine ref_skip (n_block (n_then (ref_region ?_)))
        refine s_rd (r_add rfl rfl) rfl ?_
        refine mv1 rfl rfl ?_
        refine l_nil ?_
        exact goX () (weak [] ⟨rfl, rfl, rfl, rfl, rfl, trivial⟩ trivial)
      refine s_off rfl rfl rfl rfl rfl ?_
      refine s_off rfl rfl rfl rfl rfl ?_
      refine s_off rfl rfl rfl rfl rfl ?_
      refine s_off rfl rfl rfl rfl rfl ?_
      refine s_off rfl rfl rfl rfl rfl ?_
      refine s_off rfl rfl rfl rfl rfl ?_
      refine s_off rfl rfl rfl rfl rfl ?_
      refine s_on rfl rfl rfl ?_
      refine s_rd (r_pickF rfl rfl) rfl ?_
      refine s_rd (r_pickF rfl rfl) rfl ?_
      refine l_nil (n_then ?_)
      refine ref_condF rfl rfl ?_
      refine ref_skip (n_block (n_then (ref_region ?_)))
      refine s_rd (r_add rfl rfl) rfl ?_
      refine mv1 rfl rfl ?_
      refine l_nil ?_
      exact goX () (weak [] ⟨rfl, rfl, rfl, rfl, rfl, trivial⟩ trivial)
    refine ref_exit (x_then ?_)
    exact brkX () (weak [] trivial trivial)
  refine n_then (ref_seq (ref_region ?_))
  refine as1 rfl rfl ?_
  refine l_nil (n_then (ref_ret ?_))
  exact fin1 (.inl rfl) () [] rfl trivial rfl (rv_tmp rfl)

/-! deliberation/participant.valid -/
noncomputable def participant_valid_m (d_0 : T_api_Dialogue) (p_1 : T_api_Player) : Option (Int) :=
  joinM (fun j5 : Bool =>
      bif j5 then
        some 1
      else
        bif decide (p_1.Style < 1) then
          some 4
        else
          letM (decide (p_1.Style > 3)) fun t9 =>
          bif t9 then
            some 4
          else
            some 0) fun k7 =>
  Option.bind (network_Ascending_m p_1.Pool d_0.Graph.N) fun t3 =>
  bif !t3 then
    k7 true
  else
    Option.bind (network_Ascending_m p_1.Withheld d_0.Graph.N) fun t4 =>
    k7 (!t4)

theorem participant_valid_ok {d_0 : T_api_Dialogue} {p_1 : T_api_Player} {r : Int} (hm : participant_valid_m d_0 p_1 = some r) :
    FnOk prog 33 [ag [iv .i64 d_0.Graph.N, slv rT_api_Pair d_0.Graph.L, iv .i64 d_0.Root, iv .i64 d_0.Limits.i0, iv .i64 d_0.Limits.i1, slv rT_api_Move d_0.Moves], ag [slv (rI .i64) p_1.Pool, slv (rI .i64) p_1.Withheld, slv rT_api_Move p_1.Script, iv .i64 p_1.Style]] [] (fun (x : Unit) => [iv .i64 r]) (fun (x : Unit) => []) := by
  refine fn_ok (fn := Try.f33) (N := 31) (res := fun r x => [iv .i64 r]) (Ω1 := fun r x => []) Try.func33 rfl rfl hm rfl (fun E hM => ?_)
  unfold participant_valid_m
  refine ref_seq (ref_region ?_)
  refine s_st (s_box (part_agO (ψs := [iv .i64 d_0.Graph.N, slv rT_api_Pair d_0.Graph.L, iv .i64 d_0.Root, iv .i64 d_0.Limits.i0, iv .i64 d_0.Limits.i1, slv rT_api_Move d_0.Moves]) rfl ⟨.inl iv_at, .inl slv_at, .inl iv_at, .inl iv_at, .inl iv_at, .inl slv_at, trivial⟩)) rfl (fun b1 => ?_)
  refine s_st (s_box (part_agO (ψs := [slv (rI .i64) p_1.Pool, slv (rI .i64) p_1.Withheld, slv rT_api_Move p_1.Script, iv .i64 p_1.Style]) rfl ⟨.inl slv_at, .inl slv_at, .inl slv_at, .inl iv_at, trivial⟩)) rfl (fun b2 => ?_)
  refine as1 rfl rfl ?_
  refine l_nil (n_then (ref_seq (ref_block (ref_seq ?_))))
  refine ref_join (fun (j5 : Bool) (x6 : Unit) => [(3, pv (ptr b2 0)), (5, bv j5)]) (fun (j5 : Bool) (x6 : Unit) => [oc b2 [slv (rI .i64) p_1.Pool, slv (rI .i64) p_1.Withheld, slv rT_api_Move p_1.Script, iv .i64 p_1.Style]]) (fun k7 hk7 => ?_) (fun j5 x6 => ?_)
  · refine ref_region ?_
    refine s_rd (r_faddr (fo := 0) Try.underlying25 rfl rfl Try.sizeOf22 rfl) rfl ?_
    refine s_rd (r_cload Try.isAgg22 rfl (j := 1) rfl rfl) rfl ?_
    refine s_rd (r_faddr (fo := 0) Try.underlying35 rfl rfl Try.sizeOf28 rfl) rfl ?_
    refine s_rd (r_faddr (fo := 0) Try.underlying28 rfl rfl Try.sizeOf3 rfl) rfl ?_
    refine s_rd (r_cload Try.isAgg3 rfl (j := 0) rfl rfl) rfl ?_
    refine pull fun t3 h_t3 => ?_
    refine s_st (s_call (ψ := fun (_ : Unit) => bv t3) (args := [.tmp 7, .tmp 10]) Try.call63 rfl (network_Ascending_ok h_t3) ⟨arg rfl, arg rfl, trivial⟩ (fun _ _ _ _ h => h)) rfl (fun _ => ?_)
    refine s_rd (r_not rfl) rfl ?_
    refine mv1 rfl rfl ?_
    refine b_split (t := 13) rfl (fun _ => ?_) (fun _ => ?_)
    · refine s_off rfl rfl rfl rfl rfl ?_
      refine s_off rfl rfl rfl rfl rfl ?_
      refine s_off rfl rfl rfl rfl rfl ?_
      refine s_off rfl rfl rfl rfl rfl ?_
      refine s_off rfl rfl rfl rfl rfl ?_
      refine s_off rfl rfl rfl rfl rfl ?_
      refine s_off rfl rfl rfl rfl rfl ?_
      refine s_rd (r_pickT rfl rfl) rfl ?_
      refine as1 rfl rfl ?_
      refine l_nil ?_
      exact b_to (hk7 true ()) (weak [1] ⟨rfl, rfl, trivial⟩ ⟨rfl, trivial⟩)
    refine s_on rfl rfl rfl ?_
    refine s_rd (r_faddr (fo := 1) Try.underlying25 rfl rfl Try.sizeOf22 rfl) rfl ?_
    refine s_on rfl rfl rfl ?_
    refine s_rd (r_cload Try.isAgg22 rfl (j := 1) rfl rfl) rfl ?_
    refine s_on rfl rfl rfl ?_
    refine s_rd (r_faddr (fo := 0) Try.underlying35 rfl rfl Try.sizeOf28 rfl) rfl ?_
    refine s_on rfl rfl rfl ?_
    refine s_rd (r_faddr (fo := 0) Try.underlying28 rfl rfl Try.sizeOf3 rfl) rfl ?_
    refine s_on rfl rfl rfl ?_
    refine s_rd (r_cload Try.isAgg3 rfl (j := 0) rfl rfl) rfl ?_
    refine s_on rfl rfl rfl ?_
    refine pull fun t4 h_t4 => ?_
    refine s_st (s_call (ψ := fun (_ : Unit) => bv t4) (args := [.tmp 15, .tmp 18]) Try.call63 rfl (network_Ascending_ok h_t4) ⟨arg rfl, arg rfl, trivial⟩ (fun _ _ _ _ h => h)) rfl (fun _ => ?_)
    refine s_on rfl rfl rfl ?_
    refine s_rd (r_not rfl) rfl ?_
    refine s_rd (r_pickF rfl rfl) rfl ?_
    refine as1 rfl rfl ?_
    refine l_nil ?_
    refine b_of (nrm [oc b1 [iv .i64 d_0.Graph.N, slv rT_api_Pair d_0.Graph.L, iv .i64 d_0.Root, iv .i64 d_0.Limits.i0, iv .i64 d_0.Limits.i1, slv rT_api_Move d_0.Moves], oc b2 [slv (rI .i64) p_1.Pool, slv (rI .i64) p_1.Withheld, slv rT_api_Move p_1.Script, iv .i64 p_1.Style]] rfl) ?_
    exact b_to (hk7 (!t4) ()) (weak [1] ⟨rfl, rfl, trivial⟩ ⟨rfl, trivial⟩)
  refine n_then ?_
  refine ref_cond rfl (fun hb8 => ?_) (fun hb8 => ?_)
  · refine ref_seq (ref_region ?_)
    refine as1 rfl rfl ?_
    refine l_nil (n_then (ref_ret (r_block (r_then ?_))))
    exact fin1 (.inl rfl) () [] rfl trivial rfl (rv_tmp rfl)
  refine ref_seq (ref_region ?_)
  refine s_rd (r_faddr (fo := 3) Try.underlying25 rfl rfl Try.sizeOf3 rfl) rfl ?_
  refine s_rd (r_cload Try.isAgg3 rfl (j := 0) rfl rfl) rfl ?_
  refine s_rd (r_lss rfl rfl) rfl ?_
  refine mv1 rfl rfl ?_
  refine b_split (t := 26) rfl (fun _ => ?_) (fun _ => ?_)
  · refine s_off rfl rfl rfl rfl rfl ?_
    refine s_off rfl rfl rfl rfl rfl ?_
    refine s_off rfl rfl rfl rfl rfl ?_
    refine s_rd (r_pickT rfl rfl) rfl ?_
    refine as1 rfl rfl ?_
    refine l_nil (n_then ?_)
    refine ref_condT rfl rfl ?_
    refine ref_seq (ref_region ?_)
    refine as1 rfl rfl ?_
    refine l_nil (n_then (ref_ret (r_block (r_then ?_))))
    exact fin1 (.inl rfl) () [] rfl trivial rfl (rv_tmp rfl)
  refine s_on rfl rfl rfl ?_
  refine s_rd (r_faddr (fo := 3) Try.underlying25 rfl rfl Try.sizeOf3 rfl) rfl ?_
  refine s_on rfl rfl rfl ?_
  refine s_rd (r_cload Try.isAgg3 rfl (j := 0) rfl rfl) rfl ?_
  refine s_on rfl rfl rfl ?_
  refine s_rd (r_gtr rfl rfl) rfl ?_
  refine s_rd (r_pickF rfl rfl) rfl ?_
  refine as1 rfl rfl ?_
  refine b_let (f := bv) (t := 22) rfl fun t9 => ?_
  refine l_nil (n_then ?_)
  refine ref_cond rfl (fun hb10 => ?_) (fun hb10 => ?_)
  · refine ref_seq (ref_region ?_)
    refine as1 rfl rfl ?_
    refine l_nil (n_then (ref_ret (r_block (r_then ?_))))
    exact fin1 (.inl rfl) () [] rfl trivial rfl (rv_tmp rfl)
  refine ref_skip (n_block (n_then (ref_seq (ref_region ?_))))
  refine as1 rfl rfl ?_
  refine l_nil (n_then (ref_ret ?_))
  exact fin1 (.inl rfl) () [] rfl trivial rfl (rv_tmp rfl)

/-! slices.Clone[[]deliberation/api.Pair,deliberation/api.Pair] -/
def slices_Clone_api_Pair_api_Pair_m (d_0 : List T_api_Pair) : Option (List T_api_Pair) := appM 16 [] d_0

theorem slices_Clone_api_Pair_api_Pair_ok {d_0 r : List T_api_Pair} (hm : slices_Clone_api_Pair_api_Pair_m d_0 = some r) : FnOk prog 45 [slv rT_api_Pair d_0] [] (fun (x : Value × List Nat) => [pv x.1]) (fun (x : Value × List Nat) => [oa rT_api_Pair x.1 x.2 r]) := by
  have hm' : appM 16 [] d_0 = some r := hm
  have hr : r = d_0 := by have := (appM_some hm').2; simpa using this
  subst hr
  refine fn_ok (X := Value × List Nat) (fn := Try.f45) (N := 8) (m := some ()) (r := ()) (res := fun _ x => [pv x.1]) (Ω1 := fun _ x => [oa rT_api_Pair x.1 x.2 r]) Try.func45 rfl rfl rfl rfl (fun E hM => ?_)
  refine ref_seq ?_
  refine ref_region ?_
  refine s_rd (r_assign rfl) rfl ?_
  refine l_nil ?_
  refine n_then ?_
  refine ref_seq ?_
  refine ref_seq ?_
  refine ref_region ?_
  refine s_rd (r_move rfl) rfl ?_
  refine s_st (s_isnil Try.underlying26 rfl) rfl (fun b => ?_)
  refine l_nil ?_
  refine n_then ?_
  refine ref_condE (b := b.1) rfl (fun hb => ?_) (fun hb => ?_)
  · refine ref_seq ?_
    refine ref_region ?_
    refine s_rd (r_assign rfl) rfl ?_
    refine l_nil ?_
    refine n_then ?_
    refine ref_ret ?_
    refine r_then ?_
    have hd := b.2 hb
    subst hd
    refine b_of (own_nil rT_api_Pair) ?_
    exact fin1 (.inl rfl) (.slice none 0 0, []) [0] rfl ⟨rfl, trivial⟩ rfl (rv_tmp rfl)
  · refine ref_skip ?_
    refine n_then ?_
    refine ref_seq ?_
    refine ref_region ?_
    refine s_st (s_bsliceO (xs := []) (ds := []) Try.underlying26 el_67 rfl (Nat.le_of_ble_eq_true rfl) trivial) rfl (fun o => ?_)
    refine s_rd (r_move rfl) rfl ?_
    refine s_st (s_append hm' Try.underlying26 el_67 rfl (j := 0) rfl rfl) rfl (fun o2 => ?_)
    refine s_rd (r_assign rfl) rfl ?_
    refine l_nil ?_
    refine n_then ?_
    refine ref_ret ?_
    exact fin1 (.inl rfl) o2 [0] rfl ⟨rfl, trivial⟩ rfl (rv_tmp rfl)

/-! slices.Clone[[]deliberation/api.Move,deliberation/api.Move] -/
def slices_Clone_api_Move_api_Move_m (d_0 : List T_api_Move) : Option (List T_api_Move) := appM 32 [] d_0

theorem slices_Clone_api_Move_api_Move_ok {d_0 r : List T_api_Move} (hm : slices_Clone_api_Move_api_Move_m d_0 = some r) : FnOk prog 46 [slv rT_api_Move d_0] [] (fun (x : Value × List Nat) => [pv x.1]) (fun (x : Value × List Nat) => [oa rT_api_Move x.1 x.2 r]) := by
  have hm' : appM 32 [] d_0 = some r := hm
  have hr : r = d_0 := by have := (appM_some hm').2; simpa using this
  subst hr
  refine fn_ok (X := Value × List Nat) (fn := Try.f46) (N := 8) (m := some ()) (r := ()) (res := fun _ x => [pv x.1]) (Ω1 := fun _ x => [oa rT_api_Move x.1 x.2 r]) Try.func46 rfl rfl rfl rfl (fun E hM => ?_)
  refine ref_seq ?_
  refine ref_region ?_
  refine s_rd (r_assign rfl) rfl ?_
  refine l_nil ?_
  refine n_then ?_
  refine ref_seq ?_
  refine ref_seq ?_
  refine ref_region ?_
  refine s_rd (r_move rfl) rfl ?_
  refine s_st (s_isnil Try.underlying23 rfl) rfl (fun b => ?_)
  refine l_nil ?_
  refine n_then ?_
  refine ref_condE (b := b.1) rfl (fun hb => ?_) (fun hb => ?_)
  · refine ref_seq ?_
    refine ref_region ?_
    refine s_rd (r_assign rfl) rfl ?_
    refine l_nil ?_
    refine n_then ?_
    refine ref_ret ?_
    refine r_then ?_
    have hd := b.2 hb
    subst hd
    refine b_of (own_nil rT_api_Move) ?_
    exact fin1 (.inl rfl) (.slice none 0 0, []) [0] rfl ⟨rfl, trivial⟩ rfl (rv_tmp rfl)
  · refine ref_skip ?_
    refine n_then ?_
    refine ref_seq ?_
    refine ref_region ?_
    refine s_st (s_bsliceO (xs := []) (ds := []) Try.underlying23 el_40 rfl (Nat.le_of_ble_eq_true rfl) trivial) rfl (fun o => ?_)
    refine s_rd (r_move rfl) rfl ?_
    refine s_st (s_append hm' Try.underlying23 el_40 rfl (j := 0) rfl rfl) rfl (fun o2 => ?_)
    refine s_rd (r_assign rfl) rfl ?_
    refine l_nil ?_
    refine n_then ?_
    refine ref_ret ?_
    exact fin1 (.inl rfl) o2 [0] rfl ⟨rfl, trivial⟩ rfl (rv_tmp rfl)

/-! deliberation/protocol.attacks -/
noncomputable def protocol_attacks_m (l_0 : (List T_api_Move)) (i_1 : Int) : Option (Bool) :=
  Option.bind (idxM l_0 i_1) fun t1 =>
  bif t1.Kind == 2 then
    Option.bind (idxM l_0 i_1) fun t2 =>
    bif decide (t2.Target ≥ 0) then
      Option.bind (idxM l_0 i_1) fun t3 =>
      letM (decide (t3.Target < i_1)) fun t4 =>
      some t4
    else
      some false
  else
    some false

theorem protocol_attacks_ok {l_0 : (List T_api_Move)} {i_1 : Int} {r : Bool} (hm : protocol_attacks_m l_0 i_1 = some r) :
    FnOk prog 86 [slv rT_api_Move l_0, iv .i64 i_1] [] (fun (x : Unit) => [bv r]) (fun (x : Unit) => []) := by
  refine fn_ok (fn := Try.f86) (N := 28) (res := fun r x => [bv r]) (Ω1 := fun r x => []) Try.func86 rfl rfl hm rfl (fun E hM => ?_)
  unfold protocol_attacks_m
  refine ref_seq (ref_region ?_)
  refine as1 rfl rfl ?_
  refine l_nil (n_then (ref_seq (ref_region ?_)))
  refine mv1 rfl rfl ?_
  refine mv1 rfl rfl ?_
  refine pull fun t1 h_t1 => ?_
  refine s_rd (r_index h_t1 Try.underlying23 el_40 rfl rfl) rfl ?_
  refine s_rd (r_fea (fo := 1) (ρ := rT_api_Move) (y := t1) (ρ' := (rI .i64)) (z := t1.Kind) Try.underlying40 rfl rfl Try.sizeOf3 rfl rfl rfl) rfl ?_
  refine s_rd (r_load el_3 rfl) rfl ?_
  refine s_rd (r_eql rfl rfl) rfl ?_
  refine mv1 rfl rfl ?_
  refine b_split (t := 11) rfl (fun _ => ?_) (fun _ => ?_)
  · refine s_on rfl rfl rfl ?_
    refine mv1 rfl rfl ?_
    refine s_on rfl rfl rfl ?_
    refine mv1 rfl rfl ?_
    refine s_on rfl rfl rfl ?_
    refine pull fun t2 h_t2 => ?_
    refine s_rd (r_index h_t2 Try.underlying23 el_40 rfl rfl) rfl ?_
    refine s_on rfl rfl rfl ?_
    refine s_rd (r_fea (fo := 3) (ρ := rT_api_Move) (y := t2) (ρ' := (rI .i64)) (z := t2.Target) Try.underlying40 rfl rfl Try.sizeOf3 rfl rfl rfl) rfl ?_
    refine s_on rfl rfl rfl ?_
    refine s_rd (r_load el_3 rfl) rfl ?_
    refine s_on rfl rfl rfl ?_
    refine s_rd (r_geq rfl rfl) rfl ?_
    refine s_rd (r_pickT rfl rfl) rfl ?_
    refine mv1 rfl rfl ?_
    refine b_split (t := 19) rfl (fun _ => ?_) (fun _ => ?_)
    · refine s_on rfl rfl rfl ?_
      refine mv1 rfl rfl ?_
      refine s_on rfl rfl rfl ?_
      refine mv1 rfl rfl ?_
      refine s_on rfl rfl rfl ?_
      refine pull fun t3 h_t3 => ?_
      refine s_rd (r_index h_t3 Try.underlying23 el_40 rfl rfl) rfl ?_
      refine s_on rfl rfl rfl ?_
      refine s_rd (r_fea (fo := 3) (ρ := rT_api_Move) (y := t3) (ρ' := (rI .i64)) (z := t3.Target) Try.underlying40 rfl rfl Try.sizeOf3 rfl rfl rfl) rfl ?_
      refine s_on rfl rfl rfl ?_
      refine s_rd (r_load el_3 rfl) rfl ?_
      refine s_on rfl rfl rfl ?_
      refine mv1 rfl rfl ?_
      refine s_on rfl rfl rfl ?_
      refine s_rd (r_lss rfl rfl) rfl ?_
      refine s_rd (r_pickT rfl rfl) rfl ?_
      refine as1 rfl rfl ?_
      refine b_let (f := bv) (t := 4) rfl fun t4 => ?_
      refine l_nil (n_then (ref_ret ?_))
      exact fin1 (.inl rfl) () [] rfl trivial rfl (rv_tmp rfl)
    refine s_off rfl rfl rfl rfl rfl ?_
    refine s_off rfl rfl rfl rfl rfl ?_
    refine s_off rfl rfl rfl rfl rfl ?_
    refine s_off rfl rfl rfl rfl rfl ?_
    refine s_off rfl rfl rfl rfl rfl ?_
    refine s_off rfl rfl rfl rfl rfl ?_
    refine s_off rfl rfl rfl rfl rfl ?_
    refine s_rd (r_pickF rfl rfl) rfl ?_
    refine as1 rfl rfl ?_
    refine l_nil (n_then (ref_ret ?_))
    exact fin1 (.inl rfl) () [] rfl trivial rfl (rv_tmp rfl)
  refine s_off rfl rfl rfl rfl rfl ?_
  refine s_off rfl rfl rfl rfl rfl ?_
  refine s_off rfl rfl rfl rfl rfl ?_
  refine s_off rfl rfl rfl rfl rfl ?_
  refine s_off rfl rfl rfl rfl rfl ?_
  refine s_off rfl rfl rfl rfl rfl ?_
  refine s_rd (r_pickF rfl rfl) rfl ?_
  refine mv1 rfl rfl ?_
  refine s_off rfl rfl rfl rfl rfl ?_
  refine s_off rfl rfl rfl rfl rfl ?_
  refine s_off rfl rfl rfl rfl rfl ?_
  refine s_off rfl rfl rfl rfl rfl ?_
  refine s_off rfl rfl rfl rfl rfl ?_
  refine s_off rfl rfl rfl rfl rfl ?_
  refine s_off rfl rfl rfl rfl rfl ?_
  refine s_rd (r_pickF rfl rfl) rfl ?_
  refine as1 rfl rfl ?_
  refine l_nil (n_then (ref_ret ?_))
  exact fin1 (.inl rfl) () [] rfl trivial rfl (rv_tmp rfl)

/-! deliberation/protocol.Status -/
noncomputable def protocol_Status_l1 (d_0 : T_api_Dialogue) (s26 : Int × (List Bool)) : Option (Sum ((List Bool)) (Int × (List Bool))) :=
  bif decide (s26.1 < (d_0.Moves.length : Int)) then
    Option.bind (idxM d_0.Moves s26.1) fun t29 =>
    joinM (fun j31 : Bool =>
        bif j31 then
          Option.bind (idxM s26.2 t29.Target) fun t35 =>
          some (Sum.inr (iadd .i64 s26.1 1, s26.2.set (Int.toNat t29.Target) true))
        else
          some (Sum.inr (iadd .i64 s26.1 1, s26.2))) fun k33 =>
    bif t29.Kind == 3 then
      bif decide (t29.Target ≥ 0) then
        k33 (decide (t29.Target < (s26.2.length : Int)))
      else
        k33 false
    else
      k33 false
  else
    some (Sum.inl s26.2)

noncomputable def protocol_Status_l2 (d_0 : T_api_Dialogue) (q36 : (List Bool)) (s48 : Int × (List Int)) : Option (Sum ((List Int)) (Int × (List Int))) :=
  bif decide (s48.1 < (d_0.Moves.length : Int)) then
    bif s48.1 == 0 then
      Option.bind (idxM s48.2 s48.1) fun t55 =>
      some (Sum.inr (iadd .i64 s48.1 1, s48.2.set (Int.toNat s48.1) 1))
    else
      Option.bind (protocol_attacks_m d_0.Moves s48.1) fun t51 =>
      bif t51 then
        Option.bind (idxM q36 s48.1) fun t52 =>
        bif !t52 then
          Option.bind (idxM d_0.Moves s48.1) fun t53 =>
          Option.bind (idxM s48.2 t53.Target) fun t54 =>
          bif t54 != 0 then
            Option.bind (idxM s48.2 s48.1) fun t57 =>
            some (Sum.inr (iadd .i64 s48.1 1, s48.2.set (Int.toNat s48.1) 1))
          else
            some (Sum.inr (iadd .i64 s48.1 1, s48.2))
        else
          some (Sum.inr (iadd .i64 s48.1 1, s48.2))
      else
        some (Sum.inr (iadd .i64 s48.1 1, s48.2))
  else
    some (Sum.inl s48.2)

noncomputable def protocol_Status_l3 (d_0 : T_api_Dialogue) (s79 : Int × (List Int)) : Option (Sum ((List Int)) (Int × (List Int))) :=
  bif decide (s79.1 > 0) then
    Option.bind (idxM s79.2 s79.1) fun t82 =>
    bif t82 == 1 then
      Option.bind (idxM d_0.Moves s79.1) fun t84 =>
      Option.bind (idxM s79.2 t84.Target) fun t85 =>
      letM (isub .i64 s79.1 1) fun i86 =>
      some (Sum.inr (i86, s79.2.set (Int.toNat t84.Target) 2))
    else
      letM (isub .i64 s79.1 1) fun i87 =>
      some (Sum.inr (i87, s79.2))
  else
    some (Sum.inl s79.2)

noncomputable def protocol_Status_m (d_0 : T_api_Dialogue) : Option (List Int) :=
  Option.bind (mkM 8 0 (d_0.Moves.length : Int)) fun out2 =>
  Option.bind (mkM 1 false (d_0.Moves.length : Int)) fun retracted4 =>
  Option.bind (loopC (protocol_Status_l1 d_0) (0, retracted4)) fun q36 : (List Bool) =>
  Option.bind (loopC (protocol_Status_l2 d_0 q36) (0, out2)) fun q58 : (List Int) =>
  letM (isub .i64 (q58.length : Int) 1) fun i60 =>
  Option.bind (loopC (protocol_Status_l3 d_0) (i60, q58)) fun q88 : (List Int) =>
  some q88

theorem protocol_Status_ok {d_0 : T_api_Dialogue} {r : List Int} (hm : protocol_Status_m d_0 = some r) :
    FnOk prog 81 [ag [iv .i64 d_0.Graph.N, slv rT_api_Pair d_0.Graph.L, iv .i64 d_0.Root, iv .i64 d_0.Limits.i0, iv .i64 d_0.Limits.i1, slv rT_api_Move d_0.Moves]] [] (fun (x : (Value × List Nat)) => [pv x.1]) (fun (x : (Value × List Nat)) => [oa (rI .i64) x.1 x.2 r]) := by
  refine fn_ok (X := (Value × List Nat)) (fn := Try.f81) (N := 102) (res := fun r x => [pv x.1]) (Ω1 := fun r x => [oa (rI .i64) x.1 x.2 r]) Try.func81 rfl rfl hm rfl (fun E hM => ?_)
  unfold protocol_Status_m
  refine ref_seq (ref_region ?_)
  refine s_st (s_box (part_agO (ψs := [iv .i64 d_0.Graph.N, slv rT_api_Pair d_0.Graph.L, iv .i64 d_0.Root, iv .i64 d_0.Limits.i0, iv .i64 d_0.Limits.i1, slv rT_api_Move d_0.Moves]) rfl ⟨.inl iv_at, .inl slv_at, .inl iv_at, .inl iv_at, .inl iv_at, .inl slv_at, trivial⟩)) rfl (fun b1 => ?_)
  refine as1 rfl rfl ?_
  refine l_nil (n_then (ref_seq (ref_region ?_)))
  refine s_rd (r_faddr (fo := 5) Try.underlying35 rfl rfl Try.sizeOf23 rfl) rfl ?_
  refine s_rd (r_cload Try.isAgg23 rfl (j := 0) rfl rfl) rfl ?_
  refine s_rd (r_len Try.underlying23 rfl) rfl ?_
  refine pull fun out2 h_out2 => ?_
  refine s_st (s_make h_out2 Try.underlying22 el_3 ze_3 rfl rfl) rfl (fun o3 => ?_)
  refine as1 rfl rfl ?_
  refine l_nil (n_then (ref_seq (ref_region ?_)))
  refine s_rd (r_faddr (fo := 5) Try.underlying35 rfl rfl Try.sizeOf23 rfl) rfl ?_
  refine s_rd (r_cload Try.isAgg23 rfl (j := 0) rfl rfl) rfl ?_
  refine s_rd (r_len Try.underlying23 rfl) rfl ?_
  refine pull fun retracted4 h_retracted4 => ?_
  refine s_st (s_make h_retracted4 Try.underlying93 el_4 ze_4 rfl rfl) rfl (fun o5 => ?_)
  refine as1 rfl rfl ?_
  refine l_nil (n_then (ref_seq (ref_seq (ref_region ?_))))
  refine s_rd (r_faddr (fo := 5) Try.underlying35 rfl rfl Try.sizeOf23 rfl) rfl ?_
  refine s_rd (r_cload Try.isAgg23 rfl (j := 0) rfl rfl) rfl ?_
  refine s_rd (r_len Try.underlying23 rfl) rfl ?_
  refine mv1 rfl rfl ?_
  refine l_nil (n_then ?_)
  refine ref_loopB (f := (protocol_Status_l1 d_0)) (Γl := (fun (s26 : Int × (List Bool)) (x27 : Unit) => [(1, pv (ptr b1 0)), (3, pv o3.1), (4, pv o5.1), (18, slv rT_api_Move d_0.Moves), (19, iv .i64 (d_0.Moves.length : Int)), (20, iv .i64 s26.1)])) (Ωl := (fun (s26 : Int × (List Bool)) (x27 : Unit) => [oc b1 [iv .i64 d_0.Graph.N, slv rT_api_Pair d_0.Graph.L, iv .i64 d_0.Root, iv .i64 d_0.Limits.i0, iv .i64 d_0.Limits.i1, slv rT_api_Move d_0.Moves], oa (rI .i64) o3.1 o3.2 out2, oa rB o5.1 o5.2 s26.2])) (Γb := (fun (q36 : (List Bool)) (y37 : Unit) => [(1, pv (ptr b1 0)), (3, pv o3.1), (4, pv o5.1)])) (Ωb := (fun (q36 : (List Bool)) (y37 : Unit) => [oc b1 [iv .i64 d_0.Graph.N, slv rT_api_Pair d_0.Graph.L, iv .i64 d_0.Root, iv .i64 d_0.Limits.i0, iv .i64 d_0.Limits.i1, slv rT_api_Move d_0.Moves], oa (rI .i64) o3.1 o3.2 out2, oa rB o5.1 o5.2 q36])) (0, retracted4) () (weak [0, 1, 2] ⟨rfl, rfl, rfl, rfl, rfl, rfl, trivial⟩ ⟨rfl, rfl, rfl, trivial⟩) (fun s26 x27 => ?_) (fun q36 y37 => ?_)
  · unfold protocol_Status_l1
    refine ref_seq (ref_region ?_)
    refine s_rd (r_lss rfl rfl) rfl ?_
    refine l_nil (n_then (ref_seq ?_))
    refine ref_cond rfl (fun hb28 => ?_) (fun hb28 => ?_)
    · refine ref_skip (n_then (ref_seq (ref_block (ref_seq (ref_region ?_)))))
      refine pull fun t29 h_t29 => ?_
      refine s_rd (r_index h_t29 Try.underlying23 el_40 rfl rfl) rfl ?_
      refine s_rd (r_load el_40 rfl) rfl ?_
      refine s_st (s_alloc zt_40) rfl (fun b30 => ?_)
      refine s_st0 (s_cstore (out := [iv .i64 t29.By, iv .i64 t29.Kind, iv .i64 t29.Node, iv .i64 t29.Target]) Try.sizeOf40 rfl (j := 3) rfl (part_agO (ψs := [iv .i64 t29.By, iv .i64 t29.Kind, iv .i64 t29.Node, iv .i64 t29.Target]) rfl ⟨.inl iv_at, .inl iv_at, .inl iv_at, .inl iv_at, trivial⟩) rfl rfl rfl) (fun _ => ?_)
      refine l_nil ?_
      refine b_of (nrm [oc b1 [iv .i64 d_0.Graph.N, slv rT_api_Pair d_0.Graph.L, iv .i64 d_0.Root, iv .i64 d_0.Limits.i0, iv .i64 d_0.Limits.i1, slv rT_api_Move d_0.Moves], oa (rI .i64) o3.1 o3.2 out2, oa rB o5.1 o5.2 s26.2, oc b30 [iv .i64 t29.By, iv .i64 t29.Kind, iv .i64 t29.Node, iv .i64 t29.Target]] rfl) ?_
      refine n_then (ref_seq ?_)
      refine ref_join (fun (j31 : Bool) (x32 : Unit) => [(1, pv (ptr b1 0)), (3, pv o3.1), (4, pv o5.1), (6, pv (ptr b30 0)), (18, slv rT_api_Move d_0.Moves), (19, iv .i64 (d_0.Moves.length : Int)), (20, iv .i64 s26.1), (38, bv j31)]) (fun (j31 : Bool) (x32 : Unit) => [oc b1 [iv .i64 d_0.Graph.N, slv rT_api_Pair d_0.Graph.L, iv .i64 d_0.Root, iv .i64 d_0.Limits.i0, iv .i64 d_0.Limits.i1, slv rT_api_Move d_0.Moves], oa (rI .i64) o3.1 o3.2 out2, oa rB o5.1 o5.2 s26.2, oc b30 [iv .i64 t29.By, iv .i64 t29.Kind, iv .i64 t29.Node, iv .i64 t29.Target]]) (fun k33 hk33 => ?_) (fun j31 x32 => ?_)
      · refine ref_region ?_
        refine s_rd (r_faddr (fo := 1) Try.underlying40 rfl rfl Try.sizeOf3 rfl) rfl ?_
        refine s_rd (r_cload Try.isAgg3 rfl (j := 3) rfl rfl) rfl ?_
        refine s_rd (r_eql rfl rfl) rfl ?_
        refine mv1 rfl rfl ?_
        refine b_split (t := 27) rfl (fun _ => ?_) (fun _ => ?_)
        · refine s_on rfl rfl rfl ?_
          refine s_rd (r_faddr (fo := 3) Try.underlying40 rfl rfl Try.sizeOf3 rfl) rfl ?_
          refine s_on rfl rfl rfl ?_
          refine s_rd (r_cload Try.isAgg3 rfl (j := 3) rfl rfl) rfl ?_
          refine s_on rfl rfl rfl ?_
          refine s_rd (r_geq rfl rfl) rfl ?_
          refine s_rd (r_pickT rfl rfl) rfl ?_
          refine mv1 rfl rfl ?_
          refine b_split (t := 32) rfl (fun _ => ?_) (fun _ => ?_)
          · refine s_on rfl rfl rfl ?_
            refine s_rd (r_faddr (fo := 3) Try.underlying40 rfl rfl Try.sizeOf3 rfl) rfl ?_
            refine s_on rfl rfl rfl ?_
            refine s_rd (r_cload Try.isAgg3 rfl (j := 3) rfl rfl) rfl ?_
            refine s_on rfl rfl rfl ?_
            refine mv1 rfl rfl ?_
            refine s_on rfl rfl rfl ?_
            refine s_rd (r_olen Try.underlying93 rfl (j := 2) rfl) rfl ?_
            refine s_on rfl rfl rfl ?_
            refine s_rd (r_lss rfl rfl) rfl ?_
            refine s_rd (r_pickT rfl rfl) rfl ?_
            refine l_nil ?_
            exact b_to (hk33 (decide (t29.Target < (s26.2.length : Int))) ()) (weak [0, 1, 2, 3] ⟨rfl, rfl, rfl, rfl, rfl, rfl, rfl, rfl, trivial⟩ ⟨rfl, rfl, rfl, rfl, trivial⟩)
          refine s_off rfl rfl rfl rfl rfl ?_
          refine s_off rfl rfl rfl rfl rfl ?_
          refine s_off rfl rfl rfl rfl rfl ?_
          refine s_off rfl rfl rfl rfl rfl ?_
          refine s_off rfl rfl rfl rfl rfl ?_
          refine s_rd (r_pickF rfl rfl) rfl ?_
          refine l_nil ?_
          exact b_to (hk33 false ()) (weak [0, 1, 2, 3] ⟨rfl, rfl, rfl, rfl, rfl, rfl, rfl, rfl, trivial⟩ ⟨rfl, rfl, rfl, rfl, trivial⟩)
        refine s_off rfl rfl rfl rfl rfl ?_
        refine s_off rfl rfl rfl rfl rfl ?_
        refine s_off rfl rfl rfl rfl rfl ?_
        refine s_rd (r_pickF rfl rfl) rfl ?_
        refine mv1 rfl rfl ?_
        refine s_off rfl rfl rfl rfl rfl ?_
        refine s_off rfl rfl rfl rfl rfl ?_
        refine s_off rfl rfl rfl rfl rfl ?_
        refine s_off rfl rfl rfl rfl rfl ?_
        refine s_off rfl rfl rfl rfl rfl ?_
        refine s_rd (r_pickF rfl rfl) rfl ?_
        refine l_nil ?_
        exact b_to (hk33 false ()) (weak [0, 1, 2, 3] ⟨rfl, rfl, rfl, rfl, rfl, rfl, rfl, rfl, trivial⟩ ⟨rfl, rfl, rfl, rfl, trivial⟩)
      refine n_then ?_
      refine ref_cond rfl (fun hb34 => ?_) (fun hb34 => ?_)
      · refine ref_region ?_
        refine mv1 rfl rfl ?_
        refine s_rd (r_faddr (fo := 3) Try.underlying40 rfl rfl Try.sizeOf3 rfl) rfl ?_
        refine s_rd (r_cload Try.isAgg3 rfl (j := 3) rfl rfl) rfl ?_
        refine pull fun t35 h_t35 => ?_
        refine s_rd (r_oindex h_t35 Try.underlying93 el_4 rfl (j := 2) rfl rfl) rfl ?_
        refine s_st0 (s_ostore (u := true) h_t35 el_4 rfl (j := 2) rfl (part_at rfl bv_at)) (fun _ => ?_)
        refine l_nil (n_block (n_then (ref_region ?_)))
        refine s_rd (r_add rfl rfl) rfl ?_
        refine mv1 rfl rfl ?_
        refine l_nil ?_
        exact goB () (weak [0, 1, 2] ⟨rfl, rfl, rfl, rfl, rfl, rfl, trivial⟩ ⟨rfl, rfl, rfl, trivial⟩)
      refine ref_skip (n_block (n_then (ref_region ?_)))
      refine s_rd (r_add rfl rfl) rfl ?_
      refine mv1 rfl rfl ?_
      refine l_nil ?_
      exact goB () (weak [0, 1, 2] ⟨rfl, rfl, rfl, rfl, rfl, rfl, trivial⟩ ⟨rfl, rfl, rfl, trivial⟩)
    refine ref_exit (x_then ?_)
    exact brkB () (weak [0, 1, 2] ⟨rfl, rfl, rfl, trivial⟩ ⟨rfl, rfl, rfl, trivial⟩)
  refine n_then (ref_seq (ref_seq (ref_region ?_)))
  refine s_rd (r_faddr (fo := 5) Try.underlying35 rfl rfl Try.sizeOf23 rfl) rfl ?_
  refine s_rd (r_cload Try.isAgg23 rfl (j := 0) rfl rfl) rfl ?_
  refine s_rd (r_len Try.underlying23 rfl) rfl ?_
  refine mv1 rfl rfl ?_
  refine l_nil (n_then ?_)
  refine ref_loopB (f := (protocol_Status_l2 d_0 q36)) (Γl := (fun (s48 : Int × (List Int)) (x49 : Unit) => [(1, pv (ptr b1 0)), (3, pv o3.1), (4, pv o5.1), (46, iv .i64 (d_0.Moves.length : Int)), (47, iv .i64 s48.1)])) (Ωl := (fun (s48 : Int × (List Int)) (x49 : Unit) => [oc b1 [iv .i64 d_0.Graph.N, slv rT_api_Pair d_0.Graph.L, iv .i64 d_0.Root, iv .i64 d_0.Limits.i0, iv .i64 d_0.Limits.i1, slv rT_api_Move d_0.Moves], oa (rI .i64) o3.1 o3.2 s48.2, oa rB o5.1 o5.2 q36])) (Γb := (fun (q58 : (List Int)) (y59 : Unit) => [(1, pv (ptr b1 0)), (3, pv o3.1)])) (Ωb := (fun (q58 : (List Int)) (y59 : Unit) => [oc b1 [iv .i64 d_0.Graph.N, slv rT_api_Pair d_0.Graph.L, iv .i64 d_0.Root, iv .i64 d_0.Limits.i0, iv .i64 d_0.Limits.i1, slv rT_api_Move d_0.Moves], oa (rI .i64) o3.1 o3.2 q58])) (0, out2) () (weak [0, 1, 2] ⟨rfl, rfl, rfl, rfl, rfl, trivial⟩ ⟨rfl, rfl, rfl, trivial⟩) (fun s48 x49 => ?_) (fun q58 y59 => ?_)
  · unfold protocol_Status_l2
    refine ref_seq (ref_region ?_)
    refine s_rd (r_lss rfl rfl) rfl ?_
    refine l_nil (n_then (ref_seq ?_))
    refine ref_cond rfl (fun hb50 => ?_) (fun hb50 => ?_)
    · refine ref_skip (n_then (ref_seq (ref_block (ref_seq (ref_region ?_)))))
      refine mv1 rfl rfl ?_
      refine as1 rfl rfl ?_
      refine l_nil (n_then (ref_seq (ref_region ?_)))
      refine mv1 rfl rfl ?_
      refine s_rd (r_eql rfl rfl) rfl ?_
      refine mv1 rfl rfl ?_
      refine b_split (t := 52) rfl (fun _ => ?_) (fun _ => ?_)
      · refine s_off rfl rfl rfl rfl rfl ?_
        refine s_off rfl rfl rfl rfl rfl ?_
        refine s_off rfl rfl rfl rfl rfl ?_
        refine s_off rfl rfl rfl rfl rfl ?_
        refine s_off rfl rfl rfl rfl rfl ?_
        refine s_offU rfl rfl rfl ?_
        refine s_offU rfl rfl rfl ?_
        refine s_offU rfl rfl rfl ?_
        refine s_offU rfl rfl rfl ?_
        refine s_offU rfl rfl rfl ?_
        refine s_off rfl rfl rfl rfl rfl ?_
        refine s_off rfl rfl rfl rfl rfl ?_
        refine s_offU rfl rfl rfl ?_
        refine s_offU rfl rfl rfl ?_
        refine s_offU rfl rfl rfl ?_
        refine s_offU rfl rfl rfl ?_
        refine s_offU rfl rfl rfl ?_
        refine s_offU rfl rfl rfl ?_
        refine s_offU rfl rfl rfl ?_
        refine s_offU rfl rfl rfl ?_
        refine s_offU rfl rfl rfl ?_
        refine s_offU rfl rfl rfl ?_
        refine s_off rfl rfl rfl rfl rfl ?_
        refine s_rd (r_pickT rfl rfl) rfl ?_
        refine l_nil (n_then ?_)
        refine ref_condT rfl rfl ?_
        refine ref_region ?_
        refine mv1 rfl rfl ?_
        refine mv1 rfl rfl ?_
        refine pull fun t55 h_t55 => ?_
        refine s_rd (r_oindex h_t55 Try.underlying22 el_3 rfl (j := 1) rfl rfl) rfl ?_
        refine s_st0 (s_ostore (u := 1) h_t55 el_3 rfl (j := 1) rfl (part_at rfl iv_at)) (fun _ => ?_)
        refine l_nil (n_block (n_then (ref_region ?_)))
        refine s_rd (r_add rfl rfl) rfl ?_
        refine mv1 rfl rfl ?_
        refine l_nil ?_
        exact goB () (weak [0, 1, 2] ⟨rfl, rfl, rfl, rfl, rfl, trivial⟩ ⟨rfl, rfl, rfl, trivial⟩)
      refine s_on rfl rfl rfl ?_
      refine s_rd (r_faddr (fo := 5) Try.underlying35 rfl rfl Try.sizeOf23 rfl) rfl ?_
      refine s_on rfl rfl rfl ?_
      refine s_rd (r_cload Try.isAgg23 rfl (j := 0) rfl rfl) rfl ?_
      refine s_on rfl rfl rfl ?_
      refine mv1 rfl rfl ?_
      refine s_on rfl rfl rfl ?_
      refine pull fun t51 h_t51 => ?_
      refine s_st (s_call (ψ := fun (_ : Unit) => bv t51) (args := [.tmp 54, .tmp 55]) Try.call86 rfl (protocol_attacks_ok h_t51) ⟨arg rfl, arg rfl, trivial⟩ (fun _ _ _ _ h => h)) rfl (fun _ => ?_)
      refine s_on rfl rfl rfl ?_
      refine mv1 rfl rfl ?_
      refine b_split (t := 57) rfl (fun _ => ?_) (fun _ => ?_)
      · refine s_on rfl rfl rfl ?_
        refine mv1 rfl rfl ?_
        refine s_on rfl rfl rfl ?_
        refine mv1 rfl rfl ?_
        refine s_on rfl rfl rfl ?_
        refine pull fun t52 h_t52 => ?_
        refine s_rd (r_oindex h_t52 Try.underlying93 el_4 rfl (j := 2) rfl rfl) rfl ?_
        refine s_on rfl rfl rfl ?_
        refine s_rd (r_oload h_t52 el_4 rfl (j := 2) rfl) rfl ?_
        refine s_on rfl rfl rfl ?_
        refine s_rd (r_not rfl) rfl ?_
        refine s_on rfl rfl rfl ?_
        refine s_rd (r_pickT rfl rfl) rfl ?_
        refine s_on rfl rfl rfl ?_
        refine mv1 rfl rfl ?_
        refine b_split (t := 64) rfl (fun _ => ?_) (fun _ => ?_)
        · refine s_on rfl rfl rfl ?_
          refine mv1 rfl rfl ?_
          refine s_on rfl rfl rfl ?_
          refine s_rd (r_faddr (fo := 5) Try.underlying35 rfl rfl Try.sizeOf23 rfl) rfl ?_
          refine s_on rfl rfl rfl ?_
          refine s_rd (r_cload Try.isAgg23 rfl (j := 0) rfl rfl) rfl ?_
          refine s_on rfl rfl rfl ?_
          refine mv1 rfl rfl ?_
          refine s_on rfl rfl rfl ?_
          refine pull fun t53 h_t53 => ?_
          refine s_rd (r_index h_t53 Try.underlying23 el_40 rfl rfl) rfl ?_
          refine s_on rfl rfl rfl ?_
          refine s_rd (r_fea (fo := 3) (ρ := rT_api_Move) (y := t53) (ρ' := (rI .i64)) (z := t53.Target) Try.underlying40 rfl rfl Try.sizeOf3 rfl rfl rfl) rfl ?_
          refine s_on rfl rfl rfl ?_
          refine s_rd (r_load el_3 rfl) rfl ?_
          refine s_on rfl rfl rfl ?_
          refine pull fun t54 h_t54 => ?_
          refine s_rd (r_oindex h_t54 Try.underlying22 el_3 rfl (j := 1) rfl rfl) rfl ?_
          refine s_on rfl rfl rfl ?_
          refine s_rd (r_oload h_t54 el_3 rfl (j := 1) rfl) rfl ?_
          refine s_on rfl rfl rfl ?_
          refine s_rd (r_neq rfl rfl) rfl ?_
          refine s_on rfl rfl rfl ?_
          refine s_rd (r_pickT rfl rfl) rfl ?_
          refine s_rd (r_pickF rfl rfl) rfl ?_
          refine l_nil (n_then ?_)
          refine ref_cond rfl (fun hb56 => ?_) (fun hb56 => ?_)
          · refine ref_region ?_
            refine mv1 rfl rfl ?_
            refine mv1 rfl rfl ?_
            refine pull fun t57 h_t57 => ?_
            refine s_rd (r_oindex h_t57 Try.underlying22 el_3 rfl (j := 1) rfl rfl) rfl ?_
            refine s_st0 (s_ostore (u := 1) h_t57 el_3 rfl (j := 1) rfl (part_at rfl iv_at)) (fun _ => ?_)
            refine l_nil (n_block (n_then (ref_region ?_)))
            refine s_rd (r_add rfl rfl) rfl ?_
            refine mv1 rfl rfl ?_
            refine l_nil ?_
            exact goB () (weak [0, 1, 2] ⟨rfl, rfl, rfl, rfl, rfl, trivial⟩ ⟨rfl, rfl, rfl, trivial⟩)
          refine ref_skip (n_block (n_then (ref_region ?_)))
          refine s_rd (r_add rfl rfl) rfl ?_
          refine mv1 rfl rfl ?_
          refine l_nil ?_
          exact goB () (weak [0, 1, 2] ⟨rfl, rfl, rfl, rfl, rfl, trivial⟩ ⟨rfl, rfl, rfl, trivial⟩)
        refine s_off rfl rfl rfl rfl rfl ?_
        refine s_off rfl rfl rfl rfl rfl ?_
        refine s_off rfl rfl rfl rfl rfl ?_
        refine s_off rfl rfl rfl rfl rfl ?_
        refine s_off rfl rfl rfl rfl rfl ?_
        refine s_off rfl rfl rfl rfl rfl ?_
        refine s_off rfl rfl rfl rfl rfl ?_
        refine s_off rfl rfl rfl rfl rfl ?_
        refine s_off rfl rfl rfl rfl rfl ?_
        refine s_off rfl rfl rfl rfl rfl ?_
        refine s_on rfl rfl rfl ?_
        refine s_rd (r_pickF rfl rfl) rfl ?_
        refine s_rd (r_pickF rfl rfl) rfl ?_
        refine l_nil (n_then ?_)
        refine ref_condF rfl rfl ?_
        refine ref_skip (n_block (n_then (ref_region ?_)))
        refine s_rd (r_add rfl rfl) rfl ?_
        refine mv1 rfl rfl ?_
        refine l_nil ?_
        exact goB () (weak [0, 1, 2] ⟨rfl, rfl, rfl, rfl, rfl, trivial⟩ ⟨rfl, rfl, rfl, trivial⟩)
      refine s_off rfl rfl rfl rfl rfl ?_
      refine s_off rfl rfl rfl rfl rfl ?_
      refine s_off rfl rfl rfl rfl rfl ?_
      refine s_off rfl rfl rfl rfl rfl ?_
      refine s_off rfl rfl rfl rfl rfl ?_
      refine s_on rfl rfl rfl ?_
      refine s_rd (r_pickF rfl rfl) rfl ?_
      refine s_on rfl rfl rfl ?_
      refine mv1 rfl rfl ?_
      refine s_off rfl rfl rfl rfl rfl ?_
      refine s_off rfl rfl rfl rfl rfl ?_
      refine s_off rfl rfl rfl rfl rfl ?_
      refine s_off rfl rfl rfl rfl rfl ?_
      refine s_off rfl rfl rfl rfl rfl ?_
      refine s_off rfl rfl rfl rfl rfl ?_
      refine s_off rfl rfl rfl rfl rfl ?_
      refine s_off rfl rfl rfl rfl rfl ?_
      refine s_off rfl rfl rfl rfl rfl ?_
      refine s_off rfl rfl rfl rfl rfl ?_
      refine s_on rfl rfl rfl ?_
      refine s_rd (r_pickF rfl rfl) rfl ?_
      refine s_rd (r_pickF rfl rfl) rfl ?_
      refine l_nil (n_then ?_)
      refine ref_condF rfl rfl ?_
      refine ref_skip (n_block (n_then (ref_region ?_)))
      refine s_rd (r_add rfl rfl) rfl ?_
      refine mv1 rfl rfl ?_
      refine l_nil ?_
      exact goB () (weak [0, 1, 2] ⟨rfl, rfl, rfl, rfl, rfl, trivial⟩ ⟨rfl, rfl, rfl, trivial⟩)
    refine ref_exit (x_then ?_)
    exact brkB () (weak [0, 1] ⟨rfl, rfl, trivial⟩ ⟨rfl, rfl, trivial⟩)
  refine n_then (ref_seq (ref_seq (ref_region ?_)))
  refine mv1 rfl rfl ?_
  refine s_rd (r_olen Try.underlying22 rfl (j := 1) rfl) rfl ?_
  refine s_rd (r_sub rfl rfl) rfl ?_
  refine as1 rfl rfl ?_
  refine b_let (f := iv .i64) (t := 8) rfl fun i60 => ?_
  refine l_nil (n_then ?_)
  refine ref_loopB (f := (protocol_Status_l3 d_0)) (Γl := (fun (s79 : Int × (List Int)) (x80 : Unit) => [(1, pv (ptr b1 0)), (3, pv o3.1), (8, iv .i64 s79.1)])) (Ωl := (fun (s79 : Int × (List Int)) (x80 : Unit) => [oc b1 [iv .i64 d_0.Graph.N, slv rT_api_Pair d_0.Graph.L, iv .i64 d_0.Root, iv .i64 d_0.Limits.i0, iv .i64 d_0.Limits.i1, slv rT_api_Move d_0.Moves], oa (rI .i64) o3.1 o3.2 s79.2])) (Γb := (fun (q88 : (List Int)) (y89 : Unit) => [(3, pv o3.1)])) (Ωb := (fun (q88 : (List Int)) (y89 : Unit) => [oa (rI .i64) o3.1 o3.2 q88])) (i60, q58) () (weak [0, 1] ⟨rfl, rfl, rfl, trivial⟩ ⟨rfl, rfl, trivial⟩) (fun s79 x80 => ?_) (fun q88 y89 => ?_)
  · unfold protocol_Status_l3
    refine ref_seq (ref_seq (ref_region ?_))
    refine mv1 rfl rfl ?_
    refine s_rd (r_gtr rfl rfl) rfl ?_
    refine l_nil (n_then ?_)
    refine ref_cond rfl (fun hb81 => ?_) (fun hb81 => ?_)
    · refine ref_skip (n_then (ref_seq (ref_block (ref_seq (ref_region ?_)))))
      refine mv1 rfl rfl ?_
      refine mv1 rfl rfl ?_
      refine pull fun t82 h_t82 => ?_
      refine s_rd (r_oindex h_t82 Try.underlying22 el_3 rfl (j := 1) rfl rfl) rfl ?_
      refine s_rd (r_oload h_t82 el_3 rfl (j := 1) rfl) rfl ?_
      refine s_rd (r_eql rfl rfl) rfl ?_
      refine l_nil (n_then ?_)
      refine ref_cond rfl (fun hb83 => ?_) (fun hb83 => ?_)
      · refine ref_region ?_
        refine mv1 rfl rfl ?_
        refine s_rd (r_faddr (fo := 5) Try.underlying35 rfl rfl Try.sizeOf23 rfl) rfl ?_
        refine s_rd (r_cload Try.isAgg23 rfl (j := 0) rfl rfl) rfl ?_
        refine mv1 rfl rfl ?_
        refine pull fun t84 h_t84 => ?_
        refine s_rd (r_index h_t84 Try.underlying23 el_40 rfl rfl) rfl ?_
        refine s_rd (r_fea (fo := 3) (ρ := rT_api_Move) (y := t84) (ρ' := (rI .i64)) (z := t84.Target) Try.underlying40 rfl rfl Try.sizeOf3 rfl rfl rfl) rfl ?_
        refine s_rd (r_load el_3 rfl) rfl ?_
        refine pull fun t85 h_t85 => ?_
        refine s_rd (r_oindex h_t85 Try.underlying22 el_3 rfl (j := 1) rfl rfl) rfl ?_
        refine s_st0 (s_ostore (u := 2) h_t85 el_3 rfl (j := 1) rfl (part_at rfl iv_at)) (fun _ => ?_)
        refine l_nil (n_block (n_then (ref_region ?_)))
        refine mv1 rfl rfl ?_
        refine s_rd (r_sub rfl rfl) rfl ?_
        refine as1 rfl rfl ?_
        refine b_let (f := iv .i64) (t := 8) rfl fun i86 => ?_
        refine l_nil ?_
        exact goB () (weak [0, 1] ⟨rfl, rfl, rfl, trivial⟩ ⟨rfl, rfl, trivial⟩)
      refine ref_skip (n_block (n_then (ref_region ?_)))
      refine mv1 rfl rfl ?_
      refine s_rd (r_sub rfl rfl) rfl ?_
      refine as1 rfl rfl ?_
      refine b_let (f := iv .i64) (t := 8) rfl fun i87 => ?_
      refine l_nil ?_
      exact goB () (weak [0, 1] ⟨rfl, rfl, rfl, trivial⟩ ⟨rfl, rfl, trivial⟩)
    refine ref_exit (x_then ?_)
    exact brkB () (weak [1] ⟨rfl, trivial⟩ ⟨rfl, trivial⟩)
  refine n_then (ref_seq (ref_region ?_))
  refine mv1 rfl rfl ?_
  refine as1 rfl rfl ?_
  refine l_nil (n_then (ref_ret ?_))
  exact fin1 (.inl rfl) o3 [0] rfl ⟨rfl, trivial⟩ rfl (rv_tmp rfl)

/-! deliberation/protocol.of -/
noncomputable def protocol_of_l1 (d_0 : T_api_Dialogue) (t4 : List Int) (j11 : Int) (s27 : Int × (List Bool)) : Option (Sum ((List Bool)) (Int × (List Bool))) :=
  bif decide (s27.1 < (d_0.Moves.length : Int)) then
    Option.bind (idxM t4 s27.1) fun t30 =>
    bif t30 == 0 then
      letM (iadd .i64 s27.1 1) fun i39 =>
      some (Sum.inr (i39, s27.2))
    else
      Option.bind (idxM d_0.Moves s27.1) fun t31 =>
      Option.bind (idxM s27.2 t31.Target) fun t32 =>
      bif !t32 then
        letM (iadd .i64 s27.1 1) fun i40 =>
        some (Sum.inr (i40, s27.2))
      else
        Option.bind (idxM d_0.Moves s27.1) fun t34 =>
        Option.bind (idxM d_0.Moves t34.Target) fun t35 =>
        bif t35.By == j11 then
          Option.bind (idxM s27.2 s27.1) fun t36 =>
          letM (iadd .i64 s27.1 1) fun i41 =>
          some (Sum.inr (i41, s27.2.set (Int.toNat s27.1) true))
        else
          Option.bind (idxM t4 s27.1) fun t37 =>
          Option.bind (idxM s27.2 s27.1) fun t38 =>
          letM (iadd .i64 s27.1 1) fun i42 =>
          some (Sum.inr (i42, s27.2.set (Int.toNat s27.1) (t37 == 1)))
  else
    some (Sum.inl s27.2)

noncomputable def protocol_of_m (d_0 : T_api_Dialogue) : Option (T_protocol_table) :=
  Option.bind (protocol_Status_m d_0) fun t4 =>
  Option.bind (mkM 1 false (d_0.Moves.length : Int)) fun t6 =>
  joinM (fun j11 : Int =>
      Option.bind (idxM t6 0) fun t14 =>
      Option.bind (loopC (protocol_of_l1 d_0 t4 j11) (1, t6.set (Int.toNat 0) true)) fun q43 : (List Bool) =>
      some (T_protocol_table.mk d_0 t4 j11 q43)) fun k13 =>
  Option.bind (idxM t4 0) fun t9 =>
  bif t9 == 2 then
    k13 2
  else
    k13 1

theorem protocol_of_ok {d_0 : T_api_Dialogue} {r : T_protocol_table} (hm : protocol_of_m d_0 = some r) :
    FnOk prog 62 [ag [iv .i64 d_0.Graph.N, slv rT_api_Pair d_0.Graph.L, iv .i64 d_0.Root, iv .i64 d_0.Limits.i0, iv .i64 d_0.Limits.i1, slv rT_api_Move d_0.Moves]] [] (fun (x : Unit) => [ag [iv .i64 r.d.Graph.N, slv rT_api_Pair r.d.Graph.L, iv .i64 r.d.Root, iv .i64 r.d.Limits.i0, iv .i64 r.d.Limits.i1, slv rT_api_Move r.d.Moves, slv (rI .i64) r.status, iv .i64 r.leader, slv rB r.leading]]) (fun (x : Unit) => []) := by
  refine fn_ok (fn := Try.f62) (N := 75) (res := fun r x => [ag [iv .i64 r.d.Graph.N, slv rT_api_Pair r.d.Graph.L, iv .i64 r.d.Root, iv .i64 r.d.Limits.i0, iv .i64 r.d.Limits.i1, slv rT_api_Move r.d.Moves, slv (rI .i64) r.status, iv .i64 r.leader, slv rB r.leading]]) (Ω1 := fun r x => []) Try.func62 rfl rfl hm rfl (fun E hM => ?_)
  unfold protocol_of_m
  refine ref_seq (ref_region ?_)
  refine s_st (s_box (part_agO (ψs := [iv .i64 d_0.Graph.N, slv rT_api_Pair d_0.Graph.L, iv .i64 d_0.Root, iv .i64 d_0.Limits.i0, iv .i64 d_0.Limits.i1, slv rT_api_Move d_0.Moves]) rfl ⟨.inl iv_at, .inl slv_at, .inl iv_at, .inl iv_at, .inl iv_at, .inl slv_at, trivial⟩)) rfl (fun b1 => ?_)
  refine s_st (s_alloc zt_95) rfl (fun b2 => ?_)
  refine l_nil (n_then (ref_seq ?_))
  refine pull fun t4 h_t4 => ?_
  refine pull fun t6 h_t6 => ?_
  refine ref_drawI 3 [⟨[], [], [], [0], [], fun us u => ag [iv .i64 d_0.Graph.N, slv rT_api_Pair d_0.Graph.L, iv .i64 d_0.Root, iv .i64 d_0.Limits.i0, iv .i64 d_0.Limits.i1, slv rT_api_Move d_0.Moves], fun us u => []⟩, ⟨[], [], [], [0], [], fun us u => ag [iv .i64 d_0.Graph.N, slv rT_api_Pair d_0.Graph.L, iv .i64 d_0.Root, iv .i64 d_0.Limits.i0, iv .i64 d_0.Limits.i1, slv rT_api_Move d_0.Moves], fun us u => []⟩, ⟨[1], [], [2], [2], [], fun us u => pv u.V.1, fun us u => [oa (rI .i64) u.V.1 u.V.2 t4]⟩, ⟨[], [], [], [], [], fun us u => pv (ptr b1 5), fun us u => []⟩, ⟨[3], [], [], [0], [], fun us u => slv rT_api_Move d_0.Moves, fun us u => []⟩, ⟨[3, 4], [], [], [], [], fun us u => iv .i64 (d_0.Moves.length : Int), fun us u => []⟩, ⟨[3, 4, 5], [], [3], [3], [], fun us u => pv u.V.1, fun us u => [oa rB u.V.1 u.V.2 t6]⟩, ⟨[0, 1, 2, 3, 4, 5, 6], [2, 6], [], [2, 3], [], fun us u => ag [iv .i64 d_0.Graph.N, slv rT_api_Pair d_0.Graph.L, iv .i64 d_0.Root, iv .i64 d_0.Limits.i0, iv .i64 d_0.Limits.i1, slv rT_api_Move d_0.Moves, pv (us.getD 0 .none).V.1, iv .i64 1, pv (us.getD 1 .none).V.1], fun us u => []⟩, ⟨[], [], [4], [4], [], fun us u => pv (ptr u.Nn 0), fun us u => [oc u.Nn [iv .i64 0, pv (.slice none 0 0), iv .i64 0, iv .i64 0, iv .i64 0, pv (.slice none 0 0), pv (.slice none 0 0), iv .i64 0, pv (.slice none 0 0)]]⟩, ⟨[0, 1, 2, 3, 4, 5, 6, 7, 8], [2, 6, 8], [4], [2, 3, 4], [4], fun us u => pv undef, fun us u => [oc (us.getD 2 .none).Nn [iv .i64 d_0.Graph.N, slv rT_api_Pair d_0.Graph.L, iv .i64 d_0.Root, iv .i64 d_0.Limits.i0, iv .i64 d_0.Limits.i1, slv rT_api_Move d_0.Moves, pv (us.getD 0 .none).V.1, iv .i64 1, pv (us.getD 1 .none).V.1]]⟩] (fun χ3 => [(1, pv (ptr b1 0)), (2, pv (ptr b2 0)), (3, pv (ptr (χ3 8).Nn 0))]) (fun χ3 => [oc b1 [iv .i64 d_0.Graph.N, slv rT_api_Pair d_0.Graph.L, iv .i64 d_0.Root, iv .i64 d_0.Limits.i0, iv .i64 d_0.Limits.i1, slv rT_api_Move d_0.Moves], oc b2 [iv .i64 0, pv (.slice none 0 0), iv .i64 0, iv .i64 0, iv .i64 0, pv (.slice none 0 0), pv (.slice none 0 0), iv .i64 0, pv (.slice none 0 0)], oa (rI .i64) (χ3 2).V.1 (χ3 2).V.2 t4, oa rB (χ3 6).V.1 (χ3 6).V.2 t6, oc (χ3 8).Nn [iv .i64 d_0.Graph.N, slv rT_api_Pair d_0.Graph.L, iv .i64 d_0.Root, iv .i64 d_0.Limits.i0, iv .i64 d_0.Limits.i1, slv rT_api_Move d_0.Moves, pv (χ3 2).V.1, iv .i64 1, pv (χ3 6).V.1]]) rfl (by kernel_rfl) ⟨fun χ3 Ω ⟨h0, _⟩ => St.toR (r_cloadS Try.isAgg35 Try.sizeOf35 rfl (j := 0) h0 rfl rfl) (fun _ => rfl) (fun _ => rfl), (by intro _ h; cases h; rfl), ⟨fun χ3 Ω ⟨h0, _⟩ => St.toR (r_cloadS Try.isAgg35 Try.sizeOf35 rfl (j := 0) h0 rfl rfl) (fun _ => rfl) (fun _ => rfl), (by intro _ h; cases h; rfl), ⟨fun χ3 Ω ⟨h2, _⟩ => St.to XU.V XU.hV (St.placeL [2] (s_call (ψ := fun (x5 : (Value × List Nat)) => pv x5.1) (args := [.tmp 6]) Try.call81 rfl (protocol_Status_ok h_t4) ⟨arg rfl, trivial⟩ (fun _ _ _ _ h => h)) (fun _ => rfl) (fun _ => ⟨h2, rfl, trivial⟩)) (fun _ => rfl) (fun _ => rfl), (by intro _ h; cases h; rfl), ⟨fun χ3 Ω _ => St.toR (r_faddr (fo := 5) Try.underlying35 rfl rfl Try.sizeOf23 rfl) (fun _ => rfl) (fun _ => rfl), (by intro _ h; cases h; rfl), ⟨fun χ3 Ω ⟨h0, _⟩ => St.toR (r_cload Try.isAgg23 rfl (j := 0) h0 rfl) (fun _ => rfl) (fun _ => rfl), (by intro _ h; cases h; rfl), ⟨fun χ3 Ω _ => St.toR (r_len Try.underlying23 rfl) (fun _ => rfl) (fun _ => rfl), (by intro _ h; cases h; rfl), ⟨fun χ3 Ω ⟨h3, _⟩ => St.to XU.V XU.hV (St.placeL (os := fun _ => [_]) [3] (s_make h_t6 Try.underlying93 el_4 ze_4 rfl rfl) (fun _ => rfl) (fun _ => ⟨h3, rfl, trivial⟩)) (fun _ => rfl) (fun _ => rfl), (by intro _ h; cases h; rfl), ⟨fun χ3 Ω ⟨h2, h3, _⟩ => St.toR (r_build (ps := [(0, .tmp 5), (1, .tmp 7), (2, .const (.int .i64 (1))), (3, .tmp 11)]) (rs := [(0, [iv .i64 d_0.Graph.N, slv rT_api_Pair d_0.Graph.L, iv .i64 d_0.Root, iv .i64 d_0.Limits.i0, iv .i64 d_0.Limits.i1, slv rT_api_Move d_0.Moves]), (1, [pv (χ3 2).V.1]), (2, [iv .i64 1]), (3, [pv (χ3 6).V.1])]) st_95 zs_95 ⟨rfl, (part_agO (ψs := [iv .i64 d_0.Graph.N, slv rT_api_Pair d_0.Graph.L, iv .i64 d_0.Root, iv .i64 d_0.Limits.i0, iv .i64 d_0.Limits.i1, slv rT_api_Move d_0.Moves]) rfl ⟨.inl iv_at, .inl slv_at, .inl iv_at, .inl iv_at, .inl iv_at, .inl slv_at, trivial⟩), ⟨rfl, (part_own rfl (j := 2) h2), ⟨rfl, (part_at rfl iv_at), ⟨rfl, (part_own rfl (j := 3) h3), trivial⟩⟩⟩⟩ rfl rfl) (fun _ => rfl) (fun _ => rfl), (by intro _ h; cases h; rfl), ⟨fun χ3 Ω ⟨h4, _⟩ => St.to XU.Nn XU.hN (St.placeL (os := fun _ => [_]) [4] (s_alloc zt_95) (fun _ => rfl) (fun _ => ⟨h4, rfl, trivial⟩)) (fun _ => rfl) (fun _ => rfl), (by intro _ h; cases h; rfl), ⟨fun χ3 Ω ⟨h2, h3, h4, _⟩ => St.to XU.U XU.hU (s_cstore (out := [iv .i64 d_0.Graph.N, slv rT_api_Pair d_0.Graph.L, iv .i64 d_0.Root, iv .i64 d_0.Limits.i0, iv .i64 d_0.Limits.i1, slv rT_api_Move d_0.Moves, pv (χ3 2).V.1, iv .i64 1, pv (χ3 6).V.1]) Try.sizeOf95 rfl (j := 4) h4 (part_agO (ψs := [iv .i64 d_0.Graph.N, slv rT_api_Pair d_0.Graph.L, iv .i64 d_0.Root, iv .i64 d_0.Limits.i0, iv .i64 d_0.Limits.i1, slv rT_api_Move d_0.Moves, pv (χ3 2).V.1, iv .i64 1, pv (χ3 6).V.1]) rfl ⟨.inl iv_at, .inl slv_at, .inl iv_at, .inl iv_at, .inl iv_at, .inl slv_at, .inr ⟨_, _, _, _, _, 2, rfl, h2⟩, .inl iv_at, .inr ⟨_, _, _, _, _, 3, rfl, h3⟩, trivial⟩) rfl rfl rfl) (fun _ => rfl) (fun _ => rfl), (by intro _ h; cases h), trivial⟩⟩⟩⟩⟩⟩⟩⟩⟩⟩ (fun _ => ⟨rfl, rfl, rfl, trivial⟩) (fun _ => rfl) (fun χ3 => ?_)
  refine n_then (ref_seq ?_)
  refine ref_join (fun (j11 : Int) (x12 : Unit) => [(1, pv (ptr b1 0)), (2, pv (ptr b2 0)), (3, pv (ptr (χ3 8).Nn 0))]) (fun (j11 : Int) (x12 : Unit) => [oc b1 [iv .i64 d_0.Graph.N, slv rT_api_Pair d_0.Graph.L, iv .i64 d_0.Root, iv .i64 d_0.Limits.i0, iv .i64 d_0.Limits.i1, slv rT_api_Move d_0.Moves], oc b2 [iv .i64 0, pv (.slice none 0 0), iv .i64 0, iv .i64 0, iv .i64 0, pv (.slice none 0 0), pv (.slice none 0 0), iv .i64 0, pv (.slice none 0 0)], oc (χ3 8).Nn [iv .i64 d_0.Graph.N, slv rT_api_Pair d_0.Graph.L, iv .i64 d_0.Root, iv .i64 d_0.Limits.i0, iv .i64 d_0.Limits.i1, slv rT_api_Move d_0.Moves, pv (χ3 2).V.1, iv .i64 j11, pv (χ3 6).V.1], oa (rI .i64) (χ3 2).V.1 (χ3 2).V.2 t4, oa rB (χ3 6).V.1 (χ3 6).V.2 t6]) (fun k13 hk13 => ?_) (fun j11 x12 => ?_)
  · refine ref_seq (ref_region ?_)
    refine s_rd (r_faddr (fo := 6) Try.underlying95 rfl rfl Try.sizeOf22 rfl) rfl ?_
    refine s_rd (r_cload Try.isAgg22 rfl (j := 4) rfl rfl) rfl ?_
    refine pull fun t9 h_t9 => ?_
    refine s_rd (r_oindex h_t9 Try.underlying22 el_3 rfl (j := 2) rfl rfl) rfl ?_
    refine s_rd (r_oload h_t9 el_3 rfl (j := 2) rfl) rfl ?_
    refine s_rd (r_eql rfl rfl) rfl ?_
    refine l_nil (n_then ?_)
    refine ref_cond rfl (fun hb10 => ?_) (fun hb10 => ?_)
    · refine ref_region ?_
      refine s_rd (r_faddr (fo := 7) Try.underlying95 rfl rfl Try.sizeOf3 rfl) rfl ?_
      refine s_st0 (s_cstore (out := [iv .i64 d_0.Graph.N, slv rT_api_Pair d_0.Graph.L, iv .i64 d_0.Root, iv .i64 d_0.Limits.i0, iv .i64 d_0.Limits.i1, slv rT_api_Move d_0.Moves, pv (χ3 2).V.1, iv .i64 2, pv (χ3 6).V.1]) Try.sizeOf3 rfl (j := 4) rfl (part_at rfl iv_at) rfl rfl rfl) (fun _ => ?_)
      refine l_nil ?_
      exact b_to (hk13 2 ()) (weak [0, 1, 4, 2, 3] ⟨rfl, rfl, rfl, trivial⟩ ⟨rfl, rfl, rfl, rfl, rfl, trivial⟩)
    refine ref_skip ?_
    exact b_to (hk13 1 ()) (weak [0, 1, 4, 2, 3] ⟨rfl, rfl, rfl, trivial⟩ ⟨rfl, rfl, rfl, rfl, rfl, trivial⟩)
  refine n_then (ref_seq (ref_region ?_))
  refine s_rd (r_faddr (fo := 8) Try.underlying95 rfl rfl Try.sizeOf93 rfl) rfl ?_
  refine s_rd (r_cload Try.isAgg93 rfl (j := 2) rfl rfl) rfl ?_
  refine pull fun t14 h_t14 => ?_
  refine s_rd (r_oindex h_t14 Try.underlying93 el_4 rfl (j := 4) rfl rfl) rfl ?_
  refine s_st0 (s_ostore (u := true) h_t14 el_4 rfl (j := 4) rfl (part_at rfl bv_at)) (fun _ => ?_)
  refine l_nil (n_then (ref_seq (ref_seq (ref_region ?_))))
  refine as1 rfl rfl ?_
  refine l_nil (n_then ?_)
  refine ref_loopB (f := (protocol_of_l1 d_0 t4 j11)) (Γl := (fun (s27 : Int × (List Bool)) (x28 : Unit) => [(1, pv (ptr b1 0)), (2, pv (ptr b2 0)), (3, pv (ptr (χ3 8).Nn 0)), (4, iv .i64 s27.1)])) (Ωl := (fun (s27 : Int × (List Bool)) (x28 : Unit) => [oc b1 [iv .i64 d_0.Graph.N, slv rT_api_Pair d_0.Graph.L, iv .i64 d_0.Root, iv .i64 d_0.Limits.i0, iv .i64 d_0.Limits.i1, slv rT_api_Move d_0.Moves], oc b2 [iv .i64 0, pv (.slice none 0 0), iv .i64 0, iv .i64 0, iv .i64 0, pv (.slice none 0 0), pv (.slice none 0 0), iv .i64 0, pv (.slice none 0 0)], oc (χ3 8).Nn [iv .i64 d_0.Graph.N, slv rT_api_Pair d_0.Graph.L, iv .i64 d_0.Root, iv .i64 d_0.Limits.i0, iv .i64 d_0.Limits.i1, slv rT_api_Move d_0.Moves, pv (χ3 2).V.1, iv .i64 j11, pv (χ3 6).V.1], oa (rI .i64) (χ3 2).V.1 (χ3 2).V.2 t4, oa rB (χ3 6).V.1 (χ3 6).V.2 s27.2])) (Γb := (fun (q43 : (List Bool)) (y44 : Unit) => [(2, pv (ptr b2 0)), (3, pv (ptr (χ3 8).Nn 0))])) (Ωb := (fun (q43 : (List Bool)) (y44 : Unit) => [oc b2 [iv .i64 0, pv (.slice none 0 0), iv .i64 0, iv .i64 0, iv .i64 0, pv (.slice none 0 0), pv (.slice none 0 0), iv .i64 0, pv (.slice none 0 0)], oc (χ3 8).Nn [iv .i64 d_0.Graph.N, slv rT_api_Pair d_0.Graph.L, iv .i64 d_0.Root, iv .i64 d_0.Limits.i0, iv .i64 d_0.Limits.i1, slv rT_api_Move d_0.Moves, pv (χ3 2).V.1, iv .i64 j11, pv (χ3 6).V.1], oa (rI .i64) (χ3 2).V.1 (χ3 2).V.2 t4, oa rB (χ3 6).V.1 (χ3 6).V.2 q43])) (1, t6.set (Int.toNat 0) true) () (weak [0, 1, 2, 3, 4] ⟨rfl, rfl, rfl, rfl, trivial⟩ ⟨rfl, rfl, rfl, rfl, rfl, trivial⟩) (fun s27 x28 => ?_) (fun q43 y44 => ?_)
  · unfold protocol_of_l1
    refine ref_seq (ref_seq (ref_region ?_))
    refine mv1 rfl rfl ?_
    refine s_rd (r_faddr (fo := 5) Try.underlying35 rfl rfl Try.sizeOf23 rfl) rfl ?_
    refine s_rd (r_cload Try.isAgg23 rfl (j := 0) rfl rfl) rfl ?_
    refine s_rd (r_len Try.underlying23 rfl) rfl ?_
    refine s_rd (r_lss rfl rfl) rfl ?_
    refine l_nil (n_then ?_)
    refine ref_cond rfl (fun hb29 => ?_) (fun hb29 => ?_)
    · refine ref_skip (n_then (ref_seq (ref_block (ref_seq (ref_seq ?_)))))
      refine ref_draw [0, 1, 2, 3, 4, 5, 6, 7, 8, 9, 10, 11, 12, 13, 14, 15, 16, 17, 18] rfl (by kernel_rfl) (fun hok => ?_)
      refine a_rd (i := 0) hok rfl (by kernel_rfl) rfl (r_faddr (fo := 6) Try.underlying95 rfl rfl Try.sizeOf22 rfl) rfl ?_
      refine a_rd (i := 1) hok rfl (by kernel_rfl) rfl (r_cload Try.isAgg22 rfl (j := 2) rfl rfl) rfl ?_
      refine a_rd (i := 2) hok rfl (by kernel_rfl) rfl (r_move rfl) rfl ?_
      refine pull fun t30 h_t30 => ?_
      refine a_rd (i := 3) hok rfl (by kernel_rfl) rfl (r_oindex h_t30 Try.underlying22 el_3 rfl (j := 3) rfl rfl) rfl ?_
      refine a_rd (i := 4) hok rfl (by kernel_rfl) rfl (r_oload h_t30 el_3 rfl (j := 3) rfl) rfl ?_
      refine a_rd (i := 5) hok rfl (by kernel_rfl) rfl (r_eql rfl rfl) rfl ?_
      refine a_rd (i := 6) hok rfl (by kernel_rfl) rfl (r_move rfl) rfl ?_
      refine b_split (t := 35) rfl (fun _ => ?_) (fun _ => ?_)
      · refine a_off (i := 7) hok rfl rfl rfl rfl rfl (by kernel_rfl) rfl rfl ?_
        refine a_off (i := 8) hok rfl rfl rfl rfl rfl (by kernel_rfl) rfl rfl ?_
        refine a_off (i := 9) hok rfl rfl rfl rfl rfl (by kernel_rfl) rfl rfl ?_
        refine a_off (i := 10) hok rfl rfl rfl rfl rfl (by kernel_rfl) rfl rfl ?_
        refine a_off (i := 11) hok rfl rfl rfl rfl rfl (by kernel_rfl) rfl rfl ?_
        refine a_off (i := 12) hok rfl rfl rfl rfl rfl (by kernel_rfl) rfl rfl ?_
        refine a_off (i := 13) hok rfl rfl rfl rfl rfl (by kernel_rfl) rfl rfl ?_
        refine a_off (i := 14) hok rfl rfl rfl rfl rfl (by kernel_rfl) rfl rfl ?_
        refine a_off (i := 15) hok rfl rfl rfl rfl rfl (by kernel_rfl) rfl rfl ?_
        refine a_off (i := 16) hok rfl rfl rfl rfl rfl (by kernel_rfl) rfl rfl ?_
        refine a_off (i := 17) hok rfl rfl rfl rfl rfl (by kernel_rfl) rfl rfl ?_
        refine a_rd (i := 18) hok rfl (by kernel_rfl) rfl (r_pickT rfl rfl) rfl ?_
        refine a_fin hok (by kernel_rfl) ?_
        refine n_then ?_
        refine ref_condT rfl rfl ?_
        refine ref_exit (x_then (x_eq (n_then (ref_region ?_))))
        refine mv1 rfl rfl ?_
        refine s_rd (r_add rfl rfl) rfl ?_
        refine as1 rfl rfl ?_
        refine b_let (f := iv .i64) (t := 4) rfl fun i39 => ?_
        refine l_nil ?_
        exact goB () (weak [0, 1, 2, 3, 4] ⟨rfl, rfl, rfl, rfl, trivial⟩ ⟨rfl, rfl, rfl, rfl, rfl, trivial⟩)
      refine a_rdOn (i := 7) hok rfl rfl rfl rfl (by kernel_rfl) rfl (r_faddr (fo := 8) Try.underlying95 rfl rfl Try.sizeOf93 rfl) rfl ?_
      refine a_rdOn (i := 8) hok rfl rfl rfl rfl (by kernel_rfl) rfl (r_cload Try.isAgg93 rfl (j := 2) rfl rfl) rfl ?_
      refine a_rdOn (i := 9) hok rfl rfl rfl rfl (by kernel_rfl) rfl (r_faddr (fo := 5) Try.underlying35 rfl rfl Try.sizeOf23 rfl) rfl ?_
      refine a_rdOn (i := 10) hok rfl rfl rfl rfl (by kernel_rfl) rfl (r_cload Try.isAgg23 rfl (j := 0) rfl rfl) rfl ?_
      refine a_rdOn (i := 11) hok rfl rfl rfl rfl (by kernel_rfl) rfl (r_move rfl) rfl ?_
      refine pull fun t31 h_t31 => ?_
      refine a_rdOn (i := 12) hok rfl rfl rfl rfl (by kernel_rfl) rfl (r_index h_t31 Try.underlying23 el_40 rfl rfl) rfl ?_
      refine a_rdOn (i := 13) hok rfl rfl rfl rfl (by kernel_rfl) rfl (r_fea (fo := 3) (ρ := rT_api_Move) (y := t31) (ρ' := (rI .i64)) (z := t31.Target) Try.underlying40 rfl rfl Try.sizeOf3 rfl rfl rfl) rfl ?_
      refine a_rdOn (i := 14) hok rfl rfl rfl rfl (by kernel_rfl) rfl (r_load el_3 rfl) rfl ?_
      refine pull fun t32 h_t32 => ?_
      refine a_rdOn (i := 15) hok rfl rfl rfl rfl (by kernel_rfl) rfl (r_oindex h_t32 Try.underlying93 el_4 rfl (j := 4) rfl rfl) rfl ?_
      refine a_rdOn (i := 16) hok rfl rfl rfl rfl (by kernel_rfl) rfl (r_oload h_t32 el_4 rfl (j := 4) rfl) rfl ?_
      refine a_rdOn (i := 17) hok rfl rfl rfl rfl (by kernel_rfl) rfl (r_not rfl) rfl ?_
      refine a_rd (i := 18) hok rfl (by kernel_rfl) rfl (r_pickF rfl rfl) rfl ?_
      refine a_fin hok (by kernel_rfl) ?_
      refine n_then ?_
      refine ref_cond rfl (fun hb33 => ?_) (fun hb33 => ?_)
      · refine ref_exit (x_then (x_eq (n_then (ref_region ?_))))
        refine mv1 rfl rfl ?_
        refine s_rd (r_add rfl rfl) rfl ?_
        refine as1 rfl rfl ?_
        refine b_let (f := iv .i64) (t := 4) rfl fun i40 => ?_
        refine l_nil ?_
        exact goB () (weak [0, 1, 2, 3, 4] ⟨rfl, rfl, rfl, rfl, trivial⟩ ⟨rfl, rfl, rfl, rfl, rfl, trivial⟩)
      refine ref_skip (n_then ?_)
      refine ref_draw [0, 1, 2, 3, 4, 5, 6, 7, 8, 9, 10, 11, 12, 13, 14, 15, 16, 17, 18, 19, 20, 21, 22, 23, 24, 25] rfl (by kernel_rfl) (fun hok => ?_)
      refine a_rd (i := 0) hok rfl (by kernel_rfl) rfl (r_faddr (fo := 8) Try.underlying95 rfl rfl Try.sizeOf93 rfl) rfl ?_
      refine a_rd (i := 1) hok rfl (by kernel_rfl) rfl (r_cload Try.isAgg93 rfl (j := 2) rfl rfl) rfl ?_
      refine a_rd (i := 2) hok rfl (by kernel_rfl) rfl (r_move rfl) rfl ?_
      refine a_rd (i := 3) hok rfl (by kernel_rfl) rfl (r_faddr (fo := 5) Try.underlying35 rfl rfl Try.sizeOf23 rfl) rfl ?_
      refine a_rd (i := 4) hok rfl (by kernel_rfl) rfl (r_cload Try.isAgg23 rfl (j := 0) rfl rfl) rfl ?_
      refine a_rd (i := 5) hok rfl (by kernel_rfl) rfl (r_faddr (fo := 5) Try.underlying35 rfl rfl Try.sizeOf23 rfl) rfl ?_
      refine a_rd (i := 6) hok rfl (by kernel_rfl) rfl (r_cload Try.isAgg23 rfl (j := 0) rfl rfl) rfl ?_
      refine a_rd (i := 7) hok rfl (by kernel_rfl) rfl (r_move rfl) rfl ?_
      refine pull fun t34 h_t34 => ?_
      refine a_rd (i := 8) hok rfl (by kernel_rfl) rfl (r_index h_t34 Try.underlying23 el_40 rfl rfl) rfl ?_
      refine a_rd (i := 9) hok rfl (by kernel_rfl) rfl (r_fea (fo := 3) (ρ := rT_api_Move) (y := t34) (ρ' := (rI .i64)) (z := t34.Target) Try.underlying40 rfl rfl Try.sizeOf3 rfl rfl rfl) rfl ?_
      refine a_rd (i := 10) hok rfl (by kernel_rfl) rfl (r_load el_3 rfl) rfl ?_
      refine pull fun t35 h_t35 => ?_
      refine a_rd (i := 11) hok rfl (by kernel_rfl) rfl (r_index h_t35 Try.underlying23 el_40 rfl rfl) rfl ?_
      refine a_rd (i := 12) hok rfl (by kernel_rfl) rfl (r_fea (fo := 0) (ρ := rT_api_Move) (y := t35) (ρ' := (rI .i64)) (z := t35.By) Try.underlying40 rfl rfl Try.sizeOf3 rfl rfl rfl) rfl ?_
      refine a_rd (i := 13) hok rfl (by kernel_rfl) rfl (r_load el_3 rfl) rfl ?_
      refine a_rd (i := 14) hok rfl (by kernel_rfl) rfl (r_faddr (fo := 7) Try.underlying95 rfl rfl Try.sizeOf3 rfl) rfl ?_
      refine a_rd (i := 15) hok rfl (by kernel_rfl) rfl (r_cload Try.isAgg3 rfl (j := 2) rfl rfl) rfl ?_
      refine a_rd (i := 16) hok rfl (by kernel_rfl) rfl (r_eql rfl rfl) rfl ?_
      refine a_rd (i := 17) hok rfl (by kernel_rfl) rfl (r_move rfl) rfl ?_
      refine b_split (t := 65) rfl (fun _ => ?_) (fun _ => ?_)
      · refine a_off (i := 18) hok rfl rfl rfl rfl rfl (by kernel_rfl) rfl rfl ?_
        refine a_off (i := 19) hok rfl rfl rfl rfl rfl (by kernel_rfl) rfl rfl ?_
        refine a_off (i := 20) hok rfl rfl rfl rfl rfl (by kernel_rfl) rfl rfl ?_
        refine a_off (i := 21) hok rfl rfl rfl rfl rfl (by kernel_rfl) rfl rfl ?_
        refine a_off (i := 22) hok rfl rfl rfl rfl rfl (by kernel_rfl) rfl rfl ?_
        refine a_off (i := 23) hok rfl rfl rfl rfl rfl (by kernel_rfl) rfl rfl ?_
        refine a_rd (i := 24) hok rfl (by kernel_rfl) rfl (r_pickT rfl rfl) rfl ?_
        refine pull fun t36 h_t36 => ?_
        refine a_rd (i := 25) hok rfl (by kernel_rfl) rfl (r_oindex h_t36 Try.underlying93 el_4 rfl (j := 4) rfl rfl) rfl ?_
        refine a_next hok 26 [] (by kernel_rfl) ?_ trivial
        refine a_st (i := 26) hok rfl rfl (s_ostore (u := true) h_t36 el_4 rfl (j := 4) rfl (part_at rfl bv_at)) (by intro _ h; cases h) (fun _ => ⟨trivial, ⟨trivial, ⟨trivial, ⟨trivial, ⟨trivial, ⟨trivial, ⟨trivial, ⟨trivial, ⟨trivial, ⟨trivial, ⟨trivial, ⟨trivial, ⟨trivial, ⟨trivial, ⟨trivial, ⟨trivial, ⟨trivial, ⟨trivial, ⟨trivial, ⟨trivial, ⟨trivial, ⟨trivial, ⟨trivial, ⟨trivial, ⟨trivial, ⟨trivial, trivial⟩⟩⟩⟩⟩⟩⟩⟩⟩⟩⟩⟩⟩⟩⟩⟩⟩⟩⟩⟩⟩⟩⟩⟩⟩⟩) (fun _ => ?_)
        refine a_fin hok (by kernel_rfl) ?_
        refine n_block (n_then (ref_region ?_))
        refine mv1 rfl rfl ?_
        refine s_rd (r_add rfl rfl) rfl ?_
        refine as1 rfl rfl ?_
        refine b_let (f := iv .i64) (t := 4) rfl fun i41 => ?_
        refine l_nil ?_
        exact goB () (weak [0, 1, 2, 3, 4] ⟨rfl, rfl, rfl, rfl, trivial⟩ ⟨rfl, rfl, rfl, rfl, rfl, trivial⟩)
      refine a_rdOn (i := 18) hok rfl rfl rfl rfl (by kernel_rfl) rfl (r_faddr (fo := 6) Try.underlying95 rfl rfl Try.sizeOf22 rfl) rfl ?_
      refine a_rdOn (i := 19) hok rfl rfl rfl rfl (by kernel_rfl) rfl (r_cload Try.isAgg22 rfl (j := 2) rfl rfl) rfl ?_
      refine a_rdOn (i := 20) hok rfl rfl rfl rfl (by kernel_rfl) rfl (r_move rfl) rfl ?_
      refine pull fun t37 h_t37 => ?_
      refine a_rdOn (i := 21) hok rfl rfl rfl rfl (by kernel_rfl) rfl (r_oindex h_t37 Try.underlying22 el_3 rfl (j := 3) rfl rfl) rfl ?_
      refine a_rdOn (i := 22) hok rfl rfl rfl rfl (by kernel_rfl) rfl (r_oload h_t37 el_3 rfl (j := 3) rfl) rfl ?_
      refine a_rdOn (i := 23) hok rfl rfl rfl rfl (by kernel_rfl) rfl (r_eql rfl rfl) rfl ?_
      refine a_rd (i := 24) hok rfl (by kernel_rfl) rfl (r_pickF rfl rfl) rfl ?_
      refine pull fun t38 h_t38 => ?_
      refine a_rd (i := 25) hok rfl (by kernel_rfl) rfl (r_oindex h_t38 Try.underlying93 el_4 rfl (j := 4) rfl rfl) rfl ?_
      refine a_next hok 26 [] (by kernel_rfl) ?_ trivial
      refine a_st (i := 26) hok rfl rfl (s_ostore (u := t37 == 1) h_t38 el_4 rfl (j := 4) rfl (part_at rfl bv_at)) (by intro _ h; cases h) (fun _ => ⟨trivial, ⟨trivial, ⟨trivial, ⟨trivial, ⟨trivial, ⟨trivial, ⟨trivial, ⟨trivial, ⟨trivial, ⟨trivial, ⟨trivial, ⟨trivial, ⟨trivial, ⟨trivial, ⟨trivial, ⟨trivial, ⟨trivial, ⟨trivial, ⟨trivial, ⟨trivial, ⟨trivial, ⟨trivial, ⟨trivial, ⟨trivial, ⟨trivial, ⟨trivial, trivial⟩⟩⟩⟩⟩⟩⟩⟩⟩⟩⟩⟩⟩⟩⟩⟩⟩⟩⟩⟩⟩⟩⟩⟩⟩⟩) (fun _ => ?_)
      refine a_fin hok (by kernel_rfl) ?_
      refine n_block (n_then (ref_region ?_))
      refine mv1 rfl rfl ?_
      refine s_rd (r_add rfl rfl) rfl ?_
      refine as1 rfl rfl ?_
      refine b_let (f := iv .i64) (t := 4) rfl fun i42 => ?_
      refine l_nil ?_
      exact goB () (weak [0, 1, 2, 3, 4] ⟨rfl, rfl, rfl, rfl, trivial⟩ ⟨rfl, rfl, rfl, rfl, rfl, trivial⟩)
    refine ref_exit (x_then ?_)
    exact brkB () (weak [1, 2, 3, 4] ⟨rfl, rfl, trivial⟩ ⟨rfl, rfl, rfl, rfl, trivial⟩)
  refine n_then (ref_seq (ref_region ?_))
  refine s_rd (r_cloadS Try.isAgg95 Try.sizeOf95 rfl (j := 1) rfl rfl rfl) rfl ?_
  refine s_st0 (s_cstore (out := [iv .i64 d_0.Graph.N, slv rT_api_Pair d_0.Graph.L, iv .i64 d_0.Root, iv .i64 d_0.Limits.i0, iv .i64 d_0.Limits.i1, slv rT_api_Move d_0.Moves, pv (χ3 2).V.1, iv .i64 j11, pv (χ3 6).V.1]) Try.sizeOf95 rfl (j := 0) rfl (part_agO (ψs := [iv .i64 d_0.Graph.N, slv rT_api_Pair d_0.Graph.L, iv .i64 d_0.Root, iv .i64 d_0.Limits.i0, iv .i64 d_0.Limits.i1, slv rT_api_Move d_0.Moves, pv (χ3 2).V.1, iv .i64 j11, pv (χ3 6).V.1]) rfl ⟨.inl iv_at, .inl slv_at, .inl iv_at, .inl iv_at, .inl iv_at, .inl slv_at, .inr ⟨_, _, _, _, _, 2, rfl, rfl⟩, .inl iv_at, .inr ⟨_, _, _, _, _, 3, rfl, rfl⟩, trivial⟩) rfl rfl rfl) (fun _ => ?_)
  refine l_nil (n_then (ref_ret ?_))
  refine b_of (frzGL [(74, ag [iv .i64 d_0.Graph.N, slv rT_api_Pair d_0.Graph.L, iv .i64 d_0.Root, iv .i64 d_0.Limits.i0, iv .i64 d_0.Limits.i1, slv rT_api_Move d_0.Moves, slv (rI .i64) t4, iv .i64 j11, pv (χ3 6).V.1])] [(0, b2, [iv .i64 d_0.Graph.N, slv rT_api_Pair d_0.Graph.L, iv .i64 d_0.Root, iv .i64 d_0.Limits.i0, iv .i64 d_0.Limits.i1, slv rT_api_Move d_0.Moves, slv (rI .i64) t4, iv .i64 j11, pv (χ3 6).V.1]), (1, (χ3 8).Nn, [iv .i64 d_0.Graph.N, slv rT_api_Pair d_0.Graph.L, iv .i64 d_0.Root, iv .i64 d_0.Limits.i0, iv .i64 d_0.Limits.i1, slv rT_api_Move d_0.Moves, slv (rI .i64) t4, iv .i64 j11, pv (χ3 6).V.1])] (j := 2) rfl ⟨⟨_, rfl, .inr ⟨_, _, rfl, rfl, ⟨.inl rfl, .inl rfl, .inl rfl, .inl rfl, .inl rfl, .inl rfl, .inr ⟨rfl, rfl⟩, .inl rfl, .inl rfl, trivial⟩⟩⟩, trivial⟩ ⟨⟨_, rfl, ⟨.inl rfl, .inl rfl, .inl rfl, .inl rfl, .inl rfl, .inl rfl, .inr ⟨rfl, rfl⟩, .inl rfl, .inl rfl, trivial⟩⟩, ⟨_, rfl, ⟨.inl rfl, .inl rfl, .inl rfl, .inl rfl, .inl rfl, .inl rfl, .inr ⟨rfl, rfl⟩, .inl rfl, .inl rfl, trivial⟩⟩, trivial⟩) ?_
  refine b_of (frzGL [(74, ag [iv .i64 d_0.Graph.N, slv rT_api_Pair d_0.Graph.L, iv .i64 d_0.Root, iv .i64 d_0.Limits.i0, iv .i64 d_0.Limits.i1, slv rT_api_Move d_0.Moves, slv (rI .i64) t4, iv .i64 j11, slv rB q43])] [(0, b2, [iv .i64 d_0.Graph.N, slv rT_api_Pair d_0.Graph.L, iv .i64 d_0.Root, iv .i64 d_0.Limits.i0, iv .i64 d_0.Limits.i1, slv rT_api_Move d_0.Moves, slv (rI .i64) t4, iv .i64 j11, slv rB q43]), (1, (χ3 8).Nn, [iv .i64 d_0.Graph.N, slv rT_api_Pair d_0.Graph.L, iv .i64 d_0.Root, iv .i64 d_0.Limits.i0, iv .i64 d_0.Limits.i1, slv rT_api_Move d_0.Moves, slv (rI .i64) t4, iv .i64 j11, slv rB q43])] (j := 3) rfl ⟨⟨_, rfl, .inr ⟨_, _, rfl, rfl, ⟨.inl rfl, .inl rfl, .inl rfl, .inl rfl, .inl rfl, .inl rfl, .inl rfl, .inl rfl, .inr ⟨rfl, rfl⟩, trivial⟩⟩⟩, trivial⟩ ⟨⟨_, rfl, ⟨.inl rfl, .inl rfl, .inl rfl, .inl rfl, .inl rfl, .inl rfl, .inl rfl, .inl rfl, .inr ⟨rfl, rfl⟩, trivial⟩⟩, ⟨_, rfl, ⟨.inl rfl, .inl rfl, .inl rfl, .inl rfl, .inl rfl, .inl rfl, .inl rfl, .inl rfl, .inr ⟨rfl, rfl⟩, trivial⟩⟩, trivial⟩) ?_
  exact fin1 (.inl rfl) () [] rfl trivial rfl (rv_cell rfl (j := 0) rfl Try.isAgg95 Try.sizeOf95 rfl rfl)

/-! deliberation/protocol.other -/
noncomputable def protocol_other_m (player_0 : Int) : Option (Int) :=
  letM (isub .i64 3 player_0) fun t1 =>
  some t1

theorem protocol_other_ok {player_0 : Int} {r : Int} (hm : protocol_other_m player_0 = some r) :
    FnOk prog 61 [iv .i64 player_0] [] (fun (x : Unit) => [iv .i64 r]) (fun (x : Unit) => []) := by
  refine fn_ok (fn := Try.f61) (N := 5) (res := fun r x => [iv .i64 r]) (Ω1 := fun r x => []) Try.func61 rfl rfl hm rfl (fun E hM => ?_)
  unfold protocol_other_m
  refine ref_seq (ref_region ?_)
  refine as1 rfl rfl ?_
  refine l_nil (n_then (ref_seq (ref_region ?_)))
  refine mv1 rfl rfl ?_
  refine s_rd (r_sub rfl rfl) rfl ?_
  refine as1 rfl rfl ?_
  refine b_let (f := iv .i64) (t := 2) rfl fun t1 => ?_
  refine l_nil (n_then (ref_ret ?_))
  exact fin1 (.inl rfl) () [] rfl trivial rfl (rv_tmp rfl)

/-! slices.Index[[]deliberation/api.Move,deliberation/api.Move] -/
noncomputable def slices_Index_api_Move_api_Move_l1 (s_0 : (List T_api_Move)) (v_1 : T_api_Move) (s7 : Int) : Option (Sum ((Sum (Int) (Unit))) (Int)) :=
  bif decide (s7 < (s_0.length : Int)) then
    Option.bind (idxM s_0 s7) fun t10 =>
    bif decide (v_1 = t10) then
      some (Sum.inl (Sum.inl s7))
    else
      some (Sum.inr (iadd .i64 s7 1))
  else
    some (Sum.inl (Sum.inr ()))

noncomputable def slices_Index_api_Move_api_Move_m (s_0 : (List T_api_Move)) (v_1 : T_api_Move) : Option (Int) :=
  Option.bind (loopC (slices_Index_api_Move_api_Move_l1 s_0 v_1) 0) (sumK (fun a : Int => some a) fun q12 : Unit =>
    some (-1))

theorem slices_Index_api_Move_api_Move_ok {s_0 : (List T_api_Move)} {v_1 : T_api_Move} {r : Int} (hm : slices_Index_api_Move_api_Move_m s_0 v_1 = some r) :
    FnOk prog 83 [slv rT_api_Move s_0, ag [iv .i64 v_1.By, iv .i64 v_1.Kind, iv .i64 v_1.Node, iv .i64 v_1.Target]] [] (fun (x : Unit) => [iv .i64 r]) (fun (x : Unit) => []) := by
  refine fn_ok (fn := Try.f83) (N := 19) (res := fun r x => [iv .i64 r]) (Ω1 := fun r x => []) Try.func83 rfl rfl hm rfl (fun E hM => ?_)
  unfold slices_Index_api_Move_api_Move_m
  refine ref_seq (ref_region ?_)
  refine s_st (s_box (part_agO (ψs := [iv .i64 v_1.By, iv .i64 v_1.Kind, iv .i64 v_1.Node, iv .i64 v_1.Target]) rfl ⟨.inl iv_at, .inl iv_at, .inl iv_at, .inl iv_at, trivial⟩)) rfl (fun b1 => ?_)
  refine as1 rfl rfl ?_
  refine l_nil (n_then (ref_seq (ref_seq (ref_region ?_))))
  refine mv1 rfl rfl ?_
  refine s_rd (r_len Try.underlying23 rfl) rfl ?_
  refine mv1 rfl rfl ?_
  refine l_nil (n_then ?_)
  refine ref_loopX (f := (slices_Index_api_Move_api_Move_l1 s_0 v_1)) (Γl := (fun (s7 : Int) (x8 : Unit) => [(0, slv rT_api_Move s_0), (3, pv (ptr b1 0)), (7, iv .i64 (s_0.length : Int)), (8, iv .i64 s7)])) (Ωl := (fun (s7 : Int) (x8 : Unit) => [oc b1 [iv .i64 v_1.By, iv .i64 v_1.Kind, iv .i64 v_1.Node, iv .i64 v_1.Target]])) (Γb := (fun (q12 : Unit) (y13 : Unit) => [])) (Ωb := (fun (q12 : Unit) (y13 : Unit) => [])) (kr := (fun a : Int => some a)) 0 () (weak [0] ⟨rfl, rfl, rfl, rfl, trivial⟩ ⟨rfl, trivial⟩) (fun s7 x8 => ?_) (fun q12 y13 => ?_)
  · unfold slices_Index_api_Move_api_Move_l1
    refine ref_seq (ref_region ?_)
    refine s_rd (r_lss rfl rfl) rfl ?_
    refine l_nil (n_then (ref_seq ?_))
    refine ref_cond rfl (fun hb9 => ?_) (fun hb9 => ?_)
    · refine ref_skip (n_then (ref_seq (ref_block (ref_seq (ref_region ?_)))))
      refine mv1 rfl rfl ?_
      refine as1 rfl rfl ?_
      refine l_nil (n_then (ref_seq ?_))
      refine ref_draw [0, 1, 2, 3, 4, 5] rfl (by kernel_rfl) (fun hok => ?_)
      refine a_rd (i := 0) hok rfl (by kernel_rfl) rfl (r_cloadS Try.isAgg40 Try.sizeOf40 rfl (j := 0) rfl rfl rfl) rfl ?_
      refine a_rd (i := 1) hok rfl (by kernel_rfl) rfl (r_move rfl) rfl ?_
      refine a_rd (i := 2) hok rfl (by kernel_rfl) rfl (r_move rfl) rfl ?_
      refine pull fun t10 h_t10 => ?_
      refine a_rd (i := 3) hok rfl (by kernel_rfl) rfl (r_index h_t10 Try.underlying23 el_40 rfl rfl) rfl ?_
      refine a_rd (i := 4) hok rfl (by kernel_rfl) rfl (r_load el_40 rfl) rfl ?_
      refine a_rd (i := 5) hok rfl (by kernel_rfl) rfl (r_steql (u := v_1) (v := t10) eq_40 rfl rfl rfl rfl) rfl ?_
      refine a_fin hok (by kernel_rfl) ?_
      refine n_then ?_
      refine ref_cond rfl (fun hb11 => ?_) (fun hb11 => ?_)
      · refine ref_seq (ref_region ?_)
        refine mv1 rfl rfl ?_
        refine as1 rfl rfl ?_
        refine l_nil (n_then (ref_ret (r_block (r_then ?_))))
        refine retX ?_
        refine r_block (r_then ?_)
        exact fin1 (.inl rfl) () [] rfl trivial rfl (rv_tmp rfl)
      refine ref_skip (n_block (n_then (ref_region ?_)))
      refine s_rd (r_add rfl rfl) rfl ?_
      refine mv1 rfl rfl ?_
      refine l_nil ?_
      exact goX () (weak [0] ⟨rfl, rfl, rfl, rfl, trivial⟩ ⟨rfl, trivial⟩)
    refine ref_exit (x_then ?_)
    exact brkX () (weak [] trivial trivial)
  refine n_then (ref_seq (ref_region ?_))
  refine as1 rfl rfl ?_
  refine l_nil (n_then (ref_ret ?_))
  exact fin1 (.inl rfl) () [] rfl trivial rfl (rv_tmp rfl)

/-! slices.Contains[[]deliberation/api.Move,deliberation/api.Move] -/
noncomputable def slices_Contains_api_Move_api_Move_m (s_0 : (List T_api_Move)) (v_1 : T_api_Move) : Option (Bool) :=
  Option.bind (slices_Index_api_Move_api_Move_m s_0 v_1) fun t2 =>
  letM (decide (t2 ≥ 0)) fun t3 =>
  some t3

theorem slices_Contains_api_Move_api_Move_ok {s_0 : (List T_api_Move)} {v_1 : T_api_Move} {r : Bool} (hm : slices_Contains_api_Move_api_Move_m s_0 v_1 = some r) :
    FnOk prog 67 [slv rT_api_Move s_0, ag [iv .i64 v_1.By, iv .i64 v_1.Kind, iv .i64 v_1.Node, iv .i64 v_1.Target]] [] (fun (x : Unit) => [bv r]) (fun (x : Unit) => []) := by
  refine fn_ok (fn := Try.f67) (N := 9) (res := fun r x => [bv r]) (Ω1 := fun r x => []) Try.func67 rfl rfl hm rfl (fun E hM => ?_)
  unfold slices_Contains_api_Move_api_Move_m
  refine ref_seq (ref_region ?_)
  refine s_st (s_box (part_agO (ψs := [iv .i64 v_1.By, iv .i64 v_1.Kind, iv .i64 v_1.Node, iv .i64 v_1.Target]) rfl ⟨.inl iv_at, .inl iv_at, .inl iv_at, .inl iv_at, trivial⟩)) rfl (fun b1 => ?_)
  refine as1 rfl rfl ?_
  refine l_nil (n_then (ref_seq (ref_region ?_)))
  refine mv1 rfl rfl ?_
  refine s_rd (r_cloadS Try.isAgg40 Try.sizeOf40 rfl (j := 0) rfl rfl rfl) rfl ?_
  refine pull fun t2 h_t2 => ?_
  refine s_st (s_call (ψ := fun (_ : Unit) => iv .i64 t2) (args := [.tmp 5, .tmp 6]) Try.call83 rfl (slices_Index_api_Move_api_Move_ok h_t2) ⟨arg rfl, arg rfl, trivial⟩ (fun _ _ _ _ h => h)) rfl (fun _ => ?_)
  refine s_rd (r_geq rfl rfl) rfl ?_
  refine as1 rfl rfl ?_
  refine b_let (f := bv) (t := 4) rfl fun t3 => ?_
  refine l_nil (n_then (ref_ret ?_))
  exact fin1 (.inl rfl) () [] rfl trivial rfl (rv_tmp rfl)

/-! (deliberation/protocol.table).moved -/
noncomputable def protocol_table_moved_l1 (t_0 : T_protocol_table) (node_2 : Int) (s11 : Int) : Option (Sum (Bool) (Int)) :=
  Option.bind (idxM t_0.d.Moves s11) fun t13 =>
  joinM (fun j16 : Unit =>
      bif s11 == 0 then
        some (Sum.inl false)
      else
        some (Sum.inr t13.Target)) fun k18 =>
  bif t13.By == 1 then
    bif t13.Node == node_2 then
      some (Sum.inl true)
    else
      k18 ()
  else
    k18 ()

noncomputable def protocol_table_moved_m (t_0 : T_protocol_table) (move_1 : Int) (node_2 : Int) : Option (Bool) :=
  Option.bind (loopC (protocol_table_moved_l1 t_0 node_2) move_1) (fun a : Bool => some a)

theorem protocol_table_moved_ok {t_0 : T_protocol_table} {move_1 : Int} {node_2 : Int} {r : Bool} (hm : protocol_table_moved_m t_0 move_1 node_2 = some r) :
    FnOk prog 82 [ag [iv .i64 t_0.d.Graph.N, slv rT_api_Pair t_0.d.Graph.L, iv .i64 t_0.d.Root, iv .i64 t_0.d.Limits.i0, iv .i64 t_0.d.Limits.i1, slv rT_api_Move t_0.d.Moves, slv (rI .i64) t_0.status, iv .i64 t_0.leader, slv rB t_0.leading], iv .i64 move_1, iv .i64 node_2] [] (fun (x : Unit) => [bv r]) (fun (x : Unit) => []) := by
  refine fn_ok (fn := Try.f82) (N := 27) (res := fun r x => [bv r]) (Ω1 := fun r x => []) Try.func82 rfl rfl hm rfl (fun E hM => ?_)
  unfold protocol_table_moved_m
  refine ref_seq (ref_region ?_)
  refine s_st (s_box (part_agO (ψs := [iv .i64 t_0.d.Graph.N, slv rT_api_Pair t_0.d.Graph.L, iv .i64 t_0.d.Root, iv .i64 t_0.d.Limits.i0, iv .i64 t_0.d.Limits.i1, slv rT_api_Move t_0.d.Moves, slv (rI .i64) t_0.status, iv .i64 t_0.leader, slv rB t_0.leading]) rfl ⟨.inl iv_at, .inl slv_at, .inl iv_at, .inl iv_at, .inl iv_at, .inl slv_at, .inl slv_at, .inl iv_at, .inl slv_at, trivial⟩)) rfl (fun b1 => ?_)
  refine as1 rfl rfl ?_
  refine l_nil (n_then ?_)
  refine ref_block (ref_loop (f := (protocol_table_moved_l1 t_0 node_2)) (Γl := (fun (s11 : Int) (x12 : Unit) => [(1, iv .i64 s11), (2, iv .i64 node_2), (3, pv (ptr b1 0))])) (Ωl := (fun (s11 : Int) (x12 : Unit) => [oc b1 [iv .i64 t_0.d.Graph.N, slv rT_api_Pair t_0.d.Graph.L, iv .i64 t_0.d.Root, iv .i64 t_0.d.Limits.i0, iv .i64 t_0.d.Limits.i1, slv rT_api_Move t_0.d.Moves, slv (rI .i64) t_0.status, iv .i64 t_0.leader, slv rB t_0.leading]])) (k := (fun a : Bool => some a)) move_1 () (weak [0] ⟨rfl, rfl, rfl, trivial⟩ ⟨rfl, trivial⟩) (fun s11 x12 => ?_))
  · unfold protocol_table_moved_l1
    refine ref_block (ref_seq (ref_region ?_))
    refine s_rd (r_faddr (fo := 0) Try.underlying95 rfl rfl Try.sizeOf35 rfl) rfl ?_
    refine s_rd (r_faddr (fo := 5) Try.underlying35 rfl rfl Try.sizeOf23 rfl) rfl ?_
    refine s_rd (r_cload Try.isAgg23 rfl (j := 0) rfl rfl) rfl ?_
    refine mv1 rfl rfl ?_
    refine pull fun t13 h_t13 => ?_
    refine s_rd (r_index h_t13 Try.underlying23 el_40 rfl rfl) rfl ?_
    refine s_rd (r_load el_40 rfl) rfl ?_
    refine s_st (s_alloc zt_40) rfl (fun b14 => ?_)
    refine s_st0 (s_cstore (out := [iv .i64 t13.By, iv .i64 t13.Kind, iv .i64 t13.Node, iv .i64 t13.Target]) Try.sizeOf40 rfl (j := 1) rfl (part_agO (ψs := [iv .i64 t13.By, iv .i64 t13.Kind, iv .i64 t13.Node, iv .i64 t13.Target]) rfl ⟨.inl iv_at, .inl iv_at, .inl iv_at, .inl iv_at, trivial⟩) rfl rfl rfl) (fun _ => ?_)
    refine l_nil (n_then (ref_seq ?_))
    refine ref_join (fun (j16 : Unit) (x17 : Unit) => [(1, iv .i64 s11), (2, iv .i64 node_2), (3, pv (ptr b1 0)), (7, pv (ptr b14 0))]) (fun (j16 : Unit) (x17 : Unit) => [oc b1 [iv .i64 t_0.d.Graph.N, slv rT_api_Pair t_0.d.Graph.L, iv .i64 t_0.d.Root, iv .i64 t_0.d.Limits.i0, iv .i64 t_0.d.Limits.i1, slv rT_api_Move t_0.d.Moves, slv (rI .i64) t_0.status, iv .i64 t_0.leader, slv rB t_0.leading], oc b14 [iv .i64 t13.By, iv .i64 t13.Kind, iv .i64 t13.Node, iv .i64 t13.Target]]) (fun k18 hk18 => ?_) (fun j16 x17 => ?_)
    · refine ref_seq (ref_region ?_)
      refine s_rd (r_faddr (fo := 0) Try.underlying40 rfl rfl Try.sizeOf3 rfl) rfl ?_
      refine s_rd (r_cload Try.isAgg3 rfl (j := 1) rfl rfl) rfl ?_
      refine s_rd (r_eql rfl rfl) rfl ?_
      refine mv1 rfl rfl ?_
      refine b_split (t := 17) rfl (fun _ => ?_) (fun _ => ?_)
      · refine s_on rfl rfl rfl ?_
        refine s_rd (r_faddr (fo := 2) Try.underlying40 rfl rfl Try.sizeOf3 rfl) rfl ?_
        refine s_on rfl rfl rfl ?_
        refine s_rd (r_cload Try.isAgg3 rfl (j := 1) rfl rfl) rfl ?_
        refine s_on rfl rfl rfl ?_
        refine mv1 rfl rfl ?_
        refine s_on rfl rfl rfl ?_
        refine s_rd (r_eql rfl rfl) rfl ?_
        refine s_rd (r_pickT rfl rfl) rfl ?_
        refine l_nil (n_then ?_)
        refine ref_cond rfl (fun hb15 => ?_) (fun hb15 => ?_)
        · refine ref_seq (ref_region ?_)
          refine as1 rfl rfl ?_
          refine l_nil (n_then (ref_ret (r_then (r_block ?_))))
          refine r_loop ?_
          refine r_block ?_
          exact fin1 (.inl rfl) () [] rfl trivial rfl (rv_tmp rfl)
        refine ref_skip ?_
        exact b_to (hk18 () ()) (weak [0, 1] ⟨rfl, rfl, rfl, rfl, trivial⟩ ⟨rfl, rfl, trivial⟩)
      refine s_off rfl rfl rfl rfl rfl ?_
      refine s_off rfl rfl rfl rfl rfl ?_
      refine s_off rfl rfl rfl rfl rfl ?_
      refine s_off rfl rfl rfl rfl rfl ?_
      refine s_rd (r_pickF rfl rfl) rfl ?_
      refine l_nil (n_then ?_)
      refine ref_condF rfl rfl ?_
      refine ref_skip ?_
      exact b_to (hk18 () ()) (weak [0, 1] ⟨rfl, rfl, rfl, rfl, trivial⟩ ⟨rfl, rfl, trivial⟩)
    refine n_then (ref_seq (ref_seq (ref_region ?_)))
    refine mv1 rfl rfl ?_
    refine s_rd (r_eql rfl rfl) rfl ?_
    refine l_nil (n_then ?_)
    refine ref_cond rfl (fun hb19 => ?_) (fun hb19 => ?_)
    · refine ref_seq (ref_region ?_)
      refine as1 rfl rfl ?_
      refine l_nil (n_then (ref_ret (r_then (r_block ?_))))
      refine r_loop ?_
      refine r_block ?_
      exact fin1 (.inl rfl) () [] rfl trivial rfl (rv_tmp rfl)
    refine ref_skip (n_then (ref_region ?_))
    refine s_rd (r_faddr (fo := 3) Try.underlying40 rfl rfl Try.sizeOf3 rfl) rfl ?_
    refine s_rd (r_cload Try.isAgg3 rfl (j := 1) rfl rfl) rfl ?_
    refine as1 rfl rfl ?_
    refine l_nil (n_block ?_)
    exact n_loop () (weak [0] ⟨rfl, rfl, rfl, trivial⟩ ⟨rfl, trivial⟩)

/-! (deliberation/protocol.table).legal -/
noncomputable def protocol_table_legal_l2 (t_0 : T_protocol_table) (behind2 : Int) (s86 : Int × (List T_api_Move)) (t89 : T_api_Move) (s106 : Int × (List T_api_Move)) : Option (Sum ((List T_api_Move)) (Int × (List T_api_Move))) :=
  bif decide (s106.1 < (t_0.d.Graph.L.length : Int)) then
    Option.bind (idxM t_0.d.Graph.L s106.1) fun t109 =>
    bif t109.To != t89.Node then
      some (Sum.inr (iadd .i64 s106.1 1, s106.2))
    else
      Option.bind (slices_Contains_api_Move_api_Move_m t_0.d.Moves (T_api_Move.mk behind2 2 t109.From s86.1)) fun t112 =>
      bif t112 then
        some (Sum.inr (iadd .i64 s106.1 1, s106.2))
      else
        bif behind2 == 1 then
          Option.bind (protocol_table_moved_m t_0 s86.1 t109.From) fun t113 =>
          bif t113 then
            some (Sum.inr (iadd .i64 s106.1 1, s106.2))
          else
            Option.bind (appM 32 s106.2 [(T_api_Move.mk behind2 2 t109.From s86.1)]) fun out115 =>
            some (Sum.inr (iadd .i64 s106.1 1, out115))
        else
          Option.bind (appM 32 s106.2 [(T_api_Move.mk behind2 2 t109.From s86.1)]) fun out117 =>
          some (Sum.inr (iadd .i64 s106.1 1, out117))
  else
    some (Sum.inl s106.2)

noncomputable def protocol_table_legal_l1 (t_0 : T_protocol_table) (behind2 : Int) (s86 : Int × (List T_api_Move)) : Option (Sum ((List T_api_Move)) (Int × (List T_api_Move))) :=
  bif decide (s86.1 < (t_0.d.Moves.length : Int)) then
    Option.bind (idxM t_0.d.Moves s86.1) fun t89 =>
    Option.bind (idxM t_0.leading s86.1) fun t91 =>
    bif !t91 then
      some (Sum.inr (iadd .i64 s86.1 1, s86.2))
    else
      bif t89.By != t_0.leader then
        some (Sum.inr (iadd .i64 s86.1 1, s86.2))
      else
        Option.bind (loopC (protocol_table_legal_l2 t_0 behind2 s86 t89) (0, s86.2)) fun q119 : (List T_api_Move) =>
        some (Sum.inr (iadd .i64 s86.1 1, q119))
  else
    some (Sum.inl s86.2)

noncomputable def protocol_table_legal_m (t_0 : T_protocol_table) : Option (List T_api_Move) :=
  Option.bind (protocol_other_m t_0.leader) fun behind2 =>
  Option.bind (loopC (protocol_table_legal_l1 t_0 behind2) (0, [])) fun q121 : (List T_api_Move) =>
  some q121

theorem protocol_table_legal_ok {t_0 : T_protocol_table} {r : List T_api_Move} (hm : protocol_table_legal_m t_0 = some r) :
    FnOk prog 65 [ag [iv .i64 t_0.d.Graph.N, slv rT_api_Pair t_0.d.Graph.L, iv .i64 t_0.d.Root, iv .i64 t_0.d.Limits.i0, iv .i64 t_0.d.Limits.i1, slv rT_api_Move t_0.d.Moves, slv (rI .i64) t_0.status, iv .i64 t_0.leader, slv rB t_0.leading]] [] (fun (x : (Value × List Nat)) => [pv x.1]) (fun (x : (Value × List Nat)) => [oa rT_api_Move x.1 x.2 r]) := by
  refine fn_ok (X := (Value × List Nat)) (fn := Try.f65) (N := 79) (res := fun r x => [pv x.1]) (Ω1 := fun r x => [oa rT_api_Move x.1 x.2 r]) Try.func65 rfl rfl hm rfl (fun E hM => ?_)
  unfold protocol_table_legal_m
  refine ref_seq (ref_region ?_)
  refine s_st (s_box (part_agO (ψs := [iv .i64 t_0.d.Graph.N, slv rT_api_Pair t_0.d.Graph.L, iv .i64 t_0.d.Root, iv .i64 t_0.d.Limits.i0, iv .i64 t_0.d.Limits.i1, slv rT_api_Move t_0.d.Moves, slv (rI .i64) t_0.status, iv .i64 t_0.leader, slv rB t_0.leading]) rfl ⟨.inl iv_at, .inl slv_at, .inl iv_at, .inl iv_at, .inl iv_at, .inl slv_at, .inl slv_at, .inl iv_at, .inl slv_at, trivial⟩)) rfl (fun b1 => ?_)
  refine as1 rfl rfl ?_
  refine l_nil (n_then (ref_seq (ref_region ?_)))
  refine s_rd (r_faddr (fo := 7) Try.underlying95 rfl rfl Try.sizeOf3 rfl) rfl ?_
  refine s_rd (r_cload Try.isAgg3 rfl (j := 0) rfl rfl) rfl ?_
  refine pull fun behind2 h_behind2 => ?_
  refine s_st (s_call (ψ := fun (_ : Unit) => iv .i64 behind2) (args := [.tmp 11]) Try.call61 rfl (protocol_other_ok h_behind2) ⟨arg rfl, trivial⟩ (fun _ _ _ _ h => h)) rfl (fun _ => ?_)
  refine as1 rfl rfl ?_
  refine l_nil (n_then (ref_seq (ref_region ?_)))
  refine as1 rfl rfl ?_
  refine l_nil (n_then (ref_seq (ref_seq (ref_region ?_))))
  refine s_rd (r_faddr (fo := 0) Try.underlying95 rfl rfl Try.sizeOf35 rfl) rfl ?_
  refine s_rd (r_faddr (fo := 5) Try.underlying35 rfl rfl Try.sizeOf23 rfl) rfl ?_
  refine s_rd (r_cload Try.isAgg23 rfl (j := 0) rfl rfl) rfl ?_
  refine s_rd (r_len Try.underlying23 rfl) rfl ?_
  refine mv1 rfl rfl ?_
  refine l_nil (n_then ?_)
  refine b_of (own_nil rT_api_Move) ?_
  refine ref_loopB (f := (protocol_table_legal_l1 t_0 behind2)) (Γl := (fun (s86 : Int × (List T_api_Move)) (x87 : (Value × List Nat)) => [(1, pv (ptr b1 0)), (3, iv .i64 behind2), (4, pv x87.1), (15, slv rT_api_Move t_0.d.Moves), (16, iv .i64 (t_0.d.Moves.length : Int)), (17, iv .i64 s86.1)])) (Ωl := (fun (s86 : Int × (List T_api_Move)) (x87 : (Value × List Nat)) => [oc b1 [iv .i64 t_0.d.Graph.N, slv rT_api_Pair t_0.d.Graph.L, iv .i64 t_0.d.Root, iv .i64 t_0.d.Limits.i0, iv .i64 t_0.d.Limits.i1, slv rT_api_Move t_0.d.Moves, slv (rI .i64) t_0.status, iv .i64 t_0.leader, slv rB t_0.leading], oa rT_api_Move x87.1 x87.2 s86.2])) (Γb := (fun (q121 : (List T_api_Move)) (y122 : (Value × List Nat)) => [(4, pv y122.1)])) (Ωb := (fun (q121 : (List T_api_Move)) (y122 : (Value × List Nat)) => [oa rT_api_Move y122.1 y122.2 q121])) (0, []) ((.slice none 0 0), []) (weak [0, 1] ⟨rfl, rfl, rfl, rfl, rfl, rfl, trivial⟩ ⟨rfl, rfl, trivial⟩) (fun s86 x87 => ?_) (fun q121 y122 => ?_)
  · unfold protocol_table_legal_l1
    refine ref_seq (ref_region ?_)
    refine s_rd (r_lss rfl rfl) rfl ?_
    refine l_nil (n_then (ref_seq ?_))
    refine ref_cond rfl (fun hb88 => ?_) (fun hb88 => ?_)
    · refine ref_skip (n_then (ref_seq (ref_block (ref_seq (ref_region ?_)))))
      refine mv1 rfl rfl ?_
      refine pull fun t89 h_t89 => ?_
      refine s_rd (r_index h_t89 Try.underlying23 el_40 rfl rfl) rfl ?_
      refine s_rd (r_load el_40 rfl) rfl ?_
      refine s_st (s_alloc zt_40) rfl (fun b90 => ?_)
      refine as1 rfl rfl ?_
      refine s_st0 (s_cstore (out := [iv .i64 t89.By, iv .i64 t89.Kind, iv .i64 t89.Node, iv .i64 t89.Target]) Try.sizeOf40 rfl (j := 2) rfl (part_agO (ψs := [iv .i64 t89.By, iv .i64 t89.Kind, iv .i64 t89.Node, iv .i64 t89.Target]) rfl ⟨.inl iv_at, .inl iv_at, .inl iv_at, .inl iv_at, trivial⟩) rfl rfl rfl) (fun _ => ?_)
      refine l_nil ?_
      refine b_of (nrm [oc b1 [iv .i64 t_0.d.Graph.N, slv rT_api_Pair t_0.d.Graph.L, iv .i64 t_0.d.Root, iv .i64 t_0.d.Limits.i0, iv .i64 t_0.d.Limits.i1, slv rT_api_Move t_0.d.Moves, slv (rI .i64) t_0.status, iv .i64 t_0.leader, slv rB t_0.leading], oa rT_api_Move x87.1 x87.2 s86.2, oc b90 [iv .i64 t89.By, iv .i64 t89.Kind, iv .i64 t89.Node, iv .i64 t89.Target]] rfl) ?_
      refine n_then (ref_seq (ref_seq (ref_region ?_)))
      refine s_rd (r_faddr (fo := 8) Try.underlying95 rfl rfl Try.sizeOf93 rfl) rfl ?_
      refine s_rd (r_cload Try.isAgg93 rfl (j := 0) rfl rfl) rfl ?_
      refine mv1 rfl rfl ?_
      refine pull fun t91 h_t91 => ?_
      refine s_rd (r_index h_t91 Try.underlying93 el_4 rfl rfl) rfl ?_
      refine s_rd (r_load el_4 rfl) rfl ?_
      refine s_rd (r_not rfl) rfl ?_
      refine mv1 rfl rfl ?_
      refine b_split (t := 28) rfl (fun _ => ?_) (fun _ => ?_)
      · refine s_off rfl rfl rfl rfl rfl ?_
        refine s_off rfl rfl rfl rfl rfl ?_
        refine s_off rfl rfl rfl rfl rfl ?_
        refine s_off rfl rfl rfl rfl rfl ?_
        refine s_off rfl rfl rfl rfl rfl ?_
        refine s_rd (r_pickT rfl rfl) rfl ?_
        refine l_nil (n_then ?_)
        refine ref_condT rfl rfl ?_
        refine ref_exit (x_then (x_eq (n_then (ref_region ?_))))
        refine s_rd (r_add rfl rfl) rfl ?_
        refine mv1 rfl rfl ?_
        refine l_nil ?_
        exact goB x87 (weak [0, 1] ⟨rfl, rfl, rfl, rfl, rfl, rfl, trivial⟩ ⟨rfl, rfl, trivial⟩)
      refine s_on rfl rfl rfl ?_
      refine s_rd (r_faddr (fo := 0) Try.underlying40 rfl rfl Try.sizeOf3 rfl) rfl ?_
      refine s_on rfl rfl rfl ?_
      refine s_rd (r_cload Try.isAgg3 rfl (j := 2) rfl rfl) rfl ?_
      refine s_on rfl rfl rfl ?_
      refine s_rd (r_faddr (fo := 7) Try.underlying95 rfl rfl Try.sizeOf3 rfl) rfl ?_
      refine s_on rfl rfl rfl ?_
      refine s_rd (r_cload Try.isAgg3 rfl (j := 0) rfl rfl) rfl ?_
      refine s_on rfl rfl rfl ?_
      refine s_rd (r_neq rfl rfl) rfl ?_
      refine s_rd (r_pickF rfl rfl) rfl ?_
      refine l_nil (n_then ?_)
      refine ref_cond rfl (fun hb92 => ?_) (fun hb92 => ?_)
      · refine ref_exit (x_then (x_eq (n_then (ref_region ?_))))
        refine s_rd (r_add rfl rfl) rfl ?_
        refine mv1 rfl rfl ?_
        refine l_nil ?_
        exact goB x87 (weak [0, 1] ⟨rfl, rfl, rfl, rfl, rfl, rfl, trivial⟩ ⟨rfl, rfl, trivial⟩)
      refine ref_skip (n_then (ref_seq (ref_region ?_)))
      refine s_rd (r_faddr (fo := 0) Try.underlying95 rfl rfl Try.sizeOf35 rfl) rfl ?_
      refine s_rd (r_faddr (fo := 0) Try.underlying35 rfl rfl Try.sizeOf28 rfl) rfl ?_
      refine s_rd (r_faddr (fo := 1) Try.underlying28 rfl rfl Try.sizeOf26 rfl) rfl ?_
      refine s_rd (r_cload Try.isAgg26 rfl (j := 0) rfl rfl) rfl ?_
      refine s_rd (r_len Try.underlying26 rfl) rfl ?_
      refine mv1 rfl rfl ?_
      refine l_nil (n_then ?_)
      refine ref_loopB (f := (protocol_table_legal_l2 t_0 behind2 s86 t89)) (Γl := (fun (s106 : Int × (List T_api_Move)) (x107 : (Value × List Nat)) => [(1, pv (ptr b1 0)), (3, iv .i64 behind2), (4, pv x107.1), (5, iv .i64 s86.1), (6, pv (ptr b90 0)), (15, slv rT_api_Move t_0.d.Moves), (16, iv .i64 (t_0.d.Moves.length : Int)), (17, iv .i64 s86.1), (29, pv (ptr b90 0)), (30, iv .i64 t89.By), (31, pv (ptr b1 7)), (32, iv .i64 t_0.leader), (33, bv (t89.By != t_0.leader)), (38, slv rT_api_Pair t_0.d.Graph.L), (39, iv .i64 (t_0.d.Graph.L.length : Int)), (40, iv .i64 s106.1)])) (Ωl := (fun (s106 : Int × (List T_api_Move)) (x107 : (Value × List Nat)) => [oc b1 [iv .i64 t_0.d.Graph.N, slv rT_api_Pair t_0.d.Graph.L, iv .i64 t_0.d.Root, iv .i64 t_0.d.Limits.i0, iv .i64 t_0.d.Limits.i1, slv rT_api_Move t_0.d.Moves, slv (rI .i64) t_0.status, iv .i64 t_0.leader, slv rB t_0.leading], oa rT_api_Move x107.1 x107.2 s106.2, oc b90 [iv .i64 t89.By, iv .i64 t89.Kind, iv .i64 t89.Node, iv .i64 t89.Target]])) (Γb := (fun (q119 : (List T_api_Move)) (y120 : (Value × List Nat)) => [(1, pv (ptr b1 0)), (3, iv .i64 behind2), (4, pv y120.1), (15, slv rT_api_Move t_0.d.Moves), (16, iv .i64 (t_0.d.Moves.length : Int)), (17, iv .i64 s86.1), (29, pv (ptr b90 0)), (30, iv .i64 t89.By), (31, pv (ptr b1 7)), (32, iv .i64 t_0.leader), (33, bv (t89.By != t_0.leader))])) (Ωb := (fun (q119 : (List T_api_Move)) (y120 : (Value × List Nat)) => [oc b1 [iv .i64 t_0.d.Graph.N, slv rT_api_Pair t_0.d.Graph.L, iv .i64 t_0.d.Root, iv .i64 t_0.d.Limits.i0, iv .i64 t_0.d.Limits.i1, slv rT_api_Move t_0.d.Moves, slv (rI .i64) t_0.status, iv .i64 t_0.leader, slv rB t_0.leading], oa rT_api_Move y120.1 y120.2 q119, oc b90 [iv .i64 t89.By, iv .i64 t89.Kind, iv .i64 t89.Node, iv .i64 t89.Target]])) (0, s86.2) x87 (weak [0, 1, 2] ⟨rfl, rfl, rfl, rfl, rfl, rfl, rfl, rfl, rfl, rfl, rfl, rfl, rfl, rfl, rfl, rfl, trivial⟩ ⟨rfl, rfl, rfl, trivial⟩) (fun s106 x107 => ?_) (fun q119 y120 => ?_)
      · unfold protocol_table_legal_l2
        refine ref_seq (ref_region ?_)
        refine s_rd (r_lss rfl rfl) rfl ?_
        refine l_nil (n_then (ref_seq ?_))
        refine ref_cond rfl (fun hb108 => ?_) (fun hb108 => ?_)
        · refine ref_skip (n_then (ref_seq (ref_block (ref_seq (ref_region ?_)))))
          refine pull fun t109 h_t109 => ?_
          refine s_rd (r_index h_t109 Try.underlying26 el_67 rfl rfl) rfl ?_
          refine s_rd (r_load el_67 rfl) rfl ?_
          refine s_st (s_alloc zt_67) rfl (fun b110 => ?_)
          refine s_st0 (s_cstore (out := [iv .i64 t109.From, iv .i64 t109.To]) Try.sizeOf67 rfl (j := 3) rfl (part_agO (ψs := [iv .i64 t109.From, iv .i64 t109.To]) rfl ⟨.inl iv_at, .inl iv_at, trivial⟩) rfl rfl rfl) (fun _ => ?_)
          refine l_nil (n_then (ref_seq (ref_region ?_)))
          refine mv1 rfl rfl ?_
          refine s_rd (r_faddr (fo := 0) Try.underlying67 rfl rfl Try.sizeOf3 rfl) rfl ?_
          refine s_rd (r_cload Try.isAgg3 rfl (j := 3) rfl rfl) rfl ?_
          refine mv1 rfl rfl ?_
          refine s_rd (r_build (ps := [(0, .tmp 44), (1, .const (.int .i64 (2))), (2, .tmp 46), (3, .tmp 47)]) (rs := [(0, [iv .i64 behind2]), (1, [iv .i64 2]), (2, [iv .i64 t109.From]), (3, [iv .i64 s86.1])]) st_40 zs_40 ⟨rfl, (part_at rfl iv_at), ⟨rfl, (part_at rfl iv_at), ⟨rfl, (part_at rfl iv_at), ⟨rfl, (part_at rfl iv_at), trivial⟩⟩⟩⟩ rfl rfl) rfl ?_
          refine s_st (s_alloc zt_40) rfl (fun b111 => ?_)
          refine s_st0 (s_cstore (out := [iv .i64 behind2, iv .i64 2, iv .i64 t109.From, iv .i64 s86.1]) Try.sizeOf40 rfl (j := 4) rfl (part_agO (ψs := [iv .i64 behind2, iv .i64 2, iv .i64 t109.From, iv .i64 s86.1]) rfl ⟨.inl iv_at, .inl iv_at, .inl iv_at, .inl iv_at, trivial⟩) rfl rfl rfl) (fun _ => ?_)
          refine l_nil ?_
          refine b_of (nrm [oc b1 [iv .i64 t_0.d.Graph.N, slv rT_api_Pair t_0.d.Graph.L, iv .i64 t_0.d.Root, iv .i64 t_0.d.Limits.i0, iv .i64 t_0.d.Limits.i1, slv rT_api_Move t_0.d.Moves, slv (rI .i64) t_0.status, iv .i64 t_0.leader, slv rB t_0.leading], oa rT_api_Move x107.1 x107.2 s106.2, oc b90 [iv .i64 t89.By, iv .i64 t89.Kind, iv .i64 t89.Node, iv .i64 t89.Target], oc b110 [iv .i64 t109.From, iv .i64 t109.To], oc b111 [iv .i64 behind2, iv .i64 2, iv .i64 t109.From, iv .i64 s86.1]] rfl) ?_
          refine n_then (ref_seq (ref_seq (ref_region ?_)))
          refine s_rd (r_faddr (fo := 1) Try.underlying67 rfl rfl Try.sizeOf3 rfl) rfl ?_
          refine s_rd (r_cload Try.isAgg3 rfl (j := 3) rfl rfl) rfl ?_
          refine s_rd (r_faddr (fo := 2) Try.underlying40 rfl rfl Try.sizeOf3 rfl) rfl ?_
          refine s_rd (r_cload Try.isAgg3 rfl (j := 2) rfl rfl) rfl ?_
          refine s_rd (r_neq rfl rfl) rfl ?_
          refine mv1 rfl rfl ?_
          refine b_split (t := 54) rfl (fun _ => ?_) (fun _ => ?_)
          · refine s_off rfl rfl rfl rfl rfl ?_
            refine s_off rfl rfl rfl rfl rfl ?_
            refine s_off rfl rfl rfl rfl rfl ?_
            refine s_off rfl rfl rfl rfl rfl ?_
            refine s_off rfl rfl rfl rfl rfl ?_
            refine s_rd (r_pickT rfl rfl) rfl ?_
            refine mv1 rfl rfl ?_
            refine s_off rfl rfl rfl rfl rfl ?_
            refine s_off rfl rfl rfl rfl rfl ?_
            refine s_off rfl rfl rfl rfl rfl ?_
            refine s_offU rfl rfl rfl ?_
            refine s_offU rfl rfl rfl ?_
            refine s_offU rfl rfl rfl ?_
            refine s_offU rfl rfl rfl ?_
            refine s_offU rfl rfl rfl ?_
            refine s_off rfl rfl rfl rfl rfl ?_
            refine s_rd (r_pickT rfl rfl) rfl ?_
            refine l_nil (n_then ?_)
            refine ref_condT rfl rfl ?_
            refine ref_exit (x_then (x_eq (n_then (ref_region ?_))))
            refine s_rd (r_add rfl rfl) rfl ?_
            refine mv1 rfl rfl ?_
            refine l_nil ?_
            exact goB x107 (weak [0, 1, 2] ⟨rfl, rfl, rfl, rfl, rfl, rfl, rfl, rfl, rfl, rfl, rfl, rfl, rfl, rfl, rfl, rfl, trivial⟩ ⟨rfl, rfl, rfl, trivial⟩)
          refine s_on rfl rfl rfl ?_
          refine s_rd (r_faddr (fo := 0) Try.underlying95 rfl rfl Try.sizeOf35 rfl) rfl ?_
          refine s_on rfl rfl rfl ?_
          refine s_rd (r_faddr (fo := 5) Try.underlying35 rfl rfl Try.sizeOf23 rfl) rfl ?_
          refine s_on rfl rfl rfl ?_
          refine s_rd (r_cload Try.isAgg23 rfl (j := 0) rfl rfl) rfl ?_
          refine s_on rfl rfl rfl ?_
          refine s_rd (r_cloadS Try.isAgg40 Try.sizeOf40 rfl (j := 4) rfl rfl rfl) rfl ?_
          refine s_on rfl rfl rfl ?_
          refine pull fun t112 h_t112 => ?_
          refine s_st (s_call (ψ := fun (_ : Unit) => bv t112) (args := [.tmp 57, .tmp 58]) Try.call67 rfl (slices_Contains_api_Move_api_Move_ok h_t112) ⟨arg rfl, arg rfl, trivial⟩ (fun _ _ _ _ h => h)) rfl (fun _ => ?_)
          refine s_rd (r_pickF rfl rfl) rfl ?_
          refine mv1 rfl rfl ?_
          refine b_split (t := 61) rfl (fun _ => ?_) (fun _ => ?_)
          · refine s_off rfl rfl rfl rfl rfl ?_
            refine s_off rfl rfl rfl rfl rfl ?_
            refine s_off rfl rfl rfl rfl rfl ?_
            refine s_offU rfl rfl rfl ?_
            refine s_offU rfl rfl rfl ?_
            refine s_offU rfl rfl rfl ?_
            refine s_offU rfl rfl rfl ?_
            refine s_offU rfl rfl rfl ?_
            refine s_off rfl rfl rfl rfl rfl ?_
            refine s_rd (r_pickT rfl rfl) rfl ?_
            refine l_nil (n_then ?_)
            refine ref_condT rfl rfl ?_
            refine ref_exit (x_then (x_eq (n_then (ref_region ?_))))
            refine s_rd (r_add rfl rfl) rfl ?_
            refine mv1 rfl rfl ?_
            refine l_nil ?_
            exact goB x107 (weak [0, 1, 2] ⟨rfl, rfl, rfl, rfl, rfl, rfl, rfl, rfl, rfl, rfl, rfl, rfl, rfl, rfl, rfl, rfl, trivial⟩ ⟨rfl, rfl, rfl, trivial⟩)
          refine s_on rfl rfl rfl ?_
          refine mv1 rfl rfl ?_
          refine s_on rfl rfl rfl ?_
          refine s_rd (r_eql rfl rfl) rfl ?_
          refine s_on rfl rfl rfl ?_
          refine mv1 rfl rfl ?_
          refine b_split (t := 64) rfl (fun _ => ?_) (fun _ => ?_)
          · refine s_on rfl rfl rfl ?_
            refine s_rd (r_cloadS Try.isAgg95 Try.sizeOf95 rfl (j := 0) rfl rfl rfl) rfl ?_
            refine s_on rfl rfl rfl ?_
            refine mv1 rfl rfl ?_
            refine s_on rfl rfl rfl ?_
            refine s_rd (r_faddr (fo := 0) Try.underlying67 rfl rfl Try.sizeOf3 rfl) rfl ?_
            refine s_on rfl rfl rfl ?_
            refine s_rd (r_cload Try.isAgg3 rfl (j := 3) rfl rfl) rfl ?_
            refine s_on rfl rfl rfl ?_
            refine pull fun t113 h_t113 => ?_
            refine s_st (s_call (ψ := fun (_ : Unit) => bv t113) (args := [.tmp 65, .tmp 66, .tmp 68]) Try.call82 rfl (protocol_table_moved_ok h_t113) ⟨arg rfl, arg rfl, arg rfl, trivial⟩ (fun _ _ _ _ h => h)) rfl (fun _ => ?_)
            refine s_on rfl rfl rfl ?_
            refine s_rd (r_pickT rfl rfl) rfl ?_
            refine s_rd (r_pickF rfl rfl) rfl ?_
            refine l_nil (n_then ?_)
            refine ref_cond rfl (fun hb114 => ?_) (fun hb114 => ?_)
            · refine ref_exit (x_then (x_eq (n_then (ref_region ?_))))
              refine s_rd (r_add rfl rfl) rfl ?_
              refine mv1 rfl rfl ?_
              refine l_nil ?_
              exact goB x107 (weak [0, 1, 2] ⟨rfl, rfl, rfl, rfl, rfl, rfl, rfl, rfl, rfl, rfl, rfl, rfl, rfl, rfl, rfl, rfl, trivial⟩ ⟨rfl, rfl, rfl, trivial⟩)
            refine ref_skip (n_then (ref_region ?_))
            refine mv1 rfl rfl ?_
            refine s_rd (r_cloadS Try.isAgg40 Try.sizeOf40 rfl (j := 4) rfl rfl rfl) rfl ?_
            refine s_st (s_bslice (xs := [.tmp 73]) (ds := [(T_api_Move.mk behind2 2 t109.From s86.1)]) Try.underlying23 el_40 rfl (Nat.le_of_ble_eq_true rfl) ⟨(part_agO (ψs := [iv .i64 behind2, iv .i64 2, iv .i64 t109.From, iv .i64 s86.1]) rfl ⟨.inl iv_at, .inl iv_at, .inl iv_at, .inl iv_at, trivial⟩), trivial⟩) rfl (fun _ => ?_)
            refine pull fun out115 h_out115 => ?_
            refine s_st (s_append h_out115 Try.underlying23 el_40 rfl (j := 1) rfl rfl) rfl (fun o116 => ?_)
            refine as1 rfl rfl ?_
            refine l_nil ?_
            refine b_of (nrm [oc b1 [iv .i64 t_0.d.Graph.N, slv rT_api_Pair t_0.d.Graph.L, iv .i64 t_0.d.Root, iv .i64 t_0.d.Limits.i0, iv .i64 t_0.d.Limits.i1, slv rT_api_Move t_0.d.Moves, slv (rI .i64) t_0.status, iv .i64 t_0.leader, slv rB t_0.leading], oa rT_api_Move o116.1 o116.2 out115, oc b90 [iv .i64 t89.By, iv .i64 t89.Kind, iv .i64 t89.Node, iv .i64 t89.Target], oc b110 [iv .i64 t109.From, iv .i64 t109.To], oc b111 [iv .i64 behind2, iv .i64 2, iv .i64 t109.From, iv .i64 s86.1]] rfl) ?_
            refine n_block (n_then (ref_region ?_))
            refine s_rd (r_add rfl rfl) rfl ?_
            refine mv1 rfl rfl ?_
            refine l_nil ?_
            exact goB o116 (weak [0, 1, 2] ⟨rfl, rfl, rfl, rfl, rfl, rfl, rfl, rfl, rfl, rfl, rfl, rfl, rfl, rfl, rfl, rfl, trivial⟩ ⟨rfl, rfl, rfl, trivial⟩)
          refine s_off rfl rfl rfl rfl rfl ?_
          refine s_off rfl rfl rfl rfl rfl ?_
          refine s_off rfl rfl rfl rfl rfl ?_
          refine s_off rfl rfl rfl rfl rfl ?_
          refine s_off rfl rfl rfl rfl rfl ?_
          refine s_on rfl rfl rfl ?_
          refine s_rd (r_pickF rfl rfl) rfl ?_
          refine s_rd (r_pickF rfl rfl) rfl ?_
          refine l_nil (n_then ?_)
          refine ref_condF rfl rfl ?_
          refine ref_skip (n_then (ref_region ?_))
          refine mv1 rfl rfl ?_
          refine s_rd (r_cloadS Try.isAgg40 Try.sizeOf40 rfl (j := 4) rfl rfl rfl) rfl ?_
          refine s_st (s_bslice (xs := [.tmp 73]) (ds := [(T_api_Move.mk behind2 2 t109.From s86.1)]) Try.underlying23 el_40 rfl (Nat.le_of_ble_eq_true rfl) ⟨(part_agO (ψs := [iv .i64 behind2, iv .i64 2, iv .i64 t109.From, iv .i64 s86.1]) rfl ⟨.inl iv_at, .inl iv_at, .inl iv_at, .inl iv_at, trivial⟩), trivial⟩) rfl (fun _ => ?_)
          refine pull fun out117 h_out117 => ?_
          refine s_st (s_append h_out117 Try.underlying23 el_40 rfl (j := 1) rfl rfl) rfl (fun o118 => ?_)
          refine as1 rfl rfl ?_
          refine l_nil (n_block (n_then (ref_region ?_)))
          refine s_rd (r_add rfl rfl) rfl ?_
          refine mv1 rfl rfl ?_
          refine l_nil ?_
          exact goB o118 (weak [0, 1, 2] ⟨rfl, rfl, rfl, rfl, rfl, rfl, rfl, rfl, rfl, rfl, rfl, rfl, rfl, rfl, rfl, rfl, trivial⟩ ⟨rfl, rfl, rfl, trivial⟩)
        refine ref_exit (x_then ?_)
        exact brkB x107 (weak [0, 1, 2] ⟨rfl, rfl, rfl, rfl, rfl, rfl, rfl, rfl, rfl, rfl, rfl, trivial⟩ ⟨rfl, rfl, rfl, trivial⟩)
      refine n_block (n_then (ref_region ?_))
      refine s_rd (r_add rfl rfl) rfl ?_
      refine mv1 rfl rfl ?_
      refine l_nil ?_
      exact goB y120 (weak [0, 1] ⟨rfl, rfl, rfl, rfl, rfl, rfl, trivial⟩ ⟨rfl, rfl, trivial⟩)
    refine ref_exit (x_then ?_)
    exact brkB x87 (weak [1] ⟨rfl, trivial⟩ ⟨rfl, trivial⟩)
  refine n_then (ref_seq (ref_region ?_))
  refine mv1 rfl rfl ?_
  refine as1 rfl rfl ?_
  refine l_nil (n_then (ref_ret ?_))
  exact fin1 (.inl rfl) y122 [0] rfl ⟨rfl, trivial⟩ rfl (rv_tmp rfl)

/-! (deliberation/protocol.table).end -/
noncomputable def protocol_table_end_l1 (t_0 : T_protocol_table) (s10 : Int × Int) : Option (Sum (Int) (Int × Int)) :=
  bif decide (s10.2 < (t_0.d.Moves.length : Int)) then
    Option.bind (idxM t_0.d.Moves s10.2) fun t13 =>
    Option.bind (protocol_other_m t_0.leader) fun t15 =>
    bif t13.By == t15 then
      letM (iadd .i64 s10.1 1) fun made17 =>
      some (Sum.inr (made17, iadd .i64 s10.2 1))
    else
      some (Sum.inr (s10.1, iadd .i64 s10.2 1))
  else
    some (Sum.inl s10.1)

noncomputable def protocol_table_end_m (t_0 : T_protocol_table) : Option (T_api_Outcome) :=
  Option.bind (loopC (protocol_table_end_l1 t_0) (0, 0)) fun q18 : Int =>
  Option.bind (idxM t_0.d.Moves (isub .i64 (t_0.d.Moves.length : Int) 1)) fun t20 =>
  bif t20.Kind == 4 then
    Option.bind (protocol_other_m t20.By) fun t23 =>
    some (T_api_Outcome.mk t23 3)
  else
    letM (decide ((t_0.d.Moves.length : Int) ≥ 200)) fun t24 =>
    bif t24 then
      some (T_api_Outcome.mk t_0.leader 4)
    else
      Option.bind (protocol_other_m t_0.leader) fun t26 =>
      Option.bind (idxM [t_0.d.Limits.i0, t_0.d.Limits.i1] (isub .i64 t26 1)) fun t27 =>
      letM (decide (q18 ≥ t27)) fun t28 =>
      bif t28 then
        some (T_api_Outcome.mk t_0.leader 2)
      else
        Option.bind (protocol_table_legal_m t_0) fun t30 =>
        letM ((t30.length : Int) == 0) fun t32 =>
        bif t32 then
          some (T_api_Outcome.mk t_0.leader 1)
        else
          some (T_api_Outcome.mk 0 0)

theorem protocol_table_end_ok {t_0 : T_protocol_table} {r : T_api_Outcome} (hm : protocol_table_end_m t_0 = some r) :
    FnOk prog 80 [ag [iv .i64 t_0.d.Graph.N, slv rT_api_Pair t_0.d.Graph.L, iv .i64 t_0.d.Root, iv .i64 t_0.d.Limits.i0, iv .i64 t_0.d.Limits.i1, slv rT_api_Move t_0.d.Moves, slv (rI .i64) t_0.status, iv .i64 t_0.leader, slv rB t_0.leading]] [] (fun (x : Unit) => [ag [iv .i64 r.Winner, iv .i64 r.Reason]]) (fun (x : Unit) => []) := by
  refine fn_ok (fn := Try.f80) (N := 70) (res := fun r x => [ag [iv .i64 r.Winner, iv .i64 r.Reason]]) (Ω1 := fun r x => []) Try.func80 rfl rfl hm rfl (fun E hM => ?_)
  unfold protocol_table_end_m
  refine ref_seq (ref_region ?_)
  refine s_st (s_box (part_agO (ψs := [iv .i64 t_0.d.Graph.N, slv rT_api_Pair t_0.d.Graph.L, iv .i64 t_0.d.Root, iv .i64 t_0.d.Limits.i0, iv .i64 t_0.d.Limits.i1, slv rT_api_Move t_0.d.Moves, slv (rI .i64) t_0.status, iv .i64 t_0.leader, slv rB t_0.leading]) rfl ⟨.inl iv_at, .inl slv_at, .inl iv_at, .inl iv_at, .inl iv_at, .inl slv_at, .inl slv_at, .inl iv_at, .inl slv_at, trivial⟩)) rfl (fun b1 => ?_)
  refine s_st (s_alloc zt_57) rfl (fun b2 => ?_)
  refine l_nil (n_then (ref_seq (ref_region ?_)))
  refine s_rd (r_faddr (fo := 0) Try.underlying95 rfl rfl Try.sizeOf35 rfl) rfl ?_
  refine s_rd (r_faddr (fo := 5) Try.underlying35 rfl rfl Try.sizeOf23 rfl) rfl ?_
  refine s_rd (r_cload Try.isAgg23 rfl (j := 0) rfl rfl) rfl ?_
  refine as1 rfl rfl ?_
  refine l_nil (n_then (ref_seq (ref_region ?_)))
  refine as1 rfl rfl ?_
  refine l_nil (n_then (ref_seq (ref_seq (ref_region ?_))))
  refine mv1 rfl rfl ?_
  refine s_rd (r_len Try.underlying23 rfl) rfl ?_
  refine mv1 rfl rfl ?_
  refine l_nil (n_then ?_)
  refine ref_loopB (f := (protocol_table_end_l1 t_0)) (Γl := (fun (s10 : Int × Int) (x11 : Unit) => [(1, pv (ptr b1 0)), (2, pv (ptr b2 0)), (3, slv rT_api_Move t_0.d.Moves), (4, iv .i64 s10.1), (11, slv rT_api_Move t_0.d.Moves), (12, iv .i64 (t_0.d.Moves.length : Int)), (13, iv .i64 s10.2)])) (Ωl := (fun (s10 : Int × Int) (x11 : Unit) => [oc b1 [iv .i64 t_0.d.Graph.N, slv rT_api_Pair t_0.d.Graph.L, iv .i64 t_0.d.Root, iv .i64 t_0.d.Limits.i0, iv .i64 t_0.d.Limits.i1, slv rT_api_Move t_0.d.Moves, slv (rI .i64) t_0.status, iv .i64 t_0.leader, slv rB t_0.leading], oc b2 [iv .i64 0, iv .i64 0]])) (Γb := (fun (q18 : Int) (y19 : Unit) => [(1, pv (ptr b1 0)), (2, pv (ptr b2 0)), (3, slv rT_api_Move t_0.d.Moves), (4, iv .i64 q18)])) (Ωb := (fun (q18 : Int) (y19 : Unit) => [oc b1 [iv .i64 t_0.d.Graph.N, slv rT_api_Pair t_0.d.Graph.L, iv .i64 t_0.d.Root, iv .i64 t_0.d.Limits.i0, iv .i64 t_0.d.Limits.i1, slv rT_api_Move t_0.d.Moves, slv (rI .i64) t_0.status, iv .i64 t_0.leader, slv rB t_0.leading], oc b2 [iv .i64 0, iv .i64 0]])) (0, 0) () (weak [0, 1] ⟨rfl, rfl, rfl, rfl, rfl, rfl, rfl, trivial⟩ ⟨rfl, rfl, trivial⟩) (fun s10 x11 => ?_) (fun q18 y19 => ?_)
  · unfold protocol_table_end_l1
    refine ref_seq (ref_region ?_)
    refine s_rd (r_lss rfl rfl) rfl ?_
    refine l_nil (n_then (ref_seq ?_))
    refine ref_cond rfl (fun hb12 => ?_) (fun hb12 => ?_)
    · refine ref_skip (n_then (ref_seq (ref_block (ref_seq (ref_region ?_)))))
      refine pull fun t13 h_t13 => ?_
      refine s_rd (r_index h_t13 Try.underlying23 el_40 rfl rfl) rfl ?_
      refine s_rd (r_load el_40 rfl) rfl ?_
      refine s_st (s_alloc zt_40) rfl (fun b14 => ?_)
      refine s_st0 (s_cstore (out := [iv .i64 t13.By, iv .i64 t13.Kind, iv .i64 t13.Node, iv .i64 t13.Target]) Try.sizeOf40 rfl (j := 2) rfl (part_agO (ψs := [iv .i64 t13.By, iv .i64 t13.Kind, iv .i64 t13.Node, iv .i64 t13.Target]) rfl ⟨.inl iv_at, .inl iv_at, .inl iv_at, .inl iv_at, trivial⟩) rfl rfl rfl) (fun _ => ?_)
      refine l_nil ?_
      refine b_of (nrm [oc b1 [iv .i64 t_0.d.Graph.N, slv rT_api_Pair t_0.d.Graph.L, iv .i64 t_0.d.Root, iv .i64 t_0.d.Limits.i0, iv .i64 t_0.d.Limits.i1, slv rT_api_Move t_0.d.Moves, slv (rI .i64) t_0.status, iv .i64 t_0.leader, slv rB t_0.leading], oc b2 [iv .i64 0, iv .i64 0], oc b14 [iv .i64 t13.By, iv .i64 t13.Kind, iv .i64 t13.Node, iv .i64 t13.Target]] rfl) ?_
      refine n_then (ref_seq ?_)
      refine ref_draw [0, 1, 2, 3, 5] rfl (by kernel_rfl) (fun hok => ?_)
      refine a_rd (i := 0) hok rfl (by kernel_rfl) rfl (r_faddr (fo := 0) Try.underlying40 rfl rfl Try.sizeOf3 rfl) rfl ?_
      refine a_rd (i := 1) hok rfl (by kernel_rfl) rfl (r_cload Try.isAgg3 rfl (j := 2) rfl rfl) rfl ?_
      refine a_rd (i := 2) hok rfl (by kernel_rfl) rfl (r_faddr (fo := 7) Try.underlying95 rfl rfl Try.sizeOf3 rfl) rfl ?_
      refine a_rd (i := 3) hok rfl (by kernel_rfl) rfl (r_cload Try.isAgg3 rfl (j := 0) rfl rfl) rfl ?_
      refine pull fun t15 h_t15 => ?_
      refine a_next hok 4 [] (by kernel_rfl) ?_ trivial
      refine a_st (i := 4) hok rfl rfl (s_call (ψ := fun (_ : Unit) => iv .i64 t15) (args := [.tmp 20]) Try.call61 rfl (protocol_other_ok h_t15) ⟨arg rfl, trivial⟩ (fun _ _ _ _ h => h)) (by intro _ h; cases h; rfl) (fun _ => ⟨trivial, ⟨trivial, ⟨⟨⟨rfl, rfl⟩, trivial⟩, ⟨trivial, trivial⟩⟩⟩⟩) (fun _ => ?_)
      refine a_rd (i := 5) hok rfl (by kernel_rfl) rfl (r_eql rfl rfl) rfl ?_
      refine a_fin hok (by kernel_rfl) ?_
      refine n_then ?_
      refine ref_cond rfl (fun hb16 => ?_) (fun hb16 => ?_)
      · refine ref_region ?_
        refine mv1 rfl rfl ?_
        refine s_rd (r_add rfl rfl) rfl ?_
        refine as1 rfl rfl ?_
        refine b_let (f := iv .i64) (t := 4) rfl fun made17 => ?_
        refine l_nil (n_block (n_then (ref_region ?_)))
        refine s_rd (r_add rfl rfl) rfl ?_
        refine mv1 rfl rfl ?_
        refine l_nil ?_
        exact goB () (weak [0, 1] ⟨rfl, rfl, rfl, rfl, rfl, rfl, rfl, trivial⟩ ⟨rfl, rfl, trivial⟩)
      refine ref_skip (n_block (n_then (ref_region ?_)))
      refine s_rd (r_add rfl rfl) rfl ?_
      refine mv1 rfl rfl ?_
      refine l_nil ?_
      exact goB () (weak [0, 1] ⟨rfl, rfl, rfl, rfl, rfl, rfl, rfl, trivial⟩ ⟨rfl, rfl, trivial⟩)
    refine ref_exit (x_then ?_)
    exact brkB () (weak [0, 1] ⟨rfl, rfl, rfl, rfl, trivial⟩ ⟨rfl, rfl, trivial⟩)
  refine n_then (ref_seq (ref_region ?_))
  refine mv1 rfl rfl ?_
  refine mv1 rfl rfl ?_
  refine s_rd (r_len Try.underlying23 rfl) rfl ?_
  refine s_rd (r_sub rfl rfl) rfl ?_
  refine pull fun t20 h_t20 => ?_
  refine s_rd (r_index h_t20 Try.underlying23 el_40 rfl rfl) rfl ?_
  refine s_rd (r_load el_40 rfl) rfl ?_
  refine s_st (s_alloc zt_40) rfl (fun b21 => ?_)
  refine s_st0 (s_cstore (out := [iv .i64 t20.By, iv .i64 t20.Kind, iv .i64 t20.Node, iv .i64 t20.Target]) Try.sizeOf40 rfl (j := 2) rfl (part_agO (ψs := [iv .i64 t20.By, iv .i64 t20.Kind, iv .i64 t20.Node, iv .i64 t20.Target]) rfl ⟨.inl iv_at, .inl iv_at, .inl iv_at, .inl iv_at, trivial⟩) rfl rfl rfl) (fun _ => ?_)
  refine l_nil (n_then (ref_seq (ref_block (ref_seq (ref_region ?_)))))
  refine s_rd (r_faddr (fo := 1) Try.underlying40 rfl rfl Try.sizeOf3 rfl) rfl ?_
  refine s_rd (r_cload Try.isAgg3 rfl (j := 2) rfl rfl) rfl ?_
  refine s_rd (r_eql rfl rfl) rfl ?_
  refine as1 rfl rfl ?_
  refine l_nil (n_then ?_)
  refine ref_cond rfl (fun hb22 => ?_) (fun hb22 => ?_)
  · refine ref_seq (ref_region ?_)
    refine s_rd (r_faddr (fo := 0) Try.underlying40 rfl rfl Try.sizeOf3 rfl) rfl ?_
    refine s_rd (r_cload Try.isAgg3 rfl (j := 2) rfl rfl) rfl ?_
    refine pull fun t23 h_t23 => ?_
    refine s_st (s_call (ψ := fun (_ : Unit) => iv .i64 t23) (args := [.tmp 37]) Try.call61 rfl (protocol_other_ok h_t23) ⟨arg rfl, trivial⟩ (fun _ _ _ _ h => h)) rfl (fun _ => ?_)
    refine s_rd (r_build (ps := [(0, .tmp 38), (1, .const (.int .i64 (3)))]) (rs := [(0, [iv .i64 t23]), (1, [iv .i64 3])]) st_57 zs_57 ⟨rfl, (part_at rfl iv_at), ⟨rfl, (part_at rfl iv_at), trivial⟩⟩ rfl rfl) rfl ?_
    refine s_st0 (s_cstore (out := [iv .i64 t23, iv .i64 3]) Try.sizeOf57 rfl (j := 1) rfl (part_agO (ψs := [iv .i64 t23, iv .i64 3]) rfl ⟨.inl iv_at, .inl iv_at, trivial⟩) rfl rfl rfl) (fun _ => ?_)
    refine l_nil ?_
    refine b_of (nrm [oc b1 [iv .i64 t_0.d.Graph.N, slv rT_api_Pair t_0.d.Graph.L, iv .i64 t_0.d.Root, iv .i64 t_0.d.Limits.i0, iv .i64 t_0.d.Limits.i1, slv rT_api_Move t_0.d.Moves, slv (rI .i64) t_0.status, iv .i64 t_0.leader, slv rB t_0.leading], oc b2 [iv .i64 t23, iv .i64 3], oc b21 [iv .i64 t20.By, iv .i64 t20.Kind, iv .i64 t20.Node, iv .i64 t20.Target]] rfl) ?_
    refine n_then (ref_ret (r_block (r_then ?_)))
    exact fin1 (.inl rfl) () [] rfl trivial rfl (rv_cell rfl (j := 1) rfl Try.isAgg57 Try.sizeOf57 rfl rfl)
  refine ref_seq (ref_region ?_)
  refine mv1 rfl rfl ?_
  refine s_rd (r_len Try.underlying23 rfl) rfl ?_
  refine s_rd (r_geq rfl rfl) rfl ?_
  refine as1 rfl rfl ?_
  refine b_let (f := bv) (t := 40) rfl fun t24 => ?_
  refine l_nil (n_then ?_)
  refine ref_cond rfl (fun hb25 => ?_) (fun hb25 => ?_)
  · refine ref_seq (ref_region ?_)
    refine s_rd (r_faddr (fo := 7) Try.underlying95 rfl rfl Try.sizeOf3 rfl) rfl ?_
    refine s_rd (r_cload Try.isAgg3 rfl (j := 0) rfl rfl) rfl ?_
    refine s_rd (r_build (ps := [(0, .tmp 45), (1, .const (.int .i64 (4)))]) (rs := [(0, [iv .i64 t_0.leader]), (1, [iv .i64 4])]) st_57 zs_57 ⟨rfl, (part_at rfl iv_at), ⟨rfl, (part_at rfl iv_at), trivial⟩⟩ rfl rfl) rfl ?_
    refine s_st0 (s_cstore (out := [iv .i64 t_0.leader, iv .i64 4]) Try.sizeOf57 rfl (j := 1) rfl (part_agO (ψs := [iv .i64 t_0.leader, iv .i64 4]) rfl ⟨.inl iv_at, .inl iv_at, trivial⟩) rfl rfl rfl) (fun _ => ?_)
    refine l_nil (n_then (ref_ret (r_block (r_then ?_))))
    exact fin1 (.inl rfl) () [] rfl trivial rfl (rv_cell rfl (j := 1) rfl Try.isAgg57 Try.sizeOf57 rfl rfl)
  refine ref_seq (ref_region ?_)
  refine mv1 rfl rfl ?_
  refine s_rd (r_faddr (fo := 7) Try.underlying95 rfl rfl Try.sizeOf3 rfl) rfl ?_
  refine s_rd (r_cload Try.isAgg3 rfl (j := 0) rfl rfl) rfl ?_
  refine pull fun t26 h_t26 => ?_
  refine s_st (s_call (ψ := fun (_ : Unit) => iv .i64 t26) (args := [.tmp 50]) Try.call61 rfl (protocol_other_ok h_t26) ⟨arg rfl, trivial⟩ (fun _ _ _ _ h => h)) rfl (fun _ => ?_)
  refine s_rd (r_sub rfl rfl) rfl ?_
  refine s_rd (r_faddr (fo := 0) Try.underlying95 rfl rfl Try.sizeOf35 rfl) rfl ?_
  refine s_rd (r_faddr (fo := 3) Try.underlying35 rfl rfl Try.sizeOf33 rfl) rfl ?_
  refine pull fun t27 h_t27 => ?_
  refine s_rd (r_aaddrV h_t27 rfl Try.underlying33 Try.sizeOf3 rfl rfl) rfl ?_
  refine s_rd (r_acload (ρ := (rI .i64)) (off := 3) h_t27 Try.isAgg3 rfl (j := 0) rfl rfl rfl rfl) rfl ?_
  refine s_rd (r_geq rfl rfl) rfl ?_
  refine as1 rfl rfl ?_
  refine b_let (f := bv) (t := 47) rfl fun t28 => ?_
  refine l_nil (n_then ?_)
  refine ref_cond rfl (fun hb29 => ?_) (fun hb29 => ?_)
  · refine ref_seq (ref_region ?_)
    refine s_rd (r_faddr (fo := 7) Try.underlying95 rfl rfl Try.sizeOf3 rfl) rfl ?_
    refine s_rd (r_cload Try.isAgg3 rfl (j := 0) rfl rfl) rfl ?_
    refine s_rd (r_build (ps := [(0, .tmp 59), (1, .const (.int .i64 (2)))]) (rs := [(0, [iv .i64 t_0.leader]), (1, [iv .i64 2])]) st_57 zs_57 ⟨rfl, (part_at rfl iv_at), ⟨rfl, (part_at rfl iv_at), trivial⟩⟩ rfl rfl) rfl ?_
    refine s_st0 (s_cstore (out := [iv .i64 t_0.leader, iv .i64 2]) Try.sizeOf57 rfl (j := 1) rfl (part_agO (ψs := [iv .i64 t_0.leader, iv .i64 2]) rfl ⟨.inl iv_at, .inl iv_at, trivial⟩) rfl rfl rfl) (fun _ => ?_)
    refine l_nil ?_
    refine b_of (nrm [oc b1 [iv .i64 t_0.d.Graph.N, slv rT_api_Pair t_0.d.Graph.L, iv .i64 t_0.d.Root, iv .i64 t_0.d.Limits.i0, iv .i64 t_0.d.Limits.i1, slv rT_api_Move t_0.d.Moves, slv (rI .i64) t_0.status, iv .i64 t_0.leader, slv rB t_0.leading], oc b2 [iv .i64 t_0.leader, iv .i64 2], oc b21 [iv .i64 t20.By, iv .i64 t20.Kind, iv .i64 t20.Node, iv .i64 t20.Target]] rfl) ?_
    refine n_then (ref_ret (r_block (r_then ?_)))
    exact fin1 (.inl rfl) () [] rfl trivial rfl (rv_cell rfl (j := 1) rfl Try.isAgg57 Try.sizeOf57 rfl rfl)
  refine ref_seq (ref_region ?_)
  refine s_rd (r_cloadS Try.isAgg95 Try.sizeOf95 rfl (j := 0) rfl rfl rfl) rfl ?_
  refine pull fun t30 h_t30 => ?_
  refine s_st (s_call (ψ := fun (x31 : (Value × List Nat)) => pv x31.1) (args := [.tmp 62]) Try.call65 rfl (protocol_table_legal_ok h_t30) ⟨arg rfl, trivial⟩ (fun _ _ _ _ h => h)) rfl (fun x31 => ?_)
  refine s_rd (r_olen Try.underlying23 rfl (j := 3) rfl) rfl ?_
  refine s_rd (r_eql rfl rfl) rfl ?_
  refine as1 rfl rfl ?_
  refine b_let (f := bv) (t := 61) rfl fun t32 => ?_
  refine l_nil ?_
  refine b_of (nrm [oc b1 [iv .i64 t_0.d.Graph.N, slv rT_api_Pair t_0.d.Graph.L, iv .i64 t_0.d.Root, iv .i64 t_0.d.Limits.i0, iv .i64 t_0.d.Limits.i1, slv rT_api_Move t_0.d.Moves, slv (rI .i64) t_0.status, iv .i64 t_0.leader, slv rB t_0.leading], oc b2 [iv .i64 0, iv .i64 0], oc b21 [iv .i64 t20.By, iv .i64 t20.Kind, iv .i64 t20.Node, iv .i64 t20.Target], oa rT_api_Move x31.1 x31.2 t30] rfl) ?_
  refine n_then ?_
  refine ref_cond rfl (fun hb33 => ?_) (fun hb33 => ?_)
  · refine ref_seq (ref_region ?_)
    refine s_rd (r_faddr (fo := 7) Try.underlying95 rfl rfl Try.sizeOf3 rfl) rfl ?_
    refine s_rd (r_cload Try.isAgg3 rfl (j := 0) rfl rfl) rfl ?_
    refine s_rd (r_build (ps := [(0, .tmp 67), (1, .const (.int .i64 (1)))]) (rs := [(0, [iv .i64 t_0.leader]), (1, [iv .i64 1])]) st_57 zs_57 ⟨rfl, (part_at rfl iv_at), ⟨rfl, (part_at rfl iv_at), trivial⟩⟩ rfl rfl) rfl ?_
    refine s_st0 (s_cstore (out := [iv .i64 t_0.leader, iv .i64 1]) Try.sizeOf57 rfl (j := 1) rfl (part_agO (ψs := [iv .i64 t_0.leader, iv .i64 1]) rfl ⟨.inl iv_at, .inl iv_at, trivial⟩) rfl rfl rfl) (fun _ => ?_)
    refine l_nil (n_then (ref_ret (r_block (r_then ?_))))
    exact fin1 (.inl rfl) () [] rfl trivial rfl (rv_cell rfl (j := 1) rfl Try.isAgg57 Try.sizeOf57 rfl rfl)
  refine ref_skip (n_block (n_then (ref_seq (ref_region ?_))))
  refine s_rd (r_build (ps := []) (rs := []) st_57 zs_57 trivial rfl rfl) rfl ?_
  refine s_st0 (s_cstore (out := [iv .i64 0, iv .i64 0]) Try.sizeOf57 rfl (j := 1) rfl (part_agO (ψs := [iv .i64 0, iv .i64 0]) rfl ⟨.inl iv_at, .inl iv_at, trivial⟩) rfl rfl rfl) (fun _ => ?_)
  refine l_nil (n_then (ref_ret ?_))
  exact fin1 (.inl rfl) () [] rfl trivial rfl (rv_cell rfl (j := 1) rfl Try.isAgg57 Try.sizeOf57 rfl rfl)

/-! deliberation/protocol.End -/
noncomputable def protocol_End_m (d_0 : T_api_Dialogue) : Option (T_api_Outcome) :=
  bif (d_0.Moves.length : Int) == 0 then
    some (T_api_Outcome.mk 0 0)
  else
    Option.bind (protocol_of_m d_0) fun t4 =>
    Option.bind (protocol_table_end_m t4) fun t5 =>
    some t5

theorem protocol_End_ok {d_0 : T_api_Dialogue} {r : T_api_Outcome} (hm : protocol_End_m d_0 = some r) :
    FnOk prog 60 [ag [iv .i64 d_0.Graph.N, slv rT_api_Pair d_0.Graph.L, iv .i64 d_0.Root, iv .i64 d_0.Limits.i0, iv .i64 d_0.Limits.i1, slv rT_api_Move d_0.Moves]] [] (fun (x : Unit) => [ag [iv .i64 r.Winner, iv .i64 r.Reason]]) (fun (x : Unit) => []) := by
  refine fn_ok (fn := Try.f60) (N := 11) (res := fun r x => [ag [iv .i64 r.Winner, iv .i64 r.Reason]]) (Ω1 := fun r x => []) Try.func60 rfl rfl hm rfl (fun E hM => ?_)
  unfold protocol_End_m
  refine ref_seq (ref_region ?_)
  refine s_st (s_box (part_agO (ψs := [iv .i64 d_0.Graph.N, slv rT_api_Pair d_0.Graph.L, iv .i64 d_0.Root, iv .i64 d_0.Limits.i0, iv .i64 d_0.Limits.i1, slv rT_api_Move d_0.Moves]) rfl ⟨.inl iv_at, .inl slv_at, .inl iv_at, .inl iv_at, .inl iv_at, .inl slv_at, trivial⟩)) rfl (fun b1 => ?_)
  refine s_st (s_alloc zt_57) rfl (fun b2 => ?_)
  refine l_nil (n_then (ref_seq (ref_seq (ref_region ?_))))
  refine s_rd (r_faddr (fo := 5) Try.underlying35 rfl rfl Try.sizeOf23 rfl) rfl ?_
  refine s_rd (r_cload Try.isAgg23 rfl (j := 0) rfl rfl) rfl ?_
  refine s_rd (r_len Try.underlying23 rfl) rfl ?_
  refine s_rd (r_eql rfl rfl) rfl ?_
  refine l_nil (n_then ?_)
  refine ref_cond rfl (fun hb3 => ?_) (fun hb3 => ?_)
  · refine ref_seq (ref_region ?_)
    refine s_rd (r_build (ps := []) (rs := []) st_57 zs_57 trivial rfl rfl) rfl ?_
    refine s_st0 (s_cstore (out := [iv .i64 0, iv .i64 0]) Try.sizeOf57 rfl (j := 1) rfl (part_agO (ψs := [iv .i64 0, iv .i64 0]) rfl ⟨.inl iv_at, .inl iv_at, trivial⟩) rfl rfl rfl) (fun _ => ?_)
    refine l_nil (n_then (ref_ret (r_then ?_)))
    exact fin1 (.inl rfl) () [] rfl trivial rfl (rv_cell rfl (j := 1) rfl Try.isAgg57 Try.sizeOf57 rfl rfl)
  refine ref_skip (n_then (ref_seq (ref_region ?_)))
  refine s_rd (r_cloadS Try.isAgg35 Try.sizeOf35 rfl (j := 0) rfl rfl rfl) rfl ?_
  refine pull fun t4 h_t4 => ?_
  refine s_st (s_call (ψ := fun (_ : Unit) => ag [iv .i64 t4.d.Graph.N, slv rT_api_Pair t4.d.Graph.L, iv .i64 t4.d.Root, iv .i64 t4.d.Limits.i0, iv .i64 t4.d.Limits.i1, slv rT_api_Move t4.d.Moves, slv (rI .i64) t4.status, iv .i64 t4.leader, slv rB t4.leading]) (args := [.tmp 8]) Try.call62 rfl (protocol_of_ok h_t4) ⟨arg rfl, trivial⟩ (fun _ _ _ _ h => h)) rfl (fun _ => ?_)
  refine pull fun t5 h_t5 => ?_
  refine s_st (s_call (ψ := fun (_ : Unit) => ag [iv .i64 t5.Winner, iv .i64 t5.Reason]) (args := [.tmp 9]) Try.call80 rfl (protocol_table_end_ok h_t5) ⟨arg rfl, trivial⟩ (fun _ _ _ _ h => h)) rfl (fun _ => ?_)
  refine s_st0 (s_cstore (out := [iv .i64 t5.Winner, iv .i64 t5.Reason]) Try.sizeOf57 rfl (j := 1) rfl (part_agO (ψs := [iv .i64 t5.Winner, iv .i64 t5.Reason]) rfl ⟨.inl iv_at, .inl iv_at, trivial⟩) rfl rfl rfl) (fun _ => ?_)
  refine l_nil ?_
  refine b_of (nrm [oc b1 [iv .i64 d_0.Graph.N, slv rT_api_Pair d_0.Graph.L, iv .i64 d_0.Root, iv .i64 d_0.Limits.i0, iv .i64 d_0.Limits.i1, slv rT_api_Move d_0.Moves], oc b2 [iv .i64 t5.Winner, iv .i64 t5.Reason]] rfl) ?_
  refine n_then (ref_ret ?_)
  exact fin1 (.inl rfl) () [] rfl trivial rfl (rv_cell rfl (j := 1) rfl Try.isAgg57 Try.sizeOf57 rfl rfl)

/-! deliberation/protocol.Turn -/
noncomputable def protocol_Turn_m (d_0 : T_api_Dialogue) : Option (Int) :=
  bif (d_0.Moves.length : Int) == 0 then
    some 0
  else
    Option.bind (protocol_End_m d_0) fun t2 =>
    bif t2.Reason != 0 then
      some 0
    else
      Option.bind (protocol_of_m d_0) fun t4 =>
      Option.bind (protocol_other_m t4.leader) fun t5 =>
      some t5

theorem protocol_Turn_ok {d_0 : T_api_Dialogue} {r : Int} (hm : protocol_Turn_m d_0 = some r) :
    FnOk prog 32 [ag [iv .i64 d_0.Graph.N, slv rT_api_Pair d_0.Graph.L, iv .i64 d_0.Root, iv .i64 d_0.Limits.i0, iv .i64 d_0.Limits.i1, slv rT_api_Move d_0.Moves]] [] (fun (x : Unit) => [iv .i64 r]) (fun (x : Unit) => []) := by
  refine fn_ok (fn := Try.f32) (N := 17) (res := fun r x => [iv .i64 r]) (Ω1 := fun r x => []) Try.func32 rfl rfl hm rfl (fun E hM => ?_)
  unfold protocol_Turn_m
  refine ref_seq (ref_region ?_)
  refine s_st (s_box (part_agO (ψs := [iv .i64 d_0.Graph.N, slv rT_api_Pair d_0.Graph.L, iv .i64 d_0.Root, iv .i64 d_0.Limits.i0, iv .i64 d_0.Limits.i1, slv rT_api_Move d_0.Moves]) rfl ⟨.inl iv_at, .inl slv_at, .inl iv_at, .inl iv_at, .inl iv_at, .inl slv_at, trivial⟩)) rfl (fun b1 => ?_)
  refine as1 rfl rfl ?_
  refine l_nil (n_then (ref_seq (ref_seq (ref_region ?_))))
  refine s_rd (r_faddr (fo := 5) Try.underlying35 rfl rfl Try.sizeOf23 rfl) rfl ?_
  refine s_rd (r_cload Try.isAgg23 rfl (j := 0) rfl rfl) rfl ?_
  refine s_rd (r_len Try.underlying23 rfl) rfl ?_
  refine s_rd (r_eql rfl rfl) rfl ?_
  refine mv1 rfl rfl ?_
  refine b_split (t := 7) rfl (fun _ => ?_) (fun _ => ?_)
  · refine s_off rfl rfl rfl rfl rfl ?_
    refine s_off rfl rfl rfl rfl rfl ?_
    refine s_off rfl rfl rfl rfl rfl ?_
    refine s_off rfl rfl rfl rfl rfl ?_
    refine s_rd (r_pickT rfl rfl) rfl ?_
    refine l_nil (n_then ?_)
    refine ref_condT rfl rfl ?_
    refine ref_seq (ref_region ?_)
    refine as1 rfl rfl ?_
    refine l_nil (n_then (ref_ret (r_then ?_)))
    exact fin1 (.inl rfl) () [] rfl trivial rfl (rv_tmp rfl)
  refine s_on rfl rfl rfl ?_
  refine s_rd (r_cloadS Try.isAgg35 Try.sizeOf35 rfl (j := 0) rfl rfl rfl) rfl ?_
  refine s_on rfl rfl rfl ?_
  refine pull fun t2 h_t2 => ?_
  refine s_st (s_call (ψ := fun (_ : Unit) => ag [iv .i64 t2.Winner, iv .i64 t2.Reason]) (args := [.tmp 8]) Try.call60 rfl (protocol_End_ok h_t2) ⟨arg rfl, trivial⟩ (fun _ _ _ _ h => h)) rfl (fun _ => ?_)
  refine s_on rfl rfl rfl ?_
  refine s_rd (r_field1 (off := 1) Try.underlying57 rfl rfl Try.isAgg3 rfl rfl) rfl ?_
  refine s_on rfl rfl rfl ?_
  refine s_rd (r_neq rfl rfl) rfl ?_
  refine s_rd (r_pickF rfl rfl) rfl ?_
  refine l_nil (n_then ?_)
  refine ref_cond rfl (fun hb3 => ?_) (fun hb3 => ?_)
  · refine ref_seq (ref_region ?_)
    refine as1 rfl rfl ?_
    refine l_nil (n_then (ref_ret (r_then ?_)))
    exact fin1 (.inl rfl) () [] rfl trivial rfl (rv_tmp rfl)
  refine ref_skip (n_then (ref_seq (ref_region ?_)))
  refine s_rd (r_cloadS Try.isAgg35 Try.sizeOf35 rfl (j := 0) rfl rfl rfl) rfl ?_
  refine pull fun t4 h_t4 => ?_
  refine s_st (s_call (ψ := fun (_ : Unit) => ag [iv .i64 t4.d.Graph.N, slv rT_api_Pair t4.d.Graph.L, iv .i64 t4.d.Root, iv .i64 t4.d.Limits.i0, iv .i64 t4.d.Limits.i1, slv rT_api_Move t4.d.Moves, slv (rI .i64) t4.status, iv .i64 t4.leader, slv rB t4.leading]) (args := [.tmp 13]) Try.call62 rfl (protocol_of_ok h_t4) ⟨arg rfl, trivial⟩ (fun _ _ _ _ h => h)) rfl (fun _ => ?_)
  refine s_rd (r_field1 (off := 7) Try.underlying95 rfl rfl Try.isAgg3 rfl rfl) rfl ?_
  refine pull fun t5 h_t5 => ?_
  refine s_st (s_call (ψ := fun (_ : Unit) => iv .i64 t5) (args := [.tmp 15]) Try.call61 rfl (protocol_other_ok h_t5) ⟨arg rfl, trivial⟩ (fun _ _ _ _ h => h)) rfl (fun _ => ?_)
  refine as1 rfl rfl ?_
  refine l_nil ?_
  refine b_of (nrm [oc b1 [iv .i64 d_0.Graph.N, slv rT_api_Pair d_0.Graph.L, iv .i64 d_0.Root, iv .i64 d_0.Limits.i0, iv .i64 d_0.Limits.i1, slv rT_api_Move d_0.Moves]] rfl) ?_
  refine n_then (ref_ret ?_)
  exact fin1 (.inl rfl) () [] rfl trivial rfl (rv_tmp rfl)

/-! deliberation/protocol.Legal -/
noncomputable def protocol_Legal_m (d_0 : T_api_Dialogue) : Option (List T_api_Move) :=
  Option.bind (protocol_Turn_m d_0) fun t2 =>
  bif t2 == 0 then
    some []
  else
    Option.bind (protocol_of_m d_0) fun t4 =>
    Option.bind (protocol_table_legal_m t4) fun t5 =>
    some t5

theorem protocol_Legal_ok {d_0 : T_api_Dialogue} {r : List T_api_Move} (hm : protocol_Legal_m d_0 = some r) :
    FnOk prog 35 [ag [iv .i64 d_0.Graph.N, slv rT_api_Pair d_0.Graph.L, iv .i64 d_0.Root, iv .i64 d_0.Limits.i0, iv .i64 d_0.Limits.i1, slv rT_api_Move d_0.Moves]] [] (fun (x : (Value × List Nat)) => [pv x.1]) (fun (x : (Value × List Nat)) => [oa rT_api_Move x.1 x.2 r]) := by
  refine fn_ok (X := (Value × List Nat)) (fn := Try.f35) (N := 9) (res := fun r x => [pv x.1]) (Ω1 := fun r x => [oa rT_api_Move x.1 x.2 r]) Try.func35 rfl rfl hm rfl (fun E hM => ?_)
  unfold protocol_Legal_m
  refine ref_seq (ref_region ?_)
  refine s_st (s_box (part_agO (ψs := [iv .i64 d_0.Graph.N, slv rT_api_Pair d_0.Graph.L, iv .i64 d_0.Root, iv .i64 d_0.Limits.i0, iv .i64 d_0.Limits.i1, slv rT_api_Move d_0.Moves]) rfl ⟨.inl iv_at, .inl slv_at, .inl iv_at, .inl iv_at, .inl iv_at, .inl slv_at, trivial⟩)) rfl (fun b1 => ?_)
  refine as1 rfl rfl ?_
  refine l_nil (n_then (ref_seq (ref_seq (ref_region ?_))))
  refine s_rd (r_cloadS Try.isAgg35 Try.sizeOf35 rfl (j := 0) rfl rfl rfl) rfl ?_
  refine pull fun t2 h_t2 => ?_
  refine s_st (s_call (ψ := fun (_ : Unit) => iv .i64 t2) (args := [.tmp 3]) Try.call32 rfl (protocol_Turn_ok h_t2) ⟨arg rfl, trivial⟩ (fun _ _ _ _ h => h)) rfl (fun _ => ?_)
  refine s_rd (r_eql rfl rfl) rfl ?_
  refine l_nil (n_then ?_)
  refine ref_cond rfl (fun hb3 => ?_) (fun hb3 => ?_)
  · refine ref_seq (ref_region ?_)
    refine as1 rfl rfl ?_
    refine l_nil (n_then (ref_ret (r_then ?_)))
    refine b_of (own_nil rT_api_Move) ?_
    exact fin1 (.inl rfl) ((.slice none 0 0), []) [1] rfl ⟨rfl, trivial⟩ rfl (rv_tmp rfl)
  refine ref_skip (n_then (ref_seq (ref_region ?_)))
  refine s_rd (r_cloadS Try.isAgg35 Try.sizeOf35 rfl (j := 0) rfl rfl rfl) rfl ?_
  refine pull fun t4 h_t4 => ?_
  refine s_st (s_call (ψ := fun (_ : Unit) => ag [iv .i64 t4.d.Graph.N, slv rT_api_Pair t4.d.Graph.L, iv .i64 t4.d.Root, iv .i64 t4.d.Limits.i0, iv .i64 t4.d.Limits.i1, slv rT_api_Move t4.d.Moves, slv (rI .i64) t4.status, iv .i64 t4.leader, slv rB t4.leading]) (args := [.tmp 6]) Try.call62 rfl (protocol_of_ok h_t4) ⟨arg rfl, trivial⟩ (fun _ _ _ _ h => h)) rfl (fun _ => ?_)
  refine pull fun t5 h_t5 => ?_
  refine s_st (s_call (ψ := fun (x6 : (Value × List Nat)) => pv x6.1) (args := [.tmp 7]) Try.call65 rfl (protocol_table_legal_ok h_t5) ⟨arg rfl, trivial⟩ (fun _ _ _ _ h => h)) rfl (fun x6 => ?_)
  refine as1 rfl rfl ?_
  refine l_nil ?_
  refine b_of (nrm [oc b1 [iv .i64 d_0.Graph.N, slv rT_api_Pair d_0.Graph.L, iv .i64 d_0.Root, iv .i64 d_0.Limits.i0, iv .i64 d_0.Limits.i1, slv rT_api_Move d_0.Moves], oa rT_api_Move x6.1 x6.2 t5] rfl) ?_
  refine n_then (ref_ret ?_)
  exact fin1 (.inl rfl) x6 [1] rfl ⟨rfl, trivial⟩ rfl (rv_tmp rfl)

end Go.Dc
