/- Part LAW22W.A2 of a proof: lemmas. -/
import Derived.Test.YtmbflfngkcmfeaaDoorLAW22WA1
import Derived.Test.YtmbflfngkcmfeaaDoorProg
set_option linter.unusedVariables false
set_option maxRecDepth 100000
set_option maxHeartbeats 4000000
namespace Go.Dc
open Go.Proofs
open Go.Proofs.Tryd (prog)

/-! deliberation/deliberationref22.Strength -/
noncomputable def ref22_Strength_l1 (base_1 : (List T_api_Fraction)) (s13 : Int) : Option (Sum ((Sum (List T_api_Fraction × Int) (Unit))) (Int)) :=
  bif decide (s13 < (base_1.length : Int)) then
    Option.bind (idxM base_1 s13) fun t16 =>
    bif decide (t16.Den < 1) then
      some (Sum.inl (Sum.inl ([], 1)))
    else
      Option.bind (idxM base_1 s13) fun t17 =>
      bif decide (t17.Num < 0) then
        some (Sum.inl (Sum.inl ([], 1)))
      else
        Option.bind (idxM base_1 s13) fun t18 =>
        Option.bind (idxM base_1 s13) fun t19 =>
        bif decide (t18.Num > t19.Den) then
          some (Sum.inl (Sum.inl ([], 1)))
        else
          letM (iadd .i64 s13 1) fun i21 =>
          some (Sum.inr i21)
  else
    some (Sum.inl (Sum.inr ()))

noncomputable def ref22_Strength_l3 (g_0 : T_api_Graph) (s111 : Int × (List T_api_Fraction)) (a_114 : Int) (s126 : Int × T_api_Fraction) : Option (Sum ((Sum (List T_api_Fraction × Int) (T_api_Fraction))) (Int × T_api_Fraction)) :=
  bif decide (s126.1 < g_0.N) then
    Option.bind (net_Has_m g_0 s126.1 a_114) fun t129 =>
    bif !t129 then
      letM (iadd .i64 s126.1 1) fun b136 =>
      some (Sum.inr (b136, s126.2))
    else
      Option.bind (idxM s111.2 s126.1) fun t132 =>
      Option.bind (ref22_add_m s126.2 t132) fun t133 =>
      bif !t133.2 then
        some (Sum.inl (Sum.inl ([], 2)))
      else
        letM (iadd .i64 s126.1 1) fun b137 =>
        some (Sum.inr (b137, t133.1))
  else
    some (Sum.inl (Sum.inr s126.2))

noncomputable def ref22_Strength_l2 (g_0 : T_api_Graph) (base_1 : (List T_api_Fraction)) (order24 : List Int) (s111 : Int × (List T_api_Fraction)) : Option (Sum ((Sum (List T_api_Fraction × Int) ((List T_api_Fraction)))) (Int × (List T_api_Fraction))) :=
  bif decide (s111.1 < (order24.length : Int)) then
    Option.bind (idxM order24 s111.1) fun a_114 =>
    Option.bind (loopC (ref22_Strength_l3 g_0 s111 a_114) (0, (T_api_Fraction.mk 1 1))) (sumK (fun a : List T_api_Fraction × Int => some (Sum.inl (Sum.inl a))) fun q138 : T_api_Fraction =>
      Option.bind (idxM base_1 a_114) fun t141 =>
      Option.bind (idxM base_1 a_114) fun t142 =>
      Option.bind (ref22_Reduced_m t141.Num t142.Den) fun t143 =>
      Option.bind (ref22_product_m t143.Num q138.Den) fun t145 =>
      Option.bind (ref22_product_m t143.Den q138.Num) fun t146 =>
      bif !t145.2 then
        some (Sum.inl (Sum.inl ([], 2)))
      else
        bif !t146.2 then
          some (Sum.inl (Sum.inl ([], 2)))
        else
          Option.bind (ref22_Reduced_m t145.1 t146.1) fun t147 =>
          Option.bind (ref22_within_m t147) fun t148 =>
          bif !t148 then
            some (Sum.inl (Sum.inl ([], 2)))
          else
            Option.bind (ref22_Reduced_m t145.1 t146.1) fun t150 =>
            Option.bind (idxM s111.2 a_114) fun t151 =>
            some (Sum.inr (iadd .i64 s111.1 1, s111.2.set (Int.toNat a_114) t150)))
  else
    some (Sum.inl (Sum.inr s111.2))

noncomputable def ref22_Strength_m (g_0 : T_api_Graph) (base_1 : (List T_api_Fraction)) : Option (List T_api_Fraction × Int) :=
  Option.bind (ref10_Validate_m g_0) fun e2 =>
  bif e2 != 0 then
    some ([], e2)
  else
    bif (base_1.length : Int) != g_0.N then
      some ([], 1)
    else
      Option.bind (loopC (ref22_Strength_l1 base_1) 0) (sumK (fun a : List T_api_Fraction × Int => some a) fun q22 : Unit =>
        Option.bind (ref22_Order_m g_0) fun order24 =>
        bif decide ((order24.length : Int) < g_0.N) then
          some ([], 8)
        else
          Option.bind (mkM 16 (T_api_Fraction.mk 0 0) g_0.N) fun out27 =>
          Option.bind (loopC (ref22_Strength_l2 g_0 base_1 order24) (0, out27)) (sumK (fun a : List T_api_Fraction × Int => some a) fun q152 : (List T_api_Fraction) =>
            some (q152, 0)))

theorem ref22_Strength_ok {g_0 : T_api_Graph} {base_1 : (List T_api_Fraction)} {r : List T_api_Fraction × Int} (hm : ref22_Strength_m g_0 base_1 = some r) :
    FnOk prog 21 [ag [iv .i64 g_0.N, slv rT_api_Pair g_0.L], slv rT_api_Fraction base_1] [] (fun (x : (Value × List Nat)) => [pv x.1, iv .i64 r.2]) (fun (x : (Value × List Nat)) => [oa rT_api_Fraction x.1 x.2 r.1]) := by
  refine fn_ok (X := (Value × List Nat)) (fn := Tryd.f21) (N := 152) (res := fun r x => [pv x.1, iv .i64 r.2]) (Ω1 := fun r x => [oa rT_api_Fraction x.1 x.2 r.1]) Tryd.func21 rfl rfl hm rfl (fun E hM => ?_)
  unfold ref22_Strength_m
  refine ref_seq (ref_region ?_)
  refine s_st (s_box (part_agO (ψs := [iv .i64 g_0.N, slv rT_api_Pair g_0.L]) rfl ⟨.inl iv_at, .inl slv_at, trivial⟩)) rfl (fun b1 => ?_)
  refine as1 rfl rfl ?_
  refine as1 rfl rfl ?_
  refine l_nil (n_then (ref_seq (ref_seq (ref_region ?_))))
  refine s_rd (r_cloadS Tryd.isAgg27 Tryd.sizeOf27 rfl (j := 0) rfl rfl rfl) rfl ?_
  refine pull fun e2 h_e2 => ?_
  refine s_st (s_call (ψ := fun (_ : Unit) => iv .i64 e2) (args := [.tmp 21]) Tryd.call52 rfl (ref10_Validate_ok h_e2) ⟨arg rfl, trivial⟩ (fun _ _ _ _ h => h)) rfl (fun _ => ?_)
  refine as1 rfl rfl ?_
  refine l_nil (n_then (ref_seq (ref_region ?_)))
  refine mv1 rfl rfl ?_
  refine s_rd (r_neq rfl rfl) rfl ?_
  refine l_nil (n_then ?_)
  refine ref_cond rfl (fun hb3 => ?_) (fun hb3 => ?_)
  · refine ref_seq (ref_region ?_)
    refine mv1 rfl rfl ?_
    refine as1 rfl rfl ?_
    refine as1 rfl rfl ?_
    refine l_nil (n_then (ref_ret (r_then ?_)))
    refine b_of (own_nil rT_api_Fraction) ?_
    exact fin2 (.inl rfl) ((.slice none 0 0), []) [1] rfl ⟨rfl, trivial⟩ rfl (rv_tmp rfl) (rv_tmp rfl)
  refine ref_skip (n_then (ref_seq (ref_seq (ref_region ?_))))
  refine mv1 rfl rfl ?_
  refine s_rd (r_len Tryd.underlying40 rfl) rfl ?_
  refine s_rd (r_faddr (fo := 0) Tryd.underlying27 rfl rfl Tryd.sizeOf3 rfl) rfl ?_
  refine s_rd (r_cload Tryd.isAgg3 rfl (j := 0) rfl rfl) rfl ?_
  refine s_rd (r_neq rfl rfl) rfl ?_
  refine l_nil (n_then ?_)
  refine ref_cond rfl (fun hb4 => ?_) (fun hb4 => ?_)
  · refine ref_seq (ref_region ?_)
    refine as1 rfl rfl ?_
    refine as1 rfl rfl ?_
    refine l_nil (n_then (ref_ret (r_then ?_)))
    refine b_of (own_nil rT_api_Fraction) ?_
    exact fin2 (.inl rfl) ((.slice none 0 0), []) [1] rfl ⟨rfl, trivial⟩ rfl (rv_tmp rfl) (rv_tmp rfl)
  refine ref_skip (n_then (ref_seq (ref_seq (ref_region ?_))))
  refine as1 rfl rfl ?_
  refine l_nil (n_then ?_)
  refine ref_loopX (f := (ref22_Strength_l1 base_1)) (Γl := (fun (s13 : Int) (x14 : Unit) => [(1, slv rT_api_Fraction base_1), (2, pv (ptr b1 0)), (7, iv .i64 s13)])) (Ωl := (fun (s13 : Int) (x14 : Unit) => [oc b1 [iv .i64 g_0.N, slv rT_api_Pair g_0.L]])) (Γb := (fun (q22 : Unit) (y23 : Unit) => [(1, slv rT_api_Fraction base_1), (2, pv (ptr b1 0))])) (Ωb := (fun (q22 : Unit) (y23 : Unit) => [oc b1 [iv .i64 g_0.N, slv rT_api_Pair g_0.L]])) (kr := (fun a : List T_api_Fraction × Int => some a)) 0 () (weak [0] ⟨rfl, rfl, rfl, trivial⟩ ⟨rfl, trivial⟩) (fun s13 x14 => ?_) (fun q22 y23 => ?_)
  · unfold ref22_Strength_l1
    refine ref_seq (ref_seq (ref_region ?_))
    refine mv1 rfl rfl ?_
    refine mv1 rfl rfl ?_
    refine s_rd (r_len Tryd.underlying40 rfl) rfl ?_
    refine s_rd (r_lss rfl rfl) rfl ?_
    refine l_nil (n_then ?_)
    refine ref_cond rfl (fun hb15 => ?_) (fun hb15 => ?_)
    · refine ref_skip (n_then (ref_seq (ref_block (ref_seq ?_))))
      refine ref_draw [0, 1, 2, 3, 4, 5, 6, 7, 8, 9, 10, 11, 12, 13, 14, 15, 16, 17, 18, 19, 20, 21, 22, 23, 24, 25, 26] rfl (by kernel_rfl) (fun hok => ?_)
      refine a_rd (i := 0) hok rfl (by kernel_rfl) rfl (r_move rfl) rfl ?_
      refine a_rd (i := 1) hok rfl (by kernel_rfl) rfl (r_move rfl) rfl ?_
      refine pull fun t16 h_t16 => ?_
      refine a_rd (i := 2) hok rfl (by kernel_rfl) rfl (r_index h_t16 Tryd.underlying40 el_53 rfl rfl) rfl ?_
      refine a_rd (i := 3) hok rfl (by kernel_rfl) rfl (r_fea (fo := 1) (ρ := rT_api_Fraction) (y := t16) (ρ' := (rI .i64)) (z := t16.Den) Tryd.underlying53 rfl rfl Tryd.sizeOf3 rfl rfl rfl) rfl ?_
      refine a_rd (i := 4) hok rfl (by kernel_rfl) rfl (r_load el_3 rfl) rfl ?_
      refine a_rd (i := 5) hok rfl (by kernel_rfl) rfl (r_lss rfl rfl) rfl ?_
      refine a_rd (i := 6) hok rfl (by kernel_rfl) rfl (r_move rfl) rfl ?_
      refine b_split (t := 43) rfl (fun _ => ?_) (fun _ => ?_)
      · refine a_off (i := 7) hok rfl rfl rfl rfl rfl (by kernel_rfl) rfl rfl ?_
        refine a_off (i := 8) hok rfl rfl rfl rfl rfl (by kernel_rfl) rfl rfl ?_
        refine a_off (i := 9) hok rfl rfl rfl rfl rfl (by kernel_rfl) rfl rfl ?_
        refine a_off (i := 10) hok rfl rfl rfl rfl rfl (by kernel_rfl) rfl rfl ?_
        refine a_off (i := 11) hok rfl rfl rfl rfl rfl (by kernel_rfl) rfl rfl ?_
        refine a_off (i := 12) hok rfl rfl rfl rfl rfl (by kernel_rfl) rfl rfl ?_
        refine a_rd (i := 13) hok rfl (by kernel_rfl) rfl (r_pickT rfl rfl) rfl ?_
        refine a_rd (i := 14) hok rfl (by kernel_rfl) rfl (r_move rfl) rfl ?_
        refine a_off (i := 15) hok rfl rfl rfl rfl rfl (by kernel_rfl) rfl rfl ?_
        refine a_off (i := 16) hok rfl rfl rfl rfl rfl (by kernel_rfl) rfl rfl ?_
        refine a_off (i := 17) hok rfl rfl rfl rfl rfl (by kernel_rfl) rfl rfl ?_
        refine a_off (i := 18) hok rfl rfl rfl rfl rfl (by kernel_rfl) rfl rfl ?_
        refine a_off (i := 19) hok rfl rfl rfl rfl rfl (by kernel_rfl) rfl rfl ?_
        refine a_off (i := 20) hok rfl rfl rfl rfl rfl (by kernel_rfl) rfl rfl ?_
        refine a_off (i := 21) hok rfl rfl rfl rfl rfl (by kernel_rfl) rfl rfl ?_
        refine a_off (i := 22) hok rfl rfl rfl rfl rfl (by kernel_rfl) rfl rfl ?_
        refine a_off (i := 23) hok rfl rfl rfl rfl rfl (by kernel_rfl) rfl rfl ?_
        refine a_off (i := 24) hok rfl rfl rfl rfl rfl (by kernel_rfl) rfl rfl ?_
        refine a_off (i := 25) hok rfl rfl rfl rfl rfl (by kernel_rfl) rfl rfl ?_
        refine a_rd (i := 26) hok rfl (by kernel_rfl) rfl (r_pickT rfl rfl) rfl ?_
        refine a_fin hok (by kernel_rfl) ?_
        refine n_then ?_
        refine ref_condT rfl rfl ?_
        refine ref_seq (ref_region ?_)
        refine as1 rfl rfl ?_
        refine as1 rfl rfl ?_
        refine l_nil (n_then (ref_ret (r_block (r_then ?_))))
        refine retX ?_
        refine r_block (r_then ?_)
        refine b_of (own_nil rT_api_Fraction) ?_
        exact fin2 (.inl rfl) ((.slice none 0 0), []) [1] rfl ⟨rfl, trivial⟩ rfl (rv_tmp rfl) (rv_tmp rfl)
      refine a_rdOn (i := 7) hok rfl rfl rfl rfl (by kernel_rfl) rfl (r_move rfl) rfl ?_
      refine a_rdOn (i := 8) hok rfl rfl rfl rfl (by kernel_rfl) rfl (r_move rfl) rfl ?_
      refine pull fun t17 h_t17 => ?_
      refine a_rdOn (i := 9) hok rfl rfl rfl rfl (by kernel_rfl) rfl (r_index h_t17 Tryd.underlying40 el_53 rfl rfl) rfl ?_
      refine a_rdOn (i := 10) hok rfl rfl rfl rfl (by kernel_rfl) rfl (r_fea (fo := 0) (ρ := rT_api_Fraction) (y := t17) (ρ' := (rI .i64)) (z := t17.Num) Tryd.underlying53 rfl rfl Tryd.sizeOf3 rfl rfl rfl) rfl ?_
      refine a_rdOn (i := 11) hok rfl rfl rfl rfl (by kernel_rfl) rfl (r_load el_3 rfl) rfl ?_
      refine a_rdOn (i := 12) hok rfl rfl rfl rfl (by kernel_rfl) rfl (r_lss rfl rfl) rfl ?_
      refine a_rd (i := 13) hok rfl (by kernel_rfl) rfl (r_pickF rfl rfl) rfl ?_
      refine a_rd (i := 14) hok rfl (by kernel_rfl) rfl (r_move rfl) rfl ?_
      refine b_split (t := 51) rfl (fun _ => ?_) (fun _ => ?_)
      · refine a_off (i := 15) hok rfl rfl rfl rfl rfl (by kernel_rfl) rfl rfl ?_
        refine a_off (i := 16) hok rfl rfl rfl rfl rfl (by kernel_rfl) rfl rfl ?_
        refine a_off (i := 17) hok rfl rfl rfl rfl rfl (by kernel_rfl) rfl rfl ?_
        refine a_off (i := 18) hok rfl rfl rfl rfl rfl (by kernel_rfl) rfl rfl ?_
        refine a_off (i := 19) hok rfl rfl rfl rfl rfl (by kernel_rfl) rfl rfl ?_
        refine a_off (i := 20) hok rfl rfl rfl rfl rfl (by kernel_rfl) rfl rfl ?_
        refine a_off (i := 21) hok rfl rfl rfl rfl rfl (by kernel_rfl) rfl rfl ?_
        refine a_off (i := 22) hok rfl rfl rfl rfl rfl (by kernel_rfl) rfl rfl ?_
        refine a_off (i := 23) hok rfl rfl rfl rfl rfl (by kernel_rfl) rfl rfl ?_
        refine a_off (i := 24) hok rfl rfl rfl rfl rfl (by kernel_rfl) rfl rfl ?_
        refine a_off (i := 25) hok rfl rfl rfl rfl rfl (by kernel_rfl) rfl rfl ?_
        refine a_rd (i := 26) hok rfl (by kernel_rfl) rfl (r_pickT rfl rfl) rfl ?_
        refine a_fin hok (by kernel_rfl) ?_
        refine n_then ?_
        refine ref_condT rfl rfl ?_
        refine ref_seq (ref_region ?_)
        refine as1 rfl rfl ?_
        refine as1 rfl rfl ?_
        refine l_nil (n_then (ref_ret (r_block (r_then ?_))))
        refine retX ?_
        refine r_block (r_then ?_)
        refine b_of (own_nil rT_api_Fraction) ?_
        exact fin2 (.inl rfl) ((.slice none 0 0), []) [1] rfl ⟨rfl, trivial⟩ rfl (rv_tmp rfl) (rv_tmp rfl)
      refine a_rdOn (i := 15) hok rfl rfl rfl rfl (by kernel_rfl) rfl (r_move rfl) rfl ?_
      refine a_rdOn (i := 16) hok rfl rfl rfl rfl (by kernel_rfl) rfl (r_move rfl) rfl ?_
      refine pull fun t18 h_t18 => ?_
      refine a_rdOn (i := 17) hok rfl rfl rfl rfl (by kernel_rfl) rfl (r_index h_t18 Tryd.underlying40 el_53 rfl rfl) rfl ?_
      refine a_rdOn (i := 18) hok rfl rfl rfl rfl (by kernel_rfl) rfl (r_fea (fo := 0) (ρ := rT_api_Fraction) (y := t18) (ρ' := (rI .i64)) (z := t18.Num) Tryd.underlying53 rfl rfl Tryd.sizeOf3 rfl rfl rfl) rfl ?_
      refine a_rdOn (i := 19) hok rfl rfl rfl rfl (by kernel_rfl) rfl (r_load el_3 rfl) rfl ?_
      refine a_rdOn (i := 20) hok rfl rfl rfl rfl (by kernel_rfl) rfl (r_move rfl) rfl ?_
      refine a_rdOn (i := 21) hok rfl rfl rfl rfl (by kernel_rfl) rfl (r_move rfl) rfl ?_
      refine pull fun t19 h_t19 => ?_
      refine a_rdOn (i := 22) hok rfl rfl rfl rfl (by kernel_rfl) rfl (r_index h_t19 Tryd.underlying40 el_53 rfl rfl) rfl ?_
      refine a_rdOn (i := 23) hok rfl rfl rfl rfl (by kernel_rfl) rfl (r_fea (fo := 1) (ρ := rT_api_Fraction) (y := t19) (ρ' := (rI .i64)) (z := t19.Den) Tryd.underlying53 rfl rfl Tryd.sizeOf3 rfl rfl rfl) rfl ?_
      refine a_rdOn (i := 24) hok rfl rfl rfl rfl (by kernel_rfl) rfl (r_load el_3 rfl) rfl ?_
      refine a_rdOn (i := 25) hok rfl rfl rfl rfl (by kernel_rfl) rfl (r_gtr rfl rfl) rfl ?_
      refine a_rd (i := 26) hok rfl (by kernel_rfl) rfl (r_pickF rfl rfl) rfl ?_
      refine a_fin hok (by kernel_rfl) ?_
      refine n_then ?_
      refine ref_cond rfl (fun hb20 => ?_) (fun hb20 => ?_)
      · refine ref_seq (ref_region ?_)
        refine as1 rfl rfl ?_
        refine as1 rfl rfl ?_
        refine l_nil (n_then (ref_ret (r_block (r_then ?_))))
        refine retX ?_
        refine r_block (r_then ?_)
        refine b_of (own_nil rT_api_Fraction) ?_
        exact fin2 (.inl rfl) ((.slice none 0 0), []) [1] rfl ⟨rfl, trivial⟩ rfl (rv_tmp rfl) (rv_tmp rfl)
      refine ref_skip (n_block (n_then (ref_region ?_)))
      refine mv1 rfl rfl ?_
      refine s_rd (r_add rfl rfl) rfl ?_
      refine as1 rfl rfl ?_
      refine b_let (f := iv .i64) (t := 7) rfl fun i21 => ?_
      refine l_nil ?_
      exact goX () (weak [0] ⟨rfl, rfl, rfl, trivial⟩ ⟨rfl, trivial⟩)
    refine ref_exit (x_then ?_)
    exact brkX () (weak [0] ⟨rfl, rfl, trivial⟩ ⟨rfl, trivial⟩)
  refine n_then (ref_seq (ref_region ?_))
  refine s_rd (r_cloadS Tryd.isAgg27 Tryd.sizeOf27 rfl (j := 0) rfl rfl rfl) rfl ?_
  refine pull fun order24 h_order24 => ?_
  refine s_st (s_call (ψ := fun (x25 : (Value × List Nat)) => pv x25.1) (args := [.tmp 64]) Tryd.call53 rfl (ref22_Order_ok h_order24) ⟨arg rfl, trivial⟩ (fun _ _ _ _ h => h)) rfl (fun x25 => ?_)
  refine as1 rfl rfl ?_
  refine l_nil (n_then (ref_seq (ref_seq (ref_region ?_))))
  refine mv1 rfl rfl ?_
  refine s_rd (r_olen Tryd.underlying22 rfl (j := 1) rfl) rfl ?_
  refine s_rd (r_faddr (fo := 0) Tryd.underlying27 rfl rfl Tryd.sizeOf3 rfl) rfl ?_
  refine s_rd (r_cload Tryd.isAgg3 rfl (j := 0) rfl rfl) rfl ?_
  refine s_rd (r_lss rfl rfl) rfl ?_
  refine l_nil (n_then ?_)
  refine ref_cond rfl (fun hb26 => ?_) (fun hb26 => ?_)
  · refine ref_seq (ref_region ?_)
    refine as1 rfl rfl ?_
    refine as1 rfl rfl ?_
    refine l_nil (n_then (ref_ret (r_then ?_)))
    refine b_of (own_nil rT_api_Fraction) ?_
    exact fin2 (.inl rfl) ((.slice none 0 0), []) [2] rfl ⟨rfl, trivial⟩ rfl (rv_tmp rfl) (rv_tmp rfl)
  refine ref_skip (n_then (ref_seq (ref_region ?_)))
  refine s_rd (r_faddr (fo := 0) Tryd.underlying27 rfl rfl Tryd.sizeOf3 rfl) rfl ?_
  refine s_rd (r_cload Tryd.isAgg3 rfl (j := 0) rfl rfl) rfl ?_
  refine pull fun out27 h_out27 => ?_
  refine s_st (s_make h_out27 Tryd.underlying40 el_53 ze_53 rfl rfl) rfl (fun o28 => ?_)
  refine as1 rfl rfl ?_
  refine l_nil (n_then (ref_seq (ref_seq (ref_region ?_))))
  refine mv1 rfl rfl ?_
  refine s_rd (r_olen Tryd.underlying22 rfl (j := 1) rfl) rfl ?_
  refine mv1 rfl rfl ?_
  refine l_nil (n_then ?_)
  refine ref_loopX (f := (ref22_Strength_l2 g_0 base_1 order24)) (Γl := (fun (s111 : Int × (List T_api_Fraction)) (x112 : Unit) => [(1, slv rT_api_Fraction base_1), (2, pv (ptr b1 0)), (9, pv o28.1), (74, pv x25.1), (75, iv .i64 (order24.length : Int)), (76, iv .i64 s111.1)])) (Ωl := (fun (s111 : Int × (List T_api_Fraction)) (x112 : Unit) => [oc b1 [iv .i64 g_0.N, slv rT_api_Pair g_0.L], oa rT_api_Fraction o28.1 o28.2 s111.2, oa (rI .i64) x25.1 x25.2 order24])) (Γb := (fun (q152 : (List T_api_Fraction)) (y153 : Unit) => [(9, pv o28.1)])) (Ωb := (fun (q152 : (List T_api_Fraction)) (y153 : Unit) => [oa rT_api_Fraction o28.1 o28.2 q152])) (kr := (fun a : List T_api_Fraction × Int => some a)) (0, out27) () (weak [0, 2, 1] ⟨rfl, rfl, rfl, rfl, rfl, rfl, trivial⟩ ⟨rfl, rfl, rfl, trivial⟩) (fun s111 x112 => ?_) (fun q152 y153 => ?_)
  · unfold ref22_Strength_l2
    refine ref_seq (ref_region ?_)
    refine s_rd (r_lss rfl rfl) rfl ?_
    refine l_nil (n_then (ref_seq ?_))
    refine ref_cond rfl (fun hb113 => ?_) (fun hb113 => ?_)
    · refine ref_skip (n_then (ref_seq (ref_block (ref_seq (ref_region ?_)))))
      refine pull fun a_114 h_a_114 => ?_
      refine s_rd (r_oindex h_a_114 Tryd.underlying22 el_3 rfl (j := 2) rfl rfl) rfl ?_
      refine s_rd (r_oload h_a_114 el_3 rfl (j := 2) rfl) rfl ?_
      refine as1 rfl rfl ?_
      refine l_nil (n_then (ref_seq (ref_region ?_)))
      refine s_rd (r_build (ps := [(0, .const (.int .i64 (1))), (1, .const (.int .i64 (1)))]) (rs := [(0, [iv .i64 1]), (1, [iv .i64 1])]) st_53 zs_53 ⟨rfl, (part_at rfl iv_at), ⟨rfl, (part_at rfl iv_at), trivial⟩⟩ rfl rfl) rfl ?_
      refine s_st (s_alloc zt_53) rfl (fun b115 => ?_)
      refine s_st0 (s_cstore (out := [iv .i64 1, iv .i64 1]) Tryd.sizeOf53 rfl (j := 3) rfl (part_agO (ψs := [iv .i64 1, iv .i64 1]) rfl ⟨.inl iv_at, .inl iv_at, trivial⟩) rfl rfl rfl) (fun _ => ?_)
      refine l_nil ?_
      refine b_of (nrm [oc b1 [iv .i64 g_0.N, slv rT_api_Pair g_0.L], oa rT_api_Fraction o28.1 o28.2 s111.2, oa (rI .i64) x25.1 x25.2 order24, oc b115 [iv .i64 1, iv .i64 1]] rfl) ?_
      refine n_then (ref_seq (ref_seq (ref_region ?_)))
      refine as1 rfl rfl ?_
      refine l_nil (n_then ?_)
      refine ref_loopX (f := (ref22_Strength_l3 g_0 s111 a_114)) (Γl := (fun (s126 : Int × T_api_Fraction) (x127 : Unit) => [(1, slv rT_api_Fraction base_1), (2, pv (ptr b1 0)), (9, pv o28.1), (11, iv .i64 a_114), (12, pv (ptr b115 0)), (13, iv .i64 s126.1), (74, pv x25.1), (75, iv .i64 (order24.length : Int)), (76, iv .i64 s111.1)])) (Ωl := (fun (s126 : Int × T_api_Fraction) (x127 : Unit) => [oc b1 [iv .i64 g_0.N, slv rT_api_Pair g_0.L], oa rT_api_Fraction o28.1 o28.2 s111.2, oc b115 [iv .i64 s126.2.Num, iv .i64 s126.2.Den], oa (rI .i64) x25.1 x25.2 order24])) (Γb := (fun (q138 : T_api_Fraction) (y139 : Unit) => [(1, slv rT_api_Fraction base_1), (2, pv (ptr b1 0)), (9, pv o28.1), (11, iv .i64 a_114), (12, pv (ptr b115 0)), (74, pv x25.1), (75, iv .i64 (order24.length : Int)), (76, iv .i64 s111.1)])) (Ωb := (fun (q138 : T_api_Fraction) (y139 : Unit) => [oc b1 [iv .i64 g_0.N, slv rT_api_Pair g_0.L], oa rT_api_Fraction o28.1 o28.2 s111.2, oc b115 [iv .i64 q138.Num, iv .i64 q138.Den], oa (rI .i64) x25.1 x25.2 order24])) (kr := (fun a : List T_api_Fraction × Int => some (Sum.inl (Sum.inl a)))) (0, (T_api_Fraction.mk 1 1)) () (weak [0, 1, 3, 2] ⟨rfl, rfl, rfl, rfl, rfl, rfl, rfl, rfl, rfl, trivial⟩ ⟨rfl, rfl, rfl, rfl, trivial⟩) (fun s126 x127 => ?_) (fun q138 y139 => ?_)
      · unfold ref22_Strength_l3
        refine ref_seq (ref_seq (ref_region ?_))
        refine mv1 rfl rfl ?_
        refine s_rd (r_faddr (fo := 0) Tryd.underlying27 rfl rfl Tryd.sizeOf3 rfl) rfl ?_
        refine s_rd (r_cload Tryd.isAgg3 rfl (j := 0) rfl rfl) rfl ?_
        refine s_rd (r_lss rfl rfl) rfl ?_
        refine l_nil (n_then ?_)
        refine ref_cond rfl (fun hb128 => ?_) (fun hb128 => ?_)
        · refine ref_skip (n_then (ref_seq (ref_block (ref_seq (ref_seq (ref_region ?_))))))
          refine s_rd (r_cloadS Tryd.isAgg27 Tryd.sizeOf27 rfl (j := 0) rfl rfl rfl) rfl ?_
          refine mv1 rfl rfl ?_
          refine mv1 rfl rfl ?_
          refine pull fun t129 h_t129 => ?_
          refine s_st (s_call (ψ := fun (_ : Unit) => bv t129) (args := [.tmp 87, .tmp 88, .tmp 89]) Tryd.call23 rfl (net_Has_ok h_t129) ⟨arg rfl, arg rfl, arg rfl, trivial⟩ (fun _ _ _ _ h => h)) rfl (fun _ => ?_)
          refine s_rd (r_not rfl) rfl ?_
          refine l_nil (n_then ?_)
          refine ref_cond rfl (fun hb130 => ?_) (fun hb130 => ?_)
          · refine ref_exit (x_then (x_eq (n_then (ref_region ?_))))
            refine mv1 rfl rfl ?_
            refine s_rd (r_add rfl rfl) rfl ?_
            refine as1 rfl rfl ?_
            refine b_let (f := iv .i64) (t := 13) rfl fun b136 => ?_
            refine l_nil ?_
            exact goX () (weak [0, 1, 2, 3] ⟨rfl, rfl, rfl, rfl, rfl, rfl, rfl, rfl, rfl, trivial⟩ ⟨rfl, rfl, rfl, rfl, trivial⟩)
          refine ref_skip (n_then (ref_seq ?_))
          refine pull fun t132 h_t132 => ?_
          refine pull fun t133 h_t133 => ?_
          refine ref_drawI 1 [⟨[], [], [], [2], [], fun us u => ag [iv .i64 s126.2.Num, iv .i64 s126.2.Den], fun us u => []⟩, ⟨[], [], [], [], [], fun us u => pv o28.1, fun us u => []⟩, ⟨[], [], [], [], [], fun us u => iv .i64 s126.1, fun us u => []⟩, ⟨[1, 2], [], [], [1], [], fun us u => pv (elA o28.1 (rT_api_Fraction).size s126.1), fun us u => []⟩, ⟨[1, 2, 3], [], [], [1], [], fun us u => ag [iv .i64 t132.Num, iv .i64 t132.Den], fun us u => []⟩, ⟨[0, 1, 2, 3, 4], [], [], [], [], fun us u => tup [ag [iv .i64 t133.1.Num, iv .i64 t133.1.Den], bv t133.2], fun us u => []⟩, ⟨[0, 1, 2, 3, 4, 5], [], [], [], [], fun us u => tup [ag [iv .i64 t133.1.Num, iv .i64 t133.1.Den], bv t133.2], fun us u => []⟩, ⟨[0, 1, 2, 3, 4, 5, 6], [], [], [], [], fun us u => ag [iv .i64 t133.1.Num, iv .i64 t133.1.Den], fun us u => []⟩, ⟨[0, 1, 2, 3, 4, 5, 6], [], [], [], [], fun us u => bv t133.2, fun us u => []⟩, ⟨[], [], [4], [4], [], fun us u => pv (ptr u.Nn 0), fun us u => [oc u.Nn [iv .i64 0, iv .i64 0]]⟩, ⟨[0, 1, 2, 3, 4, 5, 6, 7, 9], [9], [4], [4], [4], fun us u => pv undef, fun us u => [oc (us.getD 0 .none).Nn [iv .i64 t133.1.Num, iv .i64 t133.1.Den]]⟩, ⟨[0, 1, 2, 3, 4, 5, 6, 7, 8, 9, 10], [], [], [], [], fun us u => bv t133.2, fun us u => []⟩] (fun χ131 => [(1, slv rT_api_Fraction base_1), (2, pv (ptr b1 0)), (9, pv o28.1), (11, iv .i64 a_114), (12, pv (ptr b115 0)), (13, iv .i64 s126.1), (14, pv (ptr (χ131 9).Nn 0)), (15, bv t133.2), (74, pv x25.1), (75, iv .i64 (order24.length : Int)), (76, iv .i64 s111.1)]) (fun χ131 => [oc b1 [iv .i64 g_0.N, slv rT_api_Pair g_0.L], oa rT_api_Fraction o28.1 o28.2 s111.2, oc b115 [iv .i64 s126.2.Num, iv .i64 s126.2.Den], oa (rI .i64) x25.1 x25.2 order24, oc (χ131 9).Nn [iv .i64 t133.1.Num, iv .i64 t133.1.Den]]) rfl (by kernel_rfl) ⟨fun χ131 Ω ⟨h2, _⟩ => St.toR (r_cloadS Tryd.isAgg53 Tryd.sizeOf53 rfl (j := 2) h2 rfl rfl) (fun _ => rfl) (fun _ => rfl), (by intro _ h; cases h; rfl), ⟨fun χ131 Ω _ => St.toR (r_move rfl) (fun _ => rfl) (fun _ => rfl), (by intro _ h; cases h; rfl), ⟨fun χ131 Ω _ => St.toR (r_move rfl) (fun _ => rfl) (fun _ => rfl), (by intro _ h; cases h; rfl), ⟨fun χ131 Ω ⟨h1, _⟩ => St.toR (r_oindex h_t132 Tryd.underlying40 el_53 rfl (j := 1) h1 rfl) (fun _ => rfl) (fun _ => rfl), (by intro _ h; cases h; rfl), ⟨fun χ131 Ω ⟨h1, _⟩ => St.toR (r_oload h_t132 el_53 rfl (j := 1) h1) (fun _ => rfl) (fun _ => rfl), (by intro _ h; cases h; rfl), ⟨fun χ131 Ω _ => St.to XU.U XU.hU (St.placeL [] (s_call (ψ := fun (_ : Unit) => tup [ag [iv .i64 t133.1.Num, iv .i64 t133.1.Den], bv t133.2]) (args := [.tmp 93, .tmp 97]) Tryd.call54 rfl (ref22_add_ok h_t133) ⟨arg rfl, arg rfl, trivial⟩ (fun _ _ _ _ h => h)) (fun _ => rfl) (fun _ => trivial)) (fun _ => rfl) (fun _ => rfl), (by intro _ h; cases h; rfl), ⟨fun χ131 Ω _ => St.toR (r_move rfl) (fun _ => rfl) (fun _ => rfl), (by intro _ h; cases h; rfl), ⟨fun χ131 Ω _ => St.toR (r_extract rfl rfl) (fun _ => rfl) (fun _ => rfl), (by intro _ h; cases h; rfl), ⟨fun χ131 Ω _ => St.toR (r_extract rfl rfl) (fun _ => rfl) (fun _ => rfl), (by intro _ h; cases h; rfl), ⟨fun χ131 Ω ⟨h4, _⟩ => St.to XU.Nn XU.hN (St.placeL (os := fun _ => [_]) [4] (s_alloc zt_53) (fun _ => rfl) (fun _ => ⟨h4, rfl, trivial⟩)) (fun _ => rfl) (fun _ => rfl), (by intro _ h; cases h; rfl), ⟨fun χ131 Ω ⟨h4, _⟩ => St.to XU.U XU.hU (s_cstore (out := [iv .i64 t133.1.Num, iv .i64 t133.1.Den]) Tryd.sizeOf53 rfl (j := 4) h4 (part_agO (ψs := [iv .i64 t133.1.Num, iv .i64 t133.1.Den]) rfl ⟨.inl iv_at, .inl iv_at, trivial⟩) rfl rfl rfl) (fun _ => rfl) (fun _ => rfl), (by intro _ h; cases h), ⟨fun χ131 Ω _ => St.toR (r_assign rfl) (fun _ => rfl) (fun _ => rfl), (by intro _ h; cases h; rfl), trivial⟩⟩⟩⟩⟩⟩⟩⟩⟩⟩⟩⟩ (fun _ => ⟨rfl, rfl, rfl, rfl, rfl, rfl, rfl, rfl, rfl, rfl, rfl, trivial⟩) (fun _ => rfl) (fun χ131 => ?_)
          refine n_then (ref_seq (ref_seq (ref_region ?_)))
          refine mv1 rfl rfl ?_
          refine s_rd (r_not rfl) rfl ?_
          refine l_nil (n_then ?_)
          refine ref_cond rfl (fun hb135 => ?_) (fun hb135 => ?_)
          · refine ref_seq (ref_region ?_)
            refine as1 rfl rfl ?_
            refine as1 rfl rfl ?_
            refine l_nil (n_then (ref_ret (r_then (r_block (r_then ?_)))))
            refine retX ?_
            refine r_block (r_then (r_block (r_then ?_)))
            refine retX ?_
            refine r_block (r_then ?_)
            refine b_of (own_nil rT_api_Fraction) ?_
            exact fin2 (.inl rfl) ((.slice none 0 0), []) [5] rfl ⟨rfl, trivial⟩ rfl (rv_tmp rfl) (rv_tmp rfl)
          refine ref_skip (n_then (ref_region ?_))
          refine s_rd (r_cloadS Tryd.isAgg53 Tryd.sizeOf53 rfl (j := 4) rfl rfl rfl) rfl ?_
          refine s_st0 (s_cstore (out := [iv .i64 t133.1.Num, iv .i64 t133.1.Den]) Tryd.sizeOf53 rfl (j := 2) rfl (part_agO (ψs := [iv .i64 t133.1.Num, iv .i64 t133.1.Den]) rfl ⟨.inl iv_at, .inl iv_at, trivial⟩) rfl rfl rfl) (fun _ => ?_)
          refine l_nil (n_block (n_then (ref_region ?_)))
          refine mv1 rfl rfl ?_
          refine s_rd (r_add rfl rfl) rfl ?_
          refine as1 rfl rfl ?_
          refine b_let (f := iv .i64) (t := 13) rfl fun b137 => ?_
          refine l_nil ?_
          exact goX () (weak [0, 1, 2, 3] ⟨rfl, rfl, rfl, rfl, rfl, rfl, rfl, rfl, rfl, trivial⟩ ⟨rfl, rfl, rfl, rfl, trivial⟩)
        refine ref_exit (x_then ?_)
        exact brkX () (weak [0, 1, 2, 3] ⟨rfl, rfl, rfl, rfl, rfl, rfl, rfl, rfl, trivial⟩ ⟨rfl, rfl, rfl, rfl, trivial⟩)
      refine n_then (ref_seq ?_)
      refine pull fun t141 h_t141 => ?_
      refine pull fun t142 h_t142 => ?_
      refine pull fun t143 h_t143 => ?_
      refine ref_drawI 1 [⟨[], [], [], [], [], fun us u => slv rT_api_Fraction base_1, fun us u => []⟩, ⟨[], [], [], [], [], fun us u => iv .i64 a_114, fun us u => []⟩, ⟨[0, 1], [], [], [], [], fun us u => ea rT_api_Fraction t141, fun us u => []⟩, ⟨[0, 1, 2], [], [], [], [], fun us u => ea (rI .i64) t141.Num, fun us u => []⟩, ⟨[0, 1, 2, 3], [], [], [], [], fun us u => iv .i64 t141.Num, fun us u => []⟩, ⟨[], [], [], [], [], fun us u => slv rT_api_Fraction base_1, fun us u => []⟩, ⟨[], [], [], [], [], fun us u => iv .i64 a_114, fun us u => []⟩, ⟨[5, 6], [], [], [], [], fun us u => ea rT_api_Fraction t142, fun us u => []⟩, ⟨[5, 6, 7], [], [], [], [], fun us u => ea (rI .i64) t142.Den, fun us u => []⟩, ⟨[5, 6, 7, 8], [], [], [], [], fun us u => iv .i64 t142.Den, fun us u => []⟩, ⟨[0, 1, 2, 3, 4, 5, 6, 7, 8, 9], [], [], [], [], fun us u => ag [iv .i64 t143.Num, iv .i64 t143.Den], fun us u => []⟩, ⟨[], [], [4], [4], [], fun us u => pv (ptr u.Nn 0), fun us u => [oc u.Nn [iv .i64 0, iv .i64 0]]⟩, ⟨[0, 1, 2, 3, 4, 5, 6, 7, 8, 9, 10, 11], [11], [4], [4], [4], fun us u => pv undef, fun us u => [oc (us.getD 0 .none).Nn [iv .i64 t143.Num, iv .i64 t143.Den]]⟩] (fun χ140 => [(1, slv rT_api_Fraction base_1), (2, pv (ptr b1 0)), (9, pv o28.1), (11, iv .i64 a_114), (12, pv (ptr b115 0)), (16, pv (ptr (χ140 11).Nn 0)), (74, pv x25.1), (75, iv .i64 (order24.length : Int)), (76, iv .i64 s111.1)]) (fun χ140 => [oc b1 [iv .i64 g_0.N, slv rT_api_Pair g_0.L], oa rT_api_Fraction o28.1 o28.2 s111.2, oc b115 [iv .i64 q138.Num, iv .i64 q138.Den], oa (rI .i64) x25.1 x25.2 order24, oc (χ140 11).Nn [iv .i64 t143.Num, iv .i64 t143.Den]]) rfl (by kernel_rfl) ⟨fun χ140 Ω _ => St.toR (r_move rfl) (fun _ => rfl) (fun _ => rfl), (by intro _ h; cases h; rfl), ⟨fun χ140 Ω _ => St.toR (r_move rfl) (fun _ => rfl) (fun _ => rfl), (by intro _ h; cases h; rfl), ⟨fun χ140 Ω _ => St.toR (r_index h_t141 Tryd.underlying40 el_53 rfl rfl) (fun _ => rfl) (fun _ => rfl), (by intro _ h; cases h; rfl), ⟨fun χ140 Ω _ => St.toR (r_fea (fo := 0) (ρ := rT_api_Fraction) (y := t141) (ρ' := (rI .i64)) (z := t141.Num) Tryd.underlying53 rfl rfl Tryd.sizeOf3 rfl rfl rfl) (fun _ => rfl) (fun _ => rfl), (by intro _ h; cases h; rfl), ⟨fun χ140 Ω _ => St.toR (r_load el_3 rfl) (fun _ => rfl) (fun _ => rfl), (by intro _ h; cases h; rfl), ⟨fun χ140 Ω _ => St.toR (r_move rfl) (fun _ => rfl) (fun _ => rfl), (by intro _ h; cases h; rfl), ⟨fun χ140 Ω _ => St.toR (r_move rfl) (fun _ => rfl) (fun _ => rfl), (by intro _ h; cases h; rfl), ⟨fun χ140 Ω _ => St.toR (r_index h_t142 Tryd.underlying40 el_53 rfl rfl) (fun _ => rfl) (fun _ => rfl), (by intro _ h; cases h; rfl), ⟨fun χ140 Ω _ => St.toR (r_fea (fo := 1) (ρ := rT_api_Fraction) (y := t142) (ρ' := (rI .i64)) (z := t142.Den) Tryd.underlying53 rfl rfl Tryd.sizeOf3 rfl rfl rfl) (fun _ => rfl) (fun _ => rfl), (by intro _ h; cases h; rfl), ⟨fun χ140 Ω _ => St.toR (r_load el_3 rfl) (fun _ => rfl) (fun _ => rfl), (by intro _ h; cases h; rfl), ⟨fun χ140 Ω _ => St.to XU.U XU.hU (St.placeL [] (s_call (ψ := fun (_ : Unit) => ag [iv .i64 t143.Num, iv .i64 t143.Den]) (args := [.tmp 108, .tmp 113]) Tryd.call55 rfl (ref22_Reduced_ok h_t143) ⟨arg rfl, arg rfl, trivial⟩ (fun _ _ _ _ h => h)) (fun _ => rfl) (fun _ => trivial)) (fun _ => rfl) (fun _ => rfl), (by intro _ h; cases h; rfl), ⟨fun χ140 Ω ⟨h4, _⟩ => St.to XU.Nn XU.hN (St.placeL (os := fun _ => [_]) [4] (s_alloc zt_53) (fun _ => rfl) (fun _ => ⟨h4, rfl, trivial⟩)) (fun _ => rfl) (fun _ => rfl), (by intro _ h; cases h; rfl), ⟨fun χ140 Ω ⟨h4, _⟩ => St.to XU.U XU.hU (s_cstore (out := [iv .i64 t143.Num, iv .i64 t143.Den]) Tryd.sizeOf53 rfl (j := 4) h4 (part_agO (ψs := [iv .i64 t143.Num, iv .i64 t143.Den]) rfl ⟨.inl iv_at, .inl iv_at, trivial⟩) rfl rfl rfl) (fun _ => rfl) (fun _ => rfl), (by intro _ h; cases h), trivial⟩⟩⟩⟩⟩⟩⟩⟩⟩⟩⟩⟩⟩ (fun _ => ⟨rfl, rfl, rfl, rfl, rfl, rfl, rfl, rfl, rfl, trivial⟩) (fun _ => rfl) (fun χ140 => ?_)
      refine n_then (ref_seq (ref_region ?_))
      refine s_rd (r_faddr (fo := 0) Tryd.underlying53 rfl rfl Tryd.sizeOf3 rfl) rfl ?_
      refine s_rd (r_cload Tryd.isAgg3 rfl (j := 4) rfl rfl) rfl ?_
      refine s_rd (r_faddr (fo := 1) Tryd.underlying53 rfl rfl Tryd.sizeOf3 rfl) rfl ?_
      refine s_rd (r_cload Tryd.isAgg3 rfl (j := 2) rfl rfl) rfl ?_
      refine pull fun t145 h_t145 => ?_
      refine s_st (s_call (ψ := fun (_ : Unit) => tup [iv .i64 t145.1, bv t145.2]) (args := [.tmp 117, .tmp 119]) Tryd.call56 rfl (ref22_product_ok h_t145) ⟨arg rfl, arg rfl, trivial⟩ (fun _ _ _ _ h => h)) rfl (fun _ => ?_)
      refine mv1 rfl rfl ?_
      refine s_rd (r_extract rfl rfl) rfl ?_
      refine s_rd (r_extract rfl rfl) rfl ?_
      refine as1 rfl rfl ?_
      refine as1 rfl rfl ?_
      refine l_nil (n_then (ref_seq (ref_region ?_)))
      refine s_rd (r_faddr (fo := 1) Tryd.underlying53 rfl rfl Tryd.sizeOf3 rfl) rfl ?_
      refine s_rd (r_cload Tryd.isAgg3 rfl (j := 4) rfl rfl) rfl ?_
      refine s_rd (r_faddr (fo := 0) Tryd.underlying53 rfl rfl Tryd.sizeOf3 rfl) rfl ?_
      refine s_rd (r_cload Tryd.isAgg3 rfl (j := 2) rfl rfl) rfl ?_
      refine pull fun t146 h_t146 => ?_
      refine s_st (s_call (ψ := fun (_ : Unit) => tup [iv .i64 t146.1, bv t146.2]) (args := [.tmp 125, .tmp 127]) Tryd.call56 rfl (ref22_product_ok h_t146) ⟨arg rfl, arg rfl, trivial⟩ (fun _ _ _ _ h => h)) rfl (fun _ => ?_)
      refine mv1 rfl rfl ?_
      refine s_rd (r_extract rfl rfl) rfl ?_
      refine s_rd (r_extract rfl rfl) rfl ?_
      refine as1 rfl rfl ?_
      refine as1 rfl rfl ?_
      refine l_nil (n_then (ref_seq (ref_seq (ref_region ?_))))
      refine mv1 rfl rfl ?_
      refine s_rd (r_not rfl) rfl ?_
      refine mv1 rfl rfl ?_
      refine b_split (t := 133) rfl (fun _ => ?_) (fun _ => ?_)
      · refine s_off rfl rfl rfl rfl rfl ?_
        refine s_off rfl rfl rfl rfl rfl ?_
        refine s_rd (r_pickT rfl rfl) rfl ?_
        refine mv1 rfl rfl ?_
        refine s_off rfl rfl rfl rfl rfl ?_
        refine s_off rfl rfl rfl rfl rfl ?_
        refine s_off rfl rfl rfl rfl rfl ?_
        refine s_off rfl rfl rfl rfl rfl ?_
        refine s_off rfl rfl rfl rfl rfl ?_
        refine s_rd (r_pickT rfl rfl) rfl ?_
        refine l_nil (n_then ?_)
        refine ref_condT rfl rfl ?_
        refine ref_seq (ref_region ?_)
        refine as1 rfl rfl ?_
        refine as1 rfl rfl ?_
        refine l_nil (n_then (ref_ret (r_then (r_block (r_then ?_)))))
        refine retX ?_
        refine r_block (r_then ?_)
        refine b_of (own_nil rT_api_Fraction) ?_
        exact fin2 (.inl rfl) ((.slice none 0 0), []) [5] rfl ⟨rfl, trivial⟩ rfl (rv_tmp rfl) (rv_tmp rfl)
      refine s_on rfl rfl rfl ?_
      refine mv1 rfl rfl ?_
      refine s_on rfl rfl rfl ?_
      refine s_rd (r_not rfl) rfl ?_
      refine s_rd (r_pickF rfl rfl) rfl ?_
      refine mv1 rfl rfl ?_
      refine b_split (t := 137) rfl (fun _ => ?_) (fun _ => ?_)
      · refine s_off rfl rfl rfl rfl rfl ?_
        refine s_off rfl rfl rfl rfl rfl ?_
        refine s_off rfl rfl rfl rfl rfl ?_
        refine s_off rfl rfl rfl rfl rfl ?_
        refine s_off rfl rfl rfl rfl rfl ?_
        refine s_rd (r_pickT rfl rfl) rfl ?_
        refine l_nil (n_then ?_)
        refine ref_condT rfl rfl ?_
        refine ref_seq (ref_region ?_)
        refine as1 rfl rfl ?_
        refine as1 rfl rfl ?_
        refine l_nil (n_then (ref_ret (r_then (r_block (r_then ?_)))))
        refine retX ?_
        refine r_block (r_then ?_)
        refine b_of (own_nil rT_api_Fraction) ?_
        exact fin2 (.inl rfl) ((.slice none 0 0), []) [5] rfl ⟨rfl, trivial⟩ rfl (rv_tmp rfl) (rv_tmp rfl)
      refine s_on rfl rfl rfl ?_
      refine mv1 rfl rfl ?_
      refine s_on rfl rfl rfl ?_
      refine mv1 rfl rfl ?_
      refine s_on rfl rfl rfl ?_
      refine pull fun t147 h_t147 => ?_
      refine s_st (s_call (ψ := fun (_ : Unit) => ag [iv .i64 t147.Num, iv .i64 t147.Den]) (args := [.tmp 138, .tmp 139]) Tryd.call55 rfl (ref22_Reduced_ok h_t147) ⟨arg rfl, arg rfl, trivial⟩ (fun _ _ _ _ h => h)) rfl (fun _ => ?_)
      refine s_on rfl rfl rfl ?_
      refine pull fun t148 h_t148 => ?_
      refine s_st (s_call (ψ := fun (_ : Unit) => bv t148) (args := [.tmp 140]) Tryd.call57 rfl (ref22_within_ok h_t148) ⟨arg rfl, trivial⟩ (fun _ _ _ _ h => h)) rfl (fun _ => ?_)
      refine s_on rfl rfl rfl ?_
      refine s_rd (r_not rfl) rfl ?_
      refine s_rd (r_pickF rfl rfl) rfl ?_
      refine l_nil ?_
      refine b_of (nrm [oc b1 [iv .i64 g_0.N, slv rT_api_Pair g_0.L], oa rT_api_Fraction o28.1 o28.2 s111.2, oc b115 [iv .i64 q138.Num, iv .i64 q138.Den], oa (rI .i64) x25.1 x25.2 order24, oc (χ140 11).Nn [iv .i64 t143.Num, iv .i64 t143.Den]] rfl) ?_
      refine n_then ?_
      refine ref_cond rfl (fun hb149 => ?_) (fun hb149 => ?_)
      · refine ref_seq (ref_region ?_)
        refine as1 rfl rfl ?_
        refine as1 rfl rfl ?_
        refine l_nil (n_then (ref_ret (r_then (r_block (r_then ?_)))))
        refine retX ?_
        refine r_block (r_then ?_)
        refine b_of (own_nil rT_api_Fraction) ?_
        exact fin2 (.inl rfl) ((.slice none 0 0), []) [5] rfl ⟨rfl, trivial⟩ rfl (rv_tmp rfl) (rv_tmp rfl)
      refine ref_skip (n_then (ref_region ?_))
      refine mv1 rfl rfl ?_
      refine mv1 rfl rfl ?_
      refine mv1 rfl rfl ?_
      refine mv1 rfl rfl ?_
      refine pull fun t150 h_t150 => ?_
      refine s_st (s_call (ψ := fun (_ : Unit) => ag [iv .i64 t150.Num, iv .i64 t150.Den]) (args := [.tmp 146, .tmp 147]) Tryd.call55 rfl (ref22_Reduced_ok h_t150) ⟨arg rfl, arg rfl, trivial⟩ (fun _ _ _ _ h => h)) rfl (fun _ => ?_)
      refine pull fun t151 h_t151 => ?_
      refine s_rd (r_oindex h_t151 Tryd.underlying40 el_53 rfl (j := 1) rfl rfl) rfl ?_
      refine s_st0 (s_ostore (u := t150) h_t151 el_53 rfl (j := 1) rfl (part_agO (ψs := [iv .i64 t150.Num, iv .i64 t150.Den]) rfl ⟨.inl iv_at, .inl iv_at, trivial⟩)) (fun _ => ?_)
      refine l_nil (n_block (n_then (ref_region ?_)))
      refine s_rd (r_add rfl rfl) rfl ?_
      refine mv1 rfl rfl ?_
      refine l_nil ?_
      exact goX () (weak [0, 1, 3] ⟨rfl, rfl, rfl, rfl, rfl, rfl, trivial⟩ ⟨rfl, rfl, rfl, trivial⟩)
    refine ref_exit (x_then ?_)
    exact brkX () (weak [1] ⟨rfl, trivial⟩ ⟨rfl, trivial⟩)
  refine n_then (ref_seq (ref_region ?_))
  refine mv1 rfl rfl ?_
  refine as1 rfl rfl ?_
  refine as1 rfl rfl ?_
  refine l_nil (n_then (ref_ret ?_))
  exact fin2 (.inl rfl) o28 [0] rfl ⟨rfl, trivial⟩ rfl (rv_tmp rfl) (rv_tmp rfl)

/-! deliberation/deliberationlaw22.DegreeStrengths -/
noncomputable def law22_DegreeStrengths_l1 (raw_0 : T_api_Graph) (base_1 : (List T_api_Fraction)) (t8 : T_api_Graph × T_deliberationkeep_Src) (t9 : T_api_Graph × T_deliberationkeep_Src) (t12 : List T_api_Fraction × T_deliberationkeep_Src) (t14 : List T_api_Fraction × T_deliberationkeep_Src) (t17 : List T_api_Fraction × T_deliberationkeep_Src) (s30 : Int) : Option (Sum ((Sum (Bool) (Unit))) (Int)) :=
  bif decide (s30 < ([(T_anon43.mk raw_0 base_1), (T_anon43.mk t8.1 t12.1), (T_anon43.mk t9.1 t14.1), (T_anon43.mk t8.1 base_1), (T_anon43.mk raw_0 t17.1)].length : Int)) then
    Option.bind (idxM [(T_anon43.mk raw_0 base_1), (T_anon43.mk t8.1 t12.1), (T_anon43.mk t9.1 t14.1), (T_anon43.mk t8.1 base_1), (T_anon43.mk raw_0 t17.1)] s30) fun t33 =>
    Option.bind (degree_Strength_m t33.g t33.b) fun t35 =>
    Option.bind (ref22_Strength_m t33.g t33.b) fun t37 =>
    bif t35.2 != t37.2 then
      some (Sum.inl (Sum.inl false))
    else
      Option.bind (ref22_Same_m t35.1 t37.1) fun t39 =>
      bif !t39 then
        some (Sum.inl (Sum.inl false))
      else
        some (Sum.inr (iadd .i64 s30 1))
  else
    some (Sum.inl (Sum.inr ()))

noncomputable def law22_DegreeStrengths_m (raw_0 : T_api_Graph) (base_1 : (List T_api_Fraction)) (l_2 : (List Int)) : Option (Bool) :=
  Option.bind (net_Light_m raw_0) fun t2 =>
  bif !t2 then
    Option.bind (law22_awake_m ) fun t3 =>
    some t3
  else
    bif decide ((base_1.length : Int) > 60) then
      Option.bind (law22_awake_m ) fun t5 =>
      some t5
    else
      Option.bind (keep_New_m l_2) fun s6 =>
      Option.bind (law22_acyclic_m s6 9) fun t8 =>
      Option.bind (net_Graph_m t8.2 6) fun t9 =>
      Option.bind (law22_fractions_m t9.2 t8.1.N) fun t12 =>
      Option.bind (law22_fractions_m t12.2 t9.1.N) fun t14 =>
      Option.bind (keep_Mod_m raw_0.N 41) fun t16 =>
      Option.bind (law22_fractions_m t14.2 t16) fun t17 =>
      Option.bind (loopC (law22_DegreeStrengths_l1 raw_0 base_1 t8 t9 t12 t14 t17) 0) (sumK (fun a : Bool => some a) fun q41 : Unit =>
        Option.bind (law22_awake_m ) fun t43 =>
        some t43)

theorem law22_DegreeStrengths_ok {raw_0 : T_api_Graph} {base_1 : (List T_api_Fraction)} {l_2 : (List Int)} {r : Bool} (hm : law22_DegreeStrengths_m raw_0 base_1 l_2 = some r) :
    FnOk prog 4 [ag [iv .i64 raw_0.N, slv rT_api_Pair raw_0.L], slv rT_api_Fraction base_1, slv (rI .i64) l_2] [tbO (rI .u8) 0 tab_0] (fun (x : Unit) => [bv r]) (fun (x : Unit) => [tbO (rI .u8) 0 tab_0]) := by
  refine fn_ok (fn := Tryd.f4) (N := 89) (res := fun r x => [bv r]) (Ω1 := fun r x => [tbO (rI .u8) 0 tab_0]) Tryd.func4 rfl rfl hm rfl (fun E hM => ?_)
  unfold law22_DegreeStrengths_m
  refine ref_seq (ref_region ?_)
  refine s_st (s_box (part_agO (ψs := [iv .i64 raw_0.N, slv rT_api_Pair raw_0.L]) rfl ⟨.inl iv_at, .inl slv_at, trivial⟩)) rfl (fun b1 => ?_)
  refine as1 rfl rfl ?_
  refine l_nil (n_then (ref_seq (ref_seq (ref_region ?_))))
  refine s_rd (r_cloadS Tryd.isAgg27 Tryd.sizeOf27 rfl (j := 1) rfl rfl rfl) rfl ?_
  refine pull fun t2 h_t2 => ?_
  refine s_st (s_call (ψ := fun (_ : Unit) => bv t2) (args := [.tmp 16]) Tryd.call15 rfl (net_Light_ok h_t2) ⟨arg rfl, trivial⟩ (fun _ _ _ _ h => h)) rfl (fun _ => ?_)
  refine s_rd (r_not rfl) rfl ?_
  refine mv1 rfl rfl ?_
  refine b_split (t := 19) rfl (fun _ => ?_) (fun _ => ?_)
  · refine s_off rfl rfl rfl rfl rfl ?_
    refine s_off rfl rfl rfl rfl rfl ?_
    refine s_off rfl rfl rfl rfl rfl ?_
    refine s_rd (r_pickT rfl rfl) rfl ?_
    refine l_nil (n_then ?_)
    refine ref_condT rfl rfl ?_
    refine ref_seq (ref_region ?_)
    refine pull fun t3 h_t3 => ?_
    refine s_st (s_callC [0] [true] (fun (_ : Unit) => [tbO (rI .u8) 0 tab_0]) (fun (_ : Unit) => []) (fun (_ : Unit) => bv t3) (args := []) (caps := []) Tryd.call14 rfl (law22_awake_ok h_t3) ⟨rfl, rfl, trivial⟩ (fun _ => rfl) (fun _ => trivial) (fun _ => rfl) trivial (fun _ _ _ _ h => h)) rfl (fun _ => ?_)
    refine as1 rfl rfl ?_
    refine l_nil (n_then (ref_ret (r_then ?_)))
    exact fin1 (.inl rfl) () [0] rfl ⟨rfl, trivial⟩ rfl (rv_tmp rfl)
  refine s_on rfl rfl rfl ?_
  refine mv1 rfl rfl ?_
  refine s_on rfl rfl rfl ?_
  refine s_rd (r_len Tryd.underlying40 rfl) rfl ?_
  refine s_on rfl rfl rfl ?_
  refine s_rd (r_gtr rfl rfl) rfl ?_
  refine s_rd (r_pickF rfl rfl) rfl ?_
  refine l_nil (n_then ?_)
  refine ref_cond rfl (fun hb4 => ?_) (fun hb4 => ?_)
  · refine ref_seq (ref_region ?_)
    refine pull fun t5 h_t5 => ?_
    refine s_st (s_callC [0] [true] (fun (_ : Unit) => [tbO (rI .u8) 0 tab_0]) (fun (_ : Unit) => []) (fun (_ : Unit) => bv t5) (args := []) (caps := []) Tryd.call14 rfl (law22_awake_ok h_t5) ⟨rfl, rfl, trivial⟩ (fun _ => rfl) (fun _ => trivial) (fun _ => rfl) trivial (fun _ _ _ _ h => h)) rfl (fun _ => ?_)
    refine as1 rfl rfl ?_
    refine l_nil (n_then (ref_ret (r_then ?_)))
    exact fin1 (.inl rfl) () [0] rfl ⟨rfl, trivial⟩ rfl (rv_tmp rfl)
  refine ref_skip (n_then (ref_seq (ref_region ?_)))
  refine mv1 rfl rfl ?_
  refine pull fun s6 h_s6 => ?_
  refine s_st (s_call (ψ := fun (x7 : Nat) => pv (ptr x7 0)) (args := [.tmp 25]) Tryd.call9 rfl (keep_New_ok h_s6) ⟨arg rfl, trivial⟩ (fun _ _ _ _ h => h)) rfl (fun x7 => ?_)
  refine as1 rfl rfl ?_
  refine l_nil (n_then (ref_seq (ref_region ?_)))
  refine mv1 rfl rfl ?_
  refine pull fun t8 h_t8 => ?_
  refine s_st (s_callC [2] [true] (fun (_ : Unit) => [oc x7 [slv (rI .i64) t8.2.L, iv .i64 t8.2.At]]) (fun (_ : Unit) => []) (fun (_ : Unit) => ag [iv .i64 t8.1.N, slv rT_api_Pair t8.1.L]) (args := [.tmp 27, .const (.int .i64 (9))]) (caps := []) Tryd.call16 rfl (law22_acyclic_ok h_t8) ⟨rfl, rfl, trivial⟩ (fun _ => rfl) (fun _ => trivial) (fun _ => rfl) ⟨arg rfl, arg rfl, trivial⟩ (fun _ _ _ _ h => h)) rfl (fun _ => ?_)
  refine mv1 rfl rfl ?_
  refine pull fun t9 h_t9 => ?_
  refine s_st (s_callC [2] [true] (fun (_ : Unit) => [oc x7 [slv (rI .i64) t9.2.L, iv .i64 t9.2.At]]) (fun (_ : Unit) => []) (fun (_ : Unit) => ag [iv .i64 t9.1.N, slv rT_api_Pair t9.1.L]) (args := [.tmp 29, .const (.int .i64 (6))]) (caps := []) Tryd.call17 rfl (net_Graph_ok h_t9) ⟨rfl, rfl, trivial⟩ (fun _ => rfl) (fun _ => trivial) (fun _ => rfl) ⟨arg rfl, arg rfl, trivial⟩ (fun _ _ _ _ h => h)) rfl (fun _ => ?_)
  refine s_st (s_alloc zt_27) rfl (fun b10 => ?_)
  refine s_st (s_alloc zt_27) rfl (fun b11 => ?_)
  refine s_st0 (s_cstore (out := [iv .i64 t8.1.N, slv rT_api_Pair t8.1.L]) Tryd.sizeOf27 rfl (j := 3) rfl (part_agO (ψs := [iv .i64 t8.1.N, slv rT_api_Pair t8.1.L]) rfl ⟨.inl iv_at, .inl slv_at, trivial⟩) rfl rfl rfl) (fun _ => ?_)
  refine s_st0 (s_cstore (out := [iv .i64 t9.1.N, slv rT_api_Pair t9.1.L]) Tryd.sizeOf27 rfl (j := 4) rfl (part_agO (ψs := [iv .i64 t9.1.N, slv rT_api_Pair t9.1.L]) rfl ⟨.inl iv_at, .inl slv_at, trivial⟩) rfl rfl rfl) (fun _ => ?_)
  refine l_nil ?_
  refine b_of (nrm [tbO (rI .u8) 0 tab_0, oc b1 [iv .i64 raw_0.N, slv rT_api_Pair raw_0.L], oc x7 [slv (rI .i64) t9.2.L, iv .i64 t9.2.At], oc b10 [iv .i64 t8.1.N, slv rT_api_Pair t8.1.L], oc b11 [iv .i64 t9.1.N, slv rT_api_Pair t9.1.L]] rfl) ?_
  refine n_then (ref_seq (ref_seq ?_))
  refine ref_draw [0, 1, 2, 3, 4, 5, 6, 8, 9, 10, 11, 12, 14, 15, 16, 17, 18, 19, 20, 21, 24, 26, 27] rfl (by kernel_rfl) (fun hok => ?_)
  refine a_rd (i := 0) hok rfl (by kernel_rfl) rfl (r_cloadS Tryd.isAgg27 Tryd.sizeOf27 rfl (j := 1) rfl rfl rfl) rfl ?_
  refine a_rd (i := 1) hok rfl (by kernel_rfl) rfl (r_move rfl) rfl ?_
  refine a_rd (i := 2) hok rfl (by kernel_rfl) rfl (r_build (ps := [(0, .tmp 31), (1, .tmp 32)]) (rs := [(0, [iv .i64 raw_0.N, slv rT_api_Pair raw_0.L]), (1, [slv rT_api_Fraction base_1])]) st_43 zs_43 ⟨rfl, (part_agO (ψs := [iv .i64 raw_0.N, slv rT_api_Pair raw_0.L]) rfl ⟨.inl iv_at, .inl slv_at, trivial⟩), ⟨rfl, (part_at rfl slv_at), trivial⟩⟩ rfl rfl) rfl ?_
  refine a_rd (i := 3) hok rfl (by kernel_rfl) rfl (r_cloadS Tryd.isAgg27 Tryd.sizeOf27 rfl (j := 3) rfl rfl rfl) rfl ?_
  refine a_rd (i := 4) hok rfl (by kernel_rfl) rfl (r_move rfl) rfl ?_
  refine a_rd (i := 5) hok rfl (by kernel_rfl) rfl (r_faddr (fo := 0) Tryd.underlying27 rfl rfl Tryd.sizeOf3 rfl) rfl ?_
  refine a_rd (i := 6) hok rfl (by kernel_rfl) rfl (r_cload Tryd.isAgg3 rfl (j := 3) rfl rfl) rfl ?_
  refine a_rd (i := 9) hok rfl (by kernel_rfl) rfl (r_cloadS Tryd.isAgg27 Tryd.sizeOf27 rfl (j := 4) rfl rfl rfl) rfl ?_
  refine a_rd (i := 10) hok rfl (by kernel_rfl) rfl (r_move rfl) rfl ?_
  refine a_rd (i := 11) hok rfl (by kernel_rfl) rfl (r_faddr (fo := 0) Tryd.underlying27 rfl rfl Tryd.sizeOf3 rfl) rfl ?_
  refine a_rd (i := 12) hok rfl (by kernel_rfl) rfl (r_cload Tryd.isAgg3 rfl (j := 4) rfl rfl) rfl ?_
  refine a_rd (i := 15) hok rfl (by kernel_rfl) rfl (r_cloadS Tryd.isAgg27 Tryd.sizeOf27 rfl (j := 3) rfl rfl rfl) rfl ?_
  refine a_rd (i := 16) hok rfl (by kernel_rfl) rfl (r_move rfl) rfl ?_
  refine a_rd (i := 17) hok rfl (by kernel_rfl) rfl (r_build (ps := [(0, .tmp 46), (1, .tmp 47)]) (rs := [(0, [iv .i64 t8.1.N, slv rT_api_Pair t8.1.L]), (1, [slv rT_api_Fraction base_1])]) st_43 zs_43 ⟨rfl, (part_agO (ψs := [iv .i64 t8.1.N, slv rT_api_Pair t8.1.L]) rfl ⟨.inl iv_at, .inl slv_at, trivial⟩), ⟨rfl, (part_at rfl slv_at), trivial⟩⟩ rfl rfl) rfl ?_
  refine a_rd (i := 18) hok rfl (by kernel_rfl) rfl (r_cloadS Tryd.isAgg27 Tryd.sizeOf27 rfl (j := 1) rfl rfl rfl) rfl ?_
  refine a_rd (i := 19) hok rfl (by kernel_rfl) rfl (r_move rfl) rfl ?_
  refine a_rd (i := 20) hok rfl (by kernel_rfl) rfl (r_faddr (fo := 0) Tryd.underlying27 rfl rfl Tryd.sizeOf3 rfl) rfl ?_
  refine a_rd (i := 21) hok rfl (by kernel_rfl) rfl (r_cload Tryd.isAgg3 rfl (j := 1) rfl rfl) rfl ?_
  refine a_rd (i := 27) hok rfl (by kernel_rfl) rfl (r_move rfl) rfl ?_
  refine pull fun t12 h_t12 => ?_
  refine a_next hok 7 [] (by kernel_rfl) ?_ trivial
  refine a_st (i := 7) hok rfl rfl (s_callC [2] [true] (fun (x13 : (Value × List Nat)) => [oc x7 [slv (rI .i64) t12.2.L, iv .i64 t12.2.At]]) (fun (x13 : (Value × List Nat)) => [oa rT_api_Fraction x13.1 x13.2 t12.1]) (fun (x13 : (Value × List Nat)) => pv x13.1) (args := [.tmp 35, .tmp 37]) (caps := []) Tryd.call18 rfl (law22_fractions_ok h_t12) ⟨rfl, rfl, trivial⟩ (fun _ => rfl) (fun _ => trivial) (fun _ => rfl) ⟨arg rfl, arg rfl, trivial⟩ (fun _ _ _ _ h => h)) (by intro _ h; cases h; rfl) (fun _ => ⟨trivial, ⟨⟨⟨rfl, rfl⟩, trivial⟩, ⟨trivial, ⟨trivial, ⟨⟨⟨rfl, rfl⟩, trivial⟩, ⟨trivial, ⟨trivial, ⟨⟨⟨rfl, rfl⟩, trivial⟩, ⟨⟨⟨rfl, rfl⟩, trivial⟩, ⟨trivial, ⟨trivial, ⟨⟨⟨rfl, rfl⟩, trivial⟩, ⟨trivial, ⟨trivial, ⟨trivial, ⟨⟨⟨rfl, rfl⟩, trivial⟩, ⟨trivial, ⟨trivial, ⟨⟨⟨rfl, rfl⟩, trivial⟩, trivial⟩⟩⟩⟩⟩⟩⟩⟩⟩⟩⟩⟩⟩⟩⟩⟩⟩⟩⟩) (fun x13 => ?_)
  refine a_rd (i := 8) hok rfl (by kernel_rfl) rfl (r_build (ps := [(0, .tmp 34), (1, .tmp 38)]) (rs := [(0, [iv .i64 t8.1.N, slv rT_api_Pair t8.1.L]), (1, [pv x13.1])]) st_43 zs_43 ⟨rfl, (part_agO (ψs := [iv .i64 t8.1.N, slv rT_api_Pair t8.1.L]) rfl ⟨.inl iv_at, .inl slv_at, trivial⟩), ⟨rfl, (part_own rfl (j := 5) rfl), trivial⟩⟩ rfl rfl) rfl ?_
  refine pull fun t14 h_t14 => ?_
  refine a_next hok 13 [] (by kernel_rfl) ?_ trivial
  refine a_st (i := 13) hok rfl rfl (s_callC [2] [true] (fun (x15 : (Value × List Nat)) => [oc x7 [slv (rI .i64) t14.2.L, iv .i64 t14.2.At]]) (fun (x15 : (Value × List Nat)) => [oa rT_api_Fraction x15.1 x15.2 t14.1]) (fun (x15 : (Value × List Nat)) => pv x15.1) (args := [.tmp 41, .tmp 43]) (caps := []) Tryd.call18 rfl (law22_fractions_ok h_t14) ⟨rfl, rfl, trivial⟩ (fun _ => rfl) (fun _ => trivial) (fun _ => rfl) ⟨arg rfl, arg rfl, trivial⟩ (fun _ _ _ _ h => h)) (by intro _ h; cases h; rfl) (fun _ => ⟨trivial, ⟨trivial, ⟨⟨⟨rfl, rfl⟩, trivial⟩, ⟨trivial, ⟨trivial, ⟨⟨⟨rfl, rfl⟩, trivial⟩, ⟨trivial, ⟨trivial, ⟨⟨⟨rfl, rfl⟩, trivial⟩, ⟨trivial, ⟨trivial, ⟨trivial, ⟨⟨⟨rfl, rfl⟩, trivial⟩, ⟨⟨⟨rfl, rfl⟩, trivial⟩, ⟨trivial, ⟨trivial, ⟨⟨⟨rfl, rfl⟩, trivial⟩, ⟨trivial, ⟨trivial, ⟨⟨⟨rfl, rfl⟩, trivial⟩, trivial⟩⟩⟩⟩⟩⟩⟩⟩⟩⟩⟩⟩⟩⟩⟩⟩⟩⟩⟩⟩) (fun x15 => ?_)
  refine a_rd (i := 14) hok rfl (by kernel_rfl) rfl (r_build (ps := [(0, .tmp 40), (1, .tmp 44)]) (rs := [(0, [iv .i64 t9.1.N, slv rT_api_Pair t9.1.L]), (1, [pv x15.1])]) st_43 zs_43 ⟨rfl, (part_agO (ψs := [iv .i64 t9.1.N, slv rT_api_Pair t9.1.L]) rfl ⟨.inl iv_at, .inl slv_at, trivial⟩), ⟨rfl, (part_own rfl (j := 6) rfl), trivial⟩⟩ rfl rfl) rfl ?_
  refine pull fun t16 h_t16 => ?_
  refine a_next hok 22 [] (by kernel_rfl) ?_ trivial
  refine a_st (i := 22) hok rfl rfl (s_call (ψ := fun (_ : Unit) => iv .i64 t16) (args := [.tmp 52, .const (.int .i64 (41))]) Tryd.call19 rfl (keep_Mod_ok h_t16) ⟨arg rfl, arg rfl, trivial⟩ (fun _ _ _ _ h => h)) (by intro _ h; cases h; rfl) (fun _ => ⟨trivial, ⟨trivial, ⟨trivial, ⟨trivial, ⟨trivial, ⟨trivial, ⟨⟨⟨rfl, rfl⟩, trivial⟩, ⟨trivial, ⟨trivial, ⟨⟨⟨rfl, rfl⟩, trivial⟩, ⟨⟨⟨rfl, rfl⟩, trivial⟩, ⟨trivial, ⟨trivial, ⟨⟨⟨rfl, rfl⟩, trivial⟩, ⟨⟨⟨rfl, rfl⟩, trivial⟩, ⟨trivial, ⟨trivial, ⟨⟨⟨rfl, rfl⟩, trivial⟩, ⟨trivial, ⟨trivial, ⟨⟨⟨rfl, rfl⟩, trivial⟩, trivial⟩⟩⟩⟩⟩⟩⟩⟩⟩⟩⟩⟩⟩⟩⟩⟩⟩⟩⟩⟩⟩) (fun _ => ?_)
  refine pull fun t17 h_t17 => ?_
  refine a_next hok 23 [] (by kernel_rfl) ?_ trivial
  refine a_st (i := 23) hok rfl rfl (s_callC [2] [true] (fun (x18 : (Value × List Nat)) => [oc x7 [slv (rI .i64) t17.2.L, iv .i64 t17.2.At]]) (fun (x18 : (Value × List Nat)) => [oa rT_api_Fraction x18.1 x18.2 t17.1]) (fun (x18 : (Value × List Nat)) => pv x18.1) (args := [.tmp 50, .tmp 53]) (caps := []) Tryd.call18 rfl (law22_fractions_ok h_t17) ⟨rfl, rfl, trivial⟩ (fun _ => rfl) (fun _ => trivial) (fun _ => rfl) ⟨arg rfl, arg rfl, trivial⟩ (fun _ _ _ _ h => h)) (by intro _ h; cases h; rfl) (fun _ => ⟨trivial, ⟨trivial, ⟨trivial, ⟨⟨⟨rfl, rfl⟩, trivial⟩, ⟨trivial, ⟨trivial, ⟨⟨⟨rfl, rfl⟩, trivial⟩, ⟨trivial, ⟨trivial, ⟨⟨⟨rfl, rfl⟩, trivial⟩, ⟨⟨⟨rfl, rfl⟩, trivial⟩, ⟨trivial, ⟨trivial, ⟨⟨⟨rfl, rfl⟩, trivial⟩, ⟨⟨⟨rfl, rfl⟩, trivial⟩, ⟨trivial, ⟨trivial, ⟨⟨⟨rfl, rfl⟩, trivial⟩, ⟨trivial, ⟨trivial, ⟨⟨⟨rfl, rfl⟩, trivial⟩, trivial⟩⟩⟩⟩⟩⟩⟩⟩⟩⟩⟩⟩⟩⟩⟩⟩⟩⟩⟩⟩⟩) (fun x18 => ?_)
  refine a_rd (i := 24) hok rfl (by kernel_rfl) rfl (r_build (ps := [(0, .tmp 49), (1, .tmp 54)]) (rs := [(0, [iv .i64 raw_0.N, slv rT_api_Pair raw_0.L]), (1, [pv x18.1])]) st_43 zs_43 ⟨rfl, (part_agO (ψs := [iv .i64 raw_0.N, slv rT_api_Pair raw_0.L]) rfl ⟨.inl iv_at, .inl slv_at, trivial⟩), ⟨rfl, (part_own rfl (j := 7) rfl), trivial⟩⟩ rfl rfl) rfl ?_
  refine a_of (frzGL [(38, slv rT_api_Fraction t12.1), (39, ag [iv .i64 t8.1.N, slv rT_api_Pair t8.1.L, slv rT_api_Fraction t12.1])] [] (j := 5) rfl ⟨⟨_, rfl, .inl ⟨rfl, rfl⟩⟩, ⟨_, rfl, .inr ⟨_, _, rfl, rfl, ⟨.inl rfl, .inl rfl, .inr ⟨rfl, rfl⟩, trivial⟩⟩⟩, trivial⟩ trivial) (frz_keeps (hv := x13.1) (χ := slv rT_api_Fraction t12.1) (lo := []) (j := 5) rfl trivial) ?_
  refine a_of (frzGL [(44, slv rT_api_Fraction t14.1), (45, ag [iv .i64 t9.1.N, slv rT_api_Pair t9.1.L, slv rT_api_Fraction t14.1])] [] (j := 6) rfl ⟨⟨_, rfl, .inl ⟨rfl, rfl⟩⟩, ⟨_, rfl, .inr ⟨_, _, rfl, rfl, ⟨.inl rfl, .inl rfl, .inr ⟨rfl, rfl⟩, trivial⟩⟩⟩, trivial⟩ trivial) (frz_keeps (hv := x15.1) (χ := slv rT_api_Fraction t14.1) (lo := []) (j := 6) rfl trivial) ?_
  refine a_of (frzGL [(54, slv rT_api_Fraction t17.1), (55, ag [iv .i64 raw_0.N, slv rT_api_Pair raw_0.L, slv rT_api_Fraction t17.1])] [] (j := 7) rfl ⟨⟨_, rfl, .inl ⟨rfl, rfl⟩⟩, ⟨_, rfl, .inr ⟨_, _, rfl, rfl, ⟨.inl rfl, .inl rfl, .inr ⟨rfl, rfl⟩, trivial⟩⟩⟩, trivial⟩ trivial) (frz_keeps (hv := x18.1) (χ := slv rT_api_Fraction t17.1) (lo := []) (j := 7) rfl trivial) ?_
  refine a_next hok 25 [] (by kernel_rfl) ?_ trivial
  refine a_st (i := 25) hok rfl rfl (s_bslice (xs := [.tmp 33, .tmp 39, .tmp 45, .tmp 48, .tmp 55]) (ds := [(T_anon43.mk raw_0 base_1), (T_anon43.mk t8.1 t12.1), (T_anon43.mk t9.1 t14.1), (T_anon43.mk t8.1 base_1), (T_anon43.mk raw_0 t17.1)]) Tryd.underlying46 el_43 rfl (Nat.le_of_ble_eq_true rfl) ⟨(part_agO (ψs := [iv .i64 raw_0.N, slv rT_api_Pair raw_0.L, slv rT_api_Fraction base_1]) rfl ⟨.inl iv_at, .inl slv_at, .inl slv_at, trivial⟩), ⟨(part_agO (ψs := [iv .i64 t8.1.N, slv rT_api_Pair t8.1.L, slv rT_api_Fraction t12.1]) rfl ⟨.inl iv_at, .inl slv_at, .inl slv_at, trivial⟩), ⟨(part_agO (ψs := [iv .i64 t9.1.N, slv rT_api_Pair t9.1.L, slv rT_api_Fraction t14.1]) rfl ⟨.inl iv_at, .inl slv_at, .inl slv_at, trivial⟩), ⟨(part_agO (ψs := [iv .i64 t8.1.N, slv rT_api_Pair t8.1.L, slv rT_api_Fraction base_1]) rfl ⟨.inl iv_at, .inl slv_at, .inl slv_at, trivial⟩), ⟨(part_agO (ψs := [iv .i64 raw_0.N, slv rT_api_Pair raw_0.L, slv rT_api_Fraction t17.1]) rfl ⟨.inl iv_at, .inl slv_at, .inl slv_at, trivial⟩), trivial⟩⟩⟩⟩⟩) (by intro _ h; cases h; rfl) (fun _ => ⟨trivial, ⟨trivial, ⟨trivial, ⟨trivial, ⟨⟨⟨rfl, rfl⟩, trivial⟩, ⟨trivial, ⟨trivial, ⟨⟨⟨rfl, rfl⟩, trivial⟩, ⟨trivial, ⟨trivial, ⟨⟨⟨rfl, rfl⟩, trivial⟩, ⟨⟨⟨rfl, rfl⟩, trivial⟩, ⟨trivial, ⟨trivial, ⟨⟨⟨rfl, rfl⟩, trivial⟩, ⟨⟨⟨rfl, rfl⟩, trivial⟩, ⟨trivial, ⟨trivial, ⟨⟨⟨rfl, rfl⟩, trivial⟩, ⟨trivial, ⟨trivial, ⟨⟨⟨rfl, rfl⟩, trivial⟩, trivial⟩⟩⟩⟩⟩⟩⟩⟩⟩⟩⟩⟩⟩⟩⟩⟩⟩⟩⟩⟩⟩⟩) (fun _ => ?_)
  refine a_rd (i := 26) hok rfl (by kernel_rfl) rfl (r_len Tryd.underlying46 rfl) rfl ?_
  refine a_fin hok (by kernel_rfl) ?_
  refine b_of (nrm [tbO (rI .u8) 0 tab_0, oc b1 [iv .i64 raw_0.N, slv rT_api_Pair raw_0.L], oc x7 [slv (rI .i64) t17.2.L, iv .i64 t17.2.At], oc b10 [iv .i64 t8.1.N, slv rT_api_Pair t8.1.L], oc b11 [iv .i64 t9.1.N, slv rT_api_Pair t9.1.L], dead, dead, dead] rfl) ?_
  refine n_then ?_
  refine ref_loopX (f := (law22_DegreeStrengths_l1 raw_0 base_1 t8 t9 t12 t14 t17)) (Γl := (fun (s30 : Int) (x31 : Unit) => [(56, slv rT_anon43 [(T_anon43.mk raw_0 base_1), (T_anon43.mk t8.1 t12.1), (T_anon43.mk t9.1 t14.1), (T_anon43.mk t8.1 base_1), (T_anon43.mk raw_0 t17.1)]), (57, iv .i64 ([(T_anon43.mk raw_0 base_1), (T_anon43.mk t8.1 t12.1), (T_anon43.mk t9.1 t14.1), (T_anon43.mk t8.1 base_1), (T_anon43.mk raw_0 t17.1)].length : Int)), (58, iv .i64 s30)])) (Ωl := (fun (s30 : Int) (x31 : Unit) => [tbO (rI .u8) 0 tab_0])) (Γb := (fun (q41 : Unit) (y42 : Unit) => [])) (Ωb := (fun (q41 : Unit) (y42 : Unit) => [tbO (rI .u8) 0 tab_0])) (kr := (fun a : Bool => some a)) 0 () (weak [0] ⟨rfl, rfl, rfl, trivial⟩ ⟨rfl, trivial⟩) (fun s30 x31 => ?_) (fun q41 y42 => ?_)
  · unfold law22_DegreeStrengths_l1
    refine ref_seq (ref_region ?_)
    refine s_rd (r_lss rfl rfl) rfl ?_
    refine l_nil (n_then (ref_seq ?_))
    refine ref_cond rfl (fun hb32 => ?_) (fun hb32 => ?_)
    · refine ref_skip (n_then (ref_seq (ref_block (ref_seq (ref_region ?_)))))
      refine pull fun t33 h_t33 => ?_
      refine s_rd (r_index h_t33 Tryd.underlying46 el_43 rfl rfl) rfl ?_
      refine s_rd (r_load el_43 rfl) rfl ?_
      refine s_st (s_alloc zt_43) rfl (fun b34 => ?_)
      refine s_st0 (s_cstore (out := [iv .i64 t33.g.N, slv rT_api_Pair t33.g.L, slv rT_api_Fraction t33.b]) Tryd.sizeOf43 rfl (j := 1) rfl (part_agO (ψs := [iv .i64 t33.g.N, slv rT_api_Pair t33.g.L, slv rT_api_Fraction t33.b]) rfl ⟨.inl iv_at, .inl slv_at, .inl slv_at, trivial⟩) rfl rfl rfl) (fun _ => ?_)
      refine l_nil (n_then (ref_seq (ref_region ?_)))
      refine s_rd (r_faddr (fo := 0) Tryd.underlying43 rfl rfl Tryd.sizeOf27 rfl) rfl ?_
      refine s_rd (r_cloadS Tryd.isAgg27 Tryd.sizeOf27 rfl (j := 1) rfl rfl rfl) rfl ?_
      refine s_rd (r_faddr (fo := 2) Tryd.underlying43 rfl rfl Tryd.sizeOf40 rfl) rfl ?_
      refine s_rd (r_cload Tryd.isAgg40 rfl (j := 1) rfl rfl) rfl ?_
      refine pull fun t35 h_t35 => ?_
      refine s_st (s_callC [0] [true] (fun (x36 : (Value × List Nat)) => [tbO (rI .u8) 0 tab_0]) (fun (x36 : (Value × List Nat)) => [oa rT_api_Fraction x36.1 x36.2 t35.1]) (fun (x36 : (Value × List Nat)) => tup [pv x36.1, iv .i64 t35.2]) (args := [.tmp 64, .tmp 66]) (caps := []) Tryd.call20 rfl (degree_Strength_ok h_t35) ⟨rfl, rfl, trivial⟩ (fun _ => rfl) (fun _ => trivial) (fun _ => rfl) ⟨arg rfl, arg rfl, trivial⟩ (fun _ _ _ _ h => h)) rfl (fun x36 => ?_)
      refine mv1 rfl rfl ?_
      refine s_rd (r_extract rfl rfl) rfl ?_
      refine s_rd (r_extract rfl rfl) rfl ?_
      refine as1 rfl rfl ?_
      refine as1 rfl rfl ?_
      refine l_nil (n_then (ref_seq (ref_region ?_)))
      refine s_rd (r_faddr (fo := 0) Tryd.underlying43 rfl rfl Tryd.sizeOf27 rfl) rfl ?_
      refine s_rd (r_cloadS Tryd.isAgg27 Tryd.sizeOf27 rfl (j := 1) rfl rfl rfl) rfl ?_
      refine s_rd (r_faddr (fo := 2) Tryd.underlying43 rfl rfl Tryd.sizeOf40 rfl) rfl ?_
      refine s_rd (r_cload Tryd.isAgg40 rfl (j := 1) rfl rfl) rfl ?_
      refine pull fun t37 h_t37 => ?_
      refine s_st (s_call (ψ := fun (x38 : (Value × List Nat)) => tup [pv x38.1, iv .i64 t37.2]) (args := [.tmp 72, .tmp 74]) Tryd.call21 rfl (ref22_Strength_ok h_t37) ⟨arg rfl, arg rfl, trivial⟩ (fun _ _ _ _ h => h)) rfl (fun x38 => ?_)
      refine mv1 rfl rfl ?_
      refine s_rd (r_extract rfl rfl) rfl ?_
      refine s_rd (r_extract rfl rfl) rfl ?_
      refine as1 rfl rfl ?_
      refine as1 rfl rfl ?_
      refine l_nil ?_
      refine b_of (nrm [tbO (rI .u8) 0 tab_0, oc b34 [iv .i64 t33.g.N, slv rT_api_Pair t33.g.L, slv rT_api_Fraction t33.b], oa rT_api_Fraction x36.1 x36.2 t35.1, oa rT_api_Fraction x38.1 x38.2 t37.1] rfl) ?_
      refine n_then (ref_seq (ref_region ?_))
      refine mv1 rfl rfl ?_
      refine mv1 rfl rfl ?_
      refine s_rd (r_neq rfl rfl) rfl ?_
      refine mv1 rfl rfl ?_
      refine b_split (t := 81) rfl (fun _ => ?_) (fun _ => ?_)
      · refine s_off rfl rfl rfl rfl rfl ?_
        refine s_off rfl rfl rfl rfl rfl ?_
        refine s_off rfl rfl rfl rfl rfl ?_
        refine s_off rfl rfl rfl rfl rfl ?_
        refine s_rd (r_pickT rfl rfl) rfl ?_
        refine l_nil (n_then ?_)
        refine ref_condT rfl rfl ?_
        refine ref_seq (ref_region ?_)
        refine as1 rfl rfl ?_
        refine l_nil (n_then (ref_ret (r_block (r_then ?_))))
        refine retX ?_
        refine r_block (r_then ?_)
        exact fin1 (.inl rfl) () [0] rfl ⟨rfl, trivial⟩ rfl (rv_tmp rfl)
      refine s_on rfl rfl rfl ?_
      refine mv1 rfl rfl ?_
      refine s_on rfl rfl rfl ?_
      refine mv1 rfl rfl ?_
      refine s_on rfl rfl rfl ?_
      refine pull fun t39 h_t39 => ?_
      refine s_st (s_callB (ψ := fun (_ : Unit) => bv t39) (args := [.tmp 82, .tmp 83]) Tryd.call22 rfl (ref22_Same_ok h_t39) ⟨argO rfl (j := 2) rfl, argO rfl (j := 3) rfl, trivial⟩ (fun _ _ _ _ _ h => h)) rfl (fun _ => ?_)
      refine s_on rfl rfl rfl ?_
      refine s_rd (r_not rfl) rfl ?_
      refine s_rd (r_pickF rfl rfl) rfl ?_
      refine l_nil (n_then ?_)
      refine ref_cond rfl (fun hb40 => ?_) (fun hb40 => ?_)
      · refine ref_seq (ref_region ?_)
        refine as1 rfl rfl ?_
        refine l_nil (n_then (ref_ret (r_block (r_then ?_))))
        refine retX ?_
        refine r_block (r_then ?_)
        exact fin1 (.inl rfl) () [0] rfl ⟨rfl, trivial⟩ rfl (rv_tmp rfl)
      refine ref_skip (n_block (n_then (ref_region ?_)))
      refine s_rd (r_add rfl rfl) rfl ?_
      refine mv1 rfl rfl ?_
      refine l_nil ?_
      exact goX () (weak [0] ⟨rfl, rfl, rfl, trivial⟩ ⟨rfl, trivial⟩)
    refine ref_exit (x_then ?_)
    exact brkX () (weak [0] trivial ⟨rfl, trivial⟩)
  refine n_then (ref_seq (ref_region ?_))
  refine pull fun t43 h_t43 => ?_
  refine s_st (s_callC [0] [true] (fun (_ : Unit) => [tbO (rI .u8) 0 tab_0]) (fun (_ : Unit) => []) (fun (_ : Unit) => bv t43) (args := []) (caps := []) Tryd.call14 rfl (law22_awake_ok h_t43) ⟨rfl, rfl, trivial⟩ (fun _ => rfl) (fun _ => trivial) (fun _ => rfl) trivial (fun _ _ _ _ h => h)) rfl (fun _ => ?_)
  refine as1 rfl rfl ?_
  refine l_nil (n_then (ref_ret ?_))
  exact fin1 (.inl rfl) () [0] rfl ⟨rfl, trivial⟩ rfl (rv_tmp rfl)

end Go.Dc
