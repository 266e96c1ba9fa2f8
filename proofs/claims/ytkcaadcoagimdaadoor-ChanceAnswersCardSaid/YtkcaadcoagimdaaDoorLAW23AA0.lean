/- Part LAW23A.A0 of a proof: lemmas. -/
import Derived.Test.YtkcaadcoagimdaaDoorLAW23ATypes
import Derived.Test.YtkcaadcoagimdaaDoorProg
set_option linter.unusedVariables false
set_option maxRecDepth 100000
set_option maxHeartbeats 4000000
namespace Go.Dc
open Go.Proofs
open Go.Proofs.Tryd (prog)

/-! deliberation/deliberationnet.Light -/
noncomputable def net_Light_m (g_0 : T_api_Graph) : Option (Bool) :=
  letM (decide ((g_0.L.length : Int) ≤ 300)) fun t2 =>
  some t2

theorem net_Light_ok {g_0 : T_api_Graph} {r : Bool} (hm : net_Light_m g_0 = some r) :
    FnOk prog 22 [ag [iv .i64 g_0.N, slv rT_api_Pair g_0.L]] [] (fun (x : Unit) => [bv r]) (fun (x : Unit) => []) := by
  refine fn_ok (fn := Tryd.f22) (N := 7) (res := fun r x => [bv r]) (Ω1 := fun r x => []) Tryd.func22 rfl rfl hm rfl (fun E hM => ?_)
  unfold net_Light_m
  refine ref_seq (ref_region ?_)
  refine s_st (s_box (part_agO (ψs := [iv .i64 g_0.N, slv rT_api_Pair g_0.L]) rfl ⟨.inl iv_at, .inl slv_at, trivial⟩)) rfl (fun b1 => ?_)
  refine as1 rfl rfl ?_
  refine l_nil (n_then (ref_seq (ref_region ?_)))
  refine s_rd (r_faddr (fo := 1) Tryd.underlying27 rfl rfl Tryd.sizeOf25 rfl) rfl ?_
  refine s_rd (r_cload Tryd.isAgg25 rfl (j := 0) rfl rfl) rfl ?_
  refine s_rd (r_len Tryd.underlying25 rfl) rfl ?_
  refine s_rd (r_leq rfl rfl) rfl ?_
  refine as1 rfl rfl ?_
  refine b_let (f := bv) (t := 2) rfl fun t2 => ?_
  refine l_nil (n_then (ref_ret ?_))
  exact fin1 (.inl rfl) () [] rfl trivial rfl (rv_tmp rfl)

/-! cmp.isNaN[int] -/
noncomputable def cmp_isNaN_int_m (x_0 : Int) : Option (Bool) :=
  some (x_0 != x_0)

theorem cmp_isNaN_int_ok {x_0 : Int} {r : Bool} (hm : cmp_isNaN_int_m x_0 = some r) :
    FnOk prog 90 [iv .i64 x_0] [] (fun (x : Unit) => [bv r]) (fun (x : Unit) => []) := by
  refine fn_ok (fn := Tryd.f90) (N := 6) (res := fun r x => [bv r]) (Ω1 := fun r x => []) Tryd.func90 rfl rfl hm rfl (fun E hM => ?_)
  unfold cmp_isNaN_int_m
  refine ref_seq (ref_region ?_)
  refine as1 rfl rfl ?_
  refine l_nil (n_then (ref_seq (ref_region ?_)))
  refine mv1 rfl rfl ?_
  refine mv1 rfl rfl ?_
  refine s_rd (r_neq rfl rfl) rfl ?_
  refine as1 rfl rfl ?_
  refine l_nil (n_then (ref_ret ?_))
  exact fin1 (.inl rfl) () [] rfl trivial rfl (rv_tmp rfl)

/-! cmp.Compare[int] -/
noncomputable def cmp_Compare_int_m (x_0 : Int) (y_1 : Int) : Option (Int) :=
  Option.bind (cmp_isNaN_int_m x_0) fun xNaN1 =>
  Option.bind (cmp_isNaN_int_m y_1) fun yNaN2 =>
  bif xNaN1 then
    bif yNaN2 then
      some 0
    else
      some (-1)
  else
    bif yNaN2 then
      some 1
    else
      bif decide (x_0 < y_1) then
        some (-1)
      else
        bif decide (x_0 > y_1) then
          some 1
        else
          some 0

theorem cmp_Compare_int_ok {x_0 : Int} {y_1 : Int} {r : Int} (hm : cmp_Compare_int_m x_0 y_1 = some r) :
    FnOk prog 85 [iv .i64 x_0, iv .i64 y_1] [] (fun (x : Unit) => [iv .i64 r]) (fun (x : Unit) => []) := by
  refine fn_ok (fn := Tryd.f85) (N := 20) (res := fun r x => [iv .i64 r]) (Ω1 := fun r x => []) Tryd.func85 rfl rfl hm rfl (fun E hM => ?_)
  unfold cmp_Compare_int_m
  refine ref_seq (ref_region ?_)
  refine as1 rfl rfl ?_
  refine l_nil (n_then (ref_seq (ref_region ?_)))
  refine mv1 rfl rfl ?_
  refine pull fun xNaN1 h_xNaN1 => ?_
  refine s_st (s_call (ψ := fun (_ : Unit) => bv xNaN1) (args := [.tmp 7]) Tryd.call90 rfl (cmp_isNaN_int_ok h_xNaN1) ⟨arg rfl, trivial⟩ (fun _ _ _ _ h => h)) rfl (fun _ => ?_)
  refine as1 rfl rfl ?_
  refine l_nil (n_then (ref_seq (ref_region ?_)))
  refine mv1 rfl rfl ?_
  refine pull fun yNaN2 h_yNaN2 => ?_
  refine s_st (s_call (ψ := fun (_ : Unit) => bv yNaN2) (args := [.tmp 9]) Tryd.call90 rfl (cmp_isNaN_int_ok h_yNaN2) ⟨arg rfl, trivial⟩ (fun _ _ _ _ h => h)) rfl (fun _ => ?_)
  refine as1 rfl rfl ?_
  refine l_nil (n_then (ref_seq (ref_seq (ref_region ?_))))
  refine mv1 rfl rfl ?_
  refine l_nil (n_then ?_)
  refine ref_cond rfl (fun hb3 => ?_) (fun hb3 => ?_)
  · refine ref_seq (ref_seq (ref_region ?_))
    refine mv1 rfl rfl ?_
    refine l_nil (n_then ?_)
    refine ref_cond rfl (fun hb4 => ?_) (fun hb4 => ?_)
    · refine ref_seq (ref_region ?_)
      refine as1 rfl rfl ?_
      refine l_nil (n_then (ref_ret (r_then (r_then ?_))))
      exact fin1 (.inl rfl) () [] rfl trivial rfl (rv_tmp rfl)
    refine ref_skip (n_then (ref_seq (ref_region ?_)))
    refine as1 rfl rfl ?_
    refine l_nil (n_then (ref_ret (r_then ?_)))
    exact fin1 (.inl rfl) () [] rfl trivial rfl (rv_tmp rfl)
  refine ref_skip (n_then (ref_seq (ref_seq (ref_region ?_))))
  refine mv1 rfl rfl ?_
  refine l_nil (n_then ?_)
  refine ref_cond rfl (fun hb5 => ?_) (fun hb5 => ?_)
  · refine ref_seq (ref_region ?_)
    refine as1 rfl rfl ?_
    refine l_nil (n_then (ref_ret (r_then ?_)))
    exact fin1 (.inl rfl) () [] rfl trivial rfl (rv_tmp rfl)
  refine ref_skip (n_then (ref_seq (ref_seq (ref_region ?_))))
  refine mv1 rfl rfl ?_
  refine mv1 rfl rfl ?_
  refine s_rd (r_lss rfl rfl) rfl ?_
  refine l_nil (n_then ?_)
  refine ref_cond rfl (fun hb6 => ?_) (fun hb6 => ?_)
  · refine ref_seq (ref_region ?_)
    refine as1 rfl rfl ?_
    refine l_nil (n_then (ref_ret (r_then ?_)))
    exact fin1 (.inl rfl) () [] rfl trivial rfl (rv_tmp rfl)
  refine ref_skip (n_then (ref_seq (ref_seq (ref_region ?_))))
  refine mv1 rfl rfl ?_
  refine mv1 rfl rfl ?_
  refine s_rd (r_gtr rfl rfl) rfl ?_
  refine l_nil (n_then ?_)
  refine ref_cond rfl (fun hb7 => ?_) (fun hb7 => ?_)
  · refine ref_seq (ref_region ?_)
    refine as1 rfl rfl ?_
    refine l_nil (n_then (ref_ret (r_then ?_)))
    exact fin1 (.inl rfl) () [] rfl trivial rfl (rv_tmp rfl)
  refine ref_skip (n_then (ref_seq (ref_region ?_)))
  refine as1 rfl rfl ?_
  refine l_nil (n_then (ref_ret ?_))
  exact fin1 (.inl rfl) () [] rfl trivial rfl (rv_tmp rfl)

/-! cmp.Or[int] -/
noncomputable def cmp_Or_int_l1 (vals_0 : (List Int)) (s6 : Int) : Option (Sum ((Sum (Int) (Unit))) (Int)) :=
  bif decide (s6 < (vals_0.length : Int)) then
    Option.bind (idxM vals_0 s6) fun val9 =>
    bif val9 != 0 then
      some (Sum.inl (Sum.inl val9))
    else
      some (Sum.inr (iadd .i64 s6 1))
  else
    some (Sum.inl (Sum.inr ()))

noncomputable def cmp_Or_int_m (vals_0 : (List Int)) : Option (Int) :=
  Option.bind (loopC (cmp_Or_int_l1 vals_0) 0) (sumK (fun a : Int => some a) fun q11 : Unit =>
    some 0)

theorem cmp_Or_int_ok {vals_0 : (List Int)} {r : Int} (hm : cmp_Or_int_m vals_0 = some r) :
    FnOk prog 84 [slv (rI .i64) vals_0] [] (fun (x : Unit) => [iv .i64 r]) (fun (x : Unit) => []) := by
  refine fn_ok (fn := Tryd.f84) (N := 18) (res := fun r x => [iv .i64 r]) (Ω1 := fun r x => []) Tryd.func84 rfl rfl hm rfl (fun E hM => ?_)
  unfold cmp_Or_int_m
  refine ref_seq (ref_region ?_)
  refine as1 rfl rfl ?_
  refine l_nil (n_then (ref_seq (ref_region ?_)))
  refine as1 rfl rfl ?_
  refine l_nil (n_then (ref_seq (ref_seq (ref_region ?_))))
  refine mv1 rfl rfl ?_
  refine s_rd (r_len Tryd.underlying22 rfl) rfl ?_
  refine mv1 rfl rfl ?_
  refine l_nil (n_then ?_)
  refine ref_loopX (f := (cmp_Or_int_l1 vals_0)) (Γl := (fun (s6 : Int) (x7 : Unit) => [(3, iv .i64 0), (6, slv (rI .i64) vals_0), (7, iv .i64 (vals_0.length : Int)), (8, iv .i64 s6)])) (Ωl := (fun (s6 : Int) (x7 : Unit) => [])) (Γb := (fun (q11 : Unit) (y12 : Unit) => [(3, iv .i64 0)])) (Ωb := (fun (q11 : Unit) (y12 : Unit) => [])) (kr := (fun a : Int => some a)) 0 () (weak [] ⟨rfl, rfl, rfl, rfl, trivial⟩ trivial) (fun s6 x7 => ?_) (fun q11 y12 => ?_)
  · unfold cmp_Or_int_l1
    refine ref_seq (ref_region ?_)
    refine s_rd (r_lss rfl rfl) rfl ?_
    refine l_nil (n_then (ref_seq ?_))
    refine ref_cond rfl (fun hb8 => ?_) (fun hb8 => ?_)
    · refine ref_skip (n_then (ref_seq (ref_block (ref_seq (ref_region ?_)))))
      refine pull fun val9 h_val9 => ?_
      refine s_rd (r_index h_val9 Tryd.underlying22 el_3 rfl rfl) rfl ?_
      refine s_rd (r_load el_3 rfl) rfl ?_
      refine as1 rfl rfl ?_
      refine l_nil (n_then (ref_seq (ref_region ?_)))
      refine mv1 rfl rfl ?_
      refine mv1 rfl rfl ?_
      refine s_rd (r_neq rfl rfl) rfl ?_
      refine l_nil (n_then ?_)
      refine ref_cond rfl (fun hb10 => ?_) (fun hb10 => ?_)
      · refine ref_seq (ref_region ?_)
        refine mv1 rfl rfl ?_
        refine as1 rfl rfl ?_
        refine l_nil (n_then (ref_ret (r_block (r_then ?_))))
        refine retX ?_
        refine r_block (r_then ?_)
        exact fin1 (.inl rfl) () [] rfl trivial rfl (rv_tmp rfl)
      refine ref_skip (n_block (n_then (ref_region ?_)))
      refine s_rd (r_add rfl rfl) rfl ?_
      refine mv1 rfl rfl ?_
      refine l_nil ?_
      exact goX () (weak [] ⟨rfl, rfl, rfl, rfl, trivial⟩ trivial)
    refine ref_exit (x_then ?_)
    exact brkX () (weak [] ⟨rfl, trivial⟩ trivial)
  refine n_then (ref_seq (ref_region ?_))
  refine mv1 rfl rfl ?_
  refine as1 rfl rfl ?_
  refine l_nil (n_then (ref_ret ?_))
  exact fin1 (.inl rfl) () [] rfl trivial rfl (rv_tmp rfl)

/-! deliberation/graph.compare -/
noncomputable def graph_compare_m (a__0 : T_api_Pair) (b_1 : T_api_Pair) : Option (Int) :=
  Option.bind (cmp_Compare_int_m a__0.From b_1.From) fun t3 =>
  Option.bind (cmp_Compare_int_m a__0.To b_1.To) fun t4 =>
  Option.bind (cmp_Or_int_m [t3, t4]) fun t5 =>
  some t5

theorem graph_compare_ok {a__0 : T_api_Pair} {b_1 : T_api_Pair} {r : Int} (hm : graph_compare_m a__0 b_1 = some r) :
    FnOk prog 65 [ag [iv .i64 a__0.From, iv .i64 a__0.To], ag [iv .i64 b_1.From, iv .i64 b_1.To]] [] (fun (x : Unit) => [iv .i64 r]) (fun (x : Unit) => []) := by
  refine fn_ok (fn := Tryd.f65) (N := 17) (res := fun r x => [iv .i64 r]) (Ω1 := fun r x => []) Tryd.func65 rfl rfl hm rfl (fun E hM => ?_)
  unfold graph_compare_m
  refine ref_seq (ref_region ?_)
  refine s_st (s_box (part_agO (ψs := [iv .i64 a__0.From, iv .i64 a__0.To]) rfl ⟨.inl iv_at, .inl iv_at, trivial⟩)) rfl (fun b1 => ?_)
  refine s_st (s_box (part_agO (ψs := [iv .i64 b_1.From, iv .i64 b_1.To]) rfl ⟨.inl iv_at, .inl iv_at, trivial⟩)) rfl (fun b2 => ?_)
  refine as1 rfl rfl ?_
  refine l_nil (n_then (ref_seq ?_))
  refine ref_draw [0, 1, 2, 3, 5, 6, 7, 8] rfl (by kernel_rfl) (fun hok => ?_)
  refine a_rd (i := 0) hok rfl (by kernel_rfl) rfl (r_faddr (fo := 0) Tryd.underlying63 rfl rfl Tryd.sizeOf3 rfl) rfl ?_
  refine a_rd (i := 1) hok rfl (by kernel_rfl) rfl (r_cload Tryd.isAgg3 rfl (j := 0) rfl rfl) rfl ?_
  refine a_rd (i := 2) hok rfl (by kernel_rfl) rfl (r_faddr (fo := 0) Tryd.underlying63 rfl rfl Tryd.sizeOf3 rfl) rfl ?_
  refine a_rd (i := 3) hok rfl (by kernel_rfl) rfl (r_cload Tryd.isAgg3 rfl (j := 1) rfl rfl) rfl ?_
  refine a_rd (i := 5) hok rfl (by kernel_rfl) rfl (r_faddr (fo := 1) Tryd.underlying63 rfl rfl Tryd.sizeOf3 rfl) rfl ?_
  refine a_rd (i := 6) hok rfl (by kernel_rfl) rfl (r_cload Tryd.isAgg3 rfl (j := 0) rfl rfl) rfl ?_
  refine a_rd (i := 7) hok rfl (by kernel_rfl) rfl (r_faddr (fo := 1) Tryd.underlying63 rfl rfl Tryd.sizeOf3 rfl) rfl ?_
  refine a_rd (i := 8) hok rfl (by kernel_rfl) rfl (r_cload Tryd.isAgg3 rfl (j := 1) rfl rfl) rfl ?_
  refine pull fun t3 h_t3 => ?_
  refine a_next hok 4 [] (by kernel_rfl) ?_ trivial
  refine a_st (i := 4) hok rfl rfl (s_call (ψ := fun (_ : Unit) => iv .i64 t3) (args := [.tmp 6, .tmp 8]) Tryd.call85 rfl (cmp_Compare_int_ok h_t3) ⟨arg rfl, arg rfl, trivial⟩ (fun _ _ _ _ h => h)) (by intro _ h; cases h; rfl) (fun _ => ⟨⟨⟨rfl, rfl⟩, trivial⟩, ⟨trivial, ⟨⟨⟨rfl, rfl⟩, trivial⟩, ⟨trivial, ⟨trivial, ⟨trivial, ⟨trivial, ⟨trivial, trivial⟩⟩⟩⟩⟩⟩⟩⟩) (fun _ => ?_)
  refine pull fun t4 h_t4 => ?_
  refine a_next hok 9 [] (by kernel_rfl) ?_ trivial
  refine a_st (i := 9) hok rfl rfl (s_call (ψ := fun (_ : Unit) => iv .i64 t4) (args := [.tmp 11, .tmp 13]) Tryd.call85 rfl (cmp_Compare_int_ok h_t4) ⟨arg rfl, arg rfl, trivial⟩ (fun _ _ _ _ h => h)) (by intro _ h; cases h; rfl) (fun _ => ⟨trivial, ⟨trivial, ⟨trivial, ⟨trivial, ⟨⟨⟨rfl, rfl⟩, trivial⟩, ⟨trivial, ⟨⟨⟨rfl, rfl⟩, trivial⟩, ⟨trivial, trivial⟩⟩⟩⟩⟩⟩⟩⟩) (fun _ => ?_)
  refine a_next hok 10 [] (by kernel_rfl) ?_ trivial
  refine a_st (i := 10) hok rfl rfl (s_bslice (xs := [.tmp 9, .tmp 14]) (ds := [t3, t4]) Tryd.underlying22 el_3 rfl (Nat.le_of_ble_eq_true rfl) ⟨(part_at rfl iv_at), ⟨(part_at rfl iv_at), trivial⟩⟩) (by intro _ h; cases h; rfl) (fun _ => ⟨⟨⟨rfl, rfl⟩, trivial⟩, ⟨trivial, ⟨⟨⟨rfl, rfl⟩, trivial⟩, ⟨trivial, ⟨⟨⟨rfl, rfl⟩, trivial⟩, ⟨trivial, ⟨⟨⟨rfl, rfl⟩, trivial⟩, ⟨trivial, trivial⟩⟩⟩⟩⟩⟩⟩⟩) (fun _ => ?_)
  refine pull fun t5 h_t5 => ?_
  refine a_next hok 11 [] (by kernel_rfl) ?_ trivial
  refine a_st (i := 11) hok rfl rfl (s_call (ψ := fun (_ : Unit) => iv .i64 t5) (args := [.tmp 15]) Tryd.call84 rfl (cmp_Or_int_ok h_t5) ⟨arg rfl, trivial⟩ (fun _ _ _ _ h => h)) (by intro _ h; cases h; rfl) (fun _ => ⟨⟨⟨rfl, rfl⟩, trivial⟩, ⟨trivial, ⟨⟨⟨rfl, rfl⟩, trivial⟩, ⟨trivial, ⟨⟨⟨rfl, rfl⟩, trivial⟩, ⟨trivial, ⟨⟨⟨rfl, rfl⟩, trivial⟩, ⟨trivial, trivial⟩⟩⟩⟩⟩⟩⟩⟩) (fun _ => ?_)
  refine a_next hok 12 [] (by kernel_rfl) ?_ trivial
  refine a_st (i := 12) hok rfl rfl (St.ofRd (r_assign rfl)) (by intro _ h; cases h; rfl) (fun _ => ⟨trivial, ⟨trivial, ⟨trivial, ⟨trivial, ⟨trivial, ⟨trivial, ⟨trivial, ⟨trivial, trivial⟩⟩⟩⟩⟩⟩⟩⟩) (fun _ => ?_)
  refine a_fin hok (by kernel_rfl) ?_
  refine b_of (nrm [oc b1 [iv .i64 a__0.From, iv .i64 a__0.To], oc b2 [iv .i64 b_1.From, iv .i64 b_1.To]] rfl) ?_
  refine n_then (ref_ret ?_)
  exact fin1 (.inl rfl) () [] rfl trivial rfl (rv_tmp rfl)

/-! deliberation/graph.Validate -/
noncomputable def graph_Validate_l1 (g_0 : T_api_Graph) (s12 : Int) : Option (Sum ((Sum (Int) (Unit))) (Int)) :=
  bif decide (s12 < (g_0.L.length : Int)) then
    Option.bind (idxM g_0.L s12) fun t15 =>
    bif decide ((imin t15.From t15.To) < 0) then
      some (Sum.inl (Sum.inl 1))
    else
      bif decide ((imax t15.From t15.To) ≥ g_0.N) then
        some (Sum.inl (Sum.inl 1))
      else
        bif decide (s12 > 0) then
          Option.bind (idxM g_0.L (isub .i64 s12 1)) fun t18 =>
          Option.bind (graph_compare_m t18 t15) fun t19 =>
          bif decide (t19 ≥ 0) then
            some (Sum.inl (Sum.inl 8))
          else
            some (Sum.inr (iadd .i64 s12 1))
        else
          some (Sum.inr (iadd .i64 s12 1))
  else
    some (Sum.inl (Sum.inr ()))

noncomputable def graph_Validate_m (g_0 : T_api_Graph) : Option (Int) :=
  bif decide (g_0.N < 0) then
    some 1
  else
    bif decide (g_0.N > 40) then
      some 1
    else
      Option.bind (loopC (graph_Validate_l1 g_0) 0) (sumK (fun a : Int => some a) fun q21 : Unit =>
        some 0)

theorem graph_Validate_ok {g_0 : T_api_Graph} {r : Int} (hm : graph_Validate_m g_0 = some r) :
    FnOk prog 40 [ag [iv .i64 g_0.N, slv rT_api_Pair g_0.L]] [] (fun (x : Unit) => [iv .i64 r]) (fun (x : Unit) => []) := by
  refine fn_ok (fn := Tryd.f40) (N := 51) (res := fun r x => [iv .i64 r]) (Ω1 := fun r x => []) Tryd.func40 rfl rfl hm rfl (fun E hM => ?_)
  unfold graph_Validate_m
  refine ref_seq (ref_region ?_)
  refine s_st (s_box (part_agO (ψs := [iv .i64 g_0.N, slv rT_api_Pair g_0.L]) rfl ⟨.inl iv_at, .inl slv_at, trivial⟩)) rfl (fun b1 => ?_)
  refine as1 rfl rfl ?_
  refine l_nil (n_then (ref_seq (ref_seq (ref_region ?_))))
  refine s_rd (r_faddr (fo := 0) Tryd.underlying27 rfl rfl Tryd.sizeOf3 rfl) rfl ?_
  refine s_rd (r_cload Tryd.isAgg3 rfl (j := 0) rfl rfl) rfl ?_
  refine s_rd (r_lss rfl rfl) rfl ?_
  refine mv1 rfl rfl ?_
  refine b_split (t := 8) rfl (fun _ => ?_) (fun _ => ?_)
  · refine s_off rfl rfl rfl rfl rfl ?_
    refine s_off rfl rfl rfl rfl rfl ?_
    refine s_off rfl rfl rfl rfl rfl ?_
    refine s_rd (r_pickT rfl rfl) rfl ?_
    refine l_nil (n_then ?_)
    refine ref_condT rfl rfl ?_
    refine ref_seq (ref_region ?_)
    refine as1 rfl rfl ?_
    refine l_nil (n_then (ref_ret (r_then ?_)))
    exact fin1 (.inl rfl) () [] rfl trivial rfl (rv_tmp rfl)
  refine s_on rfl rfl rfl ?_
  refine s_rd (r_faddr (fo := 0) Tryd.underlying27 rfl rfl Tryd.sizeOf3 rfl) rfl ?_
  refine s_on rfl rfl rfl ?_
  refine s_rd (r_cload Tryd.isAgg3 rfl (j := 0) rfl rfl) rfl ?_
  refine s_on rfl rfl rfl ?_
  refine s_rd (r_gtr rfl rfl) rfl ?_
  refine s_rd (r_pickF rfl rfl) rfl ?_
  refine l_nil (n_then ?_)
  refine ref_cond rfl (fun hb2 => ?_) (fun hb2 => ?_)
  · refine ref_seq (ref_region ?_)
    refine as1 rfl rfl ?_
    refine l_nil (n_then (ref_ret (r_then ?_)))
    exact fin1 (.inl rfl) () [] rfl trivial rfl (rv_tmp rfl)
  refine ref_skip (n_then (ref_seq (ref_seq (ref_region ?_))))
  refine s_rd (r_faddr (fo := 1) Tryd.underlying27 rfl rfl Tryd.sizeOf25 rfl) rfl ?_
  refine s_rd (r_cload Tryd.isAgg25 rfl (j := 0) rfl rfl) rfl ?_
  refine s_rd (r_len Tryd.underlying25 rfl) rfl ?_
  refine mv1 rfl rfl ?_
  refine l_nil (n_then ?_)
  refine ref_loopX (f := (graph_Validate_l1 g_0)) (Γl := (fun (s12 : Int) (x13 : Unit) => [(1, pv (ptr b1 0)), (14, slv rT_api_Pair g_0.L), (15, iv .i64 (g_0.L.length : Int)), (16, iv .i64 s12)])) (Ωl := (fun (s12 : Int) (x13 : Unit) => [oc b1 [iv .i64 g_0.N, slv rT_api_Pair g_0.L]])) (Γb := (fun (q21 : Unit) (y22 : Unit) => [])) (Ωb := (fun (q21 : Unit) (y22 : Unit) => [])) (kr := (fun a : Int => some a)) 0 () (weak [0] ⟨rfl, rfl, rfl, rfl, trivial⟩ ⟨rfl, trivial⟩) (fun s12 x13 => ?_) (fun q21 y22 => ?_)
  · unfold graph_Validate_l1
    refine ref_seq (ref_region ?_)
    refine s_rd (r_lss rfl rfl) rfl ?_
    refine l_nil (n_then (ref_seq ?_))
    refine ref_cond rfl (fun hb14 => ?_) (fun hb14 => ?_)
    · refine ref_skip (n_then (ref_seq (ref_block (ref_seq (ref_region ?_)))))
      refine mv1 rfl rfl ?_
      refine pull fun t15 h_t15 => ?_
      refine s_rd (r_index h_t15 Tryd.underlying25 el_63 rfl rfl) rfl ?_
      refine s_rd (r_load el_63 rfl) rfl ?_
      refine s_st (s_alloc zt_63) rfl (fun b16 => ?_)
      refine as1 rfl rfl ?_
      refine s_st0 (s_cstore (out := [iv .i64 t15.From, iv .i64 t15.To]) Tryd.sizeOf63 rfl (j := 1) rfl (part_agO (ψs := [iv .i64 t15.From, iv .i64 t15.To]) rfl ⟨.inl iv_at, .inl iv_at, trivial⟩) rfl rfl rfl) (fun _ => ?_)
      refine l_nil (n_then (ref_seq (ref_seq (ref_region ?_))))
      refine s_rd (r_faddr (fo := 0) Tryd.underlying63 rfl rfl Tryd.sizeOf3 rfl) rfl ?_
      refine s_rd (r_cload Tryd.isAgg3 rfl (j := 1) rfl rfl) rfl ?_
      refine s_rd (r_faddr (fo := 1) Tryd.underlying63 rfl rfl Tryd.sizeOf3 rfl) rfl ?_
      refine s_rd (r_cload Tryd.isAgg3 rfl (j := 1) rfl rfl) rfl ?_
      refine s_rd (r_min rfl rfl) rfl ?_
      refine s_rd (r_lss rfl rfl) rfl ?_
      refine mv1 rfl rfl ?_
      refine b_split (t := 27) rfl (fun _ => ?_) (fun _ => ?_)
      · refine s_off rfl rfl rfl rfl rfl ?_
        refine s_off rfl rfl rfl rfl rfl ?_
        refine s_off rfl rfl rfl rfl rfl ?_
        refine s_off rfl rfl rfl rfl rfl ?_
        refine s_off rfl rfl rfl rfl rfl ?_
        refine s_off rfl rfl rfl rfl rfl ?_
        refine s_off rfl rfl rfl rfl rfl ?_
        refine s_off rfl rfl rfl rfl rfl ?_
        refine s_rd (r_pickT rfl rfl) rfl ?_
        refine l_nil (n_then ?_)
        refine ref_condT rfl rfl ?_
        refine ref_seq (ref_region ?_)
        refine as1 rfl rfl ?_
        refine l_nil (n_then (ref_ret (r_then (r_block (r_then ?_)))))
        refine retX ?_
        refine r_block (r_then ?_)
        exact fin1 (.inl rfl) () [] rfl trivial rfl (rv_tmp rfl)
      refine s_on rfl rfl rfl ?_
      refine s_rd (r_faddr (fo := 0) Tryd.underlying63 rfl rfl Tryd.sizeOf3 rfl) rfl ?_
      refine s_on rfl rfl rfl ?_
      refine s_rd (r_cload Tryd.isAgg3 rfl (j := 1) rfl rfl) rfl ?_
      refine s_on rfl rfl rfl ?_
      refine s_rd (r_faddr (fo := 1) Tryd.underlying63 rfl rfl Tryd.sizeOf3 rfl) rfl ?_
      refine s_on rfl rfl rfl ?_
      refine s_rd (r_cload Tryd.isAgg3 rfl (j := 1) rfl rfl) rfl ?_
      refine s_on rfl rfl rfl ?_
      refine s_rd (r_max rfl rfl) rfl ?_
      refine s_on rfl rfl rfl ?_
      refine s_rd (r_faddr (fo := 0) Tryd.underlying27 rfl rfl Tryd.sizeOf3 rfl) rfl ?_
      refine s_on rfl rfl rfl ?_
      refine s_rd (r_cload Tryd.isAgg3 rfl (j := 0) rfl rfl) rfl ?_
      refine s_on rfl rfl rfl ?_
      refine s_rd (r_geq rfl rfl) rfl ?_
      refine s_rd (r_pickF rfl rfl) rfl ?_
      refine l_nil (n_then ?_)
      refine ref_cond rfl (fun hb17 => ?_) (fun hb17 => ?_)
      · refine ref_seq (ref_region ?_)
        refine as1 rfl rfl ?_
        refine l_nil (n_then (ref_ret (r_then (r_block (r_then ?_)))))
        refine retX ?_
        refine r_block (r_then ?_)
        exact fin1 (.inl rfl) () [] rfl trivial rfl (rv_tmp rfl)
      refine ref_skip (n_then (ref_seq ?_))
      refine ref_draw [0, 1, 2, 3, 4, 5, 6, 7, 8, 9, 11, 12] rfl (by kernel_rfl) (fun hok => ?_)
      refine a_rd (i := 0) hok rfl (by kernel_rfl) rfl (r_move rfl) rfl ?_
      refine a_rd (i := 1) hok rfl (by kernel_rfl) rfl (r_gtr rfl rfl) rfl ?_
      refine a_rd (i := 2) hok rfl (by kernel_rfl) rfl (r_move rfl) rfl ?_
      refine b_split (t := 39) rfl (fun _ => ?_) (fun _ => ?_)
      · refine a_rdOn (i := 3) hok rfl rfl rfl rfl (by kernel_rfl) rfl (r_faddr (fo := 1) Tryd.underlying27 rfl rfl Tryd.sizeOf25 rfl) rfl ?_
        refine a_rdOn (i := 4) hok rfl rfl rfl rfl (by kernel_rfl) rfl (r_cload Tryd.isAgg25 rfl (j := 0) rfl rfl) rfl ?_
        refine a_rdOn (i := 5) hok rfl rfl rfl rfl (by kernel_rfl) rfl (r_move rfl) rfl ?_
        refine a_rdOn (i := 6) hok rfl rfl rfl rfl (by kernel_rfl) rfl (r_sub rfl rfl) rfl ?_
        refine pull fun t18 h_t18 => ?_
        refine a_rdOn (i := 7) hok rfl rfl rfl rfl (by kernel_rfl) rfl (r_index h_t18 Tryd.underlying25 el_63 rfl rfl) rfl ?_
        refine a_rdOn (i := 8) hok rfl rfl rfl rfl (by kernel_rfl) rfl (r_load el_63 rfl) rfl ?_
        refine a_rdOn (i := 9) hok rfl rfl rfl rfl (by kernel_rfl) rfl (r_cloadS Tryd.isAgg63 Tryd.sizeOf63 rfl (j := 1) rfl rfl rfl) rfl ?_
        refine pull fun t19 h_t19 => ?_
        refine a_next hok 10 [] (by kernel_rfl) ?_ trivial
        refine a_stOn (i := 10) hok rfl rfl rfl rfl rfl (s_call (ψ := fun (_ : Unit) => iv .i64 t19) (args := [.tmp 45, .tmp 46]) Tryd.call65 rfl (graph_compare_ok h_t19) ⟨arg rfl, arg rfl, trivial⟩ (fun _ _ _ _ h => h)) (by intro _ h; cases h; rfl) (fun _ => ⟨trivial, ⟨trivial, ⟨trivial, ⟨trivial, ⟨trivial, ⟨⟨⟨rfl, rfl⟩, trivial⟩, ⟨trivial, ⟨trivial, ⟨trivial, ⟨trivial, trivial⟩⟩⟩⟩⟩⟩⟩⟩⟩⟩) (fun _ => ?_)
        refine a_rdOn (i := 11) hok rfl rfl rfl rfl (by kernel_rfl) rfl (r_geq rfl rfl) rfl ?_
        refine a_rd (i := 12) hok rfl (by kernel_rfl) rfl (r_pickT rfl rfl) rfl ?_
        refine a_fin hok (by kernel_rfl) ?_
        refine b_of (nrm [oc b1 [iv .i64 g_0.N, slv rT_api_Pair g_0.L], oc b16 [iv .i64 t15.From, iv .i64 t15.To]] rfl) ?_
        refine n_then ?_
        refine ref_cond rfl (fun hb20 => ?_) (fun hb20 => ?_)
        · refine ref_seq (ref_region ?_)
          refine as1 rfl rfl ?_
          refine l_nil (n_then (ref_ret (r_block (r_then ?_))))
          refine retX ?_
          refine r_block (r_then ?_)
          exact fin1 (.inl rfl) () [] rfl trivial rfl (rv_tmp rfl)
        refine ref_skip (n_block (n_then (ref_region ?_)))
        refine s_rd (r_add rfl rfl) rfl ?_
        refine mv1 rfl rfl ?_
        refine l_nil ?_
        exact goX () (weak [0] ⟨rfl, rfl, rfl, rfl, trivial⟩ ⟨rfl, trivial⟩)
      refine a_off (i := 3) hok rfl rfl rfl rfl rfl (by kernel_rfl) rfl rfl ?_
      refine a_off (i := 4) hok rfl rfl rfl rfl rfl (by kernel_rfl) rfl rfl ?_
      refine a_off (i := 5) hok rfl rfl rfl rfl rfl (by kernel_rfl) rfl rfl ?_
      refine a_off (i := 6) hok rfl rfl rfl rfl rfl (by kernel_rfl) rfl rfl ?_
      refine a_off (i := 7) hok rfl rfl rfl rfl rfl (by kernel_rfl) rfl rfl ?_
      refine a_off (i := 8) hok rfl rfl rfl rfl rfl (by kernel_rfl) rfl rfl ?_
      refine a_off (i := 9) hok rfl rfl rfl rfl rfl (by kernel_rfl) rfl rfl ?_
      refine a_next hok 10 [] (by kernel_rfl) ?_ trivial
      refine a_stOff (i := 10) hok rfl rfl rfl rfl rfl rfl (by intro _ h; cases h; rfl) ⟨trivial, ⟨trivial, ⟨trivial, ⟨trivial, ⟨trivial, ⟨trivial, ⟨trivial, ⟨trivial, ⟨trivial, ⟨trivial, trivial⟩⟩⟩⟩⟩⟩⟩⟩⟩⟩ ?_
      refine a_off (i := 11) hok rfl rfl rfl rfl rfl (by kernel_rfl) rfl rfl ?_
      refine a_rd (i := 12) hok rfl (by kernel_rfl) rfl (r_pickF rfl rfl) rfl ?_
      refine a_fin hok (by kernel_rfl) ?_
      refine n_then ?_
      refine ref_condF rfl rfl ?_
      refine ref_skip (n_block (n_then (ref_region ?_)))
      refine s_rd (r_add rfl rfl) rfl ?_
      refine mv1 rfl rfl ?_
      refine l_nil ?_
      exact goX () (weak [0] ⟨rfl, rfl, rfl, rfl, trivial⟩ ⟨rfl, trivial⟩)
    refine ref_exit (x_then ?_)
    exact brkX () (weak [] trivial trivial)
  refine n_then (ref_seq (ref_region ?_))
  refine as1 rfl rfl ?_
  refine l_nil (n_then (ref_ret ?_))
  exact fin1 (.inl rfl) () [] rfl trivial rfl (rv_tmp rfl)

/-! deliberation/chance.proper$1 -/
noncomputable def chance_proper_1_m (f_0 : T_api_Fraction) : Option (Bool) :=
  bif decide (f_0.Den < 1) then
    some true
  else
    bif decide (f_0.Den > 12) then
      some true
    else
      bif decide (f_0.Num < 0) then
        some true
      else
        letM (decide (f_0.Num > f_0.Den)) fun t2 =>
        some t2

theorem chance_proper_1_ok {f_0 : T_api_Fraction} {r : Bool} (hm : chance_proper_1_m f_0 = some r) :
    FnOk prog 87 [ag [iv .i64 f_0.Num, iv .i64 f_0.Den]] [] (fun (x : Unit) => [bv r]) (fun (x : Unit) => []) := by
  refine fn_ok (fn := Tryd.f87) (N := 23) (res := fun r x => [bv r]) (Ω1 := fun r x => []) Tryd.func87 rfl rfl hm rfl (fun E hM => ?_)
  unfold chance_proper_1_m
  refine ref_seq (ref_region ?_)
  refine s_st (s_box (part_agO (ψs := [iv .i64 f_0.Num, iv .i64 f_0.Den]) rfl ⟨.inl iv_at, .inl iv_at, trivial⟩)) rfl (fun b1 => ?_)
  refine as1 rfl rfl ?_
  refine l_nil (n_then (ref_seq (ref_region ?_)))
  refine s_rd (r_faddr (fo := 1) Tryd.underlying36 rfl rfl Tryd.sizeOf3 rfl) rfl ?_
  refine s_rd (r_cload Tryd.isAgg3 rfl (j := 0) rfl rfl) rfl ?_
  refine s_rd (r_lss rfl rfl) rfl ?_
  refine mv1 rfl rfl ?_
  refine b_split (t := 6) rfl (fun _ => ?_) (fun _ => ?_)
  · refine s_off rfl rfl rfl rfl rfl ?_
    refine s_off rfl rfl rfl rfl rfl ?_
    refine s_off rfl rfl rfl rfl rfl ?_
    refine s_rd (r_pickT rfl rfl) rfl ?_
    refine mv1 rfl rfl ?_
    refine s_off rfl rfl rfl rfl rfl ?_
    refine s_off rfl rfl rfl rfl rfl ?_
    refine s_off rfl rfl rfl rfl rfl ?_
    refine s_rd (r_pickT rfl rfl) rfl ?_
    refine mv1 rfl rfl ?_
    refine s_off rfl rfl rfl rfl rfl ?_
    refine s_off rfl rfl rfl rfl rfl ?_
    refine s_off rfl rfl rfl rfl rfl ?_
    refine s_off rfl rfl rfl rfl rfl ?_
    refine s_off rfl rfl rfl rfl rfl ?_
    refine s_rd (r_pickT rfl rfl) rfl ?_
    refine as1 rfl rfl ?_
    refine l_nil (n_then (ref_ret ?_))
    exact fin1 (.inl rfl) () [] rfl trivial rfl (rv_tmp rfl)
  refine s_on rfl rfl rfl ?_
  refine s_rd (r_faddr (fo := 1) Tryd.underlying36 rfl rfl Tryd.sizeOf3 rfl) rfl ?_
  refine s_on rfl rfl rfl ?_
  refine s_rd (r_cload Tryd.isAgg3 rfl (j := 0) rfl rfl) rfl ?_
  refine s_on rfl rfl rfl ?_
  refine s_rd (r_gtr rfl rfl) rfl ?_
  refine s_rd (r_pickF rfl rfl) rfl ?_
  refine mv1 rfl rfl ?_
  refine b_split (t := 11) rfl (fun _ => ?_) (fun _ => ?_)
  · refine s_off rfl rfl rfl rfl rfl ?_
    refine s_off rfl rfl rfl rfl rfl ?_
    refine s_off rfl rfl rfl rfl rfl ?_
    refine s_rd (r_pickT rfl rfl) rfl ?_
    refine mv1 rfl rfl ?_
    refine s_off rfl rfl rfl rfl rfl ?_
    refine s_off rfl rfl rfl rfl rfl ?_
    refine s_off rfl rfl rfl rfl rfl ?_
    refine s_off rfl rfl rfl rfl rfl ?_
    refine s_off rfl rfl rfl rfl rfl ?_
    refine s_rd (r_pickT rfl rfl) rfl ?_
    refine as1 rfl rfl ?_
    refine l_nil (n_then (ref_ret ?_))
    exact fin1 (.inl rfl) () [] rfl trivial rfl (rv_tmp rfl)
  refine s_on rfl rfl rfl ?_
  refine s_rd (r_faddr (fo := 0) Tryd.underlying36 rfl rfl Tryd.sizeOf3 rfl) rfl ?_
  refine s_on rfl rfl rfl ?_
  refine s_rd (r_cload Tryd.isAgg3 rfl (j := 0) rfl rfl) rfl ?_
  refine s_on rfl rfl rfl ?_
  refine s_rd (r_lss rfl rfl) rfl ?_
  refine s_rd (r_pickF rfl rfl) rfl ?_
  refine mv1 rfl rfl ?_
  refine b_split (t := 16) rfl (fun _ => ?_) (fun _ => ?_)
  · refine s_off rfl rfl rfl rfl rfl ?_
    refine s_off rfl rfl rfl rfl rfl ?_
    refine s_off rfl rfl rfl rfl rfl ?_
    refine s_off rfl rfl rfl rfl rfl ?_
    refine s_off rfl rfl rfl rfl rfl ?_
    refine s_rd (r_pickT rfl rfl) rfl ?_
    refine as1 rfl rfl ?_
    refine l_nil (n_then (ref_ret ?_))
    exact fin1 (.inl rfl) () [] rfl trivial rfl (rv_tmp rfl)
  refine s_on rfl rfl rfl ?_
  refine s_rd (r_faddr (fo := 0) Tryd.underlying36 rfl rfl Tryd.sizeOf3 rfl) rfl ?_
  refine s_on rfl rfl rfl ?_
  refine s_rd (r_cload Tryd.isAgg3 rfl (j := 0) rfl rfl) rfl ?_
  refine s_on rfl rfl rfl ?_
  refine s_rd (r_faddr (fo := 1) Tryd.underlying36 rfl rfl Tryd.sizeOf3 rfl) rfl ?_
  refine s_on rfl rfl rfl ?_
  refine s_rd (r_cload Tryd.isAgg3 rfl (j := 0) rfl rfl) rfl ?_
  refine s_on rfl rfl rfl ?_
  refine s_rd (r_gtr rfl rfl) rfl ?_
  refine s_rd (r_pickF rfl rfl) rfl ?_
  refine as1 rfl rfl ?_
  refine b_let (f := bv) (t := 2) rfl fun t2 => ?_
  refine l_nil (n_then (ref_ret ?_))
  exact fin1 (.inl rfl) () [] rfl trivial rfl (rv_tmp rfl)

/-! slices.IndexFunc[[]deliberation/api.Fraction,deliberation/api.Fraction] -/
noncomputable def slices_IndexFunc_api_Fraction_api_Fraction_l1 (s_0 : (List T_api_Fraction)) (s7 : Int) : Option (Sum ((Sum (Int) (Unit))) (Int)) :=
  bif decide (s7 < (s_0.length : Int)) then
    Option.bind (idxM s_0 s7) fun t10 =>
    Option.bind (chance_proper_1_m t10) fun t11 =>
    bif t11 then
      some (Sum.inl (Sum.inl s7))
    else
      some (Sum.inr (iadd .i64 s7 1))
  else
    some (Sum.inl (Sum.inr ()))

noncomputable def slices_IndexFunc_api_Fraction_api_Fraction_m (s_0 : (List T_api_Fraction)) : Option (Int) :=
  Option.bind (loopC (slices_IndexFunc_api_Fraction_api_Fraction_l1 s_0) 0) (sumK (fun a : Int => some a) fun q13 : Unit =>
    some (-1))

theorem slices_IndexFunc_api_Fraction_api_Fraction_ok {s_0 : (List T_api_Fraction)} {r : Int} (hm : slices_IndexFunc_api_Fraction_api_Fraction_m s_0 = some r) :
    FnOk prog 91 [slv rT_api_Fraction s_0, pv (.func (.func 87) #[] #[])] [] (fun (x : Unit) => [iv .i64 r]) (fun (x : Unit) => []) := by
  refine fn_ok (fn := Tryd.f91) (N := 19) (res := fun r x => [iv .i64 r]) (Ω1 := fun r x => []) Tryd.func91 rfl rfl hm rfl (fun E hM => ?_)
  unfold slices_IndexFunc_api_Fraction_api_Fraction_m
  refine ref_seq (ref_region ?_)
  refine as1 rfl rfl ?_
  refine l_nil (n_then (ref_seq (ref_seq (ref_region ?_))))
  refine mv1 rfl rfl ?_
  refine s_rd (r_len Tryd.underlying29 rfl) rfl ?_
  refine mv1 rfl rfl ?_
  refine l_nil (n_then ?_)
  refine ref_loopX (f := (slices_IndexFunc_api_Fraction_api_Fraction_l1 s_0)) (Γl := (fun (s7 : Int) (x8 : Unit) => [(0, slv rT_api_Fraction s_0), (1, pv (.func (.func 87) #[] #[])), (7, iv .i64 (s_0.length : Int)), (8, iv .i64 s7)])) (Ωl := (fun (s7 : Int) (x8 : Unit) => [])) (Γb := (fun (q13 : Unit) (y14 : Unit) => [(1, pv (.func (.func 87) #[] #[]))])) (Ωb := (fun (q13 : Unit) (y14 : Unit) => [])) (kr := (fun a : Int => some a)) 0 () (weak [] ⟨rfl, rfl, rfl, rfl, trivial⟩ trivial) (fun s7 x8 => ?_) (fun q13 y14 => ?_)
  · unfold slices_IndexFunc_api_Fraction_api_Fraction_l1
    refine ref_seq (ref_region ?_)
    refine s_rd (r_lss rfl rfl) rfl ?_
    refine l_nil (n_then (ref_seq ?_))
    refine ref_cond rfl (fun hb9 => ?_) (fun hb9 => ?_)
    · refine ref_skip (n_then (ref_seq (ref_block (ref_seq (ref_region ?_)))))
      refine mv1 rfl rfl ?_
      refine as1 rfl rfl ?_
      refine l_nil (n_then (ref_seq (ref_region ?_)))
      refine mv1 rfl rfl ?_
      refine mv1 rfl rfl ?_
      refine mv1 rfl rfl ?_
      refine pull fun t10 h_t10 => ?_
      refine s_rd (r_index h_t10 Tryd.underlying29 el_36 rfl rfl) rfl ?_
      refine s_rd (r_load el_36 rfl) rfl ?_
      refine pull fun t11 h_t11 => ?_
      refine s_st (s_call (ψ := fun (_ : Unit) => bv t11) (args := [.tmp 15]) Tryd.call87 rfl (chance_proper_1_ok h_t11) ⟨arg rfl, trivial⟩ (fun _ _ _ _ h => h)) rfl (fun _ => ?_)
      refine l_nil (n_then ?_)
      refine ref_cond rfl (fun hb12 => ?_) (fun hb12 => ?_)
      · refine ref_seq (ref_region ?_)
        refine mv1 rfl rfl ?_
        refine as1 rfl rfl ?_
        refine l_nil (n_then (ref_ret (r_block (r_then ?_))))
        refine retX ?_
        refine r_block (r_then ?_)
        exact fin1 (.inl rfl) () [] rfl trivial rfl (rv_tmp rfl)
      refine ref_skip (n_block (n_then (ref_region ?_)))
      refine s_rd (r_add rfl rfl) rfl ?_
      refine mv1 rfl rfl ?_
      refine l_nil ?_
      exact goX () (weak [] ⟨rfl, rfl, rfl, rfl, trivial⟩ trivial)
    refine ref_exit (x_then ?_)
    exact brkX () (weak [] ⟨rfl, trivial⟩ trivial)
  refine n_then (ref_seq (ref_region ?_))
  refine as1 rfl rfl ?_
  refine l_nil (n_then (ref_ret ?_))
  exact fin1 (.inl rfl) () [] rfl trivial rfl (rv_tmp rfl)

/-! slices.ContainsFunc[[]deliberation/api.Fraction,deliberation/api.Fraction] -/
noncomputable def slices_ContainsFunc_api_Fraction_api_Fraction_m (s_0 : (List T_api_Fraction)) : Option (Bool) :=
  Option.bind (slices_IndexFunc_api_Fraction_api_Fraction_m s_0) fun t1 =>
  letM (decide (t1 ≥ 0)) fun t2 =>
  some t2

theorem slices_ContainsFunc_api_Fraction_api_Fraction_ok {s_0 : (List T_api_Fraction)} {r : Bool} (hm : slices_ContainsFunc_api_Fraction_api_Fraction_m s_0 = some r) :
    FnOk prog 86 [slv rT_api_Fraction s_0, pv (.func (.func 87) #[] #[])] [] (fun (x : Unit) => [bv r]) (fun (x : Unit) => []) := by
  refine fn_ok (fn := Tryd.f86) (N := 9) (res := fun r x => [bv r]) (Ω1 := fun r x => []) Tryd.func86 rfl rfl hm rfl (fun E hM => ?_)
  unfold slices_ContainsFunc_api_Fraction_api_Fraction_m
  refine ref_seq (ref_region ?_)
  refine as1 rfl rfl ?_
  refine l_nil (n_then (ref_seq (ref_region ?_)))
  refine mv1 rfl rfl ?_
  refine mv1 rfl rfl ?_
  refine pull fun t1 h_t1 => ?_
  refine s_st (s_call (ψ := fun (_ : Unit) => iv .i64 t1) (args := [.tmp 5, .tmp 6]) Tryd.call91 rfl (slices_IndexFunc_api_Fraction_api_Fraction_ok h_t1) ⟨arg rfl, arg rfl, trivial⟩ (fun _ _ _ _ h => h)) rfl (fun _ => ?_)
  refine s_rd (r_geq rfl rfl) rfl ?_
  refine as1 rfl rfl ?_
  refine b_let (f := bv) (t := 4) rfl fun t2 => ?_
  refine l_nil (n_then (ref_ret ?_))
  exact fin1 (.inl rfl) () [] rfl trivial rfl (rv_tmp rfl)

/-! deliberation/chance.proper -/
noncomputable def chance_proper_m (l_0 : (List T_api_Fraction)) : Option (Bool) :=
  Option.bind (slices_ContainsFunc_api_Fraction_api_Fraction_m l_0) fun t1 =>
  some (!t1)

theorem chance_proper_ok {l_0 : (List T_api_Fraction)} {r : Bool} (hm : chance_proper_m l_0 = some r) :
    FnOk prog 66 [slv rT_api_Fraction l_0] [] (fun (x : Unit) => [bv r]) (fun (x : Unit) => []) := by
  refine fn_ok (fn := Tryd.f66) (N := 6) (res := fun r x => [bv r]) (Ω1 := fun r x => []) Tryd.func66 rfl rfl hm rfl (fun E hM => ?_)
  unfold chance_proper_m
  refine ref_seq (ref_region ?_)
  refine as1 rfl rfl ?_
  refine l_nil (n_then (ref_seq (ref_region ?_)))
  refine mv1 rfl rfl ?_
  refine pull fun t1 h_t1 => ?_
  refine s_st (s_call (ψ := fun (_ : Unit) => bv t1) (args := [.tmp 3, .func 87]) Tryd.call86 rfl (slices_ContainsFunc_api_Fraction_api_Fraction_ok h_t1) ⟨arg rfl, arg rfl, trivial⟩ (fun _ _ _ _ h => h)) rfl (fun _ => ?_)
  refine s_rd (r_not rfl) rfl ?_
  refine as1 rfl rfl ?_
  refine l_nil (n_then (ref_ret ?_))
  exact fin1 (.inl rfl) () [] rfl trivial rfl (rv_tmp rfl)

/-! deliberation/chance.fits -/
noncomputable def chance_fits_m (g_0 : T_api_Graph) (o_1 : T_api_Odds) : Option (Bool) :=
  bif (o_1.Nodes.length : Int) == g_0.N then
    bif (o_1.Attacks.length : Int) == (g_0.L.length : Int) then
      Option.bind (chance_proper_m o_1.Nodes) fun t3 =>
      bif t3 then
        Option.bind (chance_proper_m o_1.Attacks) fun t4 =>
        some t4
      else
        some false
    else
      some false
  else
    some false

theorem chance_fits_ok {g_0 : T_api_Graph} {o_1 : T_api_Odds} {r : Bool} (hm : chance_fits_m g_0 o_1 = some r) :
    FnOk prog 41 [ag [iv .i64 g_0.N, slv rT_api_Pair g_0.L], ag [slv rT_api_Fraction o_1.Nodes, slv rT_api_Fraction o_1.Attacks]] [] (fun (x : Unit) => [bv r]) (fun (x : Unit) => []) := by
  refine fn_ok (fn := Tryd.f41) (N := 30) (res := fun r x => [bv r]) (Ω1 := fun r x => []) Tryd.func41 rfl rfl hm rfl (fun E hM => ?_)
  unfold chance_fits_m
  refine ref_seq (ref_region ?_)
  refine s_st (s_box (part_agO (ψs := [iv .i64 g_0.N, slv rT_api_Pair g_0.L]) rfl ⟨.inl iv_at, .inl slv_at, trivial⟩)) rfl (fun b1 => ?_)
  refine s_st (s_box (part_agO (ψs := [slv rT_api_Fraction o_1.Nodes, slv rT_api_Fraction o_1.Attacks]) rfl ⟨.inl slv_at, .inl slv_at, trivial⟩)) rfl (fun b2 => ?_)
  refine as1 rfl rfl ?_
  refine l_nil (n_then (ref_seq (ref_region ?_)))
  refine s_rd (r_faddr (fo := 0) Tryd.underlying31 rfl rfl Tryd.sizeOf29 rfl) rfl ?_
  refine s_rd (r_cload Tryd.isAgg29 rfl (j := 1) rfl rfl) rfl ?_
  refine s_rd (r_len Tryd.underlying29 rfl) rfl ?_
  refine s_rd (r_faddr (fo := 0) Tryd.underlying27 rfl rfl Tryd.sizeOf3 rfl) rfl ?_
  refine s_rd (r_cload Tryd.isAgg3 rfl (j := 0) rfl rfl) rfl ?_
  refine s_rd (r_eql rfl rfl) rfl ?_
  refine mv1 rfl rfl ?_
  refine b_split (t := 11) rfl (fun _ => ?_) (fun _ => ?_)
  · refine s_on rfl rfl rfl ?_
    refine s_rd (r_faddr (fo := 1) Tryd.underlying31 rfl rfl Tryd.sizeOf29 rfl) rfl ?_
    refine s_on rfl rfl rfl ?_
    refine s_rd (r_cload Tryd.isAgg29 rfl (j := 1) rfl rfl) rfl ?_
    refine s_on rfl rfl rfl ?_
    refine s_rd (r_len Tryd.underlying29 rfl) rfl ?_
    refine s_on rfl rfl rfl ?_
    refine s_rd (r_faddr (fo := 1) Tryd.underlying27 rfl rfl Tryd.sizeOf25 rfl) rfl ?_
    refine s_on rfl rfl rfl ?_
    refine s_rd (r_cload Tryd.isAgg25 rfl (j := 0) rfl rfl) rfl ?_
    refine s_on rfl rfl rfl ?_
    refine s_rd (r_len Tryd.underlying25 rfl) rfl ?_
    refine s_on rfl rfl rfl ?_
    refine s_rd (r_eql rfl rfl) rfl ?_
    refine s_rd (r_pickT rfl rfl) rfl ?_
    refine mv1 rfl rfl ?_
    refine b_split (t := 20) rfl (fun _ => ?_) (fun _ => ?_)
    · refine s_on rfl rfl rfl ?_
      refine s_rd (r_faddr (fo := 0) Tryd.underlying31 rfl rfl Tryd.sizeOf29 rfl) rfl ?_
      refine s_on rfl rfl rfl ?_
      refine s_rd (r_cload Tryd.isAgg29 rfl (j := 1) rfl rfl) rfl ?_
      refine s_on rfl rfl rfl ?_
      refine pull fun t3 h_t3 => ?_
      refine s_st (s_call (ψ := fun (_ : Unit) => bv t3) (args := [.tmp 22]) Tryd.call66 rfl (chance_proper_ok h_t3) ⟨arg rfl, trivial⟩ (fun _ _ _ _ h => h)) rfl (fun _ => ?_)
      refine s_rd (r_pickT rfl rfl) rfl ?_
      refine mv1 rfl rfl ?_
      refine b_split (t := 25) rfl (fun _ => ?_) (fun _ => ?_)
      · refine s_on rfl rfl rfl ?_
        refine s_rd (r_faddr (fo := 1) Tryd.underlying31 rfl rfl Tryd.sizeOf29 rfl) rfl ?_
        refine s_on rfl rfl rfl ?_
        refine s_rd (r_cload Tryd.isAgg29 rfl (j := 1) rfl rfl) rfl ?_
        refine s_on rfl rfl rfl ?_
        refine pull fun t4 h_t4 => ?_
        refine s_st (s_call (ψ := fun (_ : Unit) => bv t4) (args := [.tmp 27]) Tryd.call66 rfl (chance_proper_ok h_t4) ⟨arg rfl, trivial⟩ (fun _ _ _ _ h => h)) rfl (fun _ => ?_)
        refine s_rd (r_pickT rfl rfl) rfl ?_
        refine as1 rfl rfl ?_
        refine l_nil ?_
        refine b_of (nrm [oc b1 [iv .i64 g_0.N, slv rT_api_Pair g_0.L], oc b2 [slv rT_api_Fraction o_1.Nodes, slv rT_api_Fraction o_1.Attacks]] rfl) ?_
        refine n_then (ref_ret ?_)
        exact fin1 (.inl rfl) () [] rfl trivial rfl (rv_tmp rfl)
      refine s_off rfl rfl rfl rfl rfl ?_
      refine s_off rfl rfl rfl rfl rfl ?_
      refine s_off rfl rfl rfl rfl rfl ?_
      refine s_rd (r_pickF rfl rfl) rfl ?_
      refine as1 rfl rfl ?_
      refine l_nil (n_then (ref_ret ?_))
      exact fin1 (.inl rfl) () [] rfl trivial rfl (rv_tmp rfl)
    refine s_off rfl rfl rfl rfl rfl ?_
    refine s_off rfl rfl rfl rfl rfl ?_
    refine s_off rfl rfl rfl rfl rfl ?_
    refine s_rd (r_pickF rfl rfl) rfl ?_
    refine mv1 rfl rfl ?_
    refine s_off rfl rfl rfl rfl rfl ?_
    refine s_off rfl rfl rfl rfl rfl ?_
    refine s_off rfl rfl rfl rfl rfl ?_
    refine s_rd (r_pickF rfl rfl) rfl ?_
    refine as1 rfl rfl ?_
    refine l_nil (n_then (ref_ret ?_))
    exact fin1 (.inl rfl) () [] rfl trivial rfl (rv_tmp rfl)
  refine s_off rfl rfl rfl rfl rfl ?_
  refine s_off rfl rfl rfl rfl rfl ?_
  refine s_off rfl rfl rfl rfl rfl ?_
  refine s_off rfl rfl rfl rfl rfl ?_
  refine s_off rfl rfl rfl rfl rfl ?_
  refine s_off rfl rfl rfl rfl rfl ?_
  refine s_off rfl rfl rfl rfl rfl ?_
  refine s_rd (r_pickF rfl rfl) rfl ?_
  refine mv1 rfl rfl ?_
  refine s_off rfl rfl rfl rfl rfl ?_
  refine s_off rfl rfl rfl rfl rfl ?_
  refine s_off rfl rfl rfl rfl rfl ?_
  refine s_rd (r_pickF rfl rfl) rfl ?_
  refine mv1 rfl rfl ?_
  refine s_off rfl rfl rfl rfl rfl ?_
  refine s_off rfl rfl rfl rfl rfl ?_
  refine s_off rfl rfl rfl rfl rfl ?_
  refine s_rd (r_pickF rfl rfl) rfl ?_
  refine as1 rfl rfl ?_
  refine l_nil (n_then (ref_ret ?_))
  exact fin1 (.inl rfl) () [] rfl trivial rfl (rv_tmp rfl)

/-! deliberation/network.Question -/
noncomputable def network_Question_m (q_0 : Int) : Option (Bool) :=
  bif decide (q_0 ≥ 1) then
    letM (decide (q_0 ≤ 4)) fun t1 =>
    some t1
  else
    some false

theorem network_Question_ok {q_0 : Int} {r : Bool} (hm : network_Question_m q_0 = some r) :
    FnOk prog 54 [iv .i64 q_0] [] (fun (x : Unit) => [bv r]) (fun (x : Unit) => []) := by
  refine fn_ok (fn := Tryd.f54) (N := 9) (res := fun r x => [bv r]) (Ω1 := fun r x => []) Tryd.func54 rfl rfl hm rfl (fun E hM => ?_)
  unfold network_Question_m
  refine ref_seq (ref_region ?_)
  refine as1 rfl rfl ?_
  refine l_nil (n_then (ref_seq (ref_region ?_)))
  refine mv1 rfl rfl ?_
  refine s_rd (r_geq rfl rfl) rfl ?_
  refine mv1 rfl rfl ?_
  refine b_split (t := 5) rfl (fun _ => ?_) (fun _ => ?_)
  · refine s_on rfl rfl rfl ?_
    refine mv1 rfl rfl ?_
    refine s_on rfl rfl rfl ?_
    refine s_rd (r_leq rfl rfl) rfl ?_
    refine s_rd (r_pickT rfl rfl) rfl ?_
    refine as1 rfl rfl ?_
    refine b_let (f := bv) (t := 2) rfl fun t1 => ?_
    refine l_nil (n_then (ref_ret ?_))
    exact fin1 (.inl rfl) () [] rfl trivial rfl (rv_tmp rfl)
  refine s_off rfl rfl rfl rfl rfl ?_
  refine s_off rfl rfl rfl rfl rfl ?_
  refine s_rd (r_pickF rfl rfl) rfl ?_
  refine as1 rfl rfl ?_
  refine l_nil (n_then (ref_ret ?_))
  exact fin1 (.inl rfl) () [] rfl trivial rfl (rv_tmp rfl)

/-! deliberation/network.Ascending -/
noncomputable def network_Ascending_l1 (l_0 : (List Int)) (nodes_1 : Int) (s7 : Int) : Option (Sum ((Sum (Bool) (Unit))) (Int)) :=
  bif decide (s7 < (l_0.length : Int)) then
    Option.bind (idxM l_0 s7) fun n10 =>
    bif decide (n10 < 0) then
      some (Sum.inl (Sum.inl false))
    else
      bif decide (n10 ≥ nodes_1) then
        some (Sum.inl (Sum.inl false))
      else
        bif decide (s7 > 0) then
          Option.bind (idxM l_0 (isub .i64 s7 1)) fun t11 =>
          bif decide (n10 ≤ t11) then
            some (Sum.inl (Sum.inl false))
          else
            some (Sum.inr (iadd .i64 s7 1))
        else
          some (Sum.inr (iadd .i64 s7 1))
  else
    some (Sum.inl (Sum.inr ()))

noncomputable def network_Ascending_m (l_0 : (List Int)) (nodes_1 : Int) : Option (Bool) :=
  Option.bind (loopC (network_Ascending_l1 l_0 nodes_1) 0) (sumK (fun a : Bool => some a) fun q13 : Unit =>
    some true)

theorem network_Ascending_ok {l_0 : (List Int)} {nodes_1 : Int} {r : Bool} (hm : network_Ascending_m l_0 nodes_1 = some r) :
    FnOk prog 55 [slv (rI .i64) l_0, iv .i64 nodes_1] [] (fun (x : Unit) => [bv r]) (fun (x : Unit) => []) := by
  refine fn_ok (fn := Tryd.f55) (N := 35) (res := fun r x => [bv r]) (Ω1 := fun r x => []) Tryd.func55 rfl rfl hm rfl (fun E hM => ?_)
  unfold network_Ascending_m
  refine ref_seq (ref_region ?_)
  refine as1 rfl rfl ?_
  refine l_nil (n_then (ref_seq (ref_seq (ref_region ?_))))
  refine mv1 rfl rfl ?_
  refine s_rd (r_len Tryd.underlying22 rfl) rfl ?_
  refine mv1 rfl rfl ?_
  refine l_nil (n_then ?_)
  refine ref_loopX (f := (network_Ascending_l1 l_0 nodes_1)) (Γl := (fun (s7 : Int) (x8 : Unit) => [(0, slv (rI .i64) l_0), (1, iv .i64 nodes_1), (7, slv (rI .i64) l_0), (8, iv .i64 (l_0.length : Int)), (9, iv .i64 s7)])) (Ωl := (fun (s7 : Int) (x8 : Unit) => [])) (Γb := (fun (q13 : Unit) (y14 : Unit) => [])) (Ωb := (fun (q13 : Unit) (y14 : Unit) => [])) (kr := (fun a : Bool => some a)) 0 () (weak [] ⟨rfl, rfl, rfl, rfl, rfl, trivial⟩ trivial) (fun s7 x8 => ?_) (fun q13 y14 => ?_)
  · unfold network_Ascending_l1
    refine ref_seq (ref_region ?_)
    refine s_rd (r_lss rfl rfl) rfl ?_
    refine l_nil (n_then (ref_seq ?_))
    refine ref_cond rfl (fun hb9 => ?_) (fun hb9 => ?_)
    · refine ref_skip (n_then (ref_seq (ref_block (ref_seq (ref_region ?_)))))
      refine mv1 rfl rfl ?_
      refine pull fun n10 h_n10 => ?_
      refine s_rd (r_index h_n10 Tryd.underlying22 el_3 rfl rfl) rfl ?_
      refine s_rd (r_load el_3 rfl) rfl ?_
      refine as1 rfl rfl ?_
      refine as1 rfl rfl ?_
      refine l_nil (n_then (ref_seq (ref_region ?_)))
      refine mv1 rfl rfl ?_
      refine s_rd (r_lss rfl rfl) rfl ?_
      refine mv1 rfl rfl ?_
      refine b_split (t := 16) rfl (fun _ => ?_) (fun _ => ?_)
      · refine s_off rfl rfl rfl rfl rfl ?_
        refine s_off rfl rfl rfl rfl rfl ?_
        refine s_off rfl rfl rfl rfl rfl ?_
        refine s_rd (r_pickT rfl rfl) rfl ?_
        refine mv1 rfl rfl ?_
        refine s_off rfl rfl rfl rfl rfl ?_
        refine s_off rfl rfl rfl rfl rfl ?_
        refine s_off rfl rfl rfl rfl rfl ?_
        refine s_offU rfl rfl rfl ?_
        refine s_offU rfl rfl rfl ?_
        refine s_offU rfl rfl rfl ?_
        refine s_offU rfl rfl rfl ?_
        refine s_offU rfl rfl rfl ?_
        refine s_offU rfl rfl rfl ?_
        refine s_offU rfl rfl rfl ?_
        refine s_off rfl rfl rfl rfl rfl ?_
        refine s_rd (r_pickT rfl rfl) rfl ?_
        refine l_nil (n_then ?_)
        refine ref_condT rfl rfl ?_
        refine ref_seq (ref_region ?_)
        refine as1 rfl rfl ?_
        refine l_nil (n_then (ref_ret (r_block (r_then ?_))))
        refine retX ?_
        refine r_block (r_then ?_)
        exact fin1 (.inl rfl) () [] rfl trivial rfl (rv_tmp rfl)
      refine s_on rfl rfl rfl ?_
      refine mv1 rfl rfl ?_
      refine s_on rfl rfl rfl ?_
      refine mv1 rfl rfl ?_
      refine s_on rfl rfl rfl ?_
      refine s_rd (r_geq rfl rfl) rfl ?_
      refine s_rd (r_pickF rfl rfl) rfl ?_
      refine mv1 rfl rfl ?_
      refine b_split (t := 21) rfl (fun _ => ?_) (fun _ => ?_)
      · refine s_off rfl rfl rfl rfl rfl ?_
        refine s_off rfl rfl rfl rfl rfl ?_
        refine s_off rfl rfl rfl rfl rfl ?_
        refine s_offU rfl rfl rfl ?_
        refine s_offU rfl rfl rfl ?_
        refine s_offU rfl rfl rfl ?_
        refine s_offU rfl rfl rfl ?_
        refine s_offU rfl rfl rfl ?_
        refine s_offU rfl rfl rfl ?_
        refine s_offU rfl rfl rfl ?_
        refine s_off rfl rfl rfl rfl rfl ?_
        refine s_rd (r_pickT rfl rfl) rfl ?_
        refine l_nil (n_then ?_)
        refine ref_condT rfl rfl ?_
        refine ref_seq (ref_region ?_)
        refine as1 rfl rfl ?_
        refine l_nil (n_then (ref_ret (r_block (r_then ?_))))
        refine retX ?_
        refine r_block (r_then ?_)
        exact fin1 (.inl rfl) () [] rfl trivial rfl (rv_tmp rfl)
      refine s_on rfl rfl rfl ?_
      refine mv1 rfl rfl ?_
      refine s_on rfl rfl rfl ?_
      refine s_rd (r_gtr rfl rfl) rfl ?_
      refine s_on rfl rfl rfl ?_
      refine mv1 rfl rfl ?_
      refine b_split (t := 24) rfl (fun _ => ?_) (fun _ => ?_)
      · refine s_on rfl rfl rfl ?_
        refine mv1 rfl rfl ?_
        refine s_on rfl rfl rfl ?_
        refine mv1 rfl rfl ?_
        refine s_on rfl rfl rfl ?_
        refine mv1 rfl rfl ?_
        refine s_on rfl rfl rfl ?_
        refine s_rd (r_sub rfl rfl) rfl ?_
        refine s_on rfl rfl rfl ?_
        refine pull fun t11 h_t11 => ?_
        refine s_rd (r_index h_t11 Tryd.underlying22 el_3 rfl rfl) rfl ?_
        refine s_on rfl rfl rfl ?_
        refine s_rd (r_load el_3 rfl) rfl ?_
        refine s_on rfl rfl rfl ?_
        refine s_rd (r_leq rfl rfl) rfl ?_
        refine s_on rfl rfl rfl ?_
        refine s_rd (r_pickT rfl rfl) rfl ?_
        refine s_rd (r_pickF rfl rfl) rfl ?_
        refine l_nil (n_then ?_)
        refine ref_cond rfl (fun hb12 => ?_) (fun hb12 => ?_)
        · refine ref_seq (ref_region ?_)
          refine as1 rfl rfl ?_
          refine l_nil (n_then (ref_ret (r_block (r_then ?_))))
          refine retX ?_
          refine r_block (r_then ?_)
          exact fin1 (.inl rfl) () [] rfl trivial rfl (rv_tmp rfl)
        refine ref_skip (n_block (n_then (ref_region ?_)))
        refine s_rd (r_add rfl rfl) rfl ?_
        refine mv1 rfl rfl ?_
        refine l_nil ?_
        exact goX () (weak [] ⟨rfl, rfl, rfl, rfl, rfl, trivial⟩ trivial)
      refine s_off rfl rfl rfl rfl rfl ?_
      refine s_off rfl rfl rfl rfl rfl ?_
      refine s_off rfl rfl rfl rfl rfl ?_
      refine s_off rfl rfl rfl rfl rfl ?_
      refine s_off rfl rfl rfl rfl rfl ?_
      refine s_off rfl rfl rfl rfl rfl ?_
      refine s_off rfl rfl rfl rfl rfl ?_
      refine s_on rfl rfl rfl ?_
      refine s_rd (r_pickF rfl rfl) rfl ?_
      refine s_rd (r_pickF rfl rfl) rfl ?_
      refine l_nil (n_then ?_)
      refine ref_condF rfl rfl ?_
      refine ref_skip (n_block (n_then (ref_region ?_)))
      refine s_rd (r_add rfl rfl) rfl ?_
      refine mv1 rfl rfl ?_
      refine l_nil ?_
      exact goX () (weak [] ⟨rfl, rfl, rfl, rfl, rfl, trivial⟩ trivial)
    refine ref_exit (x_then ?_)
    exact brkX () (weak [] trivial trivial)
  refine n_then (ref_seq (ref_region ?_))
  refine as1 rfl rfl ?_
  refine l_nil (n_then (ref_ret ?_))
  exact fin1 (.inl rfl) () [] rfl trivial rfl (rv_tmp rfl)

/-! slices.Grow[[]deliberation/api.Fraction,deliberation/api.Fraction] -/
noncomputable def slices_Grow_api_Fraction_api_Fraction_m (n_1 : Int) : Option (List T_api_Fraction) :=
  bif decide (n_1 < 0) then
    none
  else
    letM (isub .i64 n_1 (isub .i64 0 0)) fun n2 =>
    bif decide (n2 > 0) then
      Option.bind (mkM 16 (T_api_Fraction.mk 0 0) n2) fun t4 =>
      Option.bind (slM t4 0 0) fun s6 =>
      some s6
    else
      some []

theorem slices_Grow_api_Fraction_api_Fraction_ok {n_1 : Int} {r : List T_api_Fraction} (hm : slices_Grow_api_Fraction_api_Fraction_m n_1 = some r) :
    FnOk prog 74 [pv (.slice none 0 0), iv .i64 n_1] [] (fun (x : (Value × List Nat)) => [pv x.1]) (fun (x : (Value × List Nat)) => [oa rT_api_Fraction x.1 x.2 r]) := by
  refine fn_ok (X := (Value × List Nat)) (fn := Tryd.f74) (N := 27) (res := fun r x => [pv x.1]) (Ω1 := fun r x => [oa rT_api_Fraction x.1 x.2 r]) Tryd.func74 rfl rfl hm rfl (fun E hM => ?_)
  unfold slices_Grow_api_Fraction_api_Fraction_m
  refine ref_seq (ref_region ?_)
  refine as1 rfl rfl ?_
  refine l_nil (n_then (ref_seq (ref_seq (ref_region ?_))))
  refine mv1 rfl rfl ?_
  refine s_rd (r_lss rfl rfl) rfl ?_
  refine l_nil (n_then ?_)
  refine ref_cond rfl (fun hb1 => ?_) (fun hb1 => ?_)
  · refine ref_region ?_
    exact pnone
  refine ref_skip (n_then (ref_seq (ref_seq (ref_region ?_))))
  refine mv1 rfl rfl ?_
  refine mv1 rfl rfl ?_
  refine s_rd (r_capN Tryd.underlying29 rfl) rfl ?_
  refine mv1 rfl rfl ?_
  refine s_rd (r_lenN Tryd.underlying29 rfl) rfl ?_
  refine s_rd (r_sub rfl rfl) rfl ?_
  refine s_rd (r_sub rfl rfl) rfl ?_
  refine as1 rfl rfl ?_
  refine b_let (f := iv .i64) (t := 1) rfl fun n2 => ?_
  refine l_nil (n_then (ref_seq (ref_region ?_)))
  refine mv1 rfl rfl ?_
  refine s_rd (r_gtr rfl rfl) rfl ?_
  refine l_nil (n_then ?_)
  refine ref_cond rfl (fun hb3 => ?_) (fun hb3 => ?_)
  · refine ref_region ?_
    refine mv1 rfl rfl ?_
    refine mv1 rfl rfl ?_
    refine s_rd (r_capN Tryd.underlying29 rfl) rfl ?_
    refine s_rd (r_sliceN Tryd.underlying29 el_36 rfl rfl) rfl ?_
    refine mv1 rfl rfl ?_
    refine pull fun t4 h_t4 => ?_
    refine s_st (s_appendZ h_t4 (of_decide_eq_true hb3) Tryd.underlying29 Tryd.underlying3 el_36 ze_36 rfl rfl) rfl (fun o5 => ?_)
    refine mv1 rfl rfl ?_
    refine s_rd (r_lenN Tryd.underlying29 rfl) rfl ?_
    refine pull fun s6 h_s6 => ?_
    refine s_st (s_oslice h_s6 Tryd.underlying29 el_36 rfl (j := 0) rfl .dft (.of rfl)) rfl (fun o7 => ?_)
    refine as1 rfl rfl ?_
    refine l_nil (n_then (ref_seq (ref_region ?_)))
    refine mv1 rfl rfl ?_
    refine as1 rfl rfl ?_
    refine l_nil (n_then (ref_ret ?_))
    exact fin1 (.inl rfl) o7 [0] rfl ⟨rfl, trivial⟩ rfl (rv_tmp rfl)
  refine ref_skip (n_then (ref_seq (ref_region ?_)))
  refine mv1 rfl rfl ?_
  refine as1 rfl rfl ?_
  refine l_nil (n_then (ref_ret ?_))
  refine b_of (own_nil rT_api_Fraction) ?_
  exact fin1 (.inl rfl) ((.slice none 0 0), []) [0] rfl ⟨rfl, trivial⟩ rfl (rv_tmp rfl)

/-! slices.Concat[[]deliberation/api.Fraction,deliberation/api.Fraction] -/
noncomputable def slices_Concat_api_Fraction_api_Fraction_l1 (slices_0 : (List (List T_api_Fraction))) (s7 : Int × Int) : Option (Sum (Int) (Int × Int)) :=
  bif decide (s7.2 < (slices_0.length : Int)) then
    Option.bind (idxM slices_0 s7.2) fun s10 =>
    letM (iadd .i64 s7.1 (s10.length : Int)) fun size11 =>
    bif decide (size11 < 0) then
      none
    else
      some (Sum.inr (size11, iadd .i64 s7.2 1))
  else
    some (Sum.inl s7.1)

noncomputable def slices_Concat_api_Fraction_api_Fraction_l2 (slices_0 : (List (List T_api_Fraction))) (s29 : Int × (List T_api_Fraction)) : Option (Sum ((List T_api_Fraction)) (Int × (List T_api_Fraction))) :=
  bif decide (s29.1 < (slices_0.length : Int)) then
    Option.bind (idxM slices_0 s29.1) fun s32 =>
    Option.bind (appM 16 s29.2 s32) fun newslice33 =>
    some (Sum.inr (iadd .i64 s29.1 1, newslice33))
  else
    some (Sum.inl s29.2)

noncomputable def slices_Concat_api_Fraction_api_Fraction_m (slices_0 : (List (List T_api_Fraction))) : Option (List T_api_Fraction) :=
  Option.bind (loopC (slices_Concat_api_Fraction_api_Fraction_l1 slices_0) (0, 0)) fun q13 : Int =>
  Option.bind (slices_Grow_api_Fraction_api_Fraction_m q13) fun newslice15 =>
  Option.bind (loopC (slices_Concat_api_Fraction_api_Fraction_l2 slices_0) (0, newslice15)) fun q35 : (List T_api_Fraction) =>
  some q35

theorem slices_Concat_api_Fraction_api_Fraction_ok {slices_0 : (List (List T_api_Fraction))} {r : List T_api_Fraction} (hm : slices_Concat_api_Fraction_api_Fraction_m slices_0 = some r) :
    FnOk prog 56 [slv (rSl rT_api_Fraction) slices_0] [] (fun (x : (Value × List Nat)) => [pv x.1]) (fun (x : (Value × List Nat)) => [oa rT_api_Fraction x.1 x.2 r]) := by
  refine fn_ok (X := (Value × List Nat)) (fn := Tryd.f56) (N := 36) (res := fun r x => [pv x.1]) (Ω1 := fun r x => [oa rT_api_Fraction x.1 x.2 r]) Tryd.func56 rfl rfl hm rfl (fun E hM => ?_)
  unfold slices_Concat_api_Fraction_api_Fraction_m
  refine ref_seq (ref_region ?_)
  refine as1 rfl rfl ?_
  refine l_nil (n_then (ref_seq (ref_region ?_)))
  refine as1 rfl rfl ?_
  refine l_nil (n_then (ref_seq (ref_seq (ref_region ?_))))
  refine mv1 rfl rfl ?_
  refine s_rd (r_len Tryd.underlying106 rfl) rfl ?_
  refine mv1 rfl rfl ?_
  refine l_nil (n_then ?_)
  refine ref_loopB (f := (slices_Concat_api_Fraction_api_Fraction_l1 slices_0)) (Γl := (fun (s7 : Int × Int) (x8 : Unit) => [(0, slv (rSl rT_api_Fraction) slices_0), (3, iv .i64 s7.1), (9, slv (rSl rT_api_Fraction) slices_0), (10, iv .i64 (slices_0.length : Int)), (11, iv .i64 s7.2)])) (Ωl := (fun (s7 : Int × Int) (x8 : Unit) => [])) (Γb := (fun (q13 : Int) (y14 : Unit) => [(0, slv (rSl rT_api_Fraction) slices_0), (3, iv .i64 q13)])) (Ωb := (fun (q13 : Int) (y14 : Unit) => [])) (0, 0) () (weak [] ⟨rfl, rfl, rfl, rfl, rfl, trivial⟩ trivial) (fun s7 x8 => ?_) (fun q13 y14 => ?_)
  · unfold slices_Concat_api_Fraction_api_Fraction_l1
    refine ref_seq (ref_region ?_)
    refine s_rd (r_lss rfl rfl) rfl ?_
    refine l_nil (n_then (ref_seq ?_))
    refine ref_cond rfl (fun hb9 => ?_) (fun hb9 => ?_)
    · refine ref_skip (n_then (ref_seq (ref_block (ref_seq (ref_region ?_)))))
      refine pull fun s10 h_s10 => ?_
      refine s_rd (r_index h_s10 Tryd.underlying106 el_29 rfl rfl) rfl ?_
      refine s_rd (r_load el_29 rfl) rfl ?_
      refine as1 rfl rfl ?_
      refine l_nil (n_then (ref_seq (ref_region ?_)))
      refine mv1 rfl rfl ?_
      refine mv1 rfl rfl ?_
      refine s_rd (r_len Tryd.underlying29 rfl) rfl ?_
      refine s_rd (r_add rfl rfl) rfl ?_
      refine as1 rfl rfl ?_
      refine b_let (f := iv .i64) (t := 3) rfl fun size11 => ?_
      refine l_nil (n_then (ref_seq (ref_region ?_)))
      refine mv1 rfl rfl ?_
      refine s_rd (r_lss rfl rfl) rfl ?_
      refine l_nil (n_then ?_)
      refine ref_cond rfl (fun hb12 => ?_) (fun hb12 => ?_)
      · refine ref_region ?_
        exact pnone
      refine ref_skip (n_block (n_then (ref_region ?_)))
      refine s_rd (r_add rfl rfl) rfl ?_
      refine mv1 rfl rfl ?_
      refine l_nil ?_
      exact goB () (weak [] ⟨rfl, rfl, rfl, rfl, rfl, trivial⟩ trivial)
    refine ref_exit (x_then ?_)
    exact brkB () (weak [] ⟨rfl, rfl, trivial⟩ trivial)
  refine n_then (ref_seq (ref_region ?_))
  refine mv1 rfl rfl ?_
  refine pull fun newslice15 h_newslice15 => ?_
  refine s_st (s_call (ψ := fun (x16 : (Value × List Nat)) => pv x16.1) (args := [.const (.slice none 0 0), .tmp 23]) Tryd.call74 rfl (slices_Grow_api_Fraction_api_Fraction_ok h_newslice15) ⟨arg rfl, arg rfl, trivial⟩ (fun _ _ _ _ h => h)) rfl (fun x16 => ?_)
  refine as1 rfl rfl ?_
  refine l_nil (n_then (ref_seq (ref_seq (ref_region ?_))))
  refine mv1 rfl rfl ?_
  refine s_rd (r_len Tryd.underlying106 rfl) rfl ?_
  refine mv1 rfl rfl ?_
  refine l_nil (n_then ?_)
  refine ref_loopB (f := (slices_Concat_api_Fraction_api_Fraction_l2 slices_0)) (Γl := (fun (s29 : Int × (List T_api_Fraction)) (x30 : (Value × List Nat)) => [(6, pv x30.1), (25, slv (rSl rT_api_Fraction) slices_0), (26, iv .i64 (slices_0.length : Int)), (27, iv .i64 s29.1)])) (Ωl := (fun (s29 : Int × (List T_api_Fraction)) (x30 : (Value × List Nat)) => [oa rT_api_Fraction x30.1 x30.2 s29.2])) (Γb := (fun (q35 : (List T_api_Fraction)) (y36 : (Value × List Nat)) => [(6, pv y36.1)])) (Ωb := (fun (q35 : (List T_api_Fraction)) (y36 : (Value × List Nat)) => [oa rT_api_Fraction y36.1 y36.2 q35])) (0, newslice15) x16 (weak [0] ⟨rfl, rfl, rfl, rfl, trivial⟩ ⟨rfl, trivial⟩) (fun s29 x30 => ?_) (fun q35 y36 => ?_)
  · unfold slices_Concat_api_Fraction_api_Fraction_l2
    refine ref_seq (ref_region ?_)
    refine s_rd (r_lss rfl rfl) rfl ?_
    refine l_nil (n_then (ref_seq ?_))
    refine ref_cond rfl (fun hb31 => ?_) (fun hb31 => ?_)
    · refine ref_skip (n_then (ref_seq (ref_block (ref_seq (ref_region ?_)))))
      refine pull fun s32 h_s32 => ?_
      refine s_rd (r_index h_s32 Tryd.underlying106 el_29 rfl rfl) rfl ?_
      refine s_rd (r_load el_29 rfl) rfl ?_
      refine as1 rfl rfl ?_
      refine l_nil (n_then (ref_region ?_))
      refine mv1 rfl rfl ?_
      refine mv1 rfl rfl ?_
      refine pull fun newslice33 h_newslice33 => ?_
      refine s_st (s_append h_newslice33 Tryd.underlying29 el_36 rfl (j := 0) rfl rfl) rfl (fun o34 => ?_)
      refine as1 rfl rfl ?_
      refine l_nil (n_block (n_then (ref_region ?_)))
      refine s_rd (r_add rfl rfl) rfl ?_
      refine mv1 rfl rfl ?_
      refine l_nil ?_
      exact goB o34 (weak [0] ⟨rfl, rfl, rfl, rfl, trivial⟩ ⟨rfl, trivial⟩)
    refine ref_exit (x_then ?_)
    exact brkB x30 (weak [0] ⟨rfl, trivial⟩ ⟨rfl, trivial⟩)
  refine n_then (ref_seq (ref_region ?_))
  refine mv1 rfl rfl ?_
  refine as1 rfl rfl ?_
  refine l_nil (n_then (ref_ret ?_))
  exact fin1 (.inl rfl) y36 [0] rfl ⟨rfl, trivial⟩ rfl (rv_tmp rfl)

/-! deliberation/chance.certain -/
noncomputable def chance_certain_m (f_0 : T_api_Fraction) : Option (Bool) :=
  bif f_0.Num == 0 then
    some true
  else
    letM (f_0.Num == f_0.Den) fun t2 =>
    some t2

theorem chance_certain_ok {f_0 : T_api_Fraction} {r : Bool} (hm : chance_certain_m f_0 = some r) :
    FnOk prog 57 [ag [iv .i64 f_0.Num, iv .i64 f_0.Den]] [] (fun (x : Unit) => [bv r]) (fun (x : Unit) => []) := by
  refine fn_ok (fn := Tryd.f57) (N := 13) (res := fun r x => [bv r]) (Ω1 := fun r x => []) Tryd.func57 rfl rfl hm rfl (fun E hM => ?_)
  unfold chance_certain_m
  refine ref_seq (ref_region ?_)
  refine s_st (s_box (part_agO (ψs := [iv .i64 f_0.Num, iv .i64 f_0.Den]) rfl ⟨.inl iv_at, .inl iv_at, trivial⟩)) rfl (fun b1 => ?_)
  refine as1 rfl rfl ?_
  refine l_nil (n_then (ref_seq (ref_region ?_)))
  refine s_rd (r_faddr (fo := 0) Tryd.underlying36 rfl rfl Tryd.sizeOf3 rfl) rfl ?_
  refine s_rd (r_cload Tryd.isAgg3 rfl (j := 0) rfl rfl) rfl ?_
  refine s_rd (r_eql rfl rfl) rfl ?_
  refine mv1 rfl rfl ?_
  refine b_split (t := 6) rfl (fun _ => ?_) (fun _ => ?_)
  · refine s_off rfl rfl rfl rfl rfl ?_
    refine s_off rfl rfl rfl rfl rfl ?_
    refine s_off rfl rfl rfl rfl rfl ?_
    refine s_off rfl rfl rfl rfl rfl ?_
    refine s_off rfl rfl rfl rfl rfl ?_
    refine s_rd (r_pickT rfl rfl) rfl ?_
    refine as1 rfl rfl ?_
    refine l_nil (n_then (ref_ret ?_))
    exact fin1 (.inl rfl) () [] rfl trivial rfl (rv_tmp rfl)
  refine s_on rfl rfl rfl ?_
  refine s_rd (r_faddr (fo := 0) Tryd.underlying36 rfl rfl Tryd.sizeOf3 rfl) rfl ?_
  refine s_on rfl rfl rfl ?_
  refine s_rd (r_cload Tryd.isAgg3 rfl (j := 0) rfl rfl) rfl ?_
  refine s_on rfl rfl rfl ?_
  refine s_rd (r_faddr (fo := 1) Tryd.underlying36 rfl rfl Tryd.sizeOf3 rfl) rfl ?_
  refine s_on rfl rfl rfl ?_
  refine s_rd (r_cload Tryd.isAgg3 rfl (j := 0) rfl rfl) rfl ?_
  refine s_on rfl rfl rfl ?_
  refine s_rd (r_eql rfl rfl) rfl ?_
  refine s_rd (r_pickF rfl rfl) rfl ?_
  refine as1 rfl rfl ?_
  refine b_let (f := bv) (t := 2) rfl fun t2 => ?_
  refine l_nil (n_then (ref_ret ?_))
  exact fin1 (.inl rfl) () [] rfl trivial rfl (rv_tmp rfl)

/-! deliberation/chance.arguments -/
noncomputable def chance_arguments_l1 (t11 : List T_api_Fraction) (s20 : Int × Int) : Option (Sum (Int) (Int × Int)) :=
  bif decide (s20.2 < (t11.length : Int)) then
    Option.bind (idxM t11 s20.2) fun t23 =>
    Option.bind (chance_certain_m t23) fun t25 =>
    bif !t25 then
      letM (iadd .i64 s20.1 1) fun free27 =>
      some (Sum.inr (free27, iadd .i64 s20.2 1))
    else
      some (Sum.inr (s20.1, iadd .i64 s20.2 1))
  else
    some (Sum.inl s20.1)

noncomputable def chance_arguments_m (g_0 : T_api_Graph) (o_1 : T_api_Odds) (set__2 : (List Int)) (question_3 : Int) : Option (Int) :=
  Option.bind (graph_Validate_m g_0) fun e3 =>
  bif e3 != 0 then
    some e3
  else
    Option.bind (chance_fits_m g_0 o_1) fun t5 =>
    bif !t5 then
      some 1
    else
      Option.bind (network_Question_m question_3) fun t7 =>
      bif !t7 then
        some 4
      else
        Option.bind (network_Ascending_m set__2 g_0.N) fun t9 =>
        bif !t9 then
          some 1
        else
          Option.bind (slices_Concat_api_Fraction_api_Fraction_m [o_1.Nodes, o_1.Attacks]) fun t11 =>
          Option.bind (loopC (chance_arguments_l1 t11) (0, 0)) fun q28 : Int =>
          bif decide (g_0.N > 10) then
            some 2
          else
            bif decide (q28 > 10) then
              some 2
            else
              some 0

theorem chance_arguments_ok {g_0 : T_api_Graph} {o_1 : T_api_Odds} {set__2 : (List Int)} {question_3 : Int} {r : Int} (hm : chance_arguments_m g_0 o_1 set__2 question_3 = some r) :
    FnOk prog 30 [ag [iv .i64 g_0.N, slv rT_api_Pair g_0.L], ag [slv rT_api_Fraction o_1.Nodes, slv rT_api_Fraction o_1.Attacks], slv (rI .i64) set__2, iv .i64 question_3] [] (fun (x : Unit) => [iv .i64 r]) (fun (x : Unit) => []) := by
  refine fn_ok (fn := Tryd.f30) (N := 57) (res := fun r x => [iv .i64 r]) (Ω1 := fun r x => []) Tryd.func30 rfl rfl hm rfl (fun E hM => ?_)
  unfold chance_arguments_m
  refine ref_seq (ref_region ?_)
  refine s_st (s_box (part_agO (ψs := [iv .i64 g_0.N, slv rT_api_Pair g_0.L]) rfl ⟨.inl iv_at, .inl slv_at, trivial⟩)) rfl (fun b1 => ?_)
  refine s_st (s_box (part_agO (ψs := [slv rT_api_Fraction o_1.Nodes, slv rT_api_Fraction o_1.Attacks]) rfl ⟨.inl slv_at, .inl slv_at, trivial⟩)) rfl (fun b2 => ?_)
  refine as1 rfl rfl ?_
  refine l_nil (n_then (ref_seq (ref_seq (ref_region ?_))))
  refine s_rd (r_cloadS Tryd.isAgg27 Tryd.sizeOf27 rfl (j := 0) rfl rfl rfl) rfl ?_
  refine pull fun e3 h_e3 => ?_
  refine s_st (s_call (ψ := fun (_ : Unit) => iv .i64 e3) (args := [.tmp 13]) Tryd.call40 rfl (graph_Validate_ok h_e3) ⟨arg rfl, trivial⟩ (fun _ _ _ _ h => h)) rfl (fun _ => ?_)
  refine as1 rfl rfl ?_
  refine l_nil (n_then (ref_seq (ref_region ?_)))
  refine mv1 rfl rfl ?_
  refine s_rd (r_neq rfl rfl) rfl ?_
  refine l_nil (n_then ?_)
  refine ref_cond rfl (fun hb4 => ?_) (fun hb4 => ?_)
  · refine ref_seq (ref_region ?_)
    refine mv1 rfl rfl ?_
    refine as1 rfl rfl ?_
    refine l_nil (n_then (ref_ret (r_then ?_)))
    exact fin1 (.inl rfl) () [] rfl trivial rfl (rv_tmp rfl)
  refine ref_skip (n_then (ref_seq (ref_block (ref_seq (ref_region ?_)))))
  refine s_rd (r_cloadS Tryd.isAgg27 Tryd.sizeOf27 rfl (j := 0) rfl rfl rfl) rfl ?_
  refine s_rd (r_cloadS Tryd.isAgg31 Tryd.sizeOf31 rfl (j := 1) rfl rfl rfl) rfl ?_
  refine pull fun t5 h_t5 => ?_
  refine s_st (s_call (ψ := fun (_ : Unit) => bv t5) (args := [.tmp 19, .tmp 20]) Tryd.call41 rfl (chance_fits_ok h_t5) ⟨arg rfl, arg rfl, trivial⟩ (fun _ _ _ _ h => h)) rfl (fun _ => ?_)
  refine s_rd (r_not rfl) rfl ?_
  refine as1 rfl rfl ?_
  refine l_nil ?_
  refine b_of (nrm [oc b1 [iv .i64 g_0.N, slv rT_api_Pair g_0.L], oc b2 [slv rT_api_Fraction o_1.Nodes, slv rT_api_Fraction o_1.Attacks]] rfl) ?_
  refine n_then ?_
  refine ref_cond rfl (fun hb6 => ?_) (fun hb6 => ?_)
  · refine ref_seq (ref_region ?_)
    refine as1 rfl rfl ?_
    refine l_nil (n_then (ref_ret (r_block (r_then ?_))))
    exact fin1 (.inl rfl) () [] rfl trivial rfl (rv_tmp rfl)
  refine ref_seq (ref_region ?_)
  refine mv1 rfl rfl ?_
  refine pull fun t7 h_t7 => ?_
  refine s_st (s_call (ψ := fun (_ : Unit) => bv t7) (args := [.tmp 24]) Tryd.call54 rfl (network_Question_ok h_t7) ⟨arg rfl, trivial⟩ (fun _ _ _ _ h => h)) rfl (fun _ => ?_)
  refine s_rd (r_not rfl) rfl ?_
  refine as1 rfl rfl ?_
  refine l_nil (n_then ?_)
  refine ref_cond rfl (fun hb8 => ?_) (fun hb8 => ?_)
  · refine ref_seq (ref_region ?_)
    refine as1 rfl rfl ?_
    refine l_nil (n_then (ref_ret (r_block (r_then ?_))))
    exact fin1 (.inl rfl) () [] rfl trivial rfl (rv_tmp rfl)
  refine ref_seq (ref_region ?_)
  refine mv1 rfl rfl ?_
  refine s_rd (r_faddr (fo := 0) Tryd.underlying27 rfl rfl Tryd.sizeOf3 rfl) rfl ?_
  refine s_rd (r_cload Tryd.isAgg3 rfl (j := 0) rfl rfl) rfl ?_
  refine pull fun t9 h_t9 => ?_
  refine s_st (s_call (ψ := fun (_ : Unit) => bv t9) (args := [.tmp 28, .tmp 30]) Tryd.call55 rfl (network_Ascending_ok h_t9) ⟨arg rfl, arg rfl, trivial⟩ (fun _ _ _ _ h => h)) rfl (fun _ => ?_)
  refine s_rd (r_not rfl) rfl ?_
  refine as1 rfl rfl ?_
  refine l_nil (n_then ?_)
  refine ref_cond rfl (fun hb10 => ?_) (fun hb10 => ?_)
  · refine ref_seq (ref_region ?_)
    refine as1 rfl rfl ?_
    refine l_nil (n_then (ref_ret (r_block (r_then ?_))))
    exact fin1 (.inl rfl) () [] rfl trivial rfl (rv_tmp rfl)
  refine ref_skip (n_block (n_then (ref_seq (ref_region ?_))))
  refine as1 rfl rfl ?_
  refine l_nil (n_then (ref_seq (ref_seq (ref_region ?_))))
  refine s_rd (r_faddr (fo := 0) Tryd.underlying31 rfl rfl Tryd.sizeOf29 rfl) rfl ?_
  refine s_rd (r_cload Tryd.isAgg29 rfl (j := 1) rfl rfl) rfl ?_
  refine s_rd (r_faddr (fo := 1) Tryd.underlying31 rfl rfl Tryd.sizeOf29 rfl) rfl ?_
  refine s_rd (r_cload Tryd.isAgg29 rfl (j := 1) rfl rfl) rfl ?_
  refine s_st (s_bslice (xs := [.tmp 34, .tmp 36]) (ds := [o_1.Nodes, o_1.Attacks]) Tryd.underlying106 el_29 rfl (Nat.le_of_ble_eq_true rfl) ⟨(part_at rfl slv_at), ⟨(part_at rfl slv_at), trivial⟩⟩) rfl (fun _ => ?_)
  refine pull fun t11 h_t11 => ?_
  refine s_st (s_call (ψ := fun (x12 : (Value × List Nat)) => pv x12.1) (args := [.tmp 37]) Tryd.call56 rfl (slices_Concat_api_Fraction_api_Fraction_ok h_t11) ⟨arg rfl, trivial⟩ (fun _ _ _ _ h => h)) rfl (fun x12 => ?_)
  refine s_rd (r_olen Tryd.underlying29 rfl (j := 2) rfl) rfl ?_
  refine mv1 rfl rfl ?_
  refine l_nil ?_
  refine b_of (nrm [oc b1 [iv .i64 g_0.N, slv rT_api_Pair g_0.L], oc b2 [slv rT_api_Fraction o_1.Nodes, slv rT_api_Fraction o_1.Attacks], oa rT_api_Fraction x12.1 x12.2 t11] rfl) ?_
  refine n_then ?_
  refine ref_loopB (f := (chance_arguments_l1 t11)) (Γl := (fun (s20 : Int × Int) (x21 : Unit) => [(4, pv (ptr b1 0)), (10, iv .i64 s20.1), (38, pv x12.1), (39, iv .i64 (t11.length : Int)), (40, iv .i64 s20.2)])) (Ωl := (fun (s20 : Int × Int) (x21 : Unit) => [oc b1 [iv .i64 g_0.N, slv rT_api_Pair g_0.L], oa rT_api_Fraction x12.1 x12.2 t11])) (Γb := (fun (q28 : Int) (y29 : Unit) => [(4, pv (ptr b1 0)), (10, iv .i64 q28)])) (Ωb := (fun (q28 : Int) (y29 : Unit) => [oc b1 [iv .i64 g_0.N, slv rT_api_Pair g_0.L]])) (0, 0) () (weak [0, 2] ⟨rfl, rfl, rfl, rfl, rfl, trivial⟩ ⟨rfl, rfl, trivial⟩) (fun s20 x21 => ?_) (fun q28 y29 => ?_)
  · unfold chance_arguments_l1
    refine ref_seq (ref_region ?_)
    refine s_rd (r_lss rfl rfl) rfl ?_
    refine l_nil (n_then (ref_seq ?_))
    refine ref_cond rfl (fun hb22 => ?_) (fun hb22 => ?_)
    · refine ref_skip (n_then (ref_seq (ref_block (ref_seq (ref_region ?_)))))
      refine pull fun t23 h_t23 => ?_
      refine s_rd (r_oindex h_t23 Tryd.underlying29 el_36 rfl (j := 1) rfl rfl) rfl ?_
      refine s_rd (r_oload h_t23 el_36 rfl (j := 1) rfl) rfl ?_
      refine s_st (s_alloc zt_36) rfl (fun b24 => ?_)
      refine s_st0 (s_cstore (out := [iv .i64 t23.Num, iv .i64 t23.Den]) Tryd.sizeOf36 rfl (j := 2) rfl (part_agO (ψs := [iv .i64 t23.Num, iv .i64 t23.Den]) rfl ⟨.inl iv_at, .inl iv_at, trivial⟩) rfl rfl rfl) (fun _ => ?_)
      refine l_nil (n_then (ref_seq (ref_region ?_)))
      refine s_rd (r_cloadS Tryd.isAgg36 Tryd.sizeOf36 rfl (j := 2) rfl rfl rfl) rfl ?_
      refine pull fun t25 h_t25 => ?_
      refine s_st (s_call (ψ := fun (_ : Unit) => bv t25) (args := [.tmp 44]) Tryd.call57 rfl (chance_certain_ok h_t25) ⟨arg rfl, trivial⟩ (fun _ _ _ _ h => h)) rfl (fun _ => ?_)
      refine s_rd (r_not rfl) rfl ?_
      refine l_nil (n_then ?_)
      refine ref_cond rfl (fun hb26 => ?_) (fun hb26 => ?_)
      · refine ref_region ?_
        refine mv1 rfl rfl ?_
        refine s_rd (r_add rfl rfl) rfl ?_
        refine as1 rfl rfl ?_
        refine b_let (f := iv .i64) (t := 10) rfl fun free27 => ?_
        refine l_nil (n_block (n_then (ref_region ?_)))
        refine s_rd (r_add rfl rfl) rfl ?_
        refine mv1 rfl rfl ?_
        refine l_nil ?_
        exact goB () (weak [0, 1] ⟨rfl, rfl, rfl, rfl, rfl, trivial⟩ ⟨rfl, rfl, trivial⟩)
      refine ref_skip (n_block (n_then (ref_region ?_)))
      refine s_rd (r_add rfl rfl) rfl ?_
      refine mv1 rfl rfl ?_
      refine l_nil ?_
      exact goB () (weak [0, 1] ⟨rfl, rfl, rfl, rfl, rfl, trivial⟩ ⟨rfl, rfl, trivial⟩)
    refine ref_exit (x_then ?_)
    exact brkB () (weak [0] ⟨rfl, rfl, trivial⟩ ⟨rfl, trivial⟩)
  refine n_then (ref_seq (ref_seq (ref_region ?_)))
  refine s_rd (r_faddr (fo := 0) Tryd.underlying27 rfl rfl Tryd.sizeOf3 rfl) rfl ?_
  refine s_rd (r_cload Tryd.isAgg3 rfl (j := 0) rfl rfl) rfl ?_
  refine s_rd (r_gtr rfl rfl) rfl ?_
  refine mv1 rfl rfl ?_
  refine b_split (t := 53) rfl (fun _ => ?_) (fun _ => ?_)
  · refine s_off rfl rfl rfl rfl rfl ?_
    refine s_off rfl rfl rfl rfl rfl ?_
    refine s_rd (r_pickT rfl rfl) rfl ?_
    refine l_nil (n_then ?_)
    refine ref_condT rfl rfl ?_
    refine ref_seq (ref_region ?_)
    refine as1 rfl rfl ?_
    refine l_nil (n_then (ref_ret (r_then ?_)))
    exact fin1 (.inl rfl) () [] rfl trivial rfl (rv_tmp rfl)
  refine s_on rfl rfl rfl ?_
  refine mv1 rfl rfl ?_
  refine s_on rfl rfl rfl ?_
  refine s_rd (r_gtr rfl rfl) rfl ?_
  refine s_rd (r_pickF rfl rfl) rfl ?_
  refine l_nil (n_then ?_)
  refine ref_cond rfl (fun hb30 => ?_) (fun hb30 => ?_)
  · refine ref_seq (ref_region ?_)
    refine as1 rfl rfl ?_
    refine l_nil (n_then (ref_ret (r_then ?_)))
    exact fin1 (.inl rfl) () [] rfl trivial rfl (rv_tmp rfl)
  refine ref_skip (n_then (ref_seq (ref_region ?_)))
  refine as1 rfl rfl ?_
  refine l_nil (n_then (ref_ret ?_))
  exact fin1 (.inl rfl) () [] rfl trivial rfl (rv_tmp rfl)

/-! (deliberation/network.Set).With -/
noncomputable def network_Set_With_m (s_0 : Int) (node_1 : Int) : Option (Int) :=
  Option.bind (ishlM .u64 1 (IntKind.wrap .u64 node_1)) fun t1 =>
  letM (ior .u64 s_0 t1) fun t2 =>
  some t2

theorem network_Set_With_ok {s_0 : Int} {node_1 : Int} {r : Int} (hm : network_Set_With_m s_0 node_1 = some r) :
    FnOk prog 61 [iv .u64 s_0, iv .i64 node_1] [] (fun (x : Unit) => [iv .u64 r]) (fun (x : Unit) => []) := by
  refine fn_ok (fn := Tryd.f61) (N := 10) (res := fun r x => [iv .u64 r]) (Ω1 := fun r x => []) Tryd.func61 rfl rfl hm rfl (fun E hM => ?_)
  unfold network_Set_With_m
  refine ref_seq (ref_region ?_)
  refine as1 rfl rfl ?_
  refine l_nil (n_then (ref_seq (ref_region ?_)))
  refine mv1 rfl rfl ?_
  refine mv1 rfl rfl ?_
  refine s_rd (r_conv (k' := .u64) rfl rfl rfl) rfl ?_
  refine pull fun t1 h_t1 => ?_
  refine s_rd (r_shlM h_t1 rfl rfl) rfl ?_
  refine s_rd (r_or rfl rfl) rfl ?_
  refine as1 rfl rfl ?_
  refine b_let (f := iv .u64) (t := 4) rfl fun t2 => ?_
  refine l_nil (n_then (ref_ret ?_))
  exact fin1 (.inl rfl) () [] rfl trivial rfl (rv_tmp rfl)

/-! deliberation/network.Of -/
noncomputable def network_Of_l1 (l_0 : (List Int)) (s6 : Int × Int) : Option (Sum (Int) (Int × Int)) :=
  bif decide (s6.2 < (l_0.length : Int)) then
    Option.bind (idxM l_0 s6.2) fun n9 =>
    Option.bind (network_Set_With_m s6.1 n9) fun s10 =>
    some (Sum.inr (s10, iadd .i64 s6.2 1))
  else
    some (Sum.inl s6.1)

noncomputable def network_Of_m (l_0 : (List Int)) : Option (Int) :=
  Option.bind (loopC (network_Of_l1 l_0) (0, 0)) fun q11 : Int =>
  some q11

theorem network_Of_ok {l_0 : (List Int)} {r : Int} (hm : network_Of_m l_0 = some r) :
    FnOk prog 33 [slv (rI .i64) l_0] [] (fun (x : Unit) => [iv .u64 r]) (fun (x : Unit) => []) := by
  refine fn_ok (fn := Tryd.f33) (N := 17) (res := fun r x => [iv .u64 r]) (Ω1 := fun r x => []) Tryd.func33 rfl rfl hm rfl (fun E hM => ?_)
  unfold network_Of_m
  refine ref_seq (ref_region ?_)
  refine as1 rfl rfl ?_
  refine l_nil (n_then (ref_seq (ref_region ?_)))
  refine as1 rfl rfl ?_
  refine l_nil (n_then (ref_seq (ref_seq (ref_region ?_))))
  refine mv1 rfl rfl ?_
  refine s_rd (r_len Tryd.underlying22 rfl) rfl ?_
  refine mv1 rfl rfl ?_
  refine l_nil (n_then ?_)
  refine ref_loopB (f := (network_Of_l1 l_0)) (Γl := (fun (s6 : Int × Int) (x7 : Unit) => [(3, iv .u64 s6.1), (6, slv (rI .i64) l_0), (7, iv .i64 (l_0.length : Int)), (8, iv .i64 s6.2)])) (Ωl := (fun (s6 : Int × Int) (x7 : Unit) => [])) (Γb := (fun (q11 : Int) (y12 : Unit) => [(3, iv .u64 q11)])) (Ωb := (fun (q11 : Int) (y12 : Unit) => [])) (0, 0) () (weak [] ⟨rfl, rfl, rfl, rfl, trivial⟩ trivial) (fun s6 x7 => ?_) (fun q11 y12 => ?_)
  · unfold network_Of_l1
    refine ref_seq (ref_region ?_)
    refine s_rd (r_lss rfl rfl) rfl ?_
    refine l_nil (n_then (ref_seq ?_))
    refine ref_cond rfl (fun hb8 => ?_) (fun hb8 => ?_)
    · refine ref_skip (n_then (ref_seq (ref_block (ref_seq (ref_region ?_)))))
      refine pull fun n9 h_n9 => ?_
      refine s_rd (r_index h_n9 Tryd.underlying22 el_3 rfl rfl) rfl ?_
      refine s_rd (r_load el_3 rfl) rfl ?_
      refine as1 rfl rfl ?_
      refine l_nil (n_then (ref_region ?_))
      refine mv1 rfl rfl ?_
      refine mv1 rfl rfl ?_
      refine pull fun s10 h_s10 => ?_
      refine s_st (s_call (ψ := fun (_ : Unit) => iv .u64 s10) (args := [.tmp 12, .tmp 13]) Tryd.call61 rfl (network_Set_With_ok h_s10) ⟨arg rfl, arg rfl, trivial⟩ (fun _ _ _ _ h => h)) rfl (fun _ => ?_)
      refine as1 rfl rfl ?_
      refine l_nil (n_block (n_then (ref_region ?_)))
      refine s_rd (r_add rfl rfl) rfl ?_
      refine mv1 rfl rfl ?_
      refine l_nil ?_
      exact goB () (weak [] ⟨rfl, rfl, rfl, rfl, trivial⟩ trivial)
    refine ref_exit (x_then ?_)
    exact brkB () (weak [] ⟨rfl, trivial⟩ trivial)
  refine n_then (ref_seq (ref_region ?_))
  refine mv1 rfl rfl ?_
  refine as1 rfl rfl ?_
  refine l_nil (n_then (ref_ret ?_))
  exact fin1 (.inl rfl) () [] rfl trivial rfl (rv_tmp rfl)

/-! deliberation/network.New -/
noncomputable def network_New_l1 (g_0 : T_api_Graph) (s17 : Int × Int) : Option (Sum (Int) (Int × Int)) :=
  bif decide (s17.1 < g_0.N) then
    Option.bind (network_Set_With_m s17.2 s17.1) fun t20 =>
    some (Sum.inr (iadd .i64 s17.1 1, t20))
  else
    some (Sum.inl s17.2)

noncomputable def network_New_l2 (g_0 : T_api_Graph) (s45 : Int × (List Int) × (List Int)) : Option (Sum ((List Int) × (List Int)) (Int × (List Int) × (List Int))) :=
  bif decide (s45.1 < (g_0.L.length : Int)) then
    Option.bind (idxM g_0.L s45.1) fun t48 =>
    Option.bind (idxM s45.2.1 t48.To) fun t50 =>
    Option.bind (network_Set_With_m t50 t48.From) fun t51 =>
    Option.bind (idxM s45.2.1 t48.To) fun t52 =>
    Option.bind (idxM s45.2.2 t48.From) fun t53 =>
    Option.bind (network_Set_With_m t53 t48.To) fun t54 =>
    Option.bind (idxM s45.2.2 t48.From) fun t55 =>
    some (Sum.inr (iadd .i64 s45.1 1, s45.2.1.set (Int.toNat t48.To) t51, s45.2.2.set (Int.toNat t48.From) t54))
  else
    some (Sum.inl (s45.2.1, s45.2.2))

noncomputable def network_New_m (g_0 : T_api_Graph) : Option (T_network_Net) :=
  Option.bind (mkM 8 0 g_0.N) fun t4 =>
  Option.bind (mkM 8 0 g_0.N) fun t6 =>
  Option.bind (loopC (network_New_l1 g_0) (0, 0)) fun q21 : Int =>
  Option.bind (loopC (network_New_l2 g_0) (0, t4, t6)) fun q56 : (List Int) × (List Int) =>
  some (T_network_Net.mk q21 q56.1 q56.2)

theorem network_New_ok {g_0 : T_api_Graph} {r : T_network_Net} (hm : network_New_m g_0 = some r) :
    FnOk prog 81 [ag [iv .i64 g_0.N, slv rT_api_Pair g_0.L]] [] (fun (x : Unit) => [ag [iv .u64 r.All, slv (rI .u64) r.By, slv (rI .u64) r.Out]]) (fun (x : Unit) => []) := by
  refine fn_ok (fn := Tryd.f81) (N := 62) (res := fun r x => [ag [iv .u64 r.All, slv (rI .u64) r.By, slv (rI .u64) r.Out]]) (Ω1 := fun r x => []) Tryd.func81 rfl rfl hm rfl (fun E hM => ?_)
  unfold network_New_m
  refine ref_seq (ref_region ?_)
  refine s_st (s_box (part_agO (ψs := [iv .i64 g_0.N, slv rT_api_Pair g_0.L]) rfl ⟨.inl iv_at, .inl slv_at, trivial⟩)) rfl (fun b1 => ?_)
  refine s_st (s_alloc zt_74) rfl (fun b2 => ?_)
  refine l_nil (n_then (ref_seq ?_))
  refine pull fun t4 h_t4 => ?_
  refine pull fun t6 h_t6 => ?_
  refine ref_drawI 3 [⟨[], [], [], [], [], fun us u => pv (ptr b1 0), fun us u => []⟩, ⟨[0], [], [], [0], [], fun us u => iv .i64 g_0.N, fun us u => []⟩, ⟨[0, 1], [], [2], [2], [], fun us u => pv u.V.1, fun us u => [oa (rI .u64) u.V.1 u.V.2 t4]⟩, ⟨[], [], [], [], [], fun us u => pv (ptr b1 0), fun us u => []⟩, ⟨[3], [], [], [0], [], fun us u => iv .i64 g_0.N, fun us u => []⟩, ⟨[3, 4], [], [3], [3], [], fun us u => pv u.V.1, fun us u => [oa (rI .u64) u.V.1 u.V.2 t6]⟩, ⟨[0, 1, 2, 3, 4, 5], [2, 5], [], [2, 3], [], fun us u => ag [iv .u64 0, pv (us.getD 0 .none).V.1, pv (us.getD 1 .none).V.1], fun us u => []⟩, ⟨[], [], [4], [4], [], fun us u => pv (ptr u.Nn 0), fun us u => [oc u.Nn [iv .u64 0, pv (.slice none 0 0), pv (.slice none 0 0)]]⟩, ⟨[0, 1, 2, 3, 4, 5, 6, 7], [2, 5, 7], [4], [2, 3, 4], [4], fun us u => pv undef, fun us u => [oc (us.getD 2 .none).Nn [iv .u64 0, pv (us.getD 0 .none).V.1, pv (us.getD 1 .none).V.1]]⟩] (fun χ3 => [(1, pv (ptr b1 0)), (2, pv (ptr b2 0)), (3, pv (ptr (χ3 7).Nn 0))]) (fun χ3 => [oc b1 [iv .i64 g_0.N, slv rT_api_Pair g_0.L], oc b2 [iv .u64 0, pv (.slice none 0 0), pv (.slice none 0 0)], oa (rI .u64) (χ3 2).V.1 (χ3 2).V.2 t4, oa (rI .u64) (χ3 5).V.1 (χ3 5).V.2 t6, oc (χ3 7).Nn [iv .u64 0, pv (χ3 2).V.1, pv (χ3 5).V.1]]) rfl (by kernel_rfl) ⟨fun χ3 Ω _ => St.toR (r_faddr (fo := 0) Tryd.underlying27 rfl rfl Tryd.sizeOf3 rfl) (fun _ => rfl) (fun _ => rfl), (by intro _ h; cases h; rfl), ⟨fun χ3 Ω ⟨h0, _⟩ => St.toR (r_cload Tryd.isAgg3 rfl (j := 0) h0 rfl) (fun _ => rfl) (fun _ => rfl), (by intro _ h; cases h; rfl), ⟨fun χ3 Ω ⟨h2, _⟩ => St.to XU.V XU.hV (St.placeL (os := fun _ => [_]) [2] (s_make h_t4 Tryd.underlying72 el_67 ze_67 rfl rfl) (fun _ => rfl) (fun _ => ⟨h2, rfl, trivial⟩)) (fun _ => rfl) (fun _ => rfl), (by intro _ h; cases h; rfl), ⟨fun χ3 Ω _ => St.toR (r_faddr (fo := 0) Tryd.underlying27 rfl rfl Tryd.sizeOf3 rfl) (fun _ => rfl) (fun _ => rfl), (by intro _ h; cases h; rfl), ⟨fun χ3 Ω ⟨h0, _⟩ => St.toR (r_cload Tryd.isAgg3 rfl (j := 0) h0 rfl) (fun _ => rfl) (fun _ => rfl), (by intro _ h; cases h; rfl), ⟨fun χ3 Ω ⟨h3, _⟩ => St.to XU.V XU.hV (St.placeL (os := fun _ => [_]) [3] (s_make h_t6 Tryd.underlying72 el_67 ze_67 rfl rfl) (fun _ => rfl) (fun _ => ⟨h3, rfl, trivial⟩)) (fun _ => rfl) (fun _ => rfl), (by intro _ h; cases h; rfl), ⟨fun χ3 Ω ⟨h2, h3, _⟩ => St.toR (r_build (ps := [(1, .tmp 9), (2, .tmp 12)]) (rs := [(1, [pv (χ3 2).V.1]), (2, [pv (χ3 5).V.1])]) st_74 zs_74 ⟨rfl, (part_own rfl (j := 2) h2), ⟨rfl, (part_own rfl (j := 3) h3), trivial⟩⟩ rfl rfl) (fun _ => rfl) (fun _ => rfl), (by intro _ h; cases h; rfl), ⟨fun χ3 Ω ⟨h4, _⟩ => St.to XU.Nn XU.hN (St.placeL (os := fun _ => [_]) [4] (s_alloc zt_74) (fun _ => rfl) (fun _ => ⟨h4, rfl, trivial⟩)) (fun _ => rfl) (fun _ => rfl), (by intro _ h; cases h; rfl), ⟨fun χ3 Ω ⟨h2, h3, h4, _⟩ => St.to XU.U XU.hU (s_cstore (out := [iv .u64 0, pv (χ3 2).V.1, pv (χ3 5).V.1]) Tryd.sizeOf74 rfl (j := 4) h4 (part_agO (ψs := [iv .u64 0, pv (χ3 2).V.1, pv (χ3 5).V.1]) rfl ⟨.inl iv_at, .inr ⟨_, _, _, _, _, 2, rfl, h2⟩, .inr ⟨_, _, _, _, _, 3, rfl, h3⟩, trivial⟩) rfl rfl rfl) (fun _ => rfl) (fun _ => rfl), (by intro _ h; cases h), trivial⟩⟩⟩⟩⟩⟩⟩⟩⟩ (fun _ => ⟨rfl, rfl, rfl, trivial⟩) (fun _ => rfl) (fun χ3 => ?_)
  refine n_then (ref_seq (ref_seq (ref_region ?_)))
  refine s_rd (r_faddr (fo := 0) Tryd.underlying27 rfl rfl Tryd.sizeOf3 rfl) rfl ?_
  refine s_rd (r_cload Tryd.isAgg3 rfl (j := 0) rfl rfl) rfl ?_
  refine mv1 rfl rfl ?_
  refine l_nil (n_then ?_)
  refine ref_loopB (f := (network_New_l1 g_0)) (Γl := (fun (s17 : Int × Int) (x18 : Unit) => [(1, pv (ptr b1 0)), (2, pv (ptr b2 0)), (3, pv (ptr (χ3 7).Nn 0)), (15, iv .i64 g_0.N), (16, iv .i64 s17.1)])) (Ωl := (fun (s17 : Int × Int) (x18 : Unit) => [oc b1 [iv .i64 g_0.N, slv rT_api_Pair g_0.L], oc b2 [iv .u64 0, pv (.slice none 0 0), pv (.slice none 0 0)], oc (χ3 7).Nn [iv .u64 s17.2, pv (χ3 2).V.1, pv (χ3 5).V.1], oa (rI .u64) (χ3 2).V.1 (χ3 2).V.2 t4, oa (rI .u64) (χ3 5).V.1 (χ3 5).V.2 t6])) (Γb := (fun (q21 : Int) (y22 : Unit) => [(1, pv (ptr b1 0)), (2, pv (ptr b2 0)), (3, pv (ptr (χ3 7).Nn 0))])) (Ωb := (fun (q21 : Int) (y22 : Unit) => [oc b1 [iv .i64 g_0.N, slv rT_api_Pair g_0.L], oc b2 [iv .u64 0, pv (.slice none 0 0), pv (.slice none 0 0)], oc (χ3 7).Nn [iv .u64 q21, pv (χ3 2).V.1, pv (χ3 5).V.1], oa (rI .u64) (χ3 2).V.1 (χ3 2).V.2 t4, oa (rI .u64) (χ3 5).V.1 (χ3 5).V.2 t6])) (0, 0) () (weak [0, 1, 4, 2, 3] ⟨rfl, rfl, rfl, rfl, rfl, trivial⟩ ⟨rfl, rfl, rfl, rfl, rfl, trivial⟩) (fun s17 x18 => ?_) (fun q21 y22 => ?_)
  · unfold network_New_l1
    refine ref_seq (ref_region ?_)
    refine s_rd (r_lss rfl rfl) rfl ?_
    refine l_nil (n_then (ref_seq ?_))
    refine ref_cond rfl (fun hb19 => ?_) (fun hb19 => ?_)
    · refine ref_skip (n_then (ref_seq (ref_block (ref_seq (ref_region ?_)))))
      refine mv1 rfl rfl ?_
      refine as1 rfl rfl ?_
      refine l_nil (n_then (ref_region ?_))
      refine s_rd (r_faddr (fo := 0) Tryd.underlying74 rfl rfl Tryd.sizeOf67 rfl) rfl ?_
      refine s_rd (r_cload Tryd.isAgg67 rfl (j := 2) rfl rfl) rfl ?_
      refine mv1 rfl rfl ?_
      refine pull fun t20 h_t20 => ?_
      refine s_st (s_call (ψ := fun (_ : Unit) => iv .u64 t20) (args := [.tmp 20, .tmp 21]) Tryd.call61 rfl (network_Set_With_ok h_t20) ⟨arg rfl, arg rfl, trivial⟩ (fun _ _ _ _ h => h)) rfl (fun _ => ?_)
      refine s_rd (r_faddr (fo := 0) Tryd.underlying74 rfl rfl Tryd.sizeOf67 rfl) rfl ?_
      refine s_st0 (s_cstore (out := [iv .u64 t20, pv (χ3 2).V.1, pv (χ3 5).V.1]) Tryd.sizeOf67 rfl (j := 2) rfl (part_at rfl iv_at) rfl rfl rfl) (fun _ => ?_)
      refine l_nil (n_block (n_then (ref_region ?_)))
      refine s_rd (r_add rfl rfl) rfl ?_
      refine mv1 rfl rfl ?_
      refine l_nil ?_
      exact goB () (weak [0, 1, 2, 3, 4] ⟨rfl, rfl, rfl, rfl, rfl, trivial⟩ ⟨rfl, rfl, rfl, rfl, rfl, trivial⟩)
    refine ref_exit (x_then ?_)
    exact brkB () (weak [0, 1, 2, 3, 4] ⟨rfl, rfl, rfl, trivial⟩ ⟨rfl, rfl, rfl, rfl, rfl, trivial⟩)
  refine n_then (ref_seq (ref_seq (ref_region ?_)))
  refine s_rd (r_faddr (fo := 1) Tryd.underlying27 rfl rfl Tryd.sizeOf25 rfl) rfl ?_
  refine s_rd (r_cload Tryd.isAgg25 rfl (j := 0) rfl rfl) rfl ?_
  refine s_rd (r_len Tryd.underlying25 rfl) rfl ?_
  refine mv1 rfl rfl ?_
  refine l_nil (n_then ?_)
  refine ref_loopB (f := (network_New_l2 g_0)) (Γl := (fun (s45 : Int × (List Int) × (List Int)) (x46 : Unit) => [(2, pv (ptr b2 0)), (3, pv (ptr (χ3 7).Nn 0)), (26, slv rT_api_Pair g_0.L), (27, iv .i64 (g_0.L.length : Int)), (28, iv .i64 s45.1)])) (Ωl := (fun (s45 : Int × (List Int) × (List Int)) (x46 : Unit) => [oc b2 [iv .u64 0, pv (.slice none 0 0), pv (.slice none 0 0)], oc (χ3 7).Nn [iv .u64 q21, pv (χ3 2).V.1, pv (χ3 5).V.1], oa (rI .u64) (χ3 2).V.1 (χ3 2).V.2 s45.2.1, oa (rI .u64) (χ3 5).V.1 (χ3 5).V.2 s45.2.2])) (Γb := (fun (q56 : (List Int) × (List Int)) (y57 : Unit) => [(2, pv (ptr b2 0)), (3, pv (ptr (χ3 7).Nn 0))])) (Ωb := (fun (q56 : (List Int) × (List Int)) (y57 : Unit) => [oc b2 [iv .u64 0, pv (.slice none 0 0), pv (.slice none 0 0)], oc (χ3 7).Nn [iv .u64 q21, pv (χ3 2).V.1, pv (χ3 5).V.1], oa (rI .u64) (χ3 2).V.1 (χ3 2).V.2 q56.1, oa (rI .u64) (χ3 5).V.1 (χ3 5).V.2 q56.2])) (0, t4, t6) () (weak [1, 2, 3, 4] ⟨rfl, rfl, rfl, rfl, rfl, trivial⟩ ⟨rfl, rfl, rfl, rfl, trivial⟩) (fun s45 x46 => ?_) (fun q56 y57 => ?_)
  · unfold network_New_l2
    refine ref_seq (ref_region ?_)
    refine s_rd (r_lss rfl rfl) rfl ?_
    refine l_nil (n_then (ref_seq ?_))
    refine ref_cond rfl (fun hb47 => ?_) (fun hb47 => ?_)
    · refine ref_skip (n_then (ref_seq (ref_block (ref_seq (ref_region ?_)))))
      refine pull fun t48 h_t48 => ?_
      refine s_rd (r_index h_t48 Tryd.underlying25 el_63 rfl rfl) rfl ?_
      refine s_rd (r_load el_63 rfl) rfl ?_
      refine s_st (s_alloc zt_63) rfl (fun b49 => ?_)
      refine s_st0 (s_cstore (out := [iv .i64 t48.From, iv .i64 t48.To]) Tryd.sizeOf63 rfl (j := 4) rfl (part_agO (ψs := [iv .i64 t48.From, iv .i64 t48.To]) rfl ⟨.inl iv_at, .inl iv_at, trivial⟩) rfl rfl rfl) (fun _ => ?_)
      refine l_nil (n_then (ref_seq ?_))
      refine ref_draw [0, 1, 2, 3, 4, 5, 6, 7, 8, 9, 10, 11, 13] rfl (by kernel_rfl) (fun hok => ?_)
      refine a_rd (i := 0) hok rfl (by kernel_rfl) rfl (r_faddr (fo := 1) Tryd.underlying74 rfl rfl Tryd.sizeOf72 rfl) rfl ?_
      refine a_rd (i := 1) hok rfl (by kernel_rfl) rfl (r_cload Tryd.isAgg72 rfl (j := 1) rfl rfl) rfl ?_
      refine a_rd (i := 2) hok rfl (by kernel_rfl) rfl (r_faddr (fo := 1) Tryd.underlying63 rfl rfl Tryd.sizeOf3 rfl) rfl ?_
      refine a_rd (i := 3) hok rfl (by kernel_rfl) rfl (r_cload Tryd.isAgg3 rfl (j := 4) rfl rfl) rfl ?_
      refine a_rd (i := 4) hok rfl (by kernel_rfl) rfl (r_faddr (fo := 1) Tryd.underlying74 rfl rfl Tryd.sizeOf72 rfl) rfl ?_
      refine a_rd (i := 5) hok rfl (by kernel_rfl) rfl (r_cload Tryd.isAgg72 rfl (j := 1) rfl rfl) rfl ?_
      refine a_rd (i := 6) hok rfl (by kernel_rfl) rfl (r_faddr (fo := 1) Tryd.underlying63 rfl rfl Tryd.sizeOf3 rfl) rfl ?_
      refine a_rd (i := 7) hok rfl (by kernel_rfl) rfl (r_cload Tryd.isAgg3 rfl (j := 4) rfl rfl) rfl ?_
      refine pull fun t50 h_t50 => ?_
      refine a_rd (i := 8) hok rfl (by kernel_rfl) rfl (r_oindex h_t50 Tryd.underlying72 el_67 rfl (j := 2) rfl rfl) rfl ?_
      refine a_rd (i := 9) hok rfl (by kernel_rfl) rfl (r_oload h_t50 el_67 rfl (j := 2) rfl) rfl ?_
      refine a_rd (i := 10) hok rfl (by kernel_rfl) rfl (r_faddr (fo := 0) Tryd.underlying63 rfl rfl Tryd.sizeOf3 rfl) rfl ?_
      refine a_rd (i := 11) hok rfl (by kernel_rfl) rfl (r_cload Tryd.isAgg3 rfl (j := 4) rfl rfl) rfl ?_
      refine pull fun t51 h_t51 => ?_
      refine a_next hok 12 [] (by kernel_rfl) ?_ trivial
      refine a_st (i := 12) hok rfl rfl (s_call (ψ := fun (_ : Unit) => iv .u64 t51) (args := [.tmp 41, .tmp 43]) Tryd.call61 rfl (network_Set_With_ok h_t51) ⟨arg rfl, arg rfl, trivial⟩ (fun _ _ _ _ h => h)) (by intro _ h; cases h; rfl) (fun _ => ⟨trivial, ⟨trivial, ⟨trivial, ⟨trivial, ⟨⟨⟨rfl, rfl⟩, trivial⟩, ⟨trivial, ⟨⟨⟨rfl, rfl⟩, trivial⟩, ⟨trivial, ⟨⟨⟨rfl, rfl⟩, trivial⟩, ⟨trivial, ⟨⟨⟨rfl, rfl⟩, trivial⟩, ⟨trivial, trivial⟩⟩⟩⟩⟩⟩⟩⟩⟩⟩⟩⟩) (fun _ => ?_)
      refine pull fun t52 h_t52 => ?_
      refine a_rd (i := 13) hok rfl (by kernel_rfl) rfl (r_oindex h_t52 Tryd.underlying72 el_67 rfl (j := 2) rfl rfl) rfl ?_
      refine a_next hok 14 [] (by kernel_rfl) ?_ trivial
      refine a_st (i := 14) hok rfl rfl (s_ostore (u := t51) h_t52 el_67 rfl (j := 2) rfl (part_at rfl iv_at)) (by intro _ h; cases h) (fun _ => ⟨trivial, ⟨trivial, ⟨trivial, ⟨trivial, ⟨trivial, ⟨trivial, ⟨trivial, ⟨trivial, ⟨trivial, ⟨trivial, ⟨trivial, ⟨trivial, ⟨trivial, trivial⟩⟩⟩⟩⟩⟩⟩⟩⟩⟩⟩⟩⟩) (fun _ => ?_)
      refine a_fin hok (by kernel_rfl) ?_
      refine b_of (nrm [oc b2 [iv .u64 0, pv (.slice none 0 0), pv (.slice none 0 0)], oc (χ3 7).Nn [iv .u64 q21, pv (χ3 2).V.1, pv (χ3 5).V.1], oa (rI .u64) (χ3 2).V.1 (χ3 2).V.2 (s45.2.1.set (Int.toNat t48.To) t51), oa (rI .u64) (χ3 5).V.1 (χ3 5).V.2 s45.2.2, oc b49 [iv .i64 t48.From, iv .i64 t48.To]] rfl) ?_
      refine n_then ?_
      refine ref_draw [0, 1, 2, 3, 4, 5, 6, 7, 8, 9, 10, 11, 13] rfl (by kernel_rfl) (fun hok => ?_)
      refine a_rd (i := 0) hok rfl (by kernel_rfl) rfl (r_faddr (fo := 2) Tryd.underlying74 rfl rfl Tryd.sizeOf72 rfl) rfl ?_
      refine a_rd (i := 1) hok rfl (by kernel_rfl) rfl (r_cload Tryd.isAgg72 rfl (j := 1) rfl rfl) rfl ?_
      refine a_rd (i := 2) hok rfl (by kernel_rfl) rfl (r_faddr (fo := 0) Tryd.underlying63 rfl rfl Tryd.sizeOf3 rfl) rfl ?_
      refine a_rd (i := 3) hok rfl (by kernel_rfl) rfl (r_cload Tryd.isAgg3 rfl (j := 4) rfl rfl) rfl ?_
      refine a_rd (i := 4) hok rfl (by kernel_rfl) rfl (r_faddr (fo := 2) Tryd.underlying74 rfl rfl Tryd.sizeOf72 rfl) rfl ?_
      refine a_rd (i := 5) hok rfl (by kernel_rfl) rfl (r_cload Tryd.isAgg72 rfl (j := 1) rfl rfl) rfl ?_
      refine a_rd (i := 6) hok rfl (by kernel_rfl) rfl (r_faddr (fo := 0) Tryd.underlying63 rfl rfl Tryd.sizeOf3 rfl) rfl ?_
      refine a_rd (i := 7) hok rfl (by kernel_rfl) rfl (r_cload Tryd.isAgg3 rfl (j := 4) rfl rfl) rfl ?_
      refine pull fun t53 h_t53 => ?_
      refine a_rd (i := 8) hok rfl (by kernel_rfl) rfl (r_oindex h_t53 Tryd.underlying72 el_67 rfl (j := 3) rfl rfl) rfl ?_
      refine a_rd (i := 9) hok rfl (by kernel_rfl) rfl (r_oload h_t53 el_67 rfl (j := 3) rfl) rfl ?_
      refine a_rd (i := 10) hok rfl (by kernel_rfl) rfl (r_faddr (fo := 1) Tryd.underlying63 rfl rfl Tryd.sizeOf3 rfl) rfl ?_
      refine a_rd (i := 11) hok rfl (by kernel_rfl) rfl (r_cload Tryd.isAgg3 rfl (j := 4) rfl rfl) rfl ?_
      refine pull fun t54 h_t54 => ?_
      refine a_next hok 12 [] (by kernel_rfl) ?_ trivial
      refine a_st (i := 12) hok rfl rfl (s_call (ψ := fun (_ : Unit) => iv .u64 t54) (args := [.tmp 55, .tmp 57]) Tryd.call61 rfl (network_Set_With_ok h_t54) ⟨arg rfl, arg rfl, trivial⟩ (fun _ _ _ _ h => h)) (by intro _ h; cases h; rfl) (fun _ => ⟨trivial, ⟨trivial, ⟨trivial, ⟨trivial, ⟨⟨⟨rfl, rfl⟩, trivial⟩, ⟨trivial, ⟨⟨⟨rfl, rfl⟩, trivial⟩, ⟨trivial, ⟨⟨⟨rfl, rfl⟩, trivial⟩, ⟨trivial, ⟨⟨⟨rfl, rfl⟩, trivial⟩, ⟨trivial, trivial⟩⟩⟩⟩⟩⟩⟩⟩⟩⟩⟩⟩) (fun _ => ?_)
      refine pull fun t55 h_t55 => ?_
      refine a_rd (i := 13) hok rfl (by kernel_rfl) rfl (r_oindex h_t55 Tryd.underlying72 el_67 rfl (j := 3) rfl rfl) rfl ?_
      refine a_next hok 14 [] (by kernel_rfl) ?_ trivial
      refine a_st (i := 14) hok rfl rfl (s_ostore (u := t54) h_t55 el_67 rfl (j := 3) rfl (part_at rfl iv_at)) (by intro _ h; cases h) (fun _ => ⟨trivial, ⟨trivial, ⟨trivial, ⟨trivial, ⟨trivial, ⟨trivial, ⟨trivial, ⟨trivial, ⟨trivial, ⟨trivial, ⟨trivial, ⟨trivial, ⟨trivial, trivial⟩⟩⟩⟩⟩⟩⟩⟩⟩⟩⟩⟩⟩) (fun _ => ?_)
      refine a_fin hok (by kernel_rfl) ?_
      refine n_block (n_then (ref_region ?_))
      refine s_rd (r_add rfl rfl) rfl ?_
      refine mv1 rfl rfl ?_
      refine l_nil ?_
      exact goB () (weak [0, 1, 2, 3] ⟨rfl, rfl, rfl, rfl, rfl, trivial⟩ ⟨rfl, rfl, rfl, rfl, trivial⟩)
    refine ref_exit (x_then ?_)
    exact brkB () (weak [0, 1, 2, 3] ⟨rfl, rfl, trivial⟩ ⟨rfl, rfl, rfl, rfl, trivial⟩)
  refine n_then (ref_seq (ref_region ?_))
  refine s_rd (r_cloadS Tryd.isAgg74 Tryd.sizeOf74 rfl (j := 1) rfl rfl rfl) rfl ?_
  refine s_st0 (s_cstore (out := [iv .u64 q21, pv (χ3 2).V.1, pv (χ3 5).V.1]) Tryd.sizeOf74 rfl (j := 0) rfl (part_agO (ψs := [iv .u64 q21, pv (χ3 2).V.1, pv (χ3 5).V.1]) rfl ⟨.inl iv_at, .inr ⟨_, _, _, _, _, 2, rfl, rfl⟩, .inr ⟨_, _, _, _, _, 3, rfl, rfl⟩, trivial⟩) rfl rfl rfl) (fun _ => ?_)
  refine l_nil (n_then (ref_ret ?_))
  refine b_of (frzGL [(61, ag [iv .u64 q21, slv (rI .u64) q56.1, pv (χ3 5).V.1])] [(0, b2, [iv .u64 q21, slv (rI .u64) q56.1, pv (χ3 5).V.1]), (1, (χ3 7).Nn, [iv .u64 q21, slv (rI .u64) q56.1, pv (χ3 5).V.1])] (j := 2) rfl ⟨⟨_, rfl, .inr ⟨_, _, rfl, rfl, ⟨.inl rfl, .inr ⟨rfl, rfl⟩, .inl rfl, trivial⟩⟩⟩, trivial⟩ ⟨⟨_, rfl, ⟨.inl rfl, .inr ⟨rfl, rfl⟩, .inl rfl, trivial⟩⟩, ⟨_, rfl, ⟨.inl rfl, .inr ⟨rfl, rfl⟩, .inl rfl, trivial⟩⟩, trivial⟩) ?_
  refine b_of (nrm [oc b2 [iv .u64 q21, slv (rI .u64) q56.1, pv (χ3 5).V.1], oc (χ3 7).Nn [iv .u64 q21, slv (rI .u64) q56.1, pv (χ3 5).V.1], dead, oa (rI .u64) (χ3 5).V.1 (χ3 5).V.2 q56.2] rfl) ?_
  refine b_of (frzGL [(61, ag [iv .u64 q21, slv (rI .u64) q56.1, slv (rI .u64) q56.2])] [(0, b2, [iv .u64 q21, slv (rI .u64) q56.1, slv (rI .u64) q56.2]), (1, (χ3 7).Nn, [iv .u64 q21, slv (rI .u64) q56.1, slv (rI .u64) q56.2])] (j := 3) rfl ⟨⟨_, rfl, .inr ⟨_, _, rfl, rfl, ⟨.inl rfl, .inl rfl, .inr ⟨rfl, rfl⟩, trivial⟩⟩⟩, trivial⟩ ⟨⟨_, rfl, ⟨.inl rfl, .inl rfl, .inr ⟨rfl, rfl⟩, trivial⟩⟩, ⟨_, rfl, ⟨.inl rfl, .inl rfl, .inr ⟨rfl, rfl⟩, trivial⟩⟩, trivial⟩) ?_
  refine b_of (nrm [oc b2 [iv .u64 q21, slv (rI .u64) q56.1, slv (rI .u64) q56.2], oc (χ3 7).Nn [iv .u64 q21, slv (rI .u64) q56.1, slv (rI .u64) q56.2], dead, dead] rfl) ?_
  exact fin1 (.inl rfl) () [] rfl trivial rfl (rv_cell rfl (j := 0) rfl Tryd.isAgg74 Tryd.sizeOf74 rfl rfl)

/-! (deliberation/network.Set).Has -/
noncomputable def network_Set_Has_m (s_0 : Int) (node_1 : Int) : Option (Bool) :=
  Option.bind (ishrM .u64 s_0 (IntKind.wrap .u64 node_1)) fun t1 =>
  letM ((iand .u64 t1 1) == 1) fun t2 =>
  some t2

theorem network_Set_Has_ok {s_0 : Int} {node_1 : Int} {r : Bool} (hm : network_Set_Has_m s_0 node_1 = some r) :
    FnOk prog 76 [iv .u64 s_0, iv .i64 node_1] [] (fun (x : Unit) => [bv r]) (fun (x : Unit) => []) := by
  refine fn_ok (fn := Tryd.f76) (N := 11) (res := fun r x => [bv r]) (Ω1 := fun r x => []) Tryd.func76 rfl rfl hm rfl (fun E hM => ?_)
  unfold network_Set_Has_m
  refine ref_seq (ref_region ?_)
  refine as1 rfl rfl ?_
  refine l_nil (n_then (ref_seq (ref_region ?_)))
  refine mv1 rfl rfl ?_
  refine mv1 rfl rfl ?_
  refine s_rd (r_conv (k' := .u64) rfl rfl rfl) rfl ?_
  refine pull fun t1 h_t1 => ?_
  refine s_rd (r_shrM h_t1 rfl rfl) rfl ?_
  refine s_rd (r_and rfl rfl) rfl ?_
  refine s_rd (r_eql rfl rfl) rfl ?_
  refine as1 rfl rfl ?_
  refine b_let (f := bv) (t := 4) rfl fun t2 => ?_
  refine l_nil (n_then (ref_ret ?_))
  exact fin1 (.inl rfl) () [] rfl trivial rfl (rv_tmp rfl)

/-! (deliberation/network.Net).Within -/
noncomputable def network_Net_Within_l1 (n_0 : T_network_Net) (s_1 : Int) (s27 : Int × (List Int) × (List Int)) : Option (Sum ((List Int) × (List Int)) (Int × (List Int) × (List Int))) :=
  bif decide (s27.1 < (n_0.By.length : Int)) then
    Option.bind (network_Set_Has_m (iand .u64 n_0.All s_1) s27.1) fun t30 =>
    bif t30 then
      Option.bind (idxM n_0.By s27.1) fun t32 =>
      Option.bind (idxM n_0.Out s27.1) fun t33 =>
      Option.bind (idxM s27.2.1 s27.1) fun t34 =>
      Option.bind (idxM s27.2.2 s27.1) fun t35 =>
      some (Sum.inr (iadd .i64 s27.1 1, s27.2.1.set (Int.toNat s27.1) (iand .u64 t32 s_1), s27.2.2.set (Int.toNat s27.1) (iand .u64 t33 s_1)))
    else
      some (Sum.inr (iadd .i64 s27.1 1, s27.2.1, s27.2.2))
  else
    some (Sum.inl (s27.2.1, s27.2.2))

noncomputable def network_Net_Within_m (n_0 : T_network_Net) (s_1 : Int) : Option (T_network_Net) :=
  Option.bind (mkM 8 0 (n_0.By.length : Int)) fun t4 =>
  Option.bind (mkM 8 0 (n_0.By.length : Int)) fun t6 =>
  Option.bind (loopC (network_Net_Within_l1 n_0 s_1) (0, t4, t6)) fun q36 : (List Int) × (List Int) =>
  some (T_network_Net.mk (iand .u64 n_0.All s_1) q36.1 q36.2)

theorem network_Net_Within_ok {n_0 : T_network_Net} {s_1 : Int} {r : T_network_Net} (hm : network_Net_Within_m n_0 s_1 = some r) :
    FnOk prog 82 [ag [iv .u64 n_0.All, slv (rI .u64) n_0.By, slv (rI .u64) n_0.Out], iv .u64 s_1] [] (fun (x : Unit) => [ag [iv .u64 r.All, slv (rI .u64) r.By, slv (rI .u64) r.Out]]) (fun (x : Unit) => []) := by
  refine fn_ok (fn := Tryd.f82) (N := 54) (res := fun r x => [ag [iv .u64 r.All, slv (rI .u64) r.By, slv (rI .u64) r.Out]]) (Ω1 := fun r x => []) Tryd.func82 rfl rfl hm rfl (fun E hM => ?_)
  unfold network_Net_Within_m
  refine ref_seq (ref_region ?_)
  refine s_st (s_box (part_agO (ψs := [iv .u64 n_0.All, slv (rI .u64) n_0.By, slv (rI .u64) n_0.Out]) rfl ⟨.inl iv_at, .inl slv_at, .inl slv_at, trivial⟩)) rfl (fun b1 => ?_)
  refine s_st (s_alloc zt_74) rfl (fun b2 => ?_)
  refine l_nil (n_then (ref_seq ?_))
  refine pull fun t4 h_t4 => ?_
  refine pull fun t6 h_t6 => ?_
  refine ref_drawI 3 [⟨[], [], [], [], [], fun us u => pv (ptr b1 0), fun us u => []⟩, ⟨[0], [], [], [0], [], fun us u => iv .u64 n_0.All, fun us u => []⟩, ⟨[], [], [], [], [], fun us u => iv .u64 s_1, fun us u => []⟩, ⟨[0, 1, 2], [], [], [], [], fun us u => iv .u64 (iand .u64 n_0.All s_1), fun us u => []⟩, ⟨[], [], [], [], [], fun us u => pv (ptr b1 1), fun us u => []⟩, ⟨[4], [], [], [0], [], fun us u => slv (rI .u64) n_0.By, fun us u => []⟩, ⟨[4, 5], [], [], [], [], fun us u => iv .i64 (n_0.By.length : Int), fun us u => []⟩, ⟨[4, 5, 6], [], [2], [2], [], fun us u => pv u.V.1, fun us u => [oa (rI .u64) u.V.1 u.V.2 t4]⟩, ⟨[], [], [], [], [], fun us u => pv (ptr b1 1), fun us u => []⟩, ⟨[8], [], [], [0], [], fun us u => slv (rI .u64) n_0.By, fun us u => []⟩, ⟨[8, 9], [], [], [], [], fun us u => iv .i64 (n_0.By.length : Int), fun us u => []⟩, ⟨[8, 9, 10], [], [3], [3], [], fun us u => pv u.V.1, fun us u => [oa (rI .u64) u.V.1 u.V.2 t6]⟩, ⟨[0, 1, 2, 3, 4, 5, 6, 7, 8, 9, 10, 11], [7, 11], [], [2, 3], [], fun us u => ag [iv .u64 (iand .u64 n_0.All s_1), pv (us.getD 0 .none).V.1, pv (us.getD 1 .none).V.1], fun us u => []⟩, ⟨[], [], [4], [4], [], fun us u => pv (ptr u.Nn 0), fun us u => [oc u.Nn [iv .u64 0, pv (.slice none 0 0), pv (.slice none 0 0)]]⟩, ⟨[0, 1, 2, 3, 4, 5, 6, 7, 8, 9, 10, 11, 12, 13], [7, 11, 13], [4], [2, 3, 4], [4], fun us u => pv undef, fun us u => [oc (us.getD 2 .none).Nn [iv .u64 (iand .u64 n_0.All s_1), pv (us.getD 0 .none).V.1, pv (us.getD 1 .none).V.1]]⟩] (fun χ3 => [(1, iv .u64 s_1), (2, pv (ptr b1 0)), (4, pv (ptr b2 0)), (5, pv (ptr (χ3 13).Nn 0))]) (fun χ3 => [oc b1 [iv .u64 n_0.All, slv (rI .u64) n_0.By, slv (rI .u64) n_0.Out], oc b2 [iv .u64 0, pv (.slice none 0 0), pv (.slice none 0 0)], oa (rI .u64) (χ3 7).V.1 (χ3 7).V.2 t4, oa (rI .u64) (χ3 11).V.1 (χ3 11).V.2 t6, oc (χ3 13).Nn [iv .u64 (iand .u64 n_0.All s_1), pv (χ3 7).V.1, pv (χ3 11).V.1]]) rfl (by kernel_rfl) ⟨fun χ3 Ω _ => St.toR (r_faddr (fo := 0) Tryd.underlying74 rfl rfl Tryd.sizeOf67 rfl) (fun _ => rfl) (fun _ => rfl), (by intro _ h; cases h; rfl), ⟨fun χ3 Ω ⟨h0, _⟩ => St.toR (r_cload Tryd.isAgg67 rfl (j := 0) h0 rfl) (fun _ => rfl) (fun _ => rfl), (by intro _ h; cases h; rfl), ⟨fun χ3 Ω _ => St.toR (r_move rfl) (fun _ => rfl) (fun _ => rfl), (by intro _ h; cases h; rfl), ⟨fun χ3 Ω _ => St.toR (r_and rfl rfl) (fun _ => rfl) (fun _ => rfl), (by intro _ h; cases h; rfl), ⟨fun χ3 Ω _ => St.toR (r_faddr (fo := 1) Tryd.underlying74 rfl rfl Tryd.sizeOf72 rfl) (fun _ => rfl) (fun _ => rfl), (by intro _ h; cases h; rfl), ⟨fun χ3 Ω ⟨h0, _⟩ => St.toR (r_cload Tryd.isAgg72 rfl (j := 0) h0 rfl) (fun _ => rfl) (fun _ => rfl), (by intro _ h; cases h; rfl), ⟨fun χ3 Ω _ => St.toR (r_len Tryd.underlying72 rfl) (fun _ => rfl) (fun _ => rfl), (by intro _ h; cases h; rfl), ⟨fun χ3 Ω ⟨h2, _⟩ => St.to XU.V XU.hV (St.placeL (os := fun _ => [_]) [2] (s_make h_t4 Tryd.underlying72 el_67 ze_67 rfl rfl) (fun _ => rfl) (fun _ => ⟨h2, rfl, trivial⟩)) (fun _ => rfl) (fun _ => rfl), (by intro _ h; cases h; rfl), ⟨fun χ3 Ω _ => St.toR (r_faddr (fo := 1) Tryd.underlying74 rfl rfl Tryd.sizeOf72 rfl) (fun _ => rfl) (fun _ => rfl), (by intro _ h; cases h; rfl), ⟨fun χ3 Ω ⟨h0, _⟩ => St.toR (r_cload Tryd.isAgg72 rfl (j := 0) h0 rfl) (fun _ => rfl) (fun _ => rfl), (by intro _ h; cases h; rfl), ⟨fun χ3 Ω _ => St.toR (r_len Tryd.underlying72 rfl) (fun _ => rfl) (fun _ => rfl), (by intro _ h; cases h; rfl), ⟨fun χ3 Ω ⟨h3, _⟩ => St.to XU.V XU.hV (St.placeL (os := fun _ => [_]) [3] (s_make h_t6 Tryd.underlying72 el_67 ze_67 rfl rfl) (fun _ => rfl) (fun _ => ⟨h3, rfl, trivial⟩)) (fun _ => rfl) (fun _ => rfl), (by intro _ h; cases h; rfl), ⟨fun χ3 Ω ⟨h2, h3, _⟩ => St.toR (r_build (ps := [(0, .tmp 10), (1, .tmp 14), (2, .tmp 18)]) (rs := [(0, [iv .u64 (iand .u64 n_0.All s_1)]), (1, [pv (χ3 7).V.1]), (2, [pv (χ3 11).V.1])]) st_74 zs_74 ⟨rfl, (part_at rfl iv_at), ⟨rfl, (part_own rfl (j := 2) h2), ⟨rfl, (part_own rfl (j := 3) h3), trivial⟩⟩⟩ rfl rfl) (fun _ => rfl) (fun _ => rfl), (by intro _ h; cases h; rfl), ⟨fun χ3 Ω ⟨h4, _⟩ => St.to XU.Nn XU.hN (St.placeL (os := fun _ => [_]) [4] (s_alloc zt_74) (fun _ => rfl) (fun _ => ⟨h4, rfl, trivial⟩)) (fun _ => rfl) (fun _ => rfl), (by intro _ h; cases h; rfl), ⟨fun χ3 Ω ⟨h2, h3, h4, _⟩ => St.to XU.U XU.hU (s_cstore (out := [iv .u64 (iand .u64 n_0.All s_1), pv (χ3 7).V.1, pv (χ3 11).V.1]) Tryd.sizeOf74 rfl (j := 4) h4 (part_agO (ψs := [iv .u64 (iand .u64 n_0.All s_1), pv (χ3 7).V.1, pv (χ3 11).V.1]) rfl ⟨.inl iv_at, .inr ⟨_, _, _, _, _, 2, rfl, h2⟩, .inr ⟨_, _, _, _, _, 3, rfl, h3⟩, trivial⟩) rfl rfl rfl) (fun _ => rfl) (fun _ => rfl), (by intro _ h; cases h), trivial⟩⟩⟩⟩⟩⟩⟩⟩⟩⟩⟩⟩⟩⟩⟩ (fun _ => ⟨rfl, rfl, rfl, rfl, trivial⟩) (fun _ => rfl) (fun χ3 => ?_)
  refine n_then (ref_seq (ref_seq (ref_region ?_)))
  refine s_rd (r_faddr (fo := 1) Tryd.underlying74 rfl rfl Tryd.sizeOf72 rfl) rfl ?_
  refine s_rd (r_cload Tryd.isAgg72 rfl (j := 0) rfl rfl) rfl ?_
  refine s_rd (r_len Tryd.underlying72 rfl) rfl ?_
  refine mv1 rfl rfl ?_
  refine l_nil (n_then ?_)
  refine ref_loopB (f := (network_Net_Within_l1 n_0 s_1)) (Γl := (fun (s27 : Int × (List Int) × (List Int)) (x28 : Unit) => [(1, iv .u64 s_1), (2, pv (ptr b1 0)), (4, pv (ptr b2 0)), (5, pv (ptr (χ3 13).Nn 0)), (22, iv .i64 (n_0.By.length : Int)), (23, iv .i64 s27.1)])) (Ωl := (fun (s27 : Int × (List Int) × (List Int)) (x28 : Unit) => [oc b1 [iv .u64 n_0.All, slv (rI .u64) n_0.By, slv (rI .u64) n_0.Out], oc b2 [iv .u64 0, pv (.slice none 0 0), pv (.slice none 0 0)], oc (χ3 13).Nn [iv .u64 (iand .u64 n_0.All s_1), pv (χ3 7).V.1, pv (χ3 11).V.1], oa (rI .u64) (χ3 7).V.1 (χ3 7).V.2 s27.2.1, oa (rI .u64) (χ3 11).V.1 (χ3 11).V.2 s27.2.2])) (Γb := (fun (q36 : (List Int) × (List Int)) (y37 : Unit) => [(4, pv (ptr b2 0)), (5, pv (ptr (χ3 13).Nn 0))])) (Ωb := (fun (q36 : (List Int) × (List Int)) (y37 : Unit) => [oc b2 [iv .u64 0, pv (.slice none 0 0), pv (.slice none 0 0)], oc (χ3 13).Nn [iv .u64 (iand .u64 n_0.All s_1), pv (χ3 7).V.1, pv (χ3 11).V.1], oa (rI .u64) (χ3 7).V.1 (χ3 7).V.2 q36.1, oa (rI .u64) (χ3 11).V.1 (χ3 11).V.2 q36.2])) (0, t4, t6) () (weak [0, 1, 4, 2, 3] ⟨rfl, rfl, rfl, rfl, rfl, rfl, trivial⟩ ⟨rfl, rfl, rfl, rfl, rfl, trivial⟩) (fun s27 x28 => ?_) (fun q36 y37 => ?_)
  · unfold network_Net_Within_l1
    refine ref_seq (ref_region ?_)
    refine s_rd (r_lss rfl rfl) rfl ?_
    refine l_nil (n_then (ref_seq ?_))
    refine ref_cond rfl (fun hb29 => ?_) (fun hb29 => ?_)
    · refine ref_skip (n_then (ref_seq (ref_block (ref_seq (ref_region ?_)))))
      refine mv1 rfl rfl ?_
      refine as1 rfl rfl ?_
      refine l_nil (n_then (ref_seq (ref_region ?_)))
      refine s_rd (r_faddr (fo := 0) Tryd.underlying74 rfl rfl Tryd.sizeOf67 rfl) rfl ?_
      refine s_rd (r_cload Tryd.isAgg67 rfl (j := 2) rfl rfl) rfl ?_
      refine mv1 rfl rfl ?_
      refine pull fun t30 h_t30 => ?_
      refine s_st (s_call (ψ := fun (_ : Unit) => bv t30) (args := [.tmp 27, .tmp 28]) Tryd.call76 rfl (network_Set_Has_ok h_t30) ⟨arg rfl, arg rfl, trivial⟩ (fun _ _ _ _ h => h)) rfl (fun _ => ?_)
      refine l_nil (n_then ?_)
      refine ref_cond rfl (fun hb31 => ?_) (fun hb31 => ?_)
      · refine ref_draw [0, 1, 2, 3, 4, 5, 6, 7, 8, 9, 10, 11, 12, 13, 14, 15, 16, 17, 18, 19, 20, 22] rfl (by kernel_rfl) (fun hok => ?_)
        refine a_rd (i := 0) hok rfl (by kernel_rfl) rfl (r_faddr (fo := 1) Tryd.underlying74 rfl rfl Tryd.sizeOf72 rfl) rfl ?_
        refine a_rd (i := 1) hok rfl (by kernel_rfl) rfl (r_cload Tryd.isAgg72 rfl (j := 2) rfl rfl) rfl ?_
        refine a_rd (i := 2) hok rfl (by kernel_rfl) rfl (r_move rfl) rfl ?_
        refine a_rd (i := 3) hok rfl (by kernel_rfl) rfl (r_faddr (fo := 2) Tryd.underlying74 rfl rfl Tryd.sizeOf72 rfl) rfl ?_
        refine a_rd (i := 4) hok rfl (by kernel_rfl) rfl (r_cload Tryd.isAgg72 rfl (j := 2) rfl rfl) rfl ?_
        refine a_rd (i := 5) hok rfl (by kernel_rfl) rfl (r_move rfl) rfl ?_
        refine a_rd (i := 6) hok rfl (by kernel_rfl) rfl (r_faddr (fo := 1) Tryd.underlying74 rfl rfl Tryd.sizeOf72 rfl) rfl ?_
        refine a_rd (i := 7) hok rfl (by kernel_rfl) rfl (r_cload Tryd.isAgg72 rfl (j := 0) rfl rfl) rfl ?_
        refine a_rd (i := 8) hok rfl (by kernel_rfl) rfl (r_move rfl) rfl ?_
        refine pull fun t32 h_t32 => ?_
        refine a_rd (i := 9) hok rfl (by kernel_rfl) rfl (r_index h_t32 Tryd.underlying72 el_67 rfl rfl) rfl ?_
        refine a_rd (i := 10) hok rfl (by kernel_rfl) rfl (r_load el_67 rfl) rfl ?_
        refine a_rd (i := 11) hok rfl (by kernel_rfl) rfl (r_move rfl) rfl ?_
        refine a_rd (i := 12) hok rfl (by kernel_rfl) rfl (r_and rfl rfl) rfl ?_
        refine a_rd (i := 13) hok rfl (by kernel_rfl) rfl (r_faddr (fo := 2) Tryd.underlying74 rfl rfl Tryd.sizeOf72 rfl) rfl ?_
        refine a_rd (i := 14) hok rfl (by kernel_rfl) rfl (r_cload Tryd.isAgg72 rfl (j := 0) rfl rfl) rfl ?_
        refine a_rd (i := 15) hok rfl (by kernel_rfl) rfl (r_move rfl) rfl ?_
        refine pull fun t33 h_t33 => ?_
        refine a_rd (i := 16) hok rfl (by kernel_rfl) rfl (r_index h_t33 Tryd.underlying72 el_67 rfl rfl) rfl ?_
        refine a_rd (i := 17) hok rfl (by kernel_rfl) rfl (r_load el_67 rfl) rfl ?_
        refine a_rd (i := 18) hok rfl (by kernel_rfl) rfl (r_move rfl) rfl ?_
        refine a_rd (i := 19) hok rfl (by kernel_rfl) rfl (r_and rfl rfl) rfl ?_
        refine pull fun t34 h_t34 => ?_
        refine a_rd (i := 20) hok rfl (by kernel_rfl) rfl (r_oindex h_t34 Tryd.underlying72 el_67 rfl (j := 3) rfl rfl) rfl ?_
        refine a_next hok 21 [] (by kernel_rfl) ?_ trivial
        refine a_st (i := 21) hok rfl rfl (s_ostore (u := iand .u64 t32 s_1) h_t34 el_67 rfl (j := 3) rfl (part_at rfl iv_at)) (by intro _ h; cases h) (fun _ => ⟨trivial, ⟨trivial, ⟨trivial, ⟨trivial, ⟨trivial, ⟨trivial, ⟨⟨⟨rfl, rfl⟩, trivial⟩, ⟨trivial, ⟨trivial, ⟨trivial, ⟨trivial, ⟨trivial, ⟨trivial, ⟨trivial, ⟨trivial, ⟨trivial, ⟨⟨⟨rfl, rfl⟩, trivial⟩, ⟨trivial, ⟨trivial, ⟨trivial, ⟨trivial, trivial⟩⟩⟩⟩⟩⟩⟩⟩⟩⟩⟩⟩⟩⟩⟩⟩⟩⟩⟩⟩⟩) (fun _ => ?_)
        refine pull fun t35 h_t35 => ?_
        refine a_rd (i := 22) hok rfl (by kernel_rfl) rfl (r_oindex h_t35 Tryd.underlying72 el_67 rfl (j := 4) rfl rfl) rfl ?_
        refine a_next hok 23 [] (by kernel_rfl) ?_ trivial
        refine a_st (i := 23) hok rfl rfl (s_ostore (u := iand .u64 t33 s_1) h_t35 el_67 rfl (j := 4) rfl (part_at rfl iv_at)) (by intro _ h; cases h) (fun _ => ⟨trivial, ⟨trivial, ⟨trivial, ⟨trivial, ⟨trivial, ⟨trivial, ⟨trivial, ⟨trivial, ⟨trivial, ⟨trivial, ⟨trivial, ⟨trivial, ⟨trivial, ⟨trivial, ⟨trivial, ⟨trivial, ⟨trivial, ⟨trivial, ⟨trivial, ⟨trivial, ⟨trivial, ⟨trivial, trivial⟩⟩⟩⟩⟩⟩⟩⟩⟩⟩⟩⟩⟩⟩⟩⟩⟩⟩⟩⟩⟩⟩) (fun _ => ?_)
        refine a_fin hok (by kernel_rfl) ?_
        refine n_block (n_then (ref_region ?_))
        refine s_rd (r_add rfl rfl) rfl ?_
        refine mv1 rfl rfl ?_
        refine l_nil ?_
        exact goB () (weak [0, 1, 2, 3, 4] ⟨rfl, rfl, rfl, rfl, rfl, rfl, trivial⟩ ⟨rfl, rfl, rfl, rfl, rfl, trivial⟩)
      refine ref_skip (n_block (n_then (ref_region ?_)))
      refine s_rd (r_add rfl rfl) rfl ?_
      refine mv1 rfl rfl ?_
      refine l_nil ?_
      exact goB () (weak [0, 1, 2, 3, 4] ⟨rfl, rfl, rfl, rfl, rfl, rfl, trivial⟩ ⟨rfl, rfl, rfl, rfl, rfl, trivial⟩)
    refine ref_exit (x_then ?_)
    exact brkB () (weak [1, 2, 3, 4] ⟨rfl, rfl, trivial⟩ ⟨rfl, rfl, rfl, rfl, trivial⟩)
  refine n_then (ref_seq (ref_region ?_))
  refine s_rd (r_cloadS Tryd.isAgg74 Tryd.sizeOf74 rfl (j := 1) rfl rfl rfl) rfl ?_
  refine s_st0 (s_cstore (out := [iv .u64 (iand .u64 n_0.All s_1), pv (χ3 7).V.1, pv (χ3 11).V.1]) Tryd.sizeOf74 rfl (j := 0) rfl (part_agO (ψs := [iv .u64 (iand .u64 n_0.All s_1), pv (χ3 7).V.1, pv (χ3 11).V.1]) rfl ⟨.inl iv_at, .inr ⟨_, _, _, _, _, 2, rfl, rfl⟩, .inr ⟨_, _, _, _, _, 3, rfl, rfl⟩, trivial⟩) rfl rfl rfl) (fun _ => ?_)
  refine l_nil (n_then (ref_ret ?_))
  refine b_of (frzGL [(53, ag [iv .u64 (iand .u64 n_0.All s_1), slv (rI .u64) q36.1, pv (χ3 11).V.1])] [(0, b2, [iv .u64 (iand .u64 n_0.All s_1), slv (rI .u64) q36.1, pv (χ3 11).V.1]), (1, (χ3 13).Nn, [iv .u64 (iand .u64 n_0.All s_1), slv (rI .u64) q36.1, pv (χ3 11).V.1])] (j := 2) rfl ⟨⟨_, rfl, .inr ⟨_, _, rfl, rfl, ⟨.inl rfl, .inr ⟨rfl, rfl⟩, .inl rfl, trivial⟩⟩⟩, trivial⟩ ⟨⟨_, rfl, ⟨.inl rfl, .inr ⟨rfl, rfl⟩, .inl rfl, trivial⟩⟩, ⟨_, rfl, ⟨.inl rfl, .inr ⟨rfl, rfl⟩, .inl rfl, trivial⟩⟩, trivial⟩) ?_
  refine b_of (nrm [oc b2 [iv .u64 (iand .u64 n_0.All s_1), slv (rI .u64) q36.1, pv (χ3 11).V.1], oc (χ3 13).Nn [iv .u64 (iand .u64 n_0.All s_1), slv (rI .u64) q36.1, pv (χ3 11).V.1], dead, oa (rI .u64) (χ3 11).V.1 (χ3 11).V.2 q36.2] rfl) ?_
  refine b_of (frzGL [(53, ag [iv .u64 (iand .u64 n_0.All s_1), slv (rI .u64) q36.1, slv (rI .u64) q36.2])] [(0, b2, [iv .u64 (iand .u64 n_0.All s_1), slv (rI .u64) q36.1, slv (rI .u64) q36.2]), (1, (χ3 13).Nn, [iv .u64 (iand .u64 n_0.All s_1), slv (rI .u64) q36.1, slv (rI .u64) q36.2])] (j := 3) rfl ⟨⟨_, rfl, .inr ⟨_, _, rfl, rfl, ⟨.inl rfl, .inl rfl, .inr ⟨rfl, rfl⟩, trivial⟩⟩⟩, trivial⟩ ⟨⟨_, rfl, ⟨.inl rfl, .inl rfl, .inr ⟨rfl, rfl⟩, trivial⟩⟩, ⟨_, rfl, ⟨.inl rfl, .inl rfl, .inr ⟨rfl, rfl⟩, trivial⟩⟩, trivial⟩) ?_
  refine b_of (nrm [oc b2 [iv .u64 (iand .u64 n_0.All s_1), slv (rI .u64) q36.1, slv (rI .u64) q36.2], oc (χ3 13).Nn [iv .u64 (iand .u64 n_0.All s_1), slv (rI .u64) q36.1, slv (rI .u64) q36.2], dead, dead] rfl) ?_
  exact fin1 (.inl rfl) () [] rfl trivial rfl (rv_cell rfl (j := 0) rfl Tryd.isAgg74 Tryd.sizeOf74 rfl rfl)

/-! deliberation/chance.world -/
noncomputable def chance_world_l1 (g_0 : T_api_Graph) (has_1 : (List Bool)) (s10 : Int × Int) : Option (Sum (Int) (Int × Int)) :=
  bif decide (s10.2 < g_0.N) then
    Option.bind (idxM has_1 s10.2) fun t13 =>
    bif t13 then
      Option.bind (network_Set_With_m s10.1 s10.2) fun nodes15 =>
      some (Sum.inr (nodes15, iadd .i64 s10.2 1))
    else
      some (Sum.inr (s10.1, iadd .i64 s10.2 1))
  else
    some (Sum.inl s10.1)

noncomputable def chance_world_l2 (g_0 : T_api_Graph) (has_1 : (List Bool)) (s45 : Int × (List T_api_Pair)) : Option (Sum ((List T_api_Pair)) (Int × (List T_api_Pair))) :=
  bif decide (s45.1 < (g_0.L.length : Int)) then
    Option.bind (idxM g_0.L s45.1) fun t48 =>
    Option.bind (idxM has_1 (iadd .i64 g_0.N s45.1)) fun t50 =>
    bif t50 then
      Option.bind (appM 16 s45.2 [t48]) fun t52 =>
      some (Sum.inr (iadd .i64 s45.1 1, t52))
    else
      some (Sum.inr (iadd .i64 s45.1 1, s45.2))
  else
    some (Sum.inl s45.2)

noncomputable def chance_world_m (g_0 : T_api_Graph) (has_1 : (List Bool)) : Option (T_network_Net) :=
  Option.bind (loopC (chance_world_l1 g_0 has_1) (0, 0)) fun q16 : Int =>
  Option.bind (loopC (chance_world_l2 g_0 has_1) (0, [])) fun q54 : (List T_api_Pair) =>
  Option.bind (network_New_m (T_api_Graph.mk g_0.N q54)) fun t56 =>
  Option.bind (network_Net_Within_m t56 q16) fun t57 =>
  some t57

theorem chance_world_ok {g_0 : T_api_Graph} {has_1 : (List Bool)} {h_0 : Value × List Nat} {r : T_network_Net} (hm : chance_world_m g_0 has_1 = some r) :
    FnOk prog 63 [ag [iv .i64 g_0.N, slv rT_api_Pair g_0.L], pv h_0.1] [oa rB h_0.1 h_0.2 has_1] (fun (x : Unit) => [ag [iv .u64 r.All, slv (rI .u64) r.By, slv (rI .u64) r.Out]]) (fun (x : Unit) => [oa rB h_0.1 h_0.2 has_1]) := by
  refine fn_ok (fn := Tryd.f63) (N := 52) (res := fun r x => [ag [iv .u64 r.All, slv (rI .u64) r.By, slv (rI .u64) r.Out]]) (Ω1 := fun r x => [oa rB h_0.1 h_0.2 has_1]) Tryd.func63 rfl rfl hm rfl (fun E hM => ?_)
  unfold chance_world_m
  refine ref_seq (ref_region ?_)
  refine s_st (s_box (part_agO (ψs := [iv .i64 g_0.N, slv rT_api_Pair g_0.L]) rfl ⟨.inl iv_at, .inl slv_at, trivial⟩)) rfl (fun b1 => ?_)
  refine s_st (s_alloc zt_74) rfl (fun b2 => ?_)
  refine l_nil (n_then (ref_seq (ref_region ?_)))
  refine as1 rfl rfl ?_
  refine l_nil (n_then (ref_seq (ref_region ?_)))
  refine s_rd (r_faddr (fo := 0) Tryd.underlying27 rfl rfl Tryd.sizeOf3 rfl) rfl ?_
  refine s_rd (r_cload Tryd.isAgg3 rfl (j := 1) rfl rfl) rfl ?_
  refine s_rd (r_build (ps := [(0, .tmp 11)]) (rs := [(0, [iv .i64 g_0.N])]) st_27 zs_27 ⟨rfl, (part_at rfl iv_at), trivial⟩ rfl rfl) rfl ?_
  refine s_st (s_alloc zt_27) rfl (fun b3 => ?_)
  refine s_st0 (s_cstore (out := [iv .i64 g_0.N, pv (.slice none 0 0)]) Tryd.sizeOf27 rfl (j := 3) rfl (part_agO (ψs := [iv .i64 g_0.N, pv (.slice none 0 0)]) rfl ⟨.inl iv_at, .inl (pv_at rfl), trivial⟩) rfl rfl rfl) (fun _ => ?_)
  refine l_nil ?_
  refine b_of (nrm [oa rB h_0.1 h_0.2 has_1, oc b1 [iv .i64 g_0.N, slv rT_api_Pair g_0.L], oc b2 [iv .u64 0, pv (.slice none 0 0), pv (.slice none 0 0)], oc b3 [iv .i64 g_0.N, pv (.slice none 0 0)]] rfl) ?_
  refine n_then (ref_seq (ref_seq (ref_region ?_)))
  refine s_rd (r_faddr (fo := 0) Tryd.underlying27 rfl rfl Tryd.sizeOf3 rfl) rfl ?_
  refine s_rd (r_cload Tryd.isAgg3 rfl (j := 1) rfl rfl) rfl ?_
  refine mv1 rfl rfl ?_
  refine l_nil (n_then ?_)
  refine ref_loopB (f := (chance_world_l1 g_0 has_1)) (Γl := (fun (s10 : Int × Int) (x11 : Unit) => [(1, pv h_0.1), (2, pv (ptr b1 0)), (4, pv (ptr b2 0)), (5, iv .u64 s10.1), (6, pv (ptr b3 0)), (14, iv .i64 g_0.N), (15, iv .i64 s10.2)])) (Ωl := (fun (s10 : Int × Int) (x11 : Unit) => [oa rB h_0.1 h_0.2 has_1, oc b1 [iv .i64 g_0.N, slv rT_api_Pair g_0.L], oc b2 [iv .u64 0, pv (.slice none 0 0), pv (.slice none 0 0)], oc b3 [iv .i64 g_0.N, pv (.slice none 0 0)]])) (Γb := (fun (q16 : Int) (y17 : Unit) => [(1, pv h_0.1), (2, pv (ptr b1 0)), (4, pv (ptr b2 0)), (5, iv .u64 q16), (6, pv (ptr b3 0))])) (Ωb := (fun (q16 : Int) (y17 : Unit) => [oa rB h_0.1 h_0.2 has_1, oc b1 [iv .i64 g_0.N, slv rT_api_Pair g_0.L], oc b2 [iv .u64 0, pv (.slice none 0 0), pv (.slice none 0 0)], oc b3 [iv .i64 g_0.N, pv (.slice none 0 0)]])) (0, 0) () (weak [0, 1, 2, 3] ⟨rfl, rfl, rfl, rfl, rfl, rfl, rfl, trivial⟩ ⟨rfl, rfl, rfl, rfl, trivial⟩) (fun s10 x11 => ?_) (fun q16 y17 => ?_)
  · unfold chance_world_l1
    refine ref_seq (ref_region ?_)
    refine s_rd (r_lss rfl rfl) rfl ?_
    refine l_nil (n_then (ref_seq ?_))
    refine ref_cond rfl (fun hb12 => ?_) (fun hb12 => ?_)
    · refine ref_skip (n_then (ref_seq (ref_block (ref_seq (ref_region ?_)))))
      refine mv1 rfl rfl ?_
      refine as1 rfl rfl ?_
      refine l_nil (n_then (ref_seq (ref_region ?_)))
      refine mv1 rfl rfl ?_
      refine mv1 rfl rfl ?_
      refine pull fun t13 h_t13 => ?_
      refine s_rd (r_oindex h_t13 Tryd.underlying97 el_4 rfl (j := 0) rfl rfl) rfl ?_
      refine s_rd (r_oload h_t13 el_4 rfl (j := 0) rfl) rfl ?_
      refine l_nil (n_then ?_)
      refine ref_cond rfl (fun hb14 => ?_) (fun hb14 => ?_)
      · refine ref_region ?_
        refine mv1 rfl rfl ?_
        refine mv1 rfl rfl ?_
        refine pull fun nodes15 h_nodes15 => ?_
        refine s_st (s_call (ψ := fun (_ : Unit) => iv .u64 nodes15) (args := [.tmp 22, .tmp 23]) Tryd.call61 rfl (network_Set_With_ok h_nodes15) ⟨arg rfl, arg rfl, trivial⟩ (fun _ _ _ _ h => h)) rfl (fun _ => ?_)
        refine as1 rfl rfl ?_
        refine l_nil (n_block (n_then (ref_region ?_)))
        refine s_rd (r_add rfl rfl) rfl ?_
        refine mv1 rfl rfl ?_
        refine l_nil ?_
        exact goB () (weak [0, 1, 2, 3] ⟨rfl, rfl, rfl, rfl, rfl, rfl, rfl, trivial⟩ ⟨rfl, rfl, rfl, rfl, trivial⟩)
      refine ref_skip (n_block (n_then (ref_region ?_)))
      refine s_rd (r_add rfl rfl) rfl ?_
      refine mv1 rfl rfl ?_
      refine l_nil ?_
      exact goB () (weak [0, 1, 2, 3] ⟨rfl, rfl, rfl, rfl, rfl, rfl, rfl, trivial⟩ ⟨rfl, rfl, rfl, rfl, trivial⟩)
    refine ref_exit (x_then ?_)
    exact brkB () (weak [0, 1, 2, 3] ⟨rfl, rfl, rfl, rfl, rfl, trivial⟩ ⟨rfl, rfl, rfl, rfl, trivial⟩)
  refine n_then (ref_seq (ref_seq (ref_region ?_)))
  refine s_rd (r_faddr (fo := 1) Tryd.underlying27 rfl rfl Tryd.sizeOf25 rfl) rfl ?_
  refine s_rd (r_cload Tryd.isAgg25 rfl (j := 1) rfl rfl) rfl ?_
  refine s_rd (r_len Tryd.underlying25 rfl) rfl ?_
  refine mv1 rfl rfl ?_
  refine l_nil (n_then ?_)
  refine b_of (own_nil rT_api_Pair) ?_
  refine ref_loopB (f := (chance_world_l2 g_0 has_1)) (Γl := (fun (s45 : Int × (List T_api_Pair)) (x46 : (Value × List Nat)) => [(1, pv h_0.1), (2, pv (ptr b1 0)), (4, pv (ptr b2 0)), (5, iv .u64 q16), (6, pv (ptr b3 0)), (27, slv rT_api_Pair g_0.L), (28, iv .i64 (g_0.L.length : Int)), (29, iv .i64 s45.1)])) (Ωl := (fun (s45 : Int × (List T_api_Pair)) (x46 : (Value × List Nat)) => [oa rB h_0.1 h_0.2 has_1, oc b1 [iv .i64 g_0.N, slv rT_api_Pair g_0.L], oc b2 [iv .u64 0, pv (.slice none 0 0), pv (.slice none 0 0)], oc b3 [iv .i64 g_0.N, pv x46.1], oa rT_api_Pair x46.1 x46.2 s45.2])) (Γb := (fun (q54 : (List T_api_Pair)) (y55 : (Value × List Nat)) => [(1, pv h_0.1), (4, pv (ptr b2 0)), (5, iv .u64 q16), (6, pv (ptr b3 0))])) (Ωb := (fun (q54 : (List T_api_Pair)) (y55 : (Value × List Nat)) => [oa rB h_0.1 h_0.2 has_1, oc b2 [iv .u64 0, pv (.slice none 0 0), pv (.slice none 0 0)], oc b3 [iv .i64 g_0.N, pv y55.1], oa rT_api_Pair y55.1 y55.2 q54])) (0, []) ((.slice none 0 0), []) (weak [0, 1, 2, 3, 4] ⟨rfl, rfl, rfl, rfl, rfl, rfl, rfl, rfl, trivial⟩ ⟨rfl, rfl, rfl, rfl, rfl, trivial⟩) (fun s45 x46 => ?_) (fun q54 y55 => ?_)
  · unfold chance_world_l2
    refine ref_seq (ref_region ?_)
    refine s_rd (r_lss rfl rfl) rfl ?_
    refine l_nil (n_then (ref_seq ?_))
    refine ref_cond rfl (fun hb47 => ?_) (fun hb47 => ?_)
    · refine ref_skip (n_then (ref_seq (ref_block (ref_seq (ref_region ?_)))))
      refine mv1 rfl rfl ?_
      refine pull fun t48 h_t48 => ?_
      refine s_rd (r_index h_t48 Tryd.underlying25 el_63 rfl rfl) rfl ?_
      refine s_rd (r_load el_63 rfl) rfl ?_
      refine s_st (s_alloc zt_63) rfl (fun b49 => ?_)
      refine as1 rfl rfl ?_
      refine s_st0 (s_cstore (out := [iv .i64 t48.From, iv .i64 t48.To]) Tryd.sizeOf63 rfl (j := 5) rfl (part_agO (ψs := [iv .i64 t48.From, iv .i64 t48.To]) rfl ⟨.inl iv_at, .inl iv_at, trivial⟩) rfl rfl rfl) (fun _ => ?_)
      refine l_nil (n_then (ref_seq (ref_region ?_)))
      refine mv1 rfl rfl ?_
      refine s_rd (r_faddr (fo := 0) Tryd.underlying27 rfl rfl Tryd.sizeOf3 rfl) rfl ?_
      refine s_rd (r_cload Tryd.isAgg3 rfl (j := 1) rfl rfl) rfl ?_
      refine mv1 rfl rfl ?_
      refine s_rd (r_add rfl rfl) rfl ?_
      refine pull fun t50 h_t50 => ?_
      refine s_rd (r_oindex h_t50 Tryd.underlying97 el_4 rfl (j := 0) rfl rfl) rfl ?_
      refine s_rd (r_oload h_t50 el_4 rfl (j := 0) rfl) rfl ?_
      refine l_nil (n_then ?_)
      refine ref_cond rfl (fun hb51 => ?_) (fun hb51 => ?_)
      · refine ref_region ?_
        refine s_rd (r_faddr (fo := 1) Tryd.underlying27 rfl rfl Tryd.sizeOf25 rfl) rfl ?_
        refine s_rd (r_cload Tryd.isAgg25 rfl (j := 3) rfl rfl) rfl ?_
        refine s_rd (r_cloadS Tryd.isAgg63 Tryd.sizeOf63 rfl (j := 5) rfl rfl rfl) rfl ?_
        refine s_st (s_bslice (xs := [.tmp 43]) (ds := [t48]) Tryd.underlying25 el_63 rfl (Nat.le_of_ble_eq_true rfl) ⟨(part_agO (ψs := [iv .i64 t48.From, iv .i64 t48.To]) rfl ⟨.inl iv_at, .inl iv_at, trivial⟩), trivial⟩) rfl (fun _ => ?_)
        refine pull fun t52 h_t52 => ?_
        refine s_st (s_append h_t52 Tryd.underlying25 el_63 rfl (j := 4) rfl rfl) rfl (fun o53 => ?_)
        refine s_rd (r_faddr (fo := 1) Tryd.underlying27 rfl rfl Tryd.sizeOf25 rfl) rfl ?_
        refine s_st0 (s_cstore (out := [iv .i64 g_0.N, pv o53.1]) Tryd.sizeOf25 rfl (j := 3) rfl (part_own rfl (j := 4) rfl) rfl rfl rfl) (fun _ => ?_)
        refine l_nil ?_
        refine b_of (nrm [oa rB h_0.1 h_0.2 has_1, oc b1 [iv .i64 g_0.N, slv rT_api_Pair g_0.L], oc b2 [iv .u64 0, pv (.slice none 0 0), pv (.slice none 0 0)], oc b3 [iv .i64 g_0.N, pv o53.1], oa rT_api_Pair o53.1 o53.2 t52, oc b49 [iv .i64 t48.From, iv .i64 t48.To]] rfl) ?_
        refine n_block (n_then (ref_region ?_))
        refine s_rd (r_add rfl rfl) rfl ?_
        refine mv1 rfl rfl ?_
        refine l_nil ?_
        exact goB o53 (weak [0, 1, 2, 3, 4] ⟨rfl, rfl, rfl, rfl, rfl, rfl, rfl, rfl, trivial⟩ ⟨rfl, rfl, rfl, rfl, rfl, trivial⟩)
      refine ref_skip (n_block (n_then (ref_region ?_)))
      refine s_rd (r_add rfl rfl) rfl ?_
      refine mv1 rfl rfl ?_
      refine l_nil ?_
      exact goB x46 (weak [0, 1, 2, 3, 4] ⟨rfl, rfl, rfl, rfl, rfl, rfl, rfl, rfl, trivial⟩ ⟨rfl, rfl, rfl, rfl, rfl, trivial⟩)
    refine ref_exit (x_then ?_)
    exact brkB x46 (weak [0, 2, 3, 4] ⟨rfl, rfl, rfl, rfl, trivial⟩ ⟨rfl, rfl, rfl, rfl, trivial⟩)
  refine n_then (ref_seq (ref_region ?_))
  refine s_rd (r_cloadS Tryd.isAgg27 Tryd.sizeOf27 rfl (j := 2) rfl rfl rfl) rfl ?_
  refine b_of (frzGL [(48, ag [iv .i64 g_0.N, slv rT_api_Pair q54])] [(2, b3, [iv .i64 g_0.N, slv rT_api_Pair q54])] (j := 3) rfl ⟨⟨_, rfl, .inr ⟨_, _, rfl, rfl, ⟨.inl rfl, .inr ⟨rfl, rfl⟩, trivial⟩⟩⟩, trivial⟩ ⟨⟨_, rfl, ⟨.inl rfl, .inr ⟨rfl, rfl⟩, trivial⟩⟩, trivial⟩) ?_
  refine pull fun t56 h_t56 => ?_
  refine s_st (s_call (ψ := fun (_ : Unit) => ag [iv .u64 t56.All, slv (rI .u64) t56.By, slv (rI .u64) t56.Out]) (args := [.tmp 48]) Tryd.call81 rfl (network_New_ok h_t56) ⟨arg rfl, trivial⟩ (fun _ _ _ _ h => h)) rfl (fun _ => ?_)
  refine mv1 rfl rfl ?_
  refine pull fun t57 h_t57 => ?_
  refine s_st (s_call (ψ := fun (_ : Unit) => ag [iv .u64 t57.All, slv (rI .u64) t57.By, slv (rI .u64) t57.Out]) (args := [.tmp 49, .tmp 50]) Tryd.call82 rfl (network_Net_Within_ok h_t57) ⟨arg rfl, arg rfl, trivial⟩ (fun _ _ _ _ h => h)) rfl (fun _ => ?_)
  refine s_st0 (s_cstore (out := [iv .u64 t57.All, slv (rI .u64) t57.By, slv (rI .u64) t57.Out]) Tryd.sizeOf74 rfl (j := 1) rfl (part_agO (ψs := [iv .u64 t57.All, slv (rI .u64) t57.By, slv (rI .u64) t57.Out]) rfl ⟨.inl iv_at, .inl slv_at, .inl slv_at, trivial⟩) rfl rfl rfl) (fun _ => ?_)
  refine l_nil (n_then (ref_ret ?_))
  exact fin1 (.inl rfl) () [0] rfl ⟨rfl, trivial⟩ rfl (rv_cell rfl (j := 1) rfl Tryd.isAgg74 Tryd.sizeOf74 rfl rfl)

/-! math/bits.TrailingZeros64 -/
noncomputable def math_bits_TrailingZeros64_m (x_0 : Int) : Option (Int) :=
  bif x_0 == 0 then
    some 64
  else
    Option.bind (idxM tab_0 (ishr .u64 (imul .u64 (iand .u64 x_0 (ineg .u64 x_0)) 285870213051353865) 58)) fun t2 =>
    letM (IntKind.wrap .i64 t2) fun t3 =>
    some t3

theorem math_bits_TrailingZeros64_ok {x_0 : Int} {r : Int} (hm : math_bits_TrailingZeros64_m x_0 = some r) :
    FnOk prog 75 [iv .u64 x_0] [tbO (rI .u8) 0 tab_0] (fun (x : Unit) => [iv .i64 r]) (fun (x : Unit) => [tbO (rI .u8) 0 tab_0]) := by
  refine fn_ok (fn := Tryd.f75) (N := 14) (res := fun r x => [iv .i64 r]) (Ω1 := fun r x => [tbO (rI .u8) 0 tab_0]) Tryd.func75 rfl rfl hm rfl (fun E hM => ?_)
  unfold math_bits_TrailingZeros64_m
  refine ref_seq (ref_region ?_)
  refine as1 rfl rfl ?_
  refine l_nil (n_then (ref_seq (ref_seq (ref_region ?_))))
  refine mv1 rfl rfl ?_
  refine s_rd (r_eql rfl rfl) rfl ?_
  refine l_nil (n_then ?_)
  refine ref_cond rfl (fun hb1 => ?_) (fun hb1 => ?_)
  · refine ref_seq (ref_region ?_)
    refine as1 rfl rfl ?_
    refine l_nil (n_then (ref_ret (r_then ?_)))
    exact fin1 (.inl rfl) () [0] rfl ⟨rfl, trivial⟩ rfl (rv_tmp rfl)
  refine ref_skip (n_then (ref_seq (ref_region ?_)))
  refine mv1 rfl rfl ?_
  refine mv1 rfl rfl ?_
  refine s_rd (r_neg rfl) rfl ?_
  refine s_rd (r_and rfl rfl) rfl ?_
  refine s_rd (r_mul rfl rfl) rfl ?_
  refine s_rd (r_shr rfl rfl (by decide)) rfl ?_
  refine pull fun t2 h_t2 => ?_
  refine s_rd (r_gindex (ρ := (rI .u8)) (sz := 1) h_t2 rfl rfl Tryd.underlying116 Tryd.sizeOf5 (j := 0) rfl rfl) rfl ?_
  refine s_rd (r_load el_5 rfl) rfl ?_
  refine s_rd (r_conv (k' := .i64) rfl rfl rfl) rfl ?_
  refine as1 rfl rfl ?_
  refine b_let (f := iv .i64) (t := 2) rfl fun t3 => ?_
  refine l_nil (n_then (ref_ret ?_))
  exact fin1 (.inl rfl) () [0] rfl ⟨rfl, trivial⟩ rfl (rv_tmp rfl)

/-! (deliberation/network.Set).List -/
noncomputable def network_Set_List_l1  (s15 : Int × (List Int)) : Option (Sum ((List Int)) (Int × (List Int))) :=
  bif s15.1 != 0 then
    Option.bind (math_bits_TrailingZeros64_m s15.1) fun t18 =>
    Option.bind (appM 8 s15.2 [t18]) fun out19 =>
    letM (iand .u64 s15.1 (isub .u64 s15.1 1)) fun s21 =>
    some (Sum.inr (s21, out19))
  else
    some (Sum.inl s15.2)

noncomputable def network_Set_List_m (s_0 : Int) : Option (List Int) :=
  Option.bind (loopC (network_Set_List_l1) (s_0, [])) fun q22 : (List Int) =>
  some q22

theorem network_Set_List_ok {s_0 : Int} {r : List Int} (hm : network_Set_List_m s_0 = some r) :
    FnOk prog 59 [iv .u64 s_0] [tbO (rI .u8) 0 tab_0] (fun (x : (Value × List Nat)) => [pv x.1]) (fun (x : (Value × List Nat)) => [tbO (rI .u8) 0 tab_0, oa (rI .i64) x.1 x.2 r]) := by
  refine fn_ok (X := (Value × List Nat)) (fn := Tryd.f59) (N := 16) (res := fun r x => [pv x.1]) (Ω1 := fun r x => [tbO (rI .u8) 0 tab_0, oa (rI .i64) x.1 x.2 r]) Tryd.func59 rfl rfl hm rfl (fun E hM => ?_)
  unfold network_Set_List_m
  refine ref_seq (ref_region ?_)
  refine as1 rfl rfl ?_
  refine l_nil (n_then (ref_seq (ref_region ?_)))
  refine as1 rfl rfl ?_
  refine l_nil (n_then (ref_seq ?_))
  refine b_of (own_nil (rI .i64)) ?_
  refine ref_loopB (f := (network_Set_List_l1)) (Γl := (fun (s15 : Int × (List Int)) (x16 : (Value × List Nat)) => [(0, iv .u64 s15.1), (3, pv x16.1)])) (Ωl := (fun (s15 : Int × (List Int)) (x16 : (Value × List Nat)) => [tbO (rI .u8) 0 tab_0, oa (rI .i64) x16.1 x16.2 s15.2])) (Γb := (fun (q22 : (List Int)) (y23 : (Value × List Nat)) => [(3, pv y23.1)])) (Ωb := (fun (q22 : (List Int)) (y23 : (Value × List Nat)) => [oa (rI .i64) y23.1 y23.2 q22, tbO (rI .u8) 0 tab_0])) (s_0, []) ((.slice none 0 0), []) (weak [0, 1] ⟨rfl, rfl, trivial⟩ ⟨rfl, rfl, trivial⟩) (fun s15 x16 => ?_) (fun q22 y23 => ?_)
  · unfold network_Set_List_l1
    refine ref_seq (ref_seq (ref_region ?_))
    refine mv1 rfl rfl ?_
    refine s_rd (r_neq rfl rfl) rfl ?_
    refine l_nil (n_then ?_)
    refine ref_cond rfl (fun hb17 => ?_) (fun hb17 => ?_)
    · refine ref_skip (n_then (ref_seq (ref_block (ref_region ?_))))
      refine mv1 rfl rfl ?_
      refine mv1 rfl rfl ?_
      refine pull fun t18 h_t18 => ?_
      refine s_st (s_callC [0] [true] (fun (_ : Unit) => [tbO (rI .u8) 0 tab_0]) (fun (_ : Unit) => []) (fun (_ : Unit) => iv .i64 t18) (args := [.tmp 11]) (caps := []) Tryd.call75 rfl (math_bits_TrailingZeros64_ok h_t18) ⟨rfl, rfl, trivial⟩ (fun _ => rfl) (fun _ => trivial) (fun _ => rfl) ⟨arg rfl, trivial⟩ (fun _ _ _ _ h => h)) rfl (fun _ => ?_)
      refine s_st (s_bslice (xs := [.tmp 12]) (ds := [t18]) Tryd.underlying22 el_3 rfl (Nat.le_of_ble_eq_true rfl) ⟨(part_at rfl iv_at), trivial⟩) rfl (fun _ => ?_)
      refine pull fun out19 h_out19 => ?_
      refine s_st (s_append h_out19 Tryd.underlying22 el_3 rfl (j := 1) rfl rfl) rfl (fun o20 => ?_)
      refine as1 rfl rfl ?_
      refine l_nil (n_block (n_then (ref_region ?_)))
      refine mv1 rfl rfl ?_
      refine mv1 rfl rfl ?_
      refine s_rd (r_sub rfl rfl) rfl ?_
      refine s_rd (r_and rfl rfl) rfl ?_
      refine as1 rfl rfl ?_
      refine b_let (f := iv .u64) (t := 0) rfl fun s21 => ?_
      refine l_nil ?_
      exact goB o20 (weak [0, 1] ⟨rfl, rfl, trivial⟩ ⟨rfl, rfl, trivial⟩)
    refine ref_exit (x_then ?_)
    exact brkB x16 (weak [1, 0] ⟨rfl, trivial⟩ ⟨rfl, rfl, trivial⟩)
  refine n_then (ref_seq (ref_region ?_))
  refine mv1 rfl rfl ?_
  refine as1 rfl rfl ?_
  refine l_nil (n_then (ref_ret ?_))
  exact fin1 (.inl rfl) y23 [1, 0] rfl ⟨rfl, rfl, trivial⟩ rfl (rv_tmp rfl)

/-! (deliberation/network.Net).Hit -/
noncomputable def network_Net_Hit_l1 (n_0 : T_network_Net) (t2 : List Int) (s9 : Int × Int) : Option (Sum (Int) (Int × Int)) :=
  bif decide (s9.2 < (t2.length : Int)) then
    Option.bind (idxM t2 s9.2) fun i12 =>
    Option.bind (idxM n_0.Out i12) fun t13 =>
    letM (ior .u64 s9.1 t13) fun out14 =>
    some (Sum.inr (out14, iadd .i64 s9.2 1))
  else
    some (Sum.inl s9.1)

noncomputable def network_Net_Hit_m (n_0 : T_network_Net) (s_1 : Int) : Option (Int) :=
  Option.bind (network_Set_List_m s_1) fun t2 =>
  Option.bind (loopC (network_Net_Hit_l1 n_0 t2) (0, 0)) fun q15 : Int =>
  some q15

theorem network_Net_Hit_ok {n_0 : T_network_Net} {s_1 : Int} {r : Int} (hm : network_Net_Hit_m n_0 s_1 = some r) :
    FnOk prog 83 [ag [iv .u64 n_0.All, slv (rI .u64) n_0.By, slv (rI .u64) n_0.Out], iv .u64 s_1] [tbO (rI .u8) 0 tab_0] (fun (x : Unit) => [iv .u64 r]) (fun (x : Unit) => [tbO (rI .u8) 0 tab_0]) := by
  refine fn_ok (fn := Tryd.f83) (N := 24) (res := fun r x => [iv .u64 r]) (Ω1 := fun r x => [tbO (rI .u8) 0 tab_0]) Tryd.func83 rfl rfl hm rfl (fun E hM => ?_)
  unfold network_Net_Hit_m
  refine ref_seq (ref_region ?_)
  refine s_st (s_box (part_agO (ψs := [iv .u64 n_0.All, slv (rI .u64) n_0.By, slv (rI .u64) n_0.Out]) rfl ⟨.inl iv_at, .inl slv_at, .inl slv_at, trivial⟩)) rfl (fun b1 => ?_)
  refine as1 rfl rfl ?_
  refine l_nil (n_then (ref_seq (ref_region ?_)))
  refine as1 rfl rfl ?_
  refine l_nil (n_then (ref_seq (ref_seq (ref_region ?_))))
  refine mv1 rfl rfl ?_
  refine pull fun t2 h_t2 => ?_
  refine s_st (s_callC [0] [true] (fun (x3 : (Value × List Nat)) => [tbO (rI .u8) 0 tab_0]) (fun (x3 : (Value × List Nat)) => [oa (rI .i64) x3.1 x3.2 t2]) (fun (x3 : (Value × List Nat)) => pv x3.1) (args := [.tmp 8]) (caps := []) Tryd.call59 rfl (network_Set_List_ok h_t2) ⟨rfl, rfl, trivial⟩ (fun _ => rfl) (fun _ => trivial) (fun _ => rfl) ⟨arg rfl, trivial⟩ (fun _ _ _ _ h => h)) rfl (fun x3 => ?_)
  refine s_rd (r_olen Tryd.underlying22 rfl (j := 2) rfl) rfl ?_
  refine mv1 rfl rfl ?_
  refine l_nil (n_then ?_)
  refine ref_loopB (f := (network_Net_Hit_l1 n_0 t2)) (Γl := (fun (s9 : Int × Int) (x10 : Unit) => [(2, pv (ptr b1 0)), (5, iv .u64 s9.1), (9, pv x3.1), (10, iv .i64 (t2.length : Int)), (11, iv .i64 s9.2)])) (Ωl := (fun (s9 : Int × Int) (x10 : Unit) => [tbO (rI .u8) 0 tab_0, oc b1 [iv .u64 n_0.All, slv (rI .u64) n_0.By, slv (rI .u64) n_0.Out], oa (rI .i64) x3.1 x3.2 t2])) (Γb := (fun (q15 : Int) (y16 : Unit) => [(5, iv .u64 q15)])) (Ωb := (fun (q15 : Int) (y16 : Unit) => [tbO (rI .u8) 0 tab_0])) (0, 0) () (weak [0, 1, 2] ⟨rfl, rfl, rfl, rfl, rfl, trivial⟩ ⟨rfl, rfl, rfl, trivial⟩) (fun s9 x10 => ?_) (fun q15 y16 => ?_)
  · unfold network_Net_Hit_l1
    refine ref_seq (ref_region ?_)
    refine s_rd (r_lss rfl rfl) rfl ?_
    refine l_nil (n_then (ref_seq ?_))
    refine ref_cond rfl (fun hb11 => ?_) (fun hb11 => ?_)
    · refine ref_skip (n_then (ref_seq (ref_block (ref_seq (ref_region ?_)))))
      refine pull fun i12 h_i12 => ?_
      refine s_rd (r_oindex h_i12 Tryd.underlying22 el_3 rfl (j := 2) rfl rfl) rfl ?_
      refine s_rd (r_oload h_i12 el_3 rfl (j := 2) rfl) rfl ?_
      refine as1 rfl rfl ?_
      refine l_nil (n_then (ref_region ?_))
      refine mv1 rfl rfl ?_
      refine s_rd (r_faddr (fo := 2) Tryd.underlying74 rfl rfl Tryd.sizeOf72 rfl) rfl ?_
      refine s_rd (r_cload Tryd.isAgg72 rfl (j := 1) rfl rfl) rfl ?_
      refine mv1 rfl rfl ?_
      refine pull fun t13 h_t13 => ?_
      refine s_rd (r_index h_t13 Tryd.underlying72 el_67 rfl rfl) rfl ?_
      refine s_rd (r_load el_67 rfl) rfl ?_
      refine s_rd (r_or rfl rfl) rfl ?_
      refine as1 rfl rfl ?_
      refine b_let (f := iv .u64) (t := 5) rfl fun out14 => ?_
      refine l_nil (n_block (n_then (ref_region ?_)))
      refine s_rd (r_add rfl rfl) rfl ?_
      refine mv1 rfl rfl ?_
      refine l_nil ?_
      exact goB () (weak [0, 1, 2] ⟨rfl, rfl, rfl, rfl, rfl, trivial⟩ ⟨rfl, rfl, rfl, trivial⟩)
    refine ref_exit (x_then ?_)
    exact brkB () (weak [0] ⟨rfl, trivial⟩ ⟨rfl, trivial⟩)
  refine n_then (ref_seq (ref_region ?_))
  refine mv1 rfl rfl ?_
  refine as1 rfl rfl ?_
  refine l_nil (n_then (ref_ret ?_))
  exact fin1 (.inl rfl) () [0] rfl ⟨rfl, trivial⟩ rfl (rv_tmp rfl)

/-! (deliberation/network.Net).Grounded -/
noncomputable def network_Net_Grounded_l2 (n_0 : T_network_Net) (out52 : Int) (t53 : List Int) (s62 : Int × Int) : Option (Sum (Int) (Int × Int)) :=
  bif decide (s62.2 < (t53.length : Int)) then
    Option.bind (idxM t53 s62.2) fun i65 =>
    Option.bind (idxM n_0.By i65) fun t66 =>
    bif (iandn .u64 t66 out52) == 0 then
      Option.bind (network_Set_With_m s62.1 i65) fun next68 =>
      some (Sum.inr (next68, iadd .i64 s62.2 1))
    else
      some (Sum.inr (s62.1, iadd .i64 s62.2 1))
  else
    some (Sum.inl s62.1)

noncomputable def network_Net_Grounded_l1 (n_0 : T_network_Net) (s50 : Int × (List Int)) : Option (Sum (List Int) (Int × (List Int))) :=
  Option.bind (network_Net_Hit_m n_0 s50.1) fun out52 =>
  Option.bind (network_Set_List_m n_0.All) fun t53 =>
  Option.bind (loopC (network_Net_Grounded_l2 n_0 out52 t53) (s50.1, 0)) fun q69 : Int =>
  bif q69 == s50.1 then
    some (Sum.inl s50.2)
  else
    Option.bind (appM 8 s50.2 [q69]) fun rounds72 =>
    some (Sum.inr (q69, rounds72))

noncomputable def network_Net_Grounded_m (n_0 : T_network_Net) : Option (List Int) :=
  Option.bind (loopC (network_Net_Grounded_l1 n_0) (0, [])) (fun a : List Int => some a)

theorem network_Net_Grounded_ok {n_0 : T_network_Net} {r : List Int} (hm : network_Net_Grounded_m n_0 = some r) :
    FnOk prog 64 [ag [iv .u64 n_0.All, slv (rI .u64) n_0.By, slv (rI .u64) n_0.Out]] [tbO (rI .u8) 0 tab_0] (fun (x : (Value × List Nat)) => [pv x.1]) (fun (x : (Value × List Nat)) => [tbO (rI .u8) 0 tab_0, oa (rI .u64) x.1 x.2 r]) := by
  refine fn_ok (X := (Value × List Nat)) (fn := Tryd.f64) (N := 42) (res := fun r x => [pv x.1]) (Ω1 := fun r x => [tbO (rI .u8) 0 tab_0, oa (rI .u64) x.1 x.2 r]) Tryd.func64 rfl rfl hm rfl (fun E hM => ?_)
  unfold network_Net_Grounded_m
  refine ref_seq (ref_region ?_)
  refine s_st (s_box (part_agO (ψs := [iv .u64 n_0.All, slv (rI .u64) n_0.By, slv (rI .u64) n_0.Out]) rfl ⟨.inl iv_at, .inl slv_at, .inl slv_at, trivial⟩)) rfl (fun b1 => ?_)
  refine as1 rfl rfl ?_
  refine l_nil (n_then (ref_seq (ref_region ?_)))
  refine as1 rfl rfl ?_
  refine l_nil (n_then (ref_seq (ref_region ?_)))
  refine as1 rfl rfl ?_
  refine l_nil (n_then ?_)
  refine b_of (own_nil (rI .u64)) ?_
  refine ref_block (ref_loop (f := (network_Net_Grounded_l1 n_0)) (Γl := (fun (s50 : Int × (List Int)) (x51 : (Value × List Nat)) => [(1, pv (ptr b1 0)), (3, pv x51.1), (4, iv .u64 s50.1)])) (Ωl := (fun (s50 : Int × (List Int)) (x51 : (Value × List Nat)) => [tbO (rI .u8) 0 tab_0, oc b1 [iv .u64 n_0.All, slv (rI .u64) n_0.By, slv (rI .u64) n_0.Out], oa (rI .u64) x51.1 x51.2 s50.2])) (k := (fun a : List Int => some a)) (0, []) ((.slice none 0 0), []) (weak [0, 1, 2] ⟨rfl, rfl, rfl, trivial⟩ ⟨rfl, rfl, rfl, trivial⟩) (fun s50 x51 => ?_))
  · unfold network_Net_Grounded_l1
    refine ref_block (ref_seq (ref_region ?_))
    refine s_rd (r_cloadS Tryd.isAgg74 Tryd.sizeOf74 rfl (j := 1) rfl rfl rfl) rfl ?_
    refine mv1 rfl rfl ?_
    refine pull fun out52 h_out52 => ?_
    refine s_st (s_callC [0] [true] (fun (_ : Unit) => [tbO (rI .u8) 0 tab_0]) (fun (_ : Unit) => []) (fun (_ : Unit) => iv .u64 out52) (args := [.tmp 9, .tmp 10]) (caps := []) Tryd.call83 rfl (network_Net_Hit_ok h_out52) ⟨rfl, rfl, trivial⟩ (fun _ => rfl) (fun _ => trivial) (fun _ => rfl) ⟨arg rfl, arg rfl, trivial⟩ (fun _ _ _ _ h => h)) rfl (fun _ => ?_)
    refine mv1 rfl rfl ?_
    refine as1 rfl rfl ?_
    refine as1 rfl rfl ?_
    refine l_nil (n_then (ref_seq (ref_seq (ref_region ?_))))
    refine s_rd (r_faddr (fo := 0) Tryd.underlying74 rfl rfl Tryd.sizeOf67 rfl) rfl ?_
    refine s_rd (r_cload Tryd.isAgg67 rfl (j := 1) rfl rfl) rfl ?_
    refine pull fun t53 h_t53 => ?_
    refine s_st (s_callC [0] [true] (fun (x54 : (Value × List Nat)) => [tbO (rI .u8) 0 tab_0]) (fun (x54 : (Value × List Nat)) => [oa (rI .i64) x54.1 x54.2 t53]) (fun (x54 : (Value × List Nat)) => pv x54.1) (args := [.tmp 14]) (caps := []) Tryd.call59 rfl (network_Set_List_ok h_t53) ⟨rfl, rfl, trivial⟩ (fun _ => rfl) (fun _ => trivial) (fun _ => rfl) ⟨arg rfl, trivial⟩ (fun _ _ _ _ h => h)) rfl (fun x54 => ?_)
    refine s_rd (r_olen Tryd.underlying22 rfl (j := 3) rfl) rfl ?_
    refine mv1 rfl rfl ?_
    refine l_nil (n_then ?_)
    refine ref_loopB (f := (network_Net_Grounded_l2 n_0 out52 t53)) (Γl := (fun (s62 : Int × Int) (x63 : Unit) => [(1, pv (ptr b1 0)), (3, pv x51.1), (4, iv .u64 s50.1), (5, iv .u64 out52), (6, iv .u64 s62.1), (15, pv x54.1), (16, iv .i64 (t53.length : Int)), (17, iv .i64 s62.2)])) (Ωl := (fun (s62 : Int × Int) (x63 : Unit) => [tbO (rI .u8) 0 tab_0, oc b1 [iv .u64 n_0.All, slv (rI .u64) n_0.By, slv (rI .u64) n_0.Out], oa (rI .u64) x51.1 x51.2 s50.2, oa (rI .i64) x54.1 x54.2 t53])) (Γb := (fun (q69 : Int) (y70 : Unit) => [(1, pv (ptr b1 0)), (3, pv x51.1), (4, iv .u64 s50.1), (6, iv .u64 q69)])) (Ωb := (fun (q69 : Int) (y70 : Unit) => [oc b1 [iv .u64 n_0.All, slv (rI .u64) n_0.By, slv (rI .u64) n_0.Out], oa (rI .u64) x51.1 x51.2 s50.2, tbO (rI .u8) 0 tab_0])) (s50.1, 0) () (weak [0, 1, 2, 3] ⟨rfl, rfl, rfl, rfl, rfl, rfl, rfl, rfl, trivial⟩ ⟨rfl, rfl, rfl, rfl, trivial⟩) (fun s62 x63 => ?_) (fun q69 y70 => ?_)
    · unfold network_Net_Grounded_l2
      refine ref_seq (ref_region ?_)
      refine s_rd (r_lss rfl rfl) rfl ?_
      refine l_nil (n_then (ref_seq ?_))
      refine ref_cond rfl (fun hb64 => ?_) (fun hb64 => ?_)
      · refine ref_skip (n_then (ref_seq (ref_block (ref_seq (ref_region ?_)))))
        refine pull fun i65 h_i65 => ?_
        refine s_rd (r_oindex h_i65 Tryd.underlying22 el_3 rfl (j := 3) rfl rfl) rfl ?_
        refine s_rd (r_oload h_i65 el_3 rfl (j := 3) rfl) rfl ?_
        refine as1 rfl rfl ?_
        refine l_nil (n_then (ref_seq (ref_region ?_)))
        refine s_rd (r_faddr (fo := 1) Tryd.underlying74 rfl rfl Tryd.sizeOf72 rfl) rfl ?_
        refine s_rd (r_cload Tryd.isAgg72 rfl (j := 1) rfl rfl) rfl ?_
        refine mv1 rfl rfl ?_
        refine pull fun t66 h_t66 => ?_
        refine s_rd (r_index h_t66 Tryd.underlying72 el_67 rfl rfl) rfl ?_
        refine s_rd (r_load el_67 rfl) rfl ?_
        refine mv1 rfl rfl ?_
        refine s_rd (r_andn rfl rfl) rfl ?_
        refine s_rd (r_eql rfl rfl) rfl ?_
        refine l_nil (n_then ?_)
        refine ref_cond rfl (fun hb67 => ?_) (fun hb67 => ?_)
        · refine ref_region ?_
          refine mv1 rfl rfl ?_
          refine mv1 rfl rfl ?_
          refine pull fun next68 h_next68 => ?_
          refine s_st (s_call (ψ := fun (_ : Unit) => iv .u64 next68) (args := [.tmp 29, .tmp 30]) Tryd.call61 rfl (network_Set_With_ok h_next68) ⟨arg rfl, arg rfl, trivial⟩ (fun _ _ _ _ h => h)) rfl (fun _ => ?_)
          refine as1 rfl rfl ?_
          refine l_nil ?_
          refine b_of (nrm [tbO (rI .u8) 0 tab_0, oc b1 [iv .u64 n_0.All, slv (rI .u64) n_0.By, slv (rI .u64) n_0.Out], oa (rI .u64) x51.1 x51.2 s50.2, oa (rI .i64) x54.1 x54.2 t53] rfl) ?_
          refine n_block (n_then (ref_region ?_))
          refine s_rd (r_add rfl rfl) rfl ?_
          refine mv1 rfl rfl ?_
          refine l_nil ?_
          exact goB () (weak [0, 1, 2, 3] ⟨rfl, rfl, rfl, rfl, rfl, rfl, rfl, rfl, trivial⟩ ⟨rfl, rfl, rfl, rfl, trivial⟩)
        refine ref_skip (n_block (n_then (ref_region ?_)))
        refine s_rd (r_add rfl rfl) rfl ?_
        refine mv1 rfl rfl ?_
        refine l_nil ?_
        exact goB () (weak [0, 1, 2, 3] ⟨rfl, rfl, rfl, rfl, rfl, rfl, rfl, rfl, trivial⟩ ⟨rfl, rfl, rfl, rfl, trivial⟩)
      refine ref_exit (x_then ?_)
      exact brkB () (weak [1, 2, 0] ⟨rfl, rfl, rfl, rfl, trivial⟩ ⟨rfl, rfl, rfl, trivial⟩)
    refine n_then (ref_seq (ref_seq (ref_region ?_)))
    refine mv1 rfl rfl ?_
    refine mv1 rfl rfl ?_
    refine s_rd (r_eql rfl rfl) rfl ?_
    refine l_nil (n_then ?_)
    refine ref_cond rfl (fun hb71 => ?_) (fun hb71 => ?_)
    · refine ref_seq (ref_region ?_)
      refine mv1 rfl rfl ?_
      refine as1 rfl rfl ?_
      refine l_nil (n_then (ref_ret (r_then (r_block ?_))))
      refine r_loop ?_
      refine r_block ?_
      exact fin1 (.inl rfl) x51 [2, 1] rfl ⟨rfl, rfl, trivial⟩ rfl (rv_tmp rfl)
    refine ref_skip (n_then (ref_region ?_))
    refine mv1 rfl rfl ?_
    refine mv1 rfl rfl ?_
    refine s_st (s_bslice (xs := [.tmp 38]) (ds := [q69]) Tryd.underlying72 el_67 rfl (Nat.le_of_ble_eq_true rfl) ⟨(part_at rfl iv_at), trivial⟩) rfl (fun _ => ?_)
    refine pull fun rounds72 h_rounds72 => ?_
    refine s_st (s_append h_rounds72 Tryd.underlying72 el_67 rfl (j := 1) rfl rfl) rfl (fun o73 => ?_)
    refine mv1 rfl rfl ?_
    refine as1 rfl rfl ?_
    refine as1 rfl rfl ?_
    refine l_nil (n_block ?_)
    exact n_loop o73 (weak [2, 0, 1] ⟨rfl, rfl, rfl, trivial⟩ ⟨rfl, rfl, rfl, trivial⟩)

/-! (deliberation/network.Net).In -/
noncomputable def network_Net_In_m (n_0 : T_network_Net) : Option (Int) :=
  Option.bind (network_Net_Grounded_m n_0) fun l2 =>
  bif (l2.length : Int) == 0 then
    some 0
  else
    Option.bind (idxM l2 (isub .i64 (l2.length : Int) 1)) fun t5 =>
    some t5

theorem network_Net_In_ok {n_0 : T_network_Net} {r : Int} (hm : network_Net_In_m n_0 = some r) :
    FnOk prog 39 [ag [iv .u64 n_0.All, slv (rI .u64) n_0.By, slv (rI .u64) n_0.Out]] [tbO (rI .u8) 0 tab_0] (fun (x : Unit) => [iv .u64 r]) (fun (x : Unit) => [tbO (rI .u8) 0 tab_0]) := by
  refine fn_ok (fn := Tryd.f39) (N := 15) (res := fun r x => [iv .u64 r]) (Ω1 := fun r x => [tbO (rI .u8) 0 tab_0]) Tryd.func39 rfl rfl hm rfl (fun E hM => ?_)
  unfold network_Net_In_m
  refine ref_seq (ref_region ?_)
  refine s_st (s_box (part_agO (ψs := [iv .u64 n_0.All, slv (rI .u64) n_0.By, slv (rI .u64) n_0.Out]) rfl ⟨.inl iv_at, .inl slv_at, .inl slv_at, trivial⟩)) rfl (fun b1 => ?_)
  refine as1 rfl rfl ?_
  refine l_nil (n_then (ref_seq (ref_region ?_)))
  refine s_rd (r_cloadS Tryd.isAgg74 Tryd.sizeOf74 rfl (j := 1) rfl rfl rfl) rfl ?_
  refine pull fun l2 h_l2 => ?_
  refine s_st (s_callC [0] [true] (fun (x3 : (Value × List Nat)) => [tbO (rI .u8) 0 tab_0]) (fun (x3 : (Value × List Nat)) => [oa (rI .u64) x3.1 x3.2 l2]) (fun (x3 : (Value × List Nat)) => pv x3.1) (args := [.tmp 4]) (caps := []) Tryd.call64 rfl (network_Net_Grounded_ok h_l2) ⟨rfl, rfl, trivial⟩ (fun _ => rfl) (fun _ => trivial) (fun _ => rfl) ⟨arg rfl, trivial⟩ (fun _ _ _ _ h => h)) rfl (fun x3 => ?_)
  refine as1 rfl rfl ?_
  refine l_nil (n_then (ref_seq (ref_seq (ref_region ?_))))
  refine mv1 rfl rfl ?_
  refine s_rd (r_olen Tryd.underlying72 rfl (j := 2) rfl) rfl ?_
  refine s_rd (r_eql rfl rfl) rfl ?_
  refine l_nil (n_then ?_)
  refine ref_cond rfl (fun hb4 => ?_) (fun hb4 => ?_)
  · refine ref_seq (ref_region ?_)
    refine as1 rfl rfl ?_
    refine l_nil (n_then (ref_ret (r_then ?_)))
    exact fin1 (.inl rfl) () [0] rfl ⟨rfl, trivial⟩ rfl (rv_tmp rfl)
  refine ref_skip (n_then (ref_seq (ref_region ?_)))
  refine mv1 rfl rfl ?_
  refine mv1 rfl rfl ?_
  refine s_rd (r_olen Tryd.underlying72 rfl (j := 2) rfl) rfl ?_
  refine s_rd (r_sub rfl rfl) rfl ?_
  refine pull fun t5 h_t5 => ?_
  refine s_rd (r_oindex h_t5 Tryd.underlying72 el_67 rfl (j := 2) rfl rfl) rfl ?_
  refine s_rd (r_oload h_t5 el_67 rfl (j := 2) rfl) rfl ?_
  refine as1 rfl rfl ?_
  refine l_nil (n_then (ref_ret ?_))
  exact fin1 (.inl rfl) () [0] rfl ⟨rfl, trivial⟩ rfl (rv_tmp rfl)

/-! (deliberation/network.Net).Free -/
noncomputable def network_Net_Free_m (n_0 : T_network_Net) (s_1 : Int) : Option (Bool) :=
  Option.bind (network_Net_Hit_m n_0 s_1) fun t2 =>
  letM ((iand .u64 t2 s_1) == 0) fun t3 =>
  some t3

theorem network_Net_Free_ok {n_0 : T_network_Net} {s_1 : Int} {r : Bool} (hm : network_Net_Free_m n_0 s_1 = some r) :
    FnOk prog 88 [ag [iv .u64 n_0.All, slv (rI .u64) n_0.By, slv (rI .u64) n_0.Out], iv .u64 s_1] [tbO (rI .u8) 0 tab_0] (fun (x : Unit) => [bv r]) (fun (x : Unit) => [tbO (rI .u8) 0 tab_0]) := by
  refine fn_ok (fn := Tryd.f88) (N := 11) (res := fun r x => [bv r]) (Ω1 := fun r x => [tbO (rI .u8) 0 tab_0]) Tryd.func88 rfl rfl hm rfl (fun E hM => ?_)
  unfold network_Net_Free_m
  refine ref_seq (ref_region ?_)
  refine s_st (s_box (part_agO (ψs := [iv .u64 n_0.All, slv (rI .u64) n_0.By, slv (rI .u64) n_0.Out]) rfl ⟨.inl iv_at, .inl slv_at, .inl slv_at, trivial⟩)) rfl (fun b1 => ?_)
  refine as1 rfl rfl ?_
  refine l_nil (n_then (ref_seq (ref_region ?_)))
  refine s_rd (r_cloadS Tryd.isAgg74 Tryd.sizeOf74 rfl (j := 1) rfl rfl rfl) rfl ?_
  refine mv1 rfl rfl ?_
  refine pull fun t2 h_t2 => ?_
  refine s_st (s_callC [0] [true] (fun (_ : Unit) => [tbO (rI .u8) 0 tab_0]) (fun (_ : Unit) => []) (fun (_ : Unit) => iv .u64 t2) (args := [.tmp 5, .tmp 6]) (caps := []) Tryd.call83 rfl (network_Net_Hit_ok h_t2) ⟨rfl, rfl, trivial⟩ (fun _ => rfl) (fun _ => trivial) (fun _ => rfl) ⟨arg rfl, arg rfl, trivial⟩ (fun _ _ _ _ h => h)) rfl (fun _ => ?_)
  refine mv1 rfl rfl ?_
  refine s_rd (r_and rfl rfl) rfl ?_
  refine s_rd (r_eql rfl rfl) rfl ?_
  refine as1 rfl rfl ?_
  refine b_let (f := bv) (t := 4) rfl fun t3 => ?_
  refine l_nil (n_then (ref_ret ?_))
  exact fin1 (.inl rfl) () [0] rfl ⟨rfl, trivial⟩ rfl (rv_tmp rfl)

/-! (deliberation/network.Net).Attackers -/
noncomputable def network_Net_Attackers_l1 (n_0 : T_network_Net) (t2 : List Int) (s9 : Int × Int) : Option (Sum (Int) (Int × Int)) :=
  bif decide (s9.2 < (t2.length : Int)) then
    Option.bind (idxM t2 s9.2) fun i12 =>
    Option.bind (idxM n_0.By i12) fun t13 =>
    letM (ior .u64 s9.1 t13) fun out14 =>
    some (Sum.inr (out14, iadd .i64 s9.2 1))
  else
    some (Sum.inl s9.1)

noncomputable def network_Net_Attackers_m (n_0 : T_network_Net) (s_1 : Int) : Option (Int) :=
  Option.bind (network_Set_List_m s_1) fun t2 =>
  Option.bind (loopC (network_Net_Attackers_l1 n_0 t2) (0, 0)) fun q15 : Int =>
  some q15

theorem network_Net_Attackers_ok {n_0 : T_network_Net} {s_1 : Int} {r : Int} (hm : network_Net_Attackers_m n_0 s_1 = some r) :
    FnOk prog 89 [ag [iv .u64 n_0.All, slv (rI .u64) n_0.By, slv (rI .u64) n_0.Out], iv .u64 s_1] [tbO (rI .u8) 0 tab_0] (fun (x : Unit) => [iv .u64 r]) (fun (x : Unit) => [tbO (rI .u8) 0 tab_0]) := by
  refine fn_ok (fn := Tryd.f89) (N := 24) (res := fun r x => [iv .u64 r]) (Ω1 := fun r x => [tbO (rI .u8) 0 tab_0]) Tryd.func89 rfl rfl hm rfl (fun E hM => ?_)
  unfold network_Net_Attackers_m
  refine ref_seq (ref_region ?_)
  refine s_st (s_box (part_agO (ψs := [iv .u64 n_0.All, slv (rI .u64) n_0.By, slv (rI .u64) n_0.Out]) rfl ⟨.inl iv_at, .inl slv_at, .inl slv_at, trivial⟩)) rfl (fun b1 => ?_)
  refine as1 rfl rfl ?_
  refine l_nil (n_then (ref_seq (ref_region ?_)))
  refine as1 rfl rfl ?_
  refine l_nil (n_then (ref_seq (ref_seq (ref_region ?_))))
  refine mv1 rfl rfl ?_
  refine pull fun t2 h_t2 => ?_
  refine s_st (s_callC [0] [true] (fun (x3 : (Value × List Nat)) => [tbO (rI .u8) 0 tab_0]) (fun (x3 : (Value × List Nat)) => [oa (rI .i64) x3.1 x3.2 t2]) (fun (x3 : (Value × List Nat)) => pv x3.1) (args := [.tmp 8]) (caps := []) Tryd.call59 rfl (network_Set_List_ok h_t2) ⟨rfl, rfl, trivial⟩ (fun _ => rfl) (fun _ => trivial) (fun _ => rfl) ⟨arg rfl, trivial⟩ (fun _ _ _ _ h => h)) rfl (fun x3 => ?_)
  refine s_rd (r_olen Tryd.underlying22 rfl (j := 2) rfl) rfl ?_
  refine mv1 rfl rfl ?_
  refine l_nil (n_then ?_)
  refine ref_loopB (f := (network_Net_Attackers_l1 n_0 t2)) (Γl := (fun (s9 : Int × Int) (x10 : Unit) => [(2, pv (ptr b1 0)), (5, iv .u64 s9.1), (9, pv x3.1), (10, iv .i64 (t2.length : Int)), (11, iv .i64 s9.2)])) (Ωl := (fun (s9 : Int × Int) (x10 : Unit) => [tbO (rI .u8) 0 tab_0, oc b1 [iv .u64 n_0.All, slv (rI .u64) n_0.By, slv (rI .u64) n_0.Out], oa (rI .i64) x3.1 x3.2 t2])) (Γb := (fun (q15 : Int) (y16 : Unit) => [(5, iv .u64 q15)])) (Ωb := (fun (q15 : Int) (y16 : Unit) => [tbO (rI .u8) 0 tab_0])) (0, 0) () (weak [0, 1, 2] ⟨rfl, rfl, rfl, rfl, rfl, trivial⟩ ⟨rfl, rfl, rfl, trivial⟩) (fun s9 x10 => ?_) (fun q15 y16 => ?_)
  · unfold network_Net_Attackers_l1
    refine ref_seq (ref_region ?_)
    refine s_rd (r_lss rfl rfl) rfl ?_
    refine l_nil (n_then (ref_seq ?_))
    refine ref_cond rfl (fun hb11 => ?_) (fun hb11 => ?_)
    · refine ref_skip (n_then (ref_seq (ref_block (ref_seq (ref_region ?_)))))
      refine pull fun i12 h_i12 => ?_
      refine s_rd (r_oindex h_i12 Tryd.underlying22 el_3 rfl (j := 2) rfl rfl) rfl ?_
      refine s_rd (r_oload h_i12 el_3 rfl (j := 2) rfl) rfl ?_
      refine as1 rfl rfl ?_
      refine l_nil (n_then (ref_region ?_))
      refine mv1 rfl rfl ?_
      refine s_rd (r_faddr (fo := 1) Tryd.underlying74 rfl rfl Tryd.sizeOf72 rfl) rfl ?_
      refine s_rd (r_cload Tryd.isAgg72 rfl (j := 1) rfl rfl) rfl ?_
      refine mv1 rfl rfl ?_
      refine pull fun t13 h_t13 => ?_
      refine s_rd (r_index h_t13 Tryd.underlying72 el_67 rfl rfl) rfl ?_
      refine s_rd (r_load el_67 rfl) rfl ?_
      refine s_rd (r_or rfl rfl) rfl ?_
      refine as1 rfl rfl ?_
      refine b_let (f := iv .u64) (t := 5) rfl fun out14 => ?_
      refine l_nil (n_block (n_then (ref_region ?_)))
      refine s_rd (r_add rfl rfl) rfl ?_
      refine mv1 rfl rfl ?_
      refine l_nil ?_
      exact goB () (weak [0, 1, 2] ⟨rfl, rfl, rfl, rfl, rfl, trivial⟩ ⟨rfl, rfl, rfl, trivial⟩)
    refine ref_exit (x_then ?_)
    exact brkB () (weak [0] ⟨rfl, trivial⟩ ⟨rfl, trivial⟩)
  refine n_then (ref_seq (ref_region ?_))
  refine mv1 rfl rfl ?_
  refine as1 rfl rfl ?_
  refine l_nil (n_then (ref_ret ?_))
  exact fin1 (.inl rfl) () [0] rfl ⟨rfl, trivial⟩ rfl (rv_tmp rfl)

/-! (deliberation/network.Net).Admissible -/
noncomputable def network_Net_Admissible_m (n_0 : T_network_Net) (s_1 : Int) : Option (Bool) :=
  Option.bind (network_Net_Free_m n_0 s_1) fun t2 =>
  bif t2 then
    Option.bind (network_Net_Attackers_m n_0 s_1) fun t3 =>
    Option.bind (network_Net_Hit_m n_0 s_1) fun t4 =>
    some ((iandn .u64 t3 t4) == 0)
  else
    some false

theorem network_Net_Admissible_ok {n_0 : T_network_Net} {s_1 : Int} {r : Bool} (hm : network_Net_Admissible_m n_0 s_1 = some r) :
    FnOk prog 79 [ag [iv .u64 n_0.All, slv (rI .u64) n_0.By, slv (rI .u64) n_0.Out], iv .u64 s_1] [tbO (rI .u8) 0 tab_0] (fun (x : Unit) => [bv r]) (fun (x : Unit) => [tbO (rI .u8) 0 tab_0]) := by
  refine fn_ok (fn := Tryd.f79) (N := 18) (res := fun r x => [bv r]) (Ω1 := fun r x => [tbO (rI .u8) 0 tab_0]) Tryd.func79 rfl rfl hm rfl (fun E hM => ?_)
  unfold network_Net_Admissible_m
  refine ref_seq (ref_region ?_)
  refine s_st (s_box (part_agO (ψs := [iv .u64 n_0.All, slv (rI .u64) n_0.By, slv (rI .u64) n_0.Out]) rfl ⟨.inl iv_at, .inl slv_at, .inl slv_at, trivial⟩)) rfl (fun b1 => ?_)
  refine as1 rfl rfl ?_
  refine l_nil (n_then (ref_seq ?_))
  refine ref_draw [0, 1, 3, 4, 5, 7, 8, 10, 11, 12] rfl (by kernel_rfl) (fun hok => ?_)
  refine a_rd (i := 0) hok rfl (by kernel_rfl) rfl (r_cloadS Tryd.isAgg74 Tryd.sizeOf74 rfl (j := 1) rfl rfl rfl) rfl ?_
  refine a_rd (i := 1) hok rfl (by kernel_rfl) rfl (r_move rfl) rfl ?_
  refine pull fun t2 h_t2 => ?_
  refine a_next hok 2 [] (by kernel_rfl) ?_ trivial
  refine a_st (i := 2) hok rfl rfl (s_callC [0] [true] (fun (_ : Unit) => [tbO (rI .u8) 0 tab_0]) (fun (_ : Unit) => []) (fun (_ : Unit) => bv t2) (args := [.tmp 5, .tmp 6]) (caps := []) Tryd.call88 rfl (network_Net_Free_ok h_t2) ⟨rfl, rfl, trivial⟩ (fun _ => rfl) (fun _ => trivial) (fun _ => rfl) ⟨arg rfl, arg rfl, trivial⟩ (fun _ _ _ _ h => h)) (by intro _ h; cases h; rfl) (fun _ => ⟨trivial, ⟨trivial, trivial⟩⟩) (fun _ => ?_)
  refine a_rd (i := 3) hok rfl (by kernel_rfl) rfl (r_move rfl) rfl ?_
  refine b_split (t := 8) rfl (fun _ => ?_) (fun _ => ?_)
  · refine a_rdOn (i := 4) hok rfl rfl rfl rfl (by kernel_rfl) rfl (r_cloadS Tryd.isAgg74 Tryd.sizeOf74 rfl (j := 1) rfl rfl rfl) rfl ?_
    refine a_rdOn (i := 5) hok rfl rfl rfl rfl (by kernel_rfl) rfl (r_move rfl) rfl ?_
    refine a_rdOn (i := 7) hok rfl rfl rfl rfl (by kernel_rfl) rfl (r_cloadS Tryd.isAgg74 Tryd.sizeOf74 rfl (j := 1) rfl rfl rfl) rfl ?_
    refine a_rdOn (i := 8) hok rfl rfl rfl rfl (by kernel_rfl) rfl (r_move rfl) rfl ?_
    refine pull fun t3 h_t3 => ?_
    refine a_next hok 6 [] (by kernel_rfl) ?_ trivial
    refine a_stOn (i := 6) hok rfl rfl rfl rfl rfl (s_callC [0] [true] (fun (_ : Unit) => [tbO (rI .u8) 0 tab_0]) (fun (_ : Unit) => []) (fun (_ : Unit) => iv .u64 t3) (args := [.tmp 9, .tmp 10]) (caps := []) Tryd.call89 rfl (network_Net_Attackers_ok h_t3) ⟨rfl, rfl, trivial⟩ (fun _ => rfl) (fun _ => trivial) (fun _ => rfl) ⟨arg rfl, arg rfl, trivial⟩ (fun _ _ _ _ h => h)) (by intro _ h; cases h; rfl) (fun _ => ⟨trivial, ⟨⟨⟨rfl, rfl⟩, trivial⟩, ⟨trivial, ⟨trivial, ⟨trivial, ⟨trivial, ⟨⟨⟨rfl, rfl⟩, trivial⟩, trivial⟩⟩⟩⟩⟩⟩⟩) (fun _ => ?_)
    refine pull fun t4 h_t4 => ?_
    refine a_next hok 9 [] (by kernel_rfl) ?_ trivial
    refine a_stOn (i := 9) hok rfl rfl rfl rfl rfl (s_callC [0] [true] (fun (_ : Unit) => [tbO (rI .u8) 0 tab_0]) (fun (_ : Unit) => []) (fun (_ : Unit) => iv .u64 t4) (args := [.tmp 12, .tmp 13]) (caps := []) Tryd.call83 rfl (network_Net_Hit_ok h_t4) ⟨rfl, rfl, trivial⟩ (fun _ => rfl) (fun _ => trivial) (fun _ => rfl) ⟨arg rfl, arg rfl, trivial⟩ (fun _ _ _ _ h => h)) (by intro _ h; cases h; rfl) (fun _ => ⟨trivial, ⟨trivial, ⟨trivial, ⟨⟨⟨rfl, rfl⟩, trivial⟩, ⟨trivial, ⟨trivial, ⟨⟨⟨rfl, rfl⟩, trivial⟩, trivial⟩⟩⟩⟩⟩⟩⟩) (fun _ => ?_)
    refine a_rdOn (i := 10) hok rfl rfl rfl rfl (by kernel_rfl) rfl (r_andn rfl rfl) rfl ?_
    refine a_rdOn (i := 11) hok rfl rfl rfl rfl (by kernel_rfl) rfl (r_eql rfl rfl) rfl ?_
    refine a_rd (i := 12) hok rfl (by kernel_rfl) rfl (r_pickT rfl rfl) rfl ?_
    refine a_next hok 13 [] (by kernel_rfl) ?_ trivial
    refine a_st (i := 13) hok rfl rfl (St.ofRd (r_assign rfl)) (by intro _ h; cases h; rfl) (fun _ => ⟨trivial, ⟨trivial, ⟨trivial, ⟨trivial, ⟨trivial, ⟨trivial, ⟨trivial, ⟨trivial, ⟨trivial, ⟨trivial, trivial⟩⟩⟩⟩⟩⟩⟩⟩⟩⟩) (fun _ => ?_)
    refine a_fin hok (by kernel_rfl) ?_
    refine b_of (nrm [tbO (rI .u8) 0 tab_0, oc b1 [iv .u64 n_0.All, slv (rI .u64) n_0.By, slv (rI .u64) n_0.Out]] rfl) ?_
    refine n_then (ref_ret ?_)
    exact fin1 (.inl rfl) () [0] rfl ⟨rfl, trivial⟩ rfl (rv_tmp rfl)
  refine a_off (i := 4) hok rfl rfl rfl rfl rfl (by kernel_rfl) rfl rfl ?_
  refine a_off (i := 5) hok rfl rfl rfl rfl rfl (by kernel_rfl) rfl rfl ?_
  refine a_off (i := 7) hok rfl rfl rfl rfl rfl (by kernel_rfl) rfl rfl ?_
  refine a_off (i := 8) hok rfl rfl rfl rfl rfl (by kernel_rfl) rfl rfl ?_
  refine a_next hok 6 [] (by kernel_rfl) ?_ trivial
  refine a_stOff (i := 6) hok rfl rfl rfl rfl rfl rfl (by intro _ h; cases h; rfl) ⟨trivial, ⟨trivial, ⟨trivial, ⟨trivial, ⟨trivial, ⟨trivial, ⟨⟨⟨rfl, rfl⟩, trivial⟩, trivial⟩⟩⟩⟩⟩⟩⟩ ?_
  refine a_next hok 9 [] (by kernel_rfl) ?_ trivial
  refine a_stOff (i := 9) hok rfl rfl rfl rfl rfl rfl (by intro _ h; cases h; rfl) ⟨trivial, ⟨trivial, ⟨trivial, ⟨trivial, ⟨trivial, ⟨trivial, ⟨⟨⟨rfl, rfl⟩, trivial⟩, trivial⟩⟩⟩⟩⟩⟩⟩ ?_
  refine a_off (i := 10) hok rfl rfl rfl rfl rfl (by kernel_rfl) rfl rfl ?_
  refine a_off (i := 11) hok rfl rfl rfl rfl rfl (by kernel_rfl) rfl rfl ?_
  refine a_rd (i := 12) hok rfl (by kernel_rfl) rfl (r_pickF rfl rfl) rfl ?_
  refine a_next hok 13 [] (by kernel_rfl) ?_ trivial
  refine a_st (i := 13) hok rfl rfl (St.ofRd (r_assign rfl)) (by intro _ h; cases h; rfl) (fun _ => ⟨trivial, ⟨trivial, ⟨trivial, ⟨trivial, ⟨trivial, ⟨trivial, ⟨trivial, ⟨trivial, ⟨trivial, ⟨trivial, trivial⟩⟩⟩⟩⟩⟩⟩⟩⟩⟩) (fun _ => ?_)
  refine a_fin hok (by kernel_rfl) ?_
  refine n_then (ref_ret ?_)
  exact fin1 (.inl rfl) () [0] rfl ⟨rfl, trivial⟩ rfl (rv_tmp rfl)

/-! (deliberation/network.Net).Stable -/
noncomputable def network_Net_Stable_m (n_0 : T_network_Net) (s_1 : Int) : Option (Bool) :=
  Option.bind (network_Net_Free_m n_0 s_1) fun t2 =>
  bif t2 then
    Option.bind (network_Net_Hit_m n_0 s_1) fun t3 =>
    some ((iandn .u64 (iandn .u64 n_0.All s_1) t3) == 0)
  else
    some false

theorem network_Net_Stable_ok {n_0 : T_network_Net} {s_1 : Int} {r : Bool} (hm : network_Net_Stable_m n_0 s_1 = some r) :
    FnOk prog 80 [ag [iv .u64 n_0.All, slv (rI .u64) n_0.By, slv (rI .u64) n_0.Out], iv .u64 s_1] [tbO (rI .u8) 0 tab_0] (fun (x : Unit) => [bv r]) (fun (x : Unit) => [tbO (rI .u8) 0 tab_0]) := by
  refine fn_ok (fn := Tryd.f80) (N := 19) (res := fun r x => [bv r]) (Ω1 := fun r x => [tbO (rI .u8) 0 tab_0]) Tryd.func80 rfl rfl hm rfl (fun E hM => ?_)
  unfold network_Net_Stable_m
  refine ref_seq (ref_region ?_)
  refine s_st (s_box (part_agO (ψs := [iv .u64 n_0.All, slv (rI .u64) n_0.By, slv (rI .u64) n_0.Out]) rfl ⟨.inl iv_at, .inl slv_at, .inl slv_at, trivial⟩)) rfl (fun b1 => ?_)
  refine as1 rfl rfl ?_
  refine l_nil (n_then (ref_seq ?_))
  refine ref_draw [0, 1, 3, 4, 5, 6, 7, 8, 9, 11, 12, 13] rfl (by kernel_rfl) (fun hok => ?_)
  refine a_rd (i := 0) hok rfl (by kernel_rfl) rfl (r_cloadS Tryd.isAgg74 Tryd.sizeOf74 rfl (j := 1) rfl rfl rfl) rfl ?_
  refine a_rd (i := 1) hok rfl (by kernel_rfl) rfl (r_move rfl) rfl ?_
  refine pull fun t2 h_t2 => ?_
  refine a_next hok 2 [] (by kernel_rfl) ?_ trivial
  refine a_st (i := 2) hok rfl rfl (s_callC [0] [true] (fun (_ : Unit) => [tbO (rI .u8) 0 tab_0]) (fun (_ : Unit) => []) (fun (_ : Unit) => bv t2) (args := [.tmp 5, .tmp 6]) (caps := []) Tryd.call88 rfl (network_Net_Free_ok h_t2) ⟨rfl, rfl, trivial⟩ (fun _ => rfl) (fun _ => trivial) (fun _ => rfl) ⟨arg rfl, arg rfl, trivial⟩ (fun _ _ _ _ h => h)) (by intro _ h; cases h; rfl) (fun _ => ⟨trivial, ⟨trivial, trivial⟩⟩) (fun _ => ?_)
  refine a_rd (i := 3) hok rfl (by kernel_rfl) rfl (r_move rfl) rfl ?_
  refine b_split (t := 8) rfl (fun _ => ?_) (fun _ => ?_)
  · refine a_rdOn (i := 4) hok rfl rfl rfl rfl (by kernel_rfl) rfl (r_faddr (fo := 0) Tryd.underlying74 rfl rfl Tryd.sizeOf67 rfl) rfl ?_
    refine a_rdOn (i := 5) hok rfl rfl rfl rfl (by kernel_rfl) rfl (r_cload Tryd.isAgg67 rfl (j := 1) rfl rfl) rfl ?_
    refine a_rdOn (i := 6) hok rfl rfl rfl rfl (by kernel_rfl) rfl (r_move rfl) rfl ?_
    refine a_rdOn (i := 7) hok rfl rfl rfl rfl (by kernel_rfl) rfl (r_andn rfl rfl) rfl ?_
    refine a_rdOn (i := 8) hok rfl rfl rfl rfl (by kernel_rfl) rfl (r_cloadS Tryd.isAgg74 Tryd.sizeOf74 rfl (j := 1) rfl rfl rfl) rfl ?_
    refine a_rdOn (i := 9) hok rfl rfl rfl rfl (by kernel_rfl) rfl (r_move rfl) rfl ?_
    refine pull fun t3 h_t3 => ?_
    refine a_next hok 10 [] (by kernel_rfl) ?_ trivial
    refine a_stOn (i := 10) hok rfl rfl rfl rfl rfl (s_callC [0] [true] (fun (_ : Unit) => [tbO (rI .u8) 0 tab_0]) (fun (_ : Unit) => []) (fun (_ : Unit) => iv .u64 t3) (args := [.tmp 13, .tmp 14]) (caps := []) Tryd.call83 rfl (network_Net_Hit_ok h_t3) ⟨rfl, rfl, trivial⟩ (fun _ => rfl) (fun _ => trivial) (fun _ => rfl) ⟨arg rfl, arg rfl, trivial⟩ (fun _ _ _ _ h => h)) (by intro _ h; cases h; rfl) (fun _ => ⟨trivial, ⟨trivial, ⟨trivial, ⟨trivial, ⟨⟨⟨rfl, rfl⟩, trivial⟩, ⟨trivial, ⟨trivial, ⟨trivial, ⟨⟨⟨rfl, rfl⟩, trivial⟩, trivial⟩⟩⟩⟩⟩⟩⟩⟩⟩) (fun _ => ?_)
    refine a_rdOn (i := 11) hok rfl rfl rfl rfl (by kernel_rfl) rfl (r_andn rfl rfl) rfl ?_
    refine a_rdOn (i := 12) hok rfl rfl rfl rfl (by kernel_rfl) rfl (r_eql rfl rfl) rfl ?_
    refine a_rd (i := 13) hok rfl (by kernel_rfl) rfl (r_pickT rfl rfl) rfl ?_
    refine a_next hok 14 [] (by kernel_rfl) ?_ trivial
    refine a_st (i := 14) hok rfl rfl (St.ofRd (r_assign rfl)) (by intro _ h; cases h; rfl) (fun _ => ⟨trivial, ⟨trivial, ⟨trivial, ⟨trivial, ⟨trivial, ⟨trivial, ⟨trivial, ⟨trivial, ⟨trivial, ⟨trivial, ⟨trivial, ⟨trivial, trivial⟩⟩⟩⟩⟩⟩⟩⟩⟩⟩⟩⟩) (fun _ => ?_)
    refine a_fin hok (by kernel_rfl) ?_
    refine b_of (nrm [tbO (rI .u8) 0 tab_0, oc b1 [iv .u64 n_0.All, slv (rI .u64) n_0.By, slv (rI .u64) n_0.Out]] rfl) ?_
    refine n_then (ref_ret ?_)
    exact fin1 (.inl rfl) () [0] rfl ⟨rfl, trivial⟩ rfl (rv_tmp rfl)
  refine a_off (i := 4) hok rfl rfl rfl rfl rfl (by kernel_rfl) rfl rfl ?_
  refine a_off (i := 5) hok rfl rfl rfl rfl rfl (by kernel_rfl) rfl rfl ?_
  refine a_off (i := 6) hok rfl rfl rfl rfl rfl (by kernel_rfl) rfl rfl ?_
  refine a_off (i := 7) hok rfl rfl rfl rfl rfl (by kernel_rfl) rfl rfl ?_
  refine a_off (i := 8) hok rfl rfl rfl rfl rfl (by kernel_rfl) rfl rfl ?_
  refine a_off (i := 9) hok rfl rfl rfl rfl rfl (by kernel_rfl) rfl rfl ?_
  refine a_next hok 10 [] (by kernel_rfl) ?_ trivial
  refine a_stOff (i := 10) hok rfl rfl rfl rfl rfl rfl (by intro _ h; cases h; rfl) ⟨trivial, ⟨trivial, ⟨trivial, ⟨trivial, ⟨trivial, ⟨trivial, ⟨trivial, ⟨trivial, ⟨⟨⟨rfl, rfl⟩, trivial⟩, trivial⟩⟩⟩⟩⟩⟩⟩⟩⟩ ?_
  refine a_off (i := 11) hok rfl rfl rfl rfl rfl (by kernel_rfl) rfl rfl ?_
  refine a_off (i := 12) hok rfl rfl rfl rfl rfl (by kernel_rfl) rfl rfl ?_
  refine a_rd (i := 13) hok rfl (by kernel_rfl) rfl (r_pickF rfl rfl) rfl ?_
  refine a_next hok 14 [] (by kernel_rfl) ?_ trivial
  refine a_st (i := 14) hok rfl rfl (St.ofRd (r_assign rfl)) (by intro _ h; cases h; rfl) (fun _ => ⟨trivial, ⟨trivial, ⟨trivial, ⟨trivial, ⟨trivial, ⟨trivial, ⟨trivial, ⟨trivial, ⟨trivial, ⟨trivial, ⟨trivial, ⟨trivial, trivial⟩⟩⟩⟩⟩⟩⟩⟩⟩⟩⟩⟩) (fun _ => ?_)
  refine a_fin hok (by kernel_rfl) ?_
  refine n_then (ref_ret ?_)
  exact fin1 (.inl rfl) () [0] rfl ⟨rfl, trivial⟩ rfl (rv_tmp rfl)

/-! (deliberation/network.Net).Answer$1 -/
noncomputable def network_Net_Answer_1_m (s_0 : Int) (p_1 : Int) (p_2 : T_network_Net) (p_3 : Int) (p_4 : Bool) (p_5 : Bool) : Option (Bool × Bool) :=
  joinM (fun j4 : Bool =>
      joinM (fun j8 : Bool =>
          bif j8 then
            some (false, !p_4)
          else
            some (true, p_5)) fun k10 =>
      bif j4 then
        Option.bind (network_Set_Has_m s_0 p_3) fun t7 =>
        k10 (!(t7 == p_4))
      else
        k10 false) fun k6 =>
  bif p_1 == 1 then
    Option.bind (network_Net_Admissible_m p_2 s_0) fun t1 =>
    bif t1 then
      k6 true
    else
      bif p_1 != 1 then
        Option.bind (network_Net_Stable_m p_2 s_0) fun t2 =>
        k6 t2
      else
        k6 false
  else
    bif p_1 != 1 then
      Option.bind (network_Net_Stable_m p_2 s_0) fun t3 =>
      k6 t3
    else
      k6 false

theorem network_Net_Answer_1_ok {s_0 : Int} {p_1 : Int} {p_2 : T_network_Net} {p_3 : Int} {p_4 : Bool} {p_5 : Bool} {b_1 : Nat} {b_2 : Nat} {b_3 : Nat} {b_4 : Nat} {b_5 : Nat} {r : Bool × Bool} (hm : network_Net_Answer_1_m s_0 p_1 p_2 p_3 p_4 p_5 = some r) :
    FnOk prog 78 [iv .u64 s_0, pv (ptr b_1 0), pv (ptr b_2 0), pv (ptr b_3 0), pv (ptr b_4 0), pv (ptr b_5 0)] [oc b_1 [iv .i64 p_1], oc b_2 [iv .u64 p_2.All, slv (rI .u64) p_2.By, slv (rI .u64) p_2.Out], oc b_3 [iv .i64 p_3], oc b_4 [bv p_4], oc b_5 [bv p_5], tbO (rI .u8) 0 tab_0] (fun (x : Unit) => [bv r.1]) (fun (x : Unit) => [oc b_1 [iv .i64 p_1], oc b_2 [iv .u64 p_2.All, slv (rI .u64) p_2.By, slv (rI .u64) p_2.Out], oc b_3 [iv .i64 p_3], oc b_4 [bv p_4], oc b_5 [bv r.2], tbO (rI .u8) 0 tab_0]) := by
  refine fn_ok (fn := Tryd.f78) (N := 35) (res := fun r x => [bv r.1]) (Ω1 := fun r x => [oc b_1 [iv .i64 p_1], oc b_2 [iv .u64 p_2.All, slv (rI .u64) p_2.By, slv (rI .u64) p_2.Out], oc b_3 [iv .i64 p_3], oc b_4 [bv p_4], oc b_5 [bv r.2], tbO (rI .u8) 0 tab_0]) Tryd.func78 rfl rfl hm rfl (fun E hM => ?_)
  unfold network_Net_Answer_1_m
  refine ref_seq (ref_region ?_)
  refine as1 rfl rfl ?_
  refine l_nil (n_then (ref_seq ?_))
  refine ref_join (fun (j4 : Bool) (x5 : Unit) => [(0, iv .u64 s_0), (1, pv (ptr b_1 0)), (2, pv (ptr b_2 0)), (3, pv (ptr b_3 0)), (4, pv (ptr b_4 0)), (5, pv (ptr b_5 0)), (8, bv j4)]) (fun (j4 : Bool) (x5 : Unit) => [oc b_1 [iv .i64 p_1], oc b_2 [iv .u64 p_2.All, slv (rI .u64) p_2.By, slv (rI .u64) p_2.Out], oc b_3 [iv .i64 p_3], oc b_4 [bv p_4], oc b_5 [bv p_5], tbO (rI .u8) 0 tab_0]) (fun k6 hk6 => ?_) (fun j4 x5 => ?_)
  · refine ref_region ?_
    refine s_rd (r_cload Tryd.isAgg3 rfl (j := 0) rfl rfl) rfl ?_
    refine s_rd (r_eql rfl rfl) rfl ?_
    refine mv1 rfl rfl ?_
    refine b_split (t := 11) rfl (fun _ => ?_) (fun _ => ?_)
    · refine s_on rfl rfl rfl ?_
      refine s_rd (r_cloadS Tryd.isAgg74 Tryd.sizeOf74 rfl (j := 1) rfl rfl rfl) rfl ?_
      refine s_on rfl rfl rfl ?_
      refine mv1 rfl rfl ?_
      refine s_on rfl rfl rfl ?_
      refine pull fun t1 h_t1 => ?_
      refine s_st (s_callC [5] [true] (fun (_ : Unit) => [tbO (rI .u8) 0 tab_0]) (fun (_ : Unit) => []) (fun (_ : Unit) => bv t1) (args := [.tmp 12, .tmp 13]) (caps := []) Tryd.call79 rfl (network_Net_Admissible_ok h_t1) ⟨rfl, rfl, trivial⟩ (fun _ => rfl) (fun _ => trivial) (fun _ => rfl) ⟨arg rfl, arg rfl, trivial⟩ (fun _ _ _ _ h => h)) rfl (fun _ => ?_)
      refine s_rd (r_pickT rfl rfl) rfl ?_
      refine mv1 rfl rfl ?_
      refine b_split (t := 16) rfl (fun _ => ?_) (fun _ => ?_)
      · refine s_off rfl rfl rfl rfl rfl ?_
        refine s_off rfl rfl rfl rfl rfl ?_
        refine s_off rfl rfl rfl rfl rfl ?_
        refine s_offU rfl rfl rfl ?_
        refine s_offU rfl rfl rfl ?_
        refine s_offU rfl rfl rfl ?_
        refine s_off rfl rfl rfl rfl rfl ?_
        refine s_rd (r_pickT rfl rfl) rfl ?_
        refine as1 rfl rfl ?_
        refine l_nil ?_
        exact b_to (hk6 true ()) (weak [0, 1, 2, 3, 4, 5] ⟨rfl, rfl, rfl, rfl, rfl, rfl, rfl, trivial⟩ ⟨rfl, rfl, rfl, rfl, rfl, rfl, trivial⟩)
      refine s_on rfl rfl rfl ?_
      refine s_rd (r_cload Tryd.isAgg3 rfl (j := 0) rfl rfl) rfl ?_
      refine s_on rfl rfl rfl ?_
      refine s_rd (r_neq rfl rfl) rfl ?_
      refine s_on rfl rfl rfl ?_
      refine mv1 rfl rfl ?_
      refine b_split (t := 19) rfl (fun _ => ?_) (fun _ => ?_)
      · refine s_on rfl rfl rfl ?_
        refine s_rd (r_cloadS Tryd.isAgg74 Tryd.sizeOf74 rfl (j := 1) rfl rfl rfl) rfl ?_
        refine s_on rfl rfl rfl ?_
        refine mv1 rfl rfl ?_
        refine s_on rfl rfl rfl ?_
        refine pull fun t2 h_t2 => ?_
        refine s_st (s_callC [5] [true] (fun (_ : Unit) => [tbO (rI .u8) 0 tab_0]) (fun (_ : Unit) => []) (fun (_ : Unit) => bv t2) (args := [.tmp 20, .tmp 21]) (caps := []) Tryd.call80 rfl (network_Net_Stable_ok h_t2) ⟨rfl, rfl, trivial⟩ (fun _ => rfl) (fun _ => trivial) (fun _ => rfl) ⟨arg rfl, arg rfl, trivial⟩ (fun _ _ _ _ h => h)) rfl (fun _ => ?_)
        refine s_on rfl rfl rfl ?_
        refine s_rd (r_pickT rfl rfl) rfl ?_
        refine s_rd (r_pickF rfl rfl) rfl ?_
        refine as1 rfl rfl ?_
        refine l_nil ?_
        exact b_to (hk6 t2 ()) (weak [0, 1, 2, 3, 4, 5] ⟨rfl, rfl, rfl, rfl, rfl, rfl, rfl, trivial⟩ ⟨rfl, rfl, rfl, rfl, rfl, rfl, trivial⟩)
      refine s_off rfl rfl rfl rfl rfl ?_
      refine s_off rfl rfl rfl rfl rfl ?_
      refine s_off rfl rfl rfl rfl rfl ?_
      refine s_on rfl rfl rfl ?_
      refine s_rd (r_pickF rfl rfl) rfl ?_
      refine s_rd (r_pickF rfl rfl) rfl ?_
      refine as1 rfl rfl ?_
      refine l_nil ?_
      exact b_to (hk6 false ()) (weak [0, 1, 2, 3, 4, 5] ⟨rfl, rfl, rfl, rfl, rfl, rfl, rfl, trivial⟩ ⟨rfl, rfl, rfl, rfl, rfl, rfl, trivial⟩)
    refine s_off rfl rfl rfl rfl rfl ?_
    refine s_off rfl rfl rfl rfl rfl ?_
    refine s_off rfl rfl rfl rfl rfl ?_
    refine s_rd (r_pickF rfl rfl) rfl ?_
    refine mv1 rfl rfl ?_
    refine s_on rfl rfl rfl ?_
    refine s_rd (r_cload Tryd.isAgg3 rfl (j := 0) rfl rfl) rfl ?_
    refine s_on rfl rfl rfl ?_
    refine s_rd (r_neq rfl rfl) rfl ?_
    refine s_on rfl rfl rfl ?_
    refine mv1 rfl rfl ?_
    refine b_split (t := 19) rfl (fun _ => ?_) (fun _ => ?_)
    · refine s_on rfl rfl rfl ?_
      refine s_rd (r_cloadS Tryd.isAgg74 Tryd.sizeOf74 rfl (j := 1) rfl rfl rfl) rfl ?_
      refine s_on rfl rfl rfl ?_
      refine mv1 rfl rfl ?_
      refine s_on rfl rfl rfl ?_
      refine pull fun t3 h_t3 => ?_
      refine s_st (s_callC [5] [true] (fun (_ : Unit) => [tbO (rI .u8) 0 tab_0]) (fun (_ : Unit) => []) (fun (_ : Unit) => bv t3) (args := [.tmp 20, .tmp 21]) (caps := []) Tryd.call80 rfl (network_Net_Stable_ok h_t3) ⟨rfl, rfl, trivial⟩ (fun _ => rfl) (fun _ => trivial) (fun _ => rfl) ⟨arg rfl, arg rfl, trivial⟩ (fun _ _ _ _ h => h)) rfl (fun _ => ?_)
      refine s_on rfl rfl rfl ?_
      refine s_rd (r_pickT rfl rfl) rfl ?_
      refine s_rd (r_pickF rfl rfl) rfl ?_
      refine as1 rfl rfl ?_
      refine l_nil ?_
      exact b_to (hk6 t3 ()) (weak [0, 1, 2, 3, 4, 5] ⟨rfl, rfl, rfl, rfl, rfl, rfl, rfl, trivial⟩ ⟨rfl, rfl, rfl, rfl, rfl, rfl, trivial⟩)
    refine s_off rfl rfl rfl rfl rfl ?_
    refine s_off rfl rfl rfl rfl rfl ?_
    refine s_off rfl rfl rfl rfl rfl ?_
    refine s_on rfl rfl rfl ?_
    refine s_rd (r_pickF rfl rfl) rfl ?_
    refine s_rd (r_pickF rfl rfl) rfl ?_
    refine as1 rfl rfl ?_
    refine l_nil ?_
    exact b_to (hk6 false ()) (weak [0, 1, 2, 3, 4, 5] ⟨rfl, rfl, rfl, rfl, rfl, rfl, rfl, trivial⟩ ⟨rfl, rfl, rfl, rfl, rfl, rfl, trivial⟩)
  refine n_then (ref_seq (ref_seq ?_))
  refine ref_join (fun (j8 : Bool) (x9 : Unit) => [(1, pv (ptr b_1 0)), (2, pv (ptr b_2 0)), (3, pv (ptr b_3 0)), (4, pv (ptr b_4 0)), (5, pv (ptr b_5 0)), (32, bv j8)]) (fun (j8 : Bool) (x9 : Unit) => [oc b_1 [iv .i64 p_1], oc b_2 [iv .u64 p_2.All, slv (rI .u64) p_2.By, slv (rI .u64) p_2.Out], oc b_3 [iv .i64 p_3], oc b_4 [bv p_4], oc b_5 [bv p_5], tbO (rI .u8) 0 tab_0]) (fun k10 hk10 => ?_) (fun j8 x9 => ?_)
  · refine ref_draw [0, 1, 2, 3, 5, 6, 7] rfl (by kernel_rfl) (fun hok => ?_)
    refine a_rd (i := 0) hok rfl (by kernel_rfl) rfl (r_move rfl) rfl ?_
    refine a_rd (i := 1) hok rfl (by kernel_rfl) rfl (r_move rfl) rfl ?_
    refine b_split (t := 26) rfl (fun _ => ?_) (fun _ => ?_)
    · refine a_rdOn (i := 2) hok rfl rfl rfl rfl (by kernel_rfl) rfl (r_move rfl) rfl ?_
      refine a_rdOn (i := 3) hok rfl rfl rfl rfl (by kernel_rfl) rfl (r_cload Tryd.isAgg3 rfl (j := 2) rfl rfl) rfl ?_
      refine a_rdOn (i := 5) hok rfl rfl rfl rfl (by kernel_rfl) rfl (r_cload Tryd.isAgg4 rfl (j := 3) rfl rfl) rfl ?_
      refine pull fun t7 h_t7 => ?_
      refine a_next hok 4 [] (by kernel_rfl) ?_ trivial
      refine a_stOn (i := 4) hok rfl rfl rfl rfl rfl (s_call (ψ := fun (_ : Unit) => bv t7) (args := [.tmp 27, .tmp 28]) Tryd.call76 rfl (network_Set_Has_ok h_t7) ⟨arg rfl, arg rfl, trivial⟩ (fun _ _ _ _ h => h)) (by intro _ h; cases h; rfl) (fun _ => ⟨⟨⟨rfl, rfl⟩, trivial⟩, ⟨trivial, ⟨trivial, ⟨trivial, ⟨trivial, trivial⟩⟩⟩⟩⟩) (fun _ => ?_)
      refine a_rdOn (i := 6) hok rfl rfl rfl rfl (by kernel_rfl) rfl (r_bneq Tryd.underlying4 rfl rfl) rfl ?_
      refine a_rd (i := 7) hok rfl (by kernel_rfl) rfl (r_pickT rfl rfl) rfl ?_
      refine a_fin hok (by kernel_rfl) ?_
      exact b_to (hk10 (!(t7 == p_4)) ()) (weak [0, 1, 2, 3, 4, 5] ⟨rfl, rfl, rfl, rfl, rfl, rfl, trivial⟩ ⟨rfl, rfl, rfl, rfl, rfl, rfl, trivial⟩)
    refine a_off (i := 2) hok rfl rfl rfl rfl rfl (by kernel_rfl) rfl rfl ?_
    refine a_off (i := 3) hok rfl rfl rfl rfl rfl (by kernel_rfl) rfl rfl ?_
    refine a_off (i := 5) hok rfl rfl rfl rfl rfl (by kernel_rfl) rfl rfl ?_
    refine a_next hok 4 [] (by kernel_rfl) ?_ trivial
    refine a_stOff (i := 4) hok rfl rfl rfl rfl rfl rfl (by intro _ h; cases h; rfl) ⟨trivial, ⟨trivial, ⟨trivial, ⟨trivial, ⟨trivial, trivial⟩⟩⟩⟩⟩ ?_
    refine a_off (i := 6) hok rfl rfl rfl rfl rfl (by kernel_rfl) rfl rfl ?_
    refine a_rd (i := 7) hok rfl (by kernel_rfl) rfl (r_pickF rfl rfl) rfl ?_
    refine a_fin hok (by kernel_rfl) ?_
    exact b_to (hk10 false ()) (weak [0, 1, 2, 3, 4, 5] ⟨rfl, rfl, rfl, rfl, rfl, rfl, trivial⟩ ⟨rfl, rfl, rfl, rfl, rfl, rfl, trivial⟩)
  refine n_then ?_
  refine ref_cond rfl (fun hb11 => ?_) (fun hb11 => ?_)
  · refine ref_seq (ref_region ?_)
    refine s_rd (r_cload Tryd.isAgg4 rfl (j := 3) rfl rfl) rfl ?_
    refine s_rd (r_not rfl) rfl ?_
    refine s_st0 (s_cstore (out := [bv (!p_4)]) Tryd.sizeOf4 rfl (j := 4) rfl (part_at rfl bv_at) rfl rfl rfl) (fun _ => ?_)
    refine l_nil (n_then (ref_seq (ref_region ?_)))
    refine as1 rfl rfl ?_
    refine l_nil (n_then (ref_ret (r_then ?_)))
    exact fin1 (.inl rfl) () [0, 1, 2, 3, 4, 5] rfl ⟨rfl, rfl, rfl, rfl, rfl, rfl, trivial⟩ rfl (rv_tmp rfl)
  refine ref_skip (n_then (ref_seq (ref_region ?_)))
  refine as1 rfl rfl ?_
  refine l_nil (n_then (ref_ret ?_))
  exact fin1 (.inl rfl) () [0, 1, 2, 3, 4, 5] rfl ⟨rfl, rfl, rfl, rfl, rfl, rfl, trivial⟩ rfl (rv_tmp rfl)

/-! deliberation/network.subsets -/
noncomputable def network_subsets_l1 (s_0 : Int) (e_0 : Int) (e_1 : T_network_Net) (e_2 : Int) (e_3 : Bool) (s11 : Int × Bool) : Option (Sum (Bool) (Int × Bool)) :=
  Option.bind (network_Net_Answer_1_m s11.1 e_0 e_1 e_2 e_3 s11.2) fun t13 =>
  bif !t13.1 then
    some (Sum.inl t13.2)
  else
    bif s11.1 == 0 then
      some (Sum.inl t13.2)
    else
      letM (iand .u64 (isub .u64 s11.1 1) s_0) fun x15 =>
      some (Sum.inr (x15, t13.2))

noncomputable def network_subsets_m (s_0 : Int) (e_0 : Int) (e_1 : T_network_Net) (e_2 : Int) (e_3 : Bool) (e_4 : Bool) : Option (Bool) :=
  Option.bind (loopC (network_subsets_l1 s_0 e_0 e_1 e_2 e_3) (s_0, e_4)) (fun a : Bool => some a)

theorem network_subsets_ok {s_0 : Int} {e_0 : Int} {e_1 : T_network_Net} {e_2 : Int} {e_3 : Bool} {e_4 : Bool} {be_0 : Nat} {be_1 : Nat} {be_2 : Nat} {be_3 : Nat} {be_4 : Nat} {r : Bool} (hm : network_subsets_m s_0 e_0 e_1 e_2 e_3 e_4 = some r) :
    FnOk prog 77 [iv .u64 s_0, pv (.func (.func 78) #[] #[(ptr be_0 0), (ptr be_1 0), (ptr be_2 0), (ptr be_3 0), (ptr be_4 0)])] [oc be_0 [iv .i64 e_0], oc be_1 [iv .u64 e_1.All, slv (rI .u64) e_1.By, slv (rI .u64) e_1.Out], oc be_2 [iv .i64 e_2], oc be_3 [bv e_3], oc be_4 [bv e_4], tbO (rI .u8) 0 tab_0] (fun (x : Unit) => []) (fun (x : Unit) => [oc be_0 [iv .i64 e_0], oc be_1 [iv .u64 e_1.All, slv (rI .u64) e_1.By, slv (rI .u64) e_1.Out], oc be_2 [iv .i64 e_2], oc be_3 [bv e_3], oc be_4 [bv r], tbO (rI .u8) 0 tab_0]) := by
  refine fn_ok (fn := Tryd.f77) (N := 18) (res := fun r x => []) (Ω1 := fun r x => [oc be_0 [iv .i64 e_0], oc be_1 [iv .u64 e_1.All, slv (rI .u64) e_1.By, slv (rI .u64) e_1.Out], oc be_2 [iv .i64 e_2], oc be_3 [bv e_3], oc be_4 [bv r], tbO (rI .u8) 0 tab_0]) Tryd.func77 rfl rfl hm rfl (fun E hM => ?_)
  unfold network_subsets_m
  refine ref_seq (ref_region ?_)
  refine mv1 rfl rfl ?_
  refine as1 rfl rfl ?_
  refine l_nil (n_then ?_)
  refine ref_block (ref_loop (f := (network_subsets_l1 s_0 e_0 e_1 e_2 e_3)) (Γl := (fun (s11 : Int × Bool) (x12 : Unit) => [(0, iv .u64 s_0), (1, pv (.func (.func 78) #[] #[(ptr be_0 0), (ptr be_1 0), (ptr be_2 0), (ptr be_3 0), (ptr be_4 0)])), (4, iv .u64 s11.1)])) (Ωl := (fun (s11 : Int × Bool) (x12 : Unit) => [tbO (rI .u8) 0 tab_0, oc be_0 [iv .i64 e_0], oc be_1 [iv .u64 e_1.All, slv (rI .u64) e_1.By, slv (rI .u64) e_1.Out], oc be_2 [iv .i64 e_2], oc be_3 [bv e_3], oc be_4 [bv s11.2]])) (k := (fun a : Bool => some a)) (s_0, e_4) () (weak [5, 0, 1, 2, 3, 4] ⟨rfl, rfl, rfl, trivial⟩ ⟨rfl, rfl, rfl, rfl, rfl, rfl, trivial⟩) (fun s11 x12 => ?_))
  · unfold network_subsets_l1
    refine ref_seq (ref_block (ref_seq (ref_region ?_)))
    refine mv1 rfl rfl ?_
    refine mv1 rfl rfl ?_
    refine pull fun t13 h_t13 => ?_
    refine s_st (s_callC [1, 2, 3, 4, 5, 0] [true, true, true, true, true, true] (fun (_ : Unit) => [oc be_0 [iv .i64 e_0], oc be_1 [iv .u64 e_1.All, slv (rI .u64) e_1.By, slv (rI .u64) e_1.Out], oc be_2 [iv .i64 e_2], oc be_3 [bv e_3], oc be_4 [bv t13.2], tbO (rI .u8) 0 tab_0]) (fun (_ : Unit) => []) (fun (_ : Unit) => bv t13.1) (args := [.tmp 11]) (caps := [(ptr be_0 0), (ptr be_1 0), (ptr be_2 0), (ptr be_3 0), (ptr be_4 0)]) Tryd.call78 rfl (network_Net_Answer_1_ok h_t13) ⟨rfl, rfl, ⟨rfl, rfl, ⟨rfl, rfl, ⟨rfl, rfl, ⟨rfl, rfl, ⟨rfl, rfl, trivial⟩⟩⟩⟩⟩⟩ (fun _ => rfl) (fun _ => trivial) (fun _ => rfl) ⟨arg rfl, arg rfl, arg rfl, arg rfl, arg rfl, arg rfl, trivial⟩ (fun _ _ _ _ h => h)) rfl (fun _ => ?_)
    refine s_rd (r_not rfl) rfl ?_
    refine mv1 rfl rfl ?_
    refine b_split (t := 14) rfl (fun _ => ?_) (fun _ => ?_)
    · refine s_off rfl rfl rfl rfl rfl ?_
      refine s_off rfl rfl rfl rfl rfl ?_
      refine s_rd (r_pickT rfl rfl) rfl ?_
      refine l_nil ?_
      refine b_of (nrm [tbO (rI .u8) 0 tab_0, oc be_0 [iv .i64 e_0], oc be_1 [iv .u64 e_1.All, slv (rI .u64) e_1.By, slv (rI .u64) e_1.Out], oc be_2 [iv .i64 e_2], oc be_3 [bv e_3], oc be_4 [bv t13.2]] rfl) ?_
      refine n_then ?_
      refine ref_condT rfl rfl ?_
      refine ref_ret (r_block (r_then ?_))
      refine r_loop ?_
      refine r_block ?_
      exact fin0 (.inl rfl) () [1, 2, 3, 4, 5, 0] rfl ⟨rfl, rfl, rfl, rfl, rfl, rfl, trivial⟩ rfl 
    refine s_on rfl rfl rfl ?_
    refine mv1 rfl rfl ?_
    refine s_on rfl rfl rfl ?_
    refine s_rd (r_eql rfl rfl) rfl ?_
    refine s_rd (r_pickF rfl rfl) rfl ?_
    refine l_nil ?_
    refine b_of (nrm [tbO (rI .u8) 0 tab_0, oc be_0 [iv .i64 e_0], oc be_1 [iv .u64 e_1.All, slv (rI .u64) e_1.By, slv (rI .u64) e_1.Out], oc be_2 [iv .i64 e_2], oc be_3 [bv e_3], oc be_4 [bv t13.2]] rfl) ?_
    refine n_then ?_
    refine ref_cond rfl (fun hb14 => ?_) (fun hb14 => ?_)
    · refine ref_ret (r_block (r_then ?_))
      refine r_loop ?_
      refine r_block ?_
      exact fin0 (.inl rfl) () [1, 2, 3, 4, 5, 0] rfl ⟨rfl, rfl, rfl, rfl, rfl, rfl, trivial⟩ rfl 
    refine ref_skip (n_block (n_then (ref_region ?_)))
    refine mv1 rfl rfl ?_
    refine s_rd (r_sub rfl rfl) rfl ?_
    refine mv1 rfl rfl ?_
    refine s_rd (r_and rfl rfl) rfl ?_
    refine as1 rfl rfl ?_
    refine b_let (f := iv .u64) (t := 4) rfl fun x15 => ?_
    refine l_nil ?_
    exact n_loop () (weak [0, 1, 2, 3, 4, 5] ⟨rfl, rfl, rfl, trivial⟩ ⟨rfl, rfl, rfl, rfl, rfl, rfl, trivial⟩)

/-! (deliberation/network.Net).Answer -/
noncomputable def network_Net_Answer_m (n_0 : T_network_Net) (question_1 : Int) (node_2 : Int) : Option (Bool) :=
  bif question_1 == 4 then
    Option.bind (network_Net_In_m n_0) fun t5 =>
    Option.bind (network_Set_Has_m t5 node_2) fun t6 =>
    some t6
  else
    Option.bind (network_subsets_m n_0.All question_1 n_0 node_2 (question_1 == 3) (question_1 == 3)) fun t9 =>
    some t9

theorem network_Net_Answer_ok {n_0 : T_network_Net} {question_1 : Int} {node_2 : Int} {r : Bool} (hm : network_Net_Answer_m n_0 question_1 node_2 = some r) :
    FnOk prog 60 [ag [iv .u64 n_0.All, slv (rI .u64) n_0.By, slv (rI .u64) n_0.Out], iv .i64 question_1, iv .i64 node_2] [tbO (rI .u8) 0 tab_0] (fun (x : Unit) => [bv r]) (fun (x : Unit) => [tbO (rI .u8) 0 tab_0]) := by
  refine fn_ok (fn := Tryd.f60) (N := 23) (res := fun r x => [bv r]) (Ω1 := fun r x => [tbO (rI .u8) 0 tab_0]) Tryd.func60 rfl rfl hm rfl (fun E hM => ?_)
  unfold network_Net_Answer_m
  refine ref_seq (ref_region ?_)
  refine s_st (s_box (part_agO (ψs := [iv .u64 n_0.All, slv (rI .u64) n_0.By, slv (rI .u64) n_0.Out]) rfl ⟨.inl iv_at, .inl slv_at, .inl slv_at, trivial⟩)) rfl (fun b1 => ?_)
  refine s_st (s_box (part_at rfl iv_at)) rfl (fun b2 => ?_)
  refine s_st (s_box (part_at rfl iv_at)) rfl (fun b3 => ?_)
  refine as1 rfl rfl ?_
  refine l_nil (n_then (ref_seq (ref_seq (ref_region ?_))))
  refine s_rd (r_cload Tryd.isAgg3 rfl (j := 2) rfl rfl) rfl ?_
  refine s_rd (r_eql rfl rfl) rfl ?_
  refine l_nil (n_then ?_)
  refine ref_cond rfl (fun hb4 => ?_) (fun hb4 => ?_)
  · refine ref_seq ?_
    refine ref_draw [0, 2] rfl (by kernel_rfl) (fun hok => ?_)
    refine a_rd (i := 0) hok rfl (by kernel_rfl) rfl (r_cloadS Tryd.isAgg74 Tryd.sizeOf74 rfl (j := 1) rfl rfl rfl) rfl ?_
    refine a_rd (i := 2) hok rfl (by kernel_rfl) rfl (r_cload Tryd.isAgg3 rfl (j := 3) rfl rfl) rfl ?_
    refine pull fun t5 h_t5 => ?_
    refine a_next hok 1 [] (by kernel_rfl) ?_ trivial
    refine a_st (i := 1) hok rfl rfl (s_callC [0] [true] (fun (_ : Unit) => [tbO (rI .u8) 0 tab_0]) (fun (_ : Unit) => []) (fun (_ : Unit) => iv .u64 t5) (args := [.tmp 11]) (caps := []) Tryd.call39 rfl (network_Net_In_ok h_t5) ⟨rfl, rfl, trivial⟩ (fun _ => rfl) (fun _ => trivial) (fun _ => rfl) ⟨arg rfl, trivial⟩ (fun _ _ _ _ h => h)) (by intro _ h; cases h; rfl) (fun _ => ⟨⟨⟨rfl, rfl⟩, trivial⟩, ⟨trivial, trivial⟩⟩) (fun _ => ?_)
    refine pull fun t6 h_t6 => ?_
    refine a_next hok 3 [] (by kernel_rfl) ?_ trivial
    refine a_st (i := 3) hok rfl rfl (s_call (ψ := fun (_ : Unit) => bv t6) (args := [.tmp 12, .tmp 13]) Tryd.call76 rfl (network_Set_Has_ok h_t6) ⟨arg rfl, arg rfl, trivial⟩ (fun _ _ _ _ h => h)) (by intro _ h; cases h; rfl) (fun _ => ⟨trivial, ⟨⟨⟨rfl, rfl⟩, trivial⟩, trivial⟩⟩) (fun _ => ?_)
    refine a_next hok 4 [] (by kernel_rfl) ?_ trivial
    refine a_st (i := 4) hok rfl rfl (St.ofRd (r_assign rfl)) (by intro _ h; cases h; rfl) (fun _ => ⟨trivial, ⟨trivial, trivial⟩⟩) (fun _ => ?_)
    refine a_fin hok (by kernel_rfl) ?_
    refine b_of (nrm [tbO (rI .u8) 0 tab_0, oc b1 [iv .u64 n_0.All, slv (rI .u64) n_0.By, slv (rI .u64) n_0.Out], oc b2 [iv .i64 question_1], oc b3 [iv .i64 node_2]] rfl) ?_
    refine n_then (ref_ret (r_then ?_))
    exact fin1 (.inl rfl) () [0] rfl ⟨rfl, trivial⟩ rfl (rv_tmp rfl)
  refine ref_skip (n_then (ref_seq (ref_region ?_)))
  refine s_rd (r_cload Tryd.isAgg3 rfl (j := 2) rfl rfl) rfl ?_
  refine s_rd (r_eql rfl rfl) rfl ?_
  refine s_st (s_alloc zt_4) rfl (fun b7 => ?_)
  refine s_st0 (s_cstore (out := [bv (question_1 == 3)]) Tryd.sizeOf4 rfl (j := 4) rfl (part_at rfl bv_at) rfl rfl rfl) (fun _ => ?_)
  refine l_nil ?_
  refine b_of (nrm [tbO (rI .u8) 0 tab_0, oc b1 [iv .u64 n_0.All, slv (rI .u64) n_0.By, slv (rI .u64) n_0.Out], oc b2 [iv .i64 question_1], oc b3 [iv .i64 node_2], oc b7 [bv (question_1 == 3)]] rfl) ?_
  refine n_then (ref_seq (ref_region ?_))
  refine s_rd (r_cload Tryd.isAgg4 rfl (j := 4) rfl rfl) rfl ?_
  refine s_st (s_alloc zt_4) rfl (fun b8 => ?_)
  refine s_st0 (s_cstore (out := [bv (question_1 == 3)]) Tryd.sizeOf4 rfl (j := 5) rfl (part_at rfl bv_at) rfl rfl rfl) (fun _ => ?_)
  refine l_nil (n_then (ref_seq (ref_region ?_)))
  refine s_rd (r_faddr (fo := 0) Tryd.underlying74 rfl rfl Tryd.sizeOf67 rfl) rfl ?_
  refine s_rd (r_cload Tryd.isAgg67 rfl (j := 1) rfl rfl) rfl ?_
  refine s_rd (r_mkfn (xs := [.tmp 4, .tmp 3, .tmp 5, .tmp 7, .tmp 8]) (vs := [(ptr b2 0), (ptr b1 0), (ptr b3 0), (ptr b7 0), (ptr b8 0)]) ⟨rfl, rfl, rfl, rfl, rfl, trivial⟩) rfl ?_
  refine pull fun t9 h_t9 => ?_
  refine s_st (s_callC [2, 1, 3, 4, 5, 0] [true, true, true, true, true, true] (fun (_ : Unit) => [oc b2 [iv .i64 question_1], oc b1 [iv .u64 n_0.All, slv (rI .u64) n_0.By, slv (rI .u64) n_0.Out], oc b3 [iv .i64 node_2], oc b7 [bv (question_1 == 3)], oc b8 [bv t9], tbO (rI .u8) 0 tab_0]) (fun (_ : Unit) => []) (fun (_ : Unit) => tup []) (args := [.tmp 19, .tmp 20]) (caps := []) Tryd.call77 rfl (network_subsets_ok h_t9) ⟨rfl, rfl, ⟨rfl, rfl, ⟨rfl, rfl, ⟨rfl, rfl, ⟨rfl, rfl, ⟨rfl, rfl, trivial⟩⟩⟩⟩⟩⟩ (fun _ => rfl) (fun _ => trivial) (fun _ => rfl) ⟨arg rfl, arg rfl, trivial⟩ (fun _ _ _ _ h => h)) rfl (fun _ => ?_)
  refine l_nil ?_
  refine b_of (nrm [tbO (rI .u8) 0 tab_0, oc b1 [iv .u64 n_0.All, slv (rI .u64) n_0.By, slv (rI .u64) n_0.Out], oc b2 [iv .i64 question_1], oc b3 [iv .i64 node_2], oc b7 [bv (question_1 == 3)], oc b8 [bv t9]] rfl) ?_
  refine n_then (ref_seq (ref_region ?_))
  refine s_rd (r_cload Tryd.isAgg4 rfl (j := 5) rfl rfl) rfl ?_
  refine as1 rfl rfl ?_
  refine l_nil (n_then (ref_ret ?_))
  exact fin1 (.inl rfl) () [0] rfl ⟨rfl, trivial⟩ rfl (rv_tmp rfl)

/-! deliberation/chance.joint$1 -/
noncomputable def chance_joint_1_l1 (n_0 : T_network_Net) (p_3 : Int) (p_4 : Int) (t3 : List Int) (s11 : Int) : Option (Sum ((Sum (Int) (Unit))) (Int)) :=
  bif decide (s11 < (t3.length : Int)) then
    Option.bind (idxM t3 s11) fun x14 =>
    Option.bind (network_Net_Answer_m n_0 p_3 x14) fun t15 =>
    bif !t15 then
      some (Sum.inl (Sum.inl p_4))
    else
      some (Sum.inr (iadd .i64 s11 1))
  else
    some (Sum.inl (Sum.inr ()))

noncomputable def chance_joint_1_m (n_0 : T_network_Net) (weight_1 : Int) (p_2 : Int) (p_3 : Int) (p_4 : Int) : Option (Int) :=
  bif (iandn .u64 p_2 n_0.All) != 0 then
    some p_4
  else
    Option.bind (network_Set_List_m p_2) fun t3 =>
    Option.bind (loopC (chance_joint_1_l1 n_0 p_3 p_4 t3) 0) (sumK (fun a : Int => some a) fun q17 : Unit =>
      some (iadd .i64 p_4 weight_1))

theorem chance_joint_1_ok {n_0 : T_network_Net} {weight_1 : Int} {p_2 : Int} {p_3 : Int} {p_4 : Int} {b_2 : Nat} {b_3 : Nat} {b_4 : Nat} {r : Int} (hm : chance_joint_1_m n_0 weight_1 p_2 p_3 p_4 = some r) :
    FnOk prog 58 [ag [iv .u64 n_0.All, slv (rI .u64) n_0.By, slv (rI .u64) n_0.Out], iv .i64 weight_1, pv (ptr b_2 0), pv (ptr b_3 0), pv (ptr b_4 0)] [oc b_2 [iv .u64 p_2], oc b_3 [iv .i64 p_3], oc b_4 [iv .i64 p_4], tbO (rI .u8) 0 tab_0] (fun (x : Unit) => []) (fun (x : Unit) => [oc b_2 [iv .u64 p_2], oc b_3 [iv .i64 p_3], oc b_4 [iv .i64 r], tbO (rI .u8) 0 tab_0]) := by
  refine fn_ok (fn := Tryd.f58) (N := 30) (res := fun r x => []) (Ω1 := fun r x => [oc b_2 [iv .u64 p_2], oc b_3 [iv .i64 p_3], oc b_4 [iv .i64 r], tbO (rI .u8) 0 tab_0]) Tryd.func58 rfl rfl hm rfl (fun E hM => ?_)
  unfold chance_joint_1_m
  refine ref_seq (ref_region ?_)
  refine s_st (s_box (part_agO (ψs := [iv .u64 n_0.All, slv (rI .u64) n_0.By, slv (rI .u64) n_0.Out]) rfl ⟨.inl iv_at, .inl slv_at, .inl slv_at, trivial⟩)) rfl (fun b1 => ?_)
  refine l_nil (n_then (ref_seq (ref_seq (ref_region ?_))))
  refine s_rd (r_cload Tryd.isAgg67 rfl (j := 0) rfl rfl) rfl ?_
  refine s_rd (r_faddr (fo := 0) Tryd.underlying74 rfl rfl Tryd.sizeOf67 rfl) rfl ?_
  refine s_rd (r_cload Tryd.isAgg67 rfl (j := 4) rfl rfl) rfl ?_
  refine s_rd (r_andn rfl rfl) rfl ?_
  refine s_rd (r_neq rfl rfl) rfl ?_
  refine l_nil (n_then ?_)
  refine ref_cond rfl (fun hb2 => ?_) (fun hb2 => ?_)
  · refine ref_ret (r_then ?_)
    exact fin0 (.inl rfl) () [0, 1, 2, 3] rfl ⟨rfl, rfl, rfl, rfl, trivial⟩ rfl 
  refine ref_skip (n_then (ref_seq (ref_seq (ref_region ?_))))
  refine s_rd (r_cload Tryd.isAgg67 rfl (j := 0) rfl rfl) rfl ?_
  refine pull fun t3 h_t3 => ?_
  refine s_st (s_callC [3] [true] (fun (x4 : (Value × List Nat)) => [tbO (rI .u8) 0 tab_0]) (fun (x4 : (Value × List Nat)) => [oa (rI .i64) x4.1 x4.2 t3]) (fun (x4 : (Value × List Nat)) => pv x4.1) (args := [.tmp 14]) (caps := []) Tryd.call59 rfl (network_Set_List_ok h_t3) ⟨rfl, rfl, trivial⟩ (fun _ => rfl) (fun _ => trivial) (fun _ => rfl) ⟨arg rfl, trivial⟩ (fun _ _ _ _ h => h)) rfl (fun x4 => ?_)
  refine s_rd (r_olen Tryd.underlying22 rfl (j := 5) rfl) rfl ?_
  refine mv1 rfl rfl ?_
  refine l_nil (n_then ?_)
  refine ref_loopX (f := (chance_joint_1_l1 n_0 p_3 p_4 t3)) (Γl := (fun (s11 : Int) (x12 : Unit) => [(1, iv .i64 weight_1), (2, pv (ptr b_2 0)), (3, pv (ptr b_3 0)), (4, pv (ptr b_4 0)), (5, pv (ptr b1 0)), (15, pv x4.1), (16, iv .i64 (t3.length : Int)), (17, iv .i64 s11)])) (Ωl := (fun (s11 : Int) (x12 : Unit) => [tbO (rI .u8) 0 tab_0, oc b_2 [iv .u64 p_2], oc b_3 [iv .i64 p_3], oc b_4 [iv .i64 p_4], oc b1 [iv .u64 n_0.All, slv (rI .u64) n_0.By, slv (rI .u64) n_0.Out], oa (rI .i64) x4.1 x4.2 t3])) (Γb := (fun (q17 : Unit) (y18 : Unit) => [(1, iv .i64 weight_1), (2, pv (ptr b_2 0)), (3, pv (ptr b_3 0)), (4, pv (ptr b_4 0))])) (Ωb := (fun (q17 : Unit) (y18 : Unit) => [oc b_2 [iv .u64 p_2], oc b_3 [iv .i64 p_3], oc b_4 [iv .i64 p_4], tbO (rI .u8) 0 tab_0])) (kr := (fun a : Int => some a)) 0 () (weak [3, 0, 1, 2, 4, 5] ⟨rfl, rfl, rfl, rfl, rfl, rfl, rfl, rfl, trivial⟩ ⟨rfl, rfl, rfl, rfl, rfl, rfl, trivial⟩) (fun s11 x12 => ?_) (fun q17 y18 => ?_)
  · unfold chance_joint_1_l1
    refine ref_seq (ref_region ?_)
    refine s_rd (r_lss rfl rfl) rfl ?_
    refine l_nil (n_then (ref_seq ?_))
    refine ref_cond rfl (fun hb13 => ?_) (fun hb13 => ?_)
    · refine ref_skip (n_then (ref_seq (ref_block (ref_seq (ref_region ?_)))))
      refine pull fun x14 h_x14 => ?_
      refine s_rd (r_oindex h_x14 Tryd.underlying22 el_3 rfl (j := 5) rfl rfl) rfl ?_
      refine s_rd (r_oload h_x14 el_3 rfl (j := 5) rfl) rfl ?_
      refine as1 rfl rfl ?_
      refine l_nil (n_then (ref_seq (ref_region ?_)))
      refine s_rd (r_cloadS Tryd.isAgg74 Tryd.sizeOf74 rfl (j := 4) rfl rfl rfl) rfl ?_
      refine s_rd (r_cload Tryd.isAgg3 rfl (j := 2) rfl rfl) rfl ?_
      refine mv1 rfl rfl ?_
      refine pull fun t15 h_t15 => ?_
      refine s_st (s_callC [0] [true] (fun (_ : Unit) => [tbO (rI .u8) 0 tab_0]) (fun (_ : Unit) => []) (fun (_ : Unit) => bv t15) (args := [.tmp 21, .tmp 22, .tmp 23]) (caps := []) Tryd.call60 rfl (network_Net_Answer_ok h_t15) ⟨rfl, rfl, trivial⟩ (fun _ => rfl) (fun _ => trivial) (fun _ => rfl) ⟨arg rfl, arg rfl, arg rfl, trivial⟩ (fun _ _ _ _ h => h)) rfl (fun _ => ?_)
      refine s_rd (r_not rfl) rfl ?_
      refine l_nil (n_then ?_)
      refine ref_cond rfl (fun hb16 => ?_) (fun hb16 => ?_)
      · refine ref_ret (r_block (r_then ?_))
        refine retX ?_
        refine r_block (r_then ?_)
        exact fin0 (.inl rfl) () [1, 2, 3, 0] rfl ⟨rfl, rfl, rfl, rfl, trivial⟩ rfl 
      refine ref_skip (n_block (n_then (ref_region ?_)))
      refine s_rd (r_add rfl rfl) rfl ?_
      refine mv1 rfl rfl ?_
      refine l_nil ?_
      exact goX () (weak [0, 1, 2, 3, 4, 5] ⟨rfl, rfl, rfl, rfl, rfl, rfl, rfl, rfl, trivial⟩ ⟨rfl, rfl, rfl, rfl, rfl, rfl, trivial⟩)
    refine ref_exit (x_then ?_)
    exact brkX () (weak [1, 2, 3, 0] ⟨rfl, rfl, rfl, rfl, trivial⟩ ⟨rfl, rfl, rfl, rfl, trivial⟩)
  refine n_then (ref_region ?_)
  refine s_rd (r_cload Tryd.isAgg3 rfl (j := 2) rfl rfl) rfl ?_
  refine mv1 rfl rfl ?_
  refine s_rd (r_add rfl rfl) rfl ?_
  refine s_st0 (s_cstore (out := [iv .i64 (iadd .i64 p_4 weight_1)]) Tryd.sizeOf3 rfl (j := 2) rfl (part_at rfl iv_at) rfl rfl rfl) (fun _ => ?_)
  refine l_nil ?_
  exact fin0 (.inr rfl) () [0, 1, 2, 3] rfl ⟨rfl, rfl, rfl, rfl, trivial⟩ rfl 

/-! deliberation/chance.worlds$1 -/
noncomputable def chance_worlds_1_b (rec_ : Int → Int → (List T_api_Fraction) → Int → Int → Int → T_api_Graph → (List Bool) → Option (Int × (List Bool))) (i_0 : Int) (weight_1 : Int) (p_2 : (List T_api_Fraction)) (e_3 : Int) (e_4 : Int) (e_5 : Int) (p_4 : T_api_Graph) (p_5 : (List Bool)) : Option (Int × (List Bool)) :=
  bif i_0 == (p_2.length : Int) then
    Option.bind (chance_world_m p_4 p_5) fun t2 =>
    Option.bind (chance_joint_1_m t2 weight_1 e_3 e_4 e_5) fun t3 =>
    some (t3, p_5)
  else
    Option.bind (idxM p_2 i_0) fun t4 =>
    Option.bind (chance_certain_m t4) fun t6 =>
    bif t6 then
      Option.bind (idxM p_5 i_0) fun t8 =>
      Option.bind (rec_ (iadd .i64 i_0 1) weight_1 p_2 e_3 e_4 e_5 p_4 (p_5.set (Int.toNat i_0) (t4.Num != 0))) fun t9 =>
      some (t9.1, t9.2)
    else
      Option.bind (idxM p_5 i_0) fun t10 =>
      Option.bind (rec_ (iadd .i64 i_0 1) (imul .i64 weight_1 t4.Num) p_2 e_3 e_4 e_5 p_4 (p_5.set (Int.toNat i_0) true)) fun t11 =>
      Option.bind (idxM t11.2 i_0) fun t12 =>
      Option.bind (rec_ (iadd .i64 i_0 1) (imul .i64 weight_1 (isub .i64 t4.Den t4.Num)) p_2 e_3 e_4 t11.1 p_4 (t11.2.set (Int.toNat i_0) false)) fun t13 =>
      some (t13.1, t13.2)

noncomputable def chance_worlds_1_n : Nat → Int → Int → (List T_api_Fraction) → Int → Int → Int → T_api_Graph → (List Bool) → Option (Int × (List Bool))
  | 0 => fun _ _ _ _ _ _ _ _ => none
  | n_ + 1 => chance_worlds_1_b (chance_worlds_1_n n_)

noncomputable def chance_worlds_1_m (i_0 : Int) (weight_1 : Int) (p_2 : (List T_api_Fraction)) (e_3 : Int) (e_4 : Int) (e_5 : Int) (p_4 : T_api_Graph) (p_5 : (List Bool)) : Option (Int × (List Bool)) := recC fun n_ => chance_worlds_1_n n_ i_0 weight_1 p_2 e_3 e_4 e_5 p_4 p_5

theorem chance_worlds_1_step (rec_ : Int → Int → (List T_api_Fraction) → Int → Int → Int → T_api_Graph → (List Bool) → Option (Int × (List Bool))) (ih : ∀ {i_0 : Int} {weight_1 : Int} {p_2 : (List T_api_Fraction)} {e_3 : Int} {e_4 : Int} {e_5 : Int} {p_4 : T_api_Graph} {p_5 : (List Bool)} {b_2 : Nat} {h_1 : Value × List Nat} {b_3 : Nat} {be_3 : Nat} {be_4 : Nat} {be_5 : Nat} {b_4 : Nat} {b_5 : Nat} {h_8 : Value × List Nat} {b_6 : Nat} {r : Int × (List Bool)}, rec_ i_0 weight_1 p_2 e_3 e_4 e_5 p_4 p_5 = some r →
    FnOk prog 62 [iv .i64 i_0, iv .i64 weight_1, pv (ptr b_2 0), pv (ptr b_3 0), pv (ptr b_4 0), pv (ptr b_5 0), pv (ptr b_6 0)] [oc b_2 [pv h_1.1], oa rT_api_Fraction h_1.1 h_1.2 p_2, oc b_3 [pv (.func (.func 58) #[] #[(ptr be_3 0), (ptr be_4 0), (ptr be_5 0)])], oc be_3 [iv .u64 e_3], oc be_4 [iv .i64 e_4], oc be_5 [iv .i64 e_5], oc b_4 [iv .i64 p_4.N, slv rT_api_Pair p_4.L], oc b_5 [pv h_8.1], oa rB h_8.1 h_8.2 p_5, oc b_6 [pv (.func (.func 62) #[] #[(ptr b_2 0), (ptr b_3 0), (ptr b_4 0), (ptr b_5 0), (ptr b_6 0)])], tbO (rI .u8) 0 tab_0] (fun (x : Unit) => []) (fun (x : Unit) => [oc b_2 [pv h_1.1], oa rT_api_Fraction h_1.1 h_1.2 p_2, oc b_3 [pv (.func (.func 58) #[] #[(ptr be_3 0), (ptr be_4 0), (ptr be_5 0)])], oc be_3 [iv .u64 e_3], oc be_4 [iv .i64 e_4], oc be_5 [iv .i64 r.1], oc b_4 [iv .i64 p_4.N, slv rT_api_Pair p_4.L], oc b_5 [pv h_8.1], oa rB h_8.1 h_8.2 r.2, oc b_6 [pv (.func (.func 62) #[] #[(ptr b_2 0), (ptr b_3 0), (ptr b_4 0), (ptr b_5 0), (ptr b_6 0)])], tbO (rI .u8) 0 tab_0])) {i_0 : Int} {weight_1 : Int} {p_2 : (List T_api_Fraction)} {e_3 : Int} {e_4 : Int} {e_5 : Int} {p_4 : T_api_Graph} {p_5 : (List Bool)} {b_2 : Nat} {h_1 : Value × List Nat} {b_3 : Nat} {be_3 : Nat} {be_4 : Nat} {be_5 : Nat} {b_4 : Nat} {b_5 : Nat} {h_8 : Value × List Nat} {b_6 : Nat} {r : Int × (List Bool)} (hm : chance_worlds_1_b rec_ i_0 weight_1 p_2 e_3 e_4 e_5 p_4 p_5 = some r) :
    FnOk prog 62 [iv .i64 i_0, iv .i64 weight_1, pv (ptr b_2 0), pv (ptr b_3 0), pv (ptr b_4 0), pv (ptr b_5 0), pv (ptr b_6 0)] [oc b_2 [pv h_1.1], oa rT_api_Fraction h_1.1 h_1.2 p_2, oc b_3 [pv (.func (.func 58) #[] #[(ptr be_3 0), (ptr be_4 0), (ptr be_5 0)])], oc be_3 [iv .u64 e_3], oc be_4 [iv .i64 e_4], oc be_5 [iv .i64 e_5], oc b_4 [iv .i64 p_4.N, slv rT_api_Pair p_4.L], oc b_5 [pv h_8.1], oa rB h_8.1 h_8.2 p_5, oc b_6 [pv (.func (.func 62) #[] #[(ptr b_2 0), (ptr b_3 0), (ptr b_4 0), (ptr b_5 0), (ptr b_6 0)])], tbO (rI .u8) 0 tab_0] (fun (x : Unit) => []) (fun (x : Unit) => [oc b_2 [pv h_1.1], oa rT_api_Fraction h_1.1 h_1.2 p_2, oc b_3 [pv (.func (.func 58) #[] #[(ptr be_3 0), (ptr be_4 0), (ptr be_5 0)])], oc be_3 [iv .u64 e_3], oc be_4 [iv .i64 e_4], oc be_5 [iv .i64 r.1], oc b_4 [iv .i64 p_4.N, slv rT_api_Pair p_4.L], oc b_5 [pv h_8.1], oa rB h_8.1 h_8.2 r.2, oc b_6 [pv (.func (.func 62) #[] #[(ptr b_2 0), (ptr b_3 0), (ptr b_4 0), (ptr b_5 0), (ptr b_6 0)])], tbO (rI .u8) 0 tab_0]) := by
  refine fn_ok (fn := Tryd.f62) (N := 62) (res := fun r x => []) (Ω1 := fun r x => [oc b_2 [pv h_1.1], oa rT_api_Fraction h_1.1 h_1.2 p_2, oc b_3 [pv (.func (.func 58) #[] #[(ptr be_3 0), (ptr be_4 0), (ptr be_5 0)])], oc be_3 [iv .u64 e_3], oc be_4 [iv .i64 e_4], oc be_5 [iv .i64 r.1], oc b_4 [iv .i64 p_4.N, slv rT_api_Pair p_4.L], oc b_5 [pv h_8.1], oa rB h_8.1 h_8.2 r.2, oc b_6 [pv (.func (.func 62) #[] #[(ptr b_2 0), (ptr b_3 0), (ptr b_4 0), (ptr b_5 0), (ptr b_6 0)])], tbO (rI .u8) 0 tab_0]) Tryd.func62 rfl rfl hm rfl (fun E hM => ?_)
  unfold chance_worlds_1_b
  refine ref_seq (ref_seq (ref_region ?_))
  refine mv1 rfl rfl ?_
  refine s_rd (r_cload Tryd.isAgg29 rfl (j := 0) rfl rfl) rfl ?_
  refine s_rd (r_olen Tryd.underlying29 rfl (j := 1) rfl) rfl ?_
  refine s_rd (r_eql rfl rfl) rfl ?_
  refine l_nil (n_then ?_)
  refine ref_cond rfl (fun hb1 => ?_) (fun hb1 => ?_)
  · refine ref_seq ?_
    refine ref_draw [0, 1, 2, 4] rfl (by kernel_rfl) (fun hok => ?_)
    refine a_rd (i := 0) hok rfl (by kernel_rfl) rfl (r_cload Tryd.isAgg76 rfl (j := 2) rfl rfl) rfl ?_
    refine a_rd (i := 1) hok rfl (by kernel_rfl) rfl (r_cloadS Tryd.isAgg27 Tryd.sizeOf27 rfl (j := 6) rfl rfl rfl) rfl ?_
    refine a_rd (i := 2) hok rfl (by kernel_rfl) rfl (r_cload Tryd.isAgg97 rfl (j := 7) rfl rfl) rfl ?_
    refine a_rd (i := 4) hok rfl (by kernel_rfl) rfl (r_move rfl) rfl ?_
    refine pull fun t2 h_t2 => ?_
    refine a_next hok 3 [] (by kernel_rfl) ?_ trivial
    refine a_st (i := 3) hok rfl rfl (s_callC [8] [true] (fun (_ : Unit) => [oa rB h_8.1 h_8.2 p_5]) (fun (_ : Unit) => []) (fun (_ : Unit) => ag [iv .u64 t2.All, slv (rI .u64) t2.By, slv (rI .u64) t2.Out]) (args := [.tmp 15, .tmp 16]) (caps := []) Tryd.call63 rfl (chance_world_ok h_t2) ⟨rfl, rfl, trivial⟩ (fun _ => rfl) (fun _ => trivial) (fun _ => rfl) ⟨arg rfl, arg rfl, trivial⟩ (fun _ _ _ _ h => h)) (by intro _ h; cases h; rfl) (fun _ => ⟨trivial, ⟨trivial, ⟨trivial, ⟨⟨⟨rfl, rfl⟩, trivial⟩, trivial⟩⟩⟩⟩) (fun _ => ?_)
    refine pull fun t3 h_t3 => ?_
    refine a_next hok 5 [] (by kernel_rfl) ?_ trivial
    refine a_st (i := 5) hok rfl rfl (s_callC [3, 4, 5, 10] [true, true, true, true] (fun (_ : Unit) => [oc be_3 [iv .u64 e_3], oc be_4 [iv .i64 e_4], oc be_5 [iv .i64 t3], tbO (rI .u8) 0 tab_0]) (fun (_ : Unit) => []) (fun (_ : Unit) => tup []) (args := [.tmp 17, .tmp 18]) (caps := [(ptr be_3 0), (ptr be_4 0), (ptr be_5 0)]) Tryd.call58 rfl (chance_joint_1_ok h_t3) ⟨rfl, rfl, ⟨rfl, rfl, ⟨rfl, rfl, ⟨rfl, rfl, trivial⟩⟩⟩⟩ (fun _ => rfl) (fun _ => trivial) (fun _ => rfl) ⟨arg rfl, arg rfl, arg rfl, arg rfl, arg rfl, trivial⟩ (fun _ _ _ _ h => h)) (by intro _ h; cases h; rfl) (fun _ => ⟨trivial, ⟨⟨⟨rfl, rfl⟩, trivial⟩, ⟨⟨⟨rfl, rfl⟩, trivial⟩, ⟨trivial, trivial⟩⟩⟩⟩) (fun _ => ?_)
    refine a_fin hok (by kernel_rfl) ?_
    refine b_of (nrm [oc b_2 [pv h_1.1], oa rT_api_Fraction h_1.1 h_1.2 p_2, oc b_3 [pv (.func (.func 58) #[] #[(ptr be_3 0), (ptr be_4 0), (ptr be_5 0)])], oc be_3 [iv .u64 e_3], oc be_4 [iv .i64 e_4], oc be_5 [iv .i64 t3], oc b_4 [iv .i64 p_4.N, slv rT_api_Pair p_4.L], oc b_5 [pv h_8.1], oa rB h_8.1 h_8.2 p_5, oc b_6 [pv (.func (.func 62) #[] #[(ptr b_2 0), (ptr b_3 0), (ptr b_4 0), (ptr b_5 0), (ptr b_6 0)])], tbO (rI .u8) 0 tab_0] rfl) ?_
    refine n_then (ref_ret (r_then ?_))
    exact fin0 (.inl rfl) () [0, 1, 2, 3, 4, 5, 6, 7, 8, 9, 10] rfl ⟨rfl, rfl, rfl, rfl, rfl, rfl, rfl, rfl, rfl, rfl, rfl, trivial⟩ rfl 
  refine ref_skip (n_then (ref_seq (ref_region ?_)))
  refine s_rd (r_cload Tryd.isAgg29 rfl (j := 0) rfl rfl) rfl ?_
  refine mv1 rfl rfl ?_
  refine pull fun t4 h_t4 => ?_
  refine s_rd (r_oindex h_t4 Tryd.underlying29 el_36 rfl (j := 1) rfl rfl) rfl ?_
  refine s_rd (r_oload h_t4 el_36 rfl (j := 1) rfl) rfl ?_
  refine s_st (s_alloc zt_36) rfl (fun b5 => ?_)
  refine s_st0 (s_cstore (out := [iv .i64 t4.Num, iv .i64 t4.Den]) Tryd.sizeOf36 rfl (j := 11) rfl (part_agO (ψs := [iv .i64 t4.Num, iv .i64 t4.Den]) rfl ⟨.inl iv_at, .inl iv_at, trivial⟩) rfl rfl rfl) (fun _ => ?_)
  refine l_nil (n_then (ref_seq (ref_seq (ref_region ?_))))
  refine s_rd (r_cloadS Tryd.isAgg36 Tryd.sizeOf36 rfl (j := 11) rfl rfl rfl) rfl ?_
  refine pull fun t6 h_t6 => ?_
  refine s_st (s_call (ψ := fun (_ : Unit) => bv t6) (args := [.tmp 24]) Tryd.call57 rfl (chance_certain_ok h_t6) ⟨arg rfl, trivial⟩ (fun _ _ _ _ h => h)) rfl (fun _ => ?_)
  refine l_nil (n_then ?_)
  refine ref_cond rfl (fun hb7 => ?_) (fun hb7 => ?_)
  · refine ref_seq (ref_region ?_)
    refine s_rd (r_cload Tryd.isAgg97 rfl (j := 7) rfl rfl) rfl ?_
    refine mv1 rfl rfl ?_
    refine s_rd (r_faddr (fo := 0) Tryd.underlying36 rfl rfl Tryd.sizeOf3 rfl) rfl ?_
    refine s_rd (r_cload Tryd.isAgg3 rfl (j := 11) rfl rfl) rfl ?_
    refine s_rd (r_neq rfl rfl) rfl ?_
    refine pull fun t8 h_t8 => ?_
    refine s_rd (r_oindex h_t8 Tryd.underlying97 el_4 rfl (j := 8) rfl rfl) rfl ?_
    refine s_st0 (s_ostore (u := t4.Num != 0) h_t8 el_4 rfl (j := 8) rfl (part_at rfl bv_at)) (fun _ => ?_)
    refine l_nil ?_
    refine b_of (nrm [oc b_2 [pv h_1.1], oa rT_api_Fraction h_1.1 h_1.2 p_2, oc b_3 [pv (.func (.func 58) #[] #[(ptr be_3 0), (ptr be_4 0), (ptr be_5 0)])], oc be_3 [iv .u64 e_3], oc be_4 [iv .i64 e_4], oc be_5 [iv .i64 e_5], oc b_4 [iv .i64 p_4.N, slv rT_api_Pair p_4.L], oc b_5 [pv h_8.1], oa rB h_8.1 h_8.2 (p_5.set (Int.toNat i_0) (t4.Num != 0)), oc b_6 [pv (.func (.func 62) #[] #[(ptr b_2 0), (ptr b_3 0), (ptr b_4 0), (ptr b_5 0), (ptr b_6 0)])], tbO (rI .u8) 0 tab_0, oc b5 [iv .i64 t4.Num, iv .i64 t4.Den]] rfl) ?_
    refine n_then (ref_seq (ref_region ?_))
    refine s_rd (r_cload Tryd.isAgg98 rfl (j := 9) rfl rfl) rfl ?_
    refine mv1 rfl rfl ?_
    refine s_rd (r_add rfl rfl) rfl ?_
    refine mv1 rfl rfl ?_
    refine pull fun t9 h_t9 => ?_
    refine s_st (s_callC [0, 1, 2, 3, 4, 5, 6, 7, 8, 9, 10] [true, true, true, true, true, true, true, true, true, true, true] (fun (_ : Unit) => [oc b_2 [pv h_1.1], oa rT_api_Fraction h_1.1 h_1.2 p_2, oc b_3 [pv (.func (.func 58) #[] #[(ptr be_3 0), (ptr be_4 0), (ptr be_5 0)])], oc be_3 [iv .u64 e_3], oc be_4 [iv .i64 e_4], oc be_5 [iv .i64 t9.1], oc b_4 [iv .i64 p_4.N, slv rT_api_Pair p_4.L], oc b_5 [pv h_8.1], oa rB h_8.1 h_8.2 t9.2, oc b_6 [pv (.func (.func 62) #[] #[(ptr b_2 0), (ptr b_3 0), (ptr b_4 0), (ptr b_5 0), (ptr b_6 0)])], tbO (rI .u8) 0 tab_0]) (fun (_ : Unit) => []) (fun (_ : Unit) => tup []) (args := [.tmp 34, .tmp 35]) (caps := [(ptr b_2 0), (ptr b_3 0), (ptr b_4 0), (ptr b_5 0), (ptr b_6 0)]) Tryd.call62 rfl (ih h_t9) ⟨rfl, rfl, ⟨rfl, rfl, ⟨rfl, rfl, ⟨rfl, rfl, ⟨rfl, rfl, ⟨rfl, rfl, ⟨rfl, rfl, ⟨rfl, rfl, ⟨rfl, rfl, ⟨rfl, rfl, ⟨rfl, rfl, trivial⟩⟩⟩⟩⟩⟩⟩⟩⟩⟩⟩ (fun _ => rfl) (fun _ => trivial) (fun _ => rfl) ⟨arg rfl, arg rfl, arg rfl, arg rfl, arg rfl, arg rfl, arg rfl, trivial⟩ (fun _ _ _ _ h => h)) rfl (fun _ => ?_)
    refine l_nil ?_
    refine b_of (nrm [oc b_2 [pv h_1.1], oa rT_api_Fraction h_1.1 h_1.2 p_2, oc b_3 [pv (.func (.func 58) #[] #[(ptr be_3 0), (ptr be_4 0), (ptr be_5 0)])], oc be_3 [iv .u64 e_3], oc be_4 [iv .i64 e_4], oc be_5 [iv .i64 t9.1], oc b_4 [iv .i64 p_4.N, slv rT_api_Pair p_4.L], oc b_5 [pv h_8.1], oa rB h_8.1 h_8.2 t9.2, oc b_6 [pv (.func (.func 62) #[] #[(ptr b_2 0), (ptr b_3 0), (ptr b_4 0), (ptr b_5 0), (ptr b_6 0)])], tbO (rI .u8) 0 tab_0, oc b5 [iv .i64 t4.Num, iv .i64 t4.Den]] rfl) ?_
    refine n_then (ref_ret (r_then ?_))
    exact fin0 (.inl rfl) () [0, 1, 2, 3, 4, 5, 6, 7, 8, 9, 10] rfl ⟨rfl, rfl, rfl, rfl, rfl, rfl, rfl, rfl, rfl, rfl, rfl, trivial⟩ rfl 
  refine ref_skip (n_then (ref_seq (ref_region ?_)))
  refine s_rd (r_cload Tryd.isAgg97 rfl (j := 7) rfl rfl) rfl ?_
  refine mv1 rfl rfl ?_
  refine pull fun t10 h_t10 => ?_
  refine s_rd (r_oindex h_t10 Tryd.underlying97 el_4 rfl (j := 8) rfl rfl) rfl ?_
  refine s_st0 (s_ostore (u := true) h_t10 el_4 rfl (j := 8) rfl (part_at rfl bv_at)) (fun _ => ?_)
  refine l_nil ?_
  refine b_of (nrm [oc b_2 [pv h_1.1], oa rT_api_Fraction h_1.1 h_1.2 p_2, oc b_3 [pv (.func (.func 58) #[] #[(ptr be_3 0), (ptr be_4 0), (ptr be_5 0)])], oc be_3 [iv .u64 e_3], oc be_4 [iv .i64 e_4], oc be_5 [iv .i64 e_5], oc b_4 [iv .i64 p_4.N, slv rT_api_Pair p_4.L], oc b_5 [pv h_8.1], oa rB h_8.1 h_8.2 (p_5.set (Int.toNat i_0) true), oc b_6 [pv (.func (.func 62) #[] #[(ptr b_2 0), (ptr b_3 0), (ptr b_4 0), (ptr b_5 0), (ptr b_6 0)])], tbO (rI .u8) 0 tab_0, oc b5 [iv .i64 t4.Num, iv .i64 t4.Den]] rfl) ?_
  refine n_then (ref_seq (ref_region ?_))
  refine s_rd (r_cload Tryd.isAgg98 rfl (j := 9) rfl rfl) rfl ?_
  refine mv1 rfl rfl ?_
  refine s_rd (r_add rfl rfl) rfl ?_
  refine mv1 rfl rfl ?_
  refine s_rd (r_faddr (fo := 0) Tryd.underlying36 rfl rfl Tryd.sizeOf3 rfl) rfl ?_
  refine s_rd (r_cload Tryd.isAgg3 rfl (j := 11) rfl rfl) rfl ?_
  refine s_rd (r_mul rfl rfl) rfl ?_
  refine pull fun t11 h_t11 => ?_
  refine s_st (s_callC [0, 1, 2, 3, 4, 5, 6, 7, 8, 9, 10] [true, true, true, true, true, true, true, true, true, true, true] (fun (_ : Unit) => [oc b_2 [pv h_1.1], oa rT_api_Fraction h_1.1 h_1.2 p_2, oc b_3 [pv (.func (.func 58) #[] #[(ptr be_3 0), (ptr be_4 0), (ptr be_5 0)])], oc be_3 [iv .u64 e_3], oc be_4 [iv .i64 e_4], oc be_5 [iv .i64 t11.1], oc b_4 [iv .i64 p_4.N, slv rT_api_Pair p_4.L], oc b_5 [pv h_8.1], oa rB h_8.1 h_8.2 t11.2, oc b_6 [pv (.func (.func 62) #[] #[(ptr b_2 0), (ptr b_3 0), (ptr b_4 0), (ptr b_5 0), (ptr b_6 0)])], tbO (rI .u8) 0 tab_0]) (fun (_ : Unit) => []) (fun (_ : Unit) => tup []) (args := [.tmp 42, .tmp 46]) (caps := [(ptr b_2 0), (ptr b_3 0), (ptr b_4 0), (ptr b_5 0), (ptr b_6 0)]) Tryd.call62 rfl (ih h_t11) ⟨rfl, rfl, ⟨rfl, rfl, ⟨rfl, rfl, ⟨rfl, rfl, ⟨rfl, rfl, ⟨rfl, rfl, ⟨rfl, rfl, ⟨rfl, rfl, ⟨rfl, rfl, ⟨rfl, rfl, ⟨rfl, rfl, trivial⟩⟩⟩⟩⟩⟩⟩⟩⟩⟩⟩ (fun _ => rfl) (fun _ => trivial) (fun _ => rfl) ⟨arg rfl, arg rfl, arg rfl, arg rfl, arg rfl, arg rfl, arg rfl, trivial⟩ (fun _ _ _ _ h => h)) rfl (fun _ => ?_)
  refine l_nil ?_
  refine b_of (nrm [oc b_2 [pv h_1.1], oa rT_api_Fraction h_1.1 h_1.2 p_2, oc b_3 [pv (.func (.func 58) #[] #[(ptr be_3 0), (ptr be_4 0), (ptr be_5 0)])], oc be_3 [iv .u64 e_3], oc be_4 [iv .i64 e_4], oc be_5 [iv .i64 t11.1], oc b_4 [iv .i64 p_4.N, slv rT_api_Pair p_4.L], oc b_5 [pv h_8.1], oa rB h_8.1 h_8.2 t11.2, oc b_6 [pv (.func (.func 62) #[] #[(ptr b_2 0), (ptr b_3 0), (ptr b_4 0), (ptr b_5 0), (ptr b_6 0)])], tbO (rI .u8) 0 tab_0, oc b5 [iv .i64 t4.Num, iv .i64 t4.Den]] rfl) ?_
  refine n_then (ref_seq (ref_region ?_))
  refine s_rd (r_cload Tryd.isAgg97 rfl (j := 7) rfl rfl) rfl ?_
  refine mv1 rfl rfl ?_
  refine pull fun t12 h_t12 => ?_
  refine s_rd (r_oindex h_t12 Tryd.underlying97 el_4 rfl (j := 8) rfl rfl) rfl ?_
  refine s_st0 (s_ostore (u := false) h_t12 el_4 rfl (j := 8) rfl (part_at rfl bv_at)) (fun _ => ?_)
  refine l_nil (n_then (ref_region ?_))
  refine s_rd (r_cload Tryd.isAgg98 rfl (j := 9) rfl rfl) rfl ?_
  refine mv1 rfl rfl ?_
  refine s_rd (r_add rfl rfl) rfl ?_
  refine mv1 rfl rfl ?_
  refine s_rd (r_faddr (fo := 1) Tryd.underlying36 rfl rfl Tryd.sizeOf3 rfl) rfl ?_
  refine s_rd (r_cload Tryd.isAgg3 rfl (j := 11) rfl rfl) rfl ?_
  refine s_rd (r_faddr (fo := 0) Tryd.underlying36 rfl rfl Tryd.sizeOf3 rfl) rfl ?_
  refine s_rd (r_cload Tryd.isAgg3 rfl (j := 11) rfl rfl) rfl ?_
  refine s_rd (r_sub rfl rfl) rfl ?_
  refine s_rd (r_mul rfl rfl) rfl ?_
  refine pull fun t13 h_t13 => ?_
  refine s_st (s_callC [0, 1, 2, 3, 4, 5, 6, 7, 8, 9, 10] [true, true, true, true, true, true, true, true, true, true, true] (fun (_ : Unit) => [oc b_2 [pv h_1.1], oa rT_api_Fraction h_1.1 h_1.2 p_2, oc b_3 [pv (.func (.func 58) #[] #[(ptr be_3 0), (ptr be_4 0), (ptr be_5 0)])], oc be_3 [iv .u64 e_3], oc be_4 [iv .i64 e_4], oc be_5 [iv .i64 t13.1], oc b_4 [iv .i64 p_4.N, slv rT_api_Pair p_4.L], oc b_5 [pv h_8.1], oa rB h_8.1 h_8.2 t13.2, oc b_6 [pv (.func (.func 62) #[] #[(ptr b_2 0), (ptr b_3 0), (ptr b_4 0), (ptr b_5 0), (ptr b_6 0)])], tbO (rI .u8) 0 tab_0]) (fun (_ : Unit) => []) (fun (_ : Unit) => tup []) (args := [.tmp 53, .tmp 60]) (caps := [(ptr b_2 0), (ptr b_3 0), (ptr b_4 0), (ptr b_5 0), (ptr b_6 0)]) Tryd.call62 rfl (ih h_t13) ⟨rfl, rfl, ⟨rfl, rfl, ⟨rfl, rfl, ⟨rfl, rfl, ⟨rfl, rfl, ⟨rfl, rfl, ⟨rfl, rfl, ⟨rfl, rfl, ⟨rfl, rfl, ⟨rfl, rfl, ⟨rfl, rfl, trivial⟩⟩⟩⟩⟩⟩⟩⟩⟩⟩⟩ (fun _ => rfl) (fun _ => trivial) (fun _ => rfl) ⟨arg rfl, arg rfl, arg rfl, arg rfl, arg rfl, arg rfl, arg rfl, trivial⟩ (fun _ _ _ _ h => h)) rfl (fun _ => ?_)
  refine l_nil ?_
  refine b_of (nrm [oc b_2 [pv h_1.1], oa rT_api_Fraction h_1.1 h_1.2 p_2, oc b_3 [pv (.func (.func 58) #[] #[(ptr be_3 0), (ptr be_4 0), (ptr be_5 0)])], oc be_3 [iv .u64 e_3], oc be_4 [iv .i64 e_4], oc be_5 [iv .i64 t13.1], oc b_4 [iv .i64 p_4.N, slv rT_api_Pair p_4.L], oc b_5 [pv h_8.1], oa rB h_8.1 h_8.2 t13.2, oc b_6 [pv (.func (.func 62) #[] #[(ptr b_2 0), (ptr b_3 0), (ptr b_4 0), (ptr b_5 0), (ptr b_6 0)])], tbO (rI .u8) 0 tab_0, oc b5 [iv .i64 t4.Num, iv .i64 t4.Den]] rfl) ?_
  exact fin0 (.inr rfl) () [0, 1, 2, 3, 4, 5, 6, 7, 8, 9, 10] rfl ⟨rfl, rfl, rfl, rfl, rfl, rfl, rfl, rfl, rfl, rfl, rfl, trivial⟩ rfl 

theorem chance_worlds_1_n_ok : ∀ (n_ : Nat) {i_0 : Int} {weight_1 : Int} {p_2 : (List T_api_Fraction)} {e_3 : Int} {e_4 : Int} {e_5 : Int} {p_4 : T_api_Graph} {p_5 : (List Bool)} {b_2 : Nat} {h_1 : Value × List Nat} {b_3 : Nat} {be_3 : Nat} {be_4 : Nat} {be_5 : Nat} {b_4 : Nat} {b_5 : Nat} {h_8 : Value × List Nat} {b_6 : Nat} {r : Int × (List Bool)}, chance_worlds_1_n n_ i_0 weight_1 p_2 e_3 e_4 e_5 p_4 p_5 = some r →
    FnOk prog 62 [iv .i64 i_0, iv .i64 weight_1, pv (ptr b_2 0), pv (ptr b_3 0), pv (ptr b_4 0), pv (ptr b_5 0), pv (ptr b_6 0)] [oc b_2 [pv h_1.1], oa rT_api_Fraction h_1.1 h_1.2 p_2, oc b_3 [pv (.func (.func 58) #[] #[(ptr be_3 0), (ptr be_4 0), (ptr be_5 0)])], oc be_3 [iv .u64 e_3], oc be_4 [iv .i64 e_4], oc be_5 [iv .i64 e_5], oc b_4 [iv .i64 p_4.N, slv rT_api_Pair p_4.L], oc b_5 [pv h_8.1], oa rB h_8.1 h_8.2 p_5, oc b_6 [pv (.func (.func 62) #[] #[(ptr b_2 0), (ptr b_3 0), (ptr b_4 0), (ptr b_5 0), (ptr b_6 0)])], tbO (rI .u8) 0 tab_0] (fun (x : Unit) => []) (fun (x : Unit) => [oc b_2 [pv h_1.1], oa rT_api_Fraction h_1.1 h_1.2 p_2, oc b_3 [pv (.func (.func 58) #[] #[(ptr be_3 0), (ptr be_4 0), (ptr be_5 0)])], oc be_3 [iv .u64 e_3], oc be_4 [iv .i64 e_4], oc be_5 [iv .i64 r.1], oc b_4 [iv .i64 p_4.N, slv rT_api_Pair p_4.L], oc b_5 [pv h_8.1], oa rB h_8.1 h_8.2 r.2, oc b_6 [pv (.func (.func 62) #[] #[(ptr b_2 0), (ptr b_3 0), (ptr b_4 0), (ptr b_5 0), (ptr b_6 0)])], tbO (rI .u8) 0 tab_0]) := by
  intro n_
  induction n_ with
  | zero => intros; rename_i h; cases h
  | succ n_ ih => intros; rename_i h; exact chance_worlds_1_step _ @ih h

theorem chance_worlds_1_ok {i_0 : Int} {weight_1 : Int} {p_2 : (List T_api_Fraction)} {e_3 : Int} {e_4 : Int} {e_5 : Int} {p_4 : T_api_Graph} {p_5 : (List Bool)} {b_2 : Nat} {h_1 : Value × List Nat} {b_3 : Nat} {be_3 : Nat} {be_4 : Nat} {be_5 : Nat} {b_4 : Nat} {b_5 : Nat} {h_8 : Value × List Nat} {b_6 : Nat} {r : Int × (List Bool)} (hm : chance_worlds_1_m i_0 weight_1 p_2 e_3 e_4 e_5 p_4 p_5 = some r) :
    FnOk prog 62 [iv .i64 i_0, iv .i64 weight_1, pv (ptr b_2 0), pv (ptr b_3 0), pv (ptr b_4 0), pv (ptr b_5 0), pv (ptr b_6 0)] [oc b_2 [pv h_1.1], oa rT_api_Fraction h_1.1 h_1.2 p_2, oc b_3 [pv (.func (.func 58) #[] #[(ptr be_3 0), (ptr be_4 0), (ptr be_5 0)])], oc be_3 [iv .u64 e_3], oc be_4 [iv .i64 e_4], oc be_5 [iv .i64 e_5], oc b_4 [iv .i64 p_4.N, slv rT_api_Pair p_4.L], oc b_5 [pv h_8.1], oa rB h_8.1 h_8.2 p_5, oc b_6 [pv (.func (.func 62) #[] #[(ptr b_2 0), (ptr b_3 0), (ptr b_4 0), (ptr b_5 0), (ptr b_6 0)])], tbO (rI .u8) 0 tab_0] (fun (x : Unit) => []) (fun (x : Unit) => [oc b_2 [pv h_1.1], oa rT_api_Fraction h_1.1 h_1.2 p_2, oc b_3 [pv (.func (.func 58) #[] #[(ptr be_3 0), (ptr be_4 0), (ptr be_5 0)])], oc be_3 [iv .u64 e_3], oc be_4 [iv .i64 e_4], oc be_5 [iv .i64 r.1], oc b_4 [iv .i64 p_4.N, slv rT_api_Pair p_4.L], oc b_5 [pv h_8.1], oa rB h_8.1 h_8.2 r.2, oc b_6 [pv (.func (.func 62) #[] #[(ptr b_2 0), (ptr b_3 0), (ptr b_4 0), (ptr b_5 0), (ptr b_6 0)])], tbO (rI .u8) 0 tab_0]) := by
  obtain ⟨n_, h⟩ := recC_some hm
  exact chance_worlds_1_n_ok n_ h

theorem chance_worlds_1_b_le {rec_ rec_' : Int → Int → (List T_api_Fraction) → Int → Int → Int → T_api_Graph → (List Bool) → Option (Int × (List Bool))} (h : ∀ i_0 weight_1 p_2 e_3 e_4 e_5 p_4 p_5, Le (rec_ i_0 weight_1 p_2 e_3 e_4 e_5 p_4 p_5) (rec_' i_0 weight_1 p_2 e_3 e_4 e_5 p_4 p_5)) {i_0 : Int} {weight_1 : Int} {p_2 : (List T_api_Fraction)} {e_3 : Int} {e_4 : Int} {e_5 : Int} {p_4 : T_api_Graph} {p_5 : (List Bool)} : Le (chance_worlds_1_b rec_ i_0 weight_1 p_2 e_3 e_4 e_5 p_4 p_5) (chance_worlds_1_b rec_' i_0 weight_1 p_2 e_3 e_4 e_5 p_4 p_5) := by
  unfold chance_worlds_1_b
  repeat' with_reducible (first | exact Le.refl _ | exact h _ _ _ _ _ _ _ _ | refine Le.bind ?_ (Le.sumK fun _ => ?_) | refine Le.bind ?_ (fun _ => ?_) | refine Le.cond ?_ ?_ | refine Le.letM (fun _ => ?_) | refine Le.join (fun _ => ?_) (fun _ _ hj => ?_) | exact hj _)

theorem chance_worlds_1_n_le : ∀ (n_ : Nat) (i_0 : Int) (weight_1 : Int) (p_2 : (List T_api_Fraction)) (e_3 : Int) (e_4 : Int) (e_5 : Int) (p_4 : T_api_Graph) (p_5 : (List Bool)), Le (chance_worlds_1_n n_ i_0 weight_1 p_2 e_3 e_4 e_5 p_4 p_5) (chance_worlds_1_n (n_ + 1) i_0 weight_1 p_2 e_3 e_4 e_5 p_4 p_5)
  | 0, _, _, _, _, _, _, _, _ => fun _ h => by cases h
  | n_ + 1, _, _, _, _, _, _, _, _ => chance_worlds_1_b_le (chance_worlds_1_n_le n_)

/-! deliberation/chance.worlds -/
noncomputable def chance_worlds_l1 (t4 : List T_api_Fraction) (s14 : Int × Int) : Option (Sum (Int) (Int × Int)) :=
  bif decide (s14.2 < (t4.length : Int)) then
    Option.bind (idxM t4 s14.2) fun t17 =>
    Option.bind (chance_certain_m t17) fun t19 =>
    bif !t19 then
      letM (imul .i64 s14.1 t17.Den) fun total21 =>
      some (Sum.inr (total21, iadd .i64 s14.2 1))
    else
      some (Sum.inr (s14.1, iadd .i64 s14.2 1))
  else
    some (Sum.inl s14.1)

noncomputable def chance_worlds_m (g_0 : T_api_Graph) (o_1 : T_api_Odds) (e_0 : Int) (e_1 : Int) (e_2 : Int) : Option (Int × Int) :=
  Option.bind (slices_Concat_api_Fraction_api_Fraction_m [o_1.Nodes, o_1.Attacks]) fun t4 =>
  Option.bind (loopC (chance_worlds_l1 t4) (1, 0)) fun q22 : Int =>
  Option.bind (slices_Concat_api_Fraction_api_Fraction_m [o_1.Nodes, o_1.Attacks]) fun t24 =>
  Option.bind (mkM 1 false (t24.length : Int)) fun t27 =>
  Option.bind (chance_worlds_1_m 0 1 t24 e_0 e_1 e_2 g_0 t27) fun t31 =>
  some (q22, t31.1)

theorem chance_worlds_ok {g_0 : T_api_Graph} {o_1 : T_api_Odds} {e_0 : Int} {e_1 : Int} {e_2 : Int} {be_0 : Nat} {be_1 : Nat} {be_2 : Nat} {r : Int × Int} (hm : chance_worlds_m g_0 o_1 e_0 e_1 e_2 = some r) :
    FnOk prog 37 [ag [iv .i64 g_0.N, slv rT_api_Pair g_0.L], ag [slv rT_api_Fraction o_1.Nodes, slv rT_api_Fraction o_1.Attacks], pv (.func (.func 58) #[] #[(ptr be_0 0), (ptr be_1 0), (ptr be_2 0)])] [oc be_0 [iv .u64 e_0], oc be_1 [iv .i64 e_1], oc be_2 [iv .i64 e_2], tbO (rI .u8) 0 tab_0] (fun (x : Unit) => [iv .i64 r.1]) (fun (x : Unit) => [oc be_0 [iv .u64 e_0], oc be_1 [iv .i64 e_1], oc be_2 [iv .i64 r.2], tbO (rI .u8) 0 tab_0]) := by
  refine fn_ok (fn := Tryd.f37) (N := 45) (res := fun r x => [iv .i64 r.1]) (Ω1 := fun r x => [oc be_0 [iv .u64 e_0], oc be_1 [iv .i64 e_1], oc be_2 [iv .i64 r.2], tbO (rI .u8) 0 tab_0]) Tryd.func37 rfl rfl hm rfl (fun E hM => ?_)
  unfold chance_worlds_m
  refine ref_seq (ref_region ?_)
  refine s_st (s_box (part_agO (ψs := [iv .i64 g_0.N, slv rT_api_Pair g_0.L]) rfl ⟨.inl iv_at, .inl slv_at, trivial⟩)) rfl (fun b1 => ?_)
  refine s_st (s_box (part_agO (ψs := [slv rT_api_Fraction o_1.Nodes, slv rT_api_Fraction o_1.Attacks]) rfl ⟨.inl slv_at, .inl slv_at, trivial⟩)) rfl (fun b2 => ?_)
  refine s_st (s_box (part_at (φ := pv (.func (.func 58) #[] #[(ptr be_0 0), (ptr be_1 0), (ptr be_2 0)])) rfl (pv_at rfl))) rfl (fun b3 => ?_)
  refine as1 rfl rfl ?_
  refine l_nil (n_then (ref_seq (ref_region ?_)))
  refine as1 rfl rfl ?_
  refine l_nil (n_then (ref_seq (ref_seq (ref_region ?_))))
  refine s_rd (r_faddr (fo := 0) Tryd.underlying31 rfl rfl Tryd.sizeOf29 rfl) rfl ?_
  refine s_rd (r_cload Tryd.isAgg29 rfl (j := 5) rfl rfl) rfl ?_
  refine s_rd (r_faddr (fo := 1) Tryd.underlying31 rfl rfl Tryd.sizeOf29 rfl) rfl ?_
  refine s_rd (r_cload Tryd.isAgg29 rfl (j := 5) rfl rfl) rfl ?_
  refine s_st (s_bslice (xs := [.tmp 14, .tmp 16]) (ds := [o_1.Nodes, o_1.Attacks]) Tryd.underlying106 el_29 rfl (Nat.le_of_ble_eq_true rfl) ⟨(part_at rfl slv_at), ⟨(part_at rfl slv_at), trivial⟩⟩) rfl (fun _ => ?_)
  refine pull fun t4 h_t4 => ?_
  refine s_st (s_call (ψ := fun (x5 : (Value × List Nat)) => pv x5.1) (args := [.tmp 17]) Tryd.call56 rfl (slices_Concat_api_Fraction_api_Fraction_ok h_t4) ⟨arg rfl, trivial⟩ (fun _ _ _ _ h => h)) rfl (fun x5 => ?_)
  refine s_rd (r_olen Tryd.underlying29 rfl (j := 7) rfl) rfl ?_
  refine mv1 rfl rfl ?_
  refine l_nil ?_
  refine b_of (nrm [oc be_0 [iv .u64 e_0], oc be_1 [iv .i64 e_1], oc be_2 [iv .i64 e_2], tbO (rI .u8) 0 tab_0, oc b1 [iv .i64 g_0.N, slv rT_api_Pair g_0.L], oc b2 [slv rT_api_Fraction o_1.Nodes, slv rT_api_Fraction o_1.Attacks], oc b3 [pv (.func (.func 58) #[] #[(ptr be_0 0), (ptr be_1 0), (ptr be_2 0)])], oa rT_api_Fraction x5.1 x5.2 t4] rfl) ?_
  refine n_then ?_
  refine ref_loopB (f := (chance_worlds_l1 t4)) (Γl := (fun (s14 : Int × Int) (x15 : Unit) => [(2, pv (.func (.func 58) #[] #[(ptr be_0 0), (ptr be_1 0), (ptr be_2 0)])), (3, pv (ptr b1 0)), (4, pv (ptr b2 0)), (5, pv (ptr b3 0)), (7, iv .i64 s14.1), (18, pv x5.1), (19, iv .i64 (t4.length : Int)), (20, iv .i64 s14.2)])) (Ωl := (fun (s14 : Int × Int) (x15 : Unit) => [tbO (rI .u8) 0 tab_0, oc be_0 [iv .u64 e_0], oc be_1 [iv .i64 e_1], oc be_2 [iv .i64 e_2], oc b1 [iv .i64 g_0.N, slv rT_api_Pair g_0.L], oc b2 [slv rT_api_Fraction o_1.Nodes, slv rT_api_Fraction o_1.Attacks], oc b3 [pv (.func (.func 58) #[] #[(ptr be_0 0), (ptr be_1 0), (ptr be_2 0)])], oa rT_api_Fraction x5.1 x5.2 t4])) (Γb := (fun (q22 : Int) (y23 : Unit) => [(2, pv (.func (.func 58) #[] #[(ptr be_0 0), (ptr be_1 0), (ptr be_2 0)])), (3, pv (ptr b1 0)), (4, pv (ptr b2 0)), (5, pv (ptr b3 0)), (7, iv .i64 q22)])) (Ωb := (fun (q22 : Int) (y23 : Unit) => [oc be_0 [iv .u64 e_0], oc be_1 [iv .i64 e_1], oc be_2 [iv .i64 e_2], oc b1 [iv .i64 g_0.N, slv rT_api_Pair g_0.L], oc b2 [slv rT_api_Fraction o_1.Nodes, slv rT_api_Fraction o_1.Attacks], oc b3 [pv (.func (.func 58) #[] #[(ptr be_0 0), (ptr be_1 0), (ptr be_2 0)])], tbO (rI .u8) 0 tab_0])) (1, 0) () (weak [3, 0, 1, 2, 4, 5, 6, 7] ⟨rfl, rfl, rfl, rfl, rfl, rfl, rfl, rfl, trivial⟩ ⟨rfl, rfl, rfl, rfl, rfl, rfl, rfl, rfl, trivial⟩) (fun s14 x15 => ?_) (fun q22 y23 => ?_)
  · unfold chance_worlds_l1
    refine ref_seq (ref_region ?_)
    refine s_rd (r_lss rfl rfl) rfl ?_
    refine l_nil (n_then (ref_seq ?_))
    refine ref_cond rfl (fun hb16 => ?_) (fun hb16 => ?_)
    · refine ref_skip (n_then (ref_seq (ref_block (ref_seq (ref_region ?_)))))
      refine pull fun t17 h_t17 => ?_
      refine s_rd (r_oindex h_t17 Tryd.underlying29 el_36 rfl (j := 7) rfl rfl) rfl ?_
      refine s_rd (r_oload h_t17 el_36 rfl (j := 7) rfl) rfl ?_
      refine s_st (s_alloc zt_36) rfl (fun b18 => ?_)
      refine s_st0 (s_cstore (out := [iv .i64 t17.Num, iv .i64 t17.Den]) Tryd.sizeOf36 rfl (j := 8) rfl (part_agO (ψs := [iv .i64 t17.Num, iv .i64 t17.Den]) rfl ⟨.inl iv_at, .inl iv_at, trivial⟩) rfl rfl rfl) (fun _ => ?_)
      refine l_nil (n_then (ref_seq (ref_region ?_)))
      refine s_rd (r_cloadS Tryd.isAgg36 Tryd.sizeOf36 rfl (j := 8) rfl rfl rfl) rfl ?_
      refine pull fun t19 h_t19 => ?_
      refine s_st (s_call (ψ := fun (_ : Unit) => bv t19) (args := [.tmp 24]) Tryd.call57 rfl (chance_certain_ok h_t19) ⟨arg rfl, trivial⟩ (fun _ _ _ _ h => h)) rfl (fun _ => ?_)
      refine s_rd (r_not rfl) rfl ?_
      refine l_nil (n_then ?_)
      refine ref_cond rfl (fun hb20 => ?_) (fun hb20 => ?_)
      · refine ref_region ?_
        refine mv1 rfl rfl ?_
        refine s_rd (r_faddr (fo := 1) Tryd.underlying36 rfl rfl Tryd.sizeOf3 rfl) rfl ?_
        refine s_rd (r_cload Tryd.isAgg3 rfl (j := 8) rfl rfl) rfl ?_
        refine s_rd (r_mul rfl rfl) rfl ?_
        refine as1 rfl rfl ?_
        refine b_let (f := iv .i64) (t := 7) rfl fun total21 => ?_
        refine l_nil (n_block (n_then (ref_region ?_)))
        refine s_rd (r_add rfl rfl) rfl ?_
        refine mv1 rfl rfl ?_
        refine l_nil ?_
        exact goB () (weak [0, 1, 2, 3, 4, 5, 6, 7] ⟨rfl, rfl, rfl, rfl, rfl, rfl, rfl, rfl, trivial⟩ ⟨rfl, rfl, rfl, rfl, rfl, rfl, rfl, rfl, trivial⟩)
      refine ref_skip (n_block (n_then (ref_region ?_)))
      refine s_rd (r_add rfl rfl) rfl ?_
      refine mv1 rfl rfl ?_
      refine l_nil ?_
      exact goB () (weak [0, 1, 2, 3, 4, 5, 6, 7] ⟨rfl, rfl, rfl, rfl, rfl, rfl, rfl, rfl, trivial⟩ ⟨rfl, rfl, rfl, rfl, rfl, rfl, rfl, rfl, trivial⟩)
    refine ref_exit (x_then ?_)
    exact brkB () (weak [1, 2, 3, 4, 5, 6, 0] ⟨rfl, rfl, rfl, rfl, rfl, trivial⟩ ⟨rfl, rfl, rfl, rfl, rfl, rfl, rfl, trivial⟩)
  refine n_then (ref_seq (ref_region ?_))
  refine s_rd (r_faddr (fo := 0) Tryd.underlying31 rfl rfl Tryd.sizeOf29 rfl) rfl ?_
  refine s_rd (r_cload Tryd.isAgg29 rfl (j := 4) rfl rfl) rfl ?_
  refine s_rd (r_faddr (fo := 1) Tryd.underlying31 rfl rfl Tryd.sizeOf29 rfl) rfl ?_
  refine s_rd (r_cload Tryd.isAgg29 rfl (j := 4) rfl rfl) rfl ?_
  refine s_st (s_bslice (xs := [.tmp 33, .tmp 35]) (ds := [o_1.Nodes, o_1.Attacks]) Tryd.underlying106 el_29 rfl (Nat.le_of_ble_eq_true rfl) ⟨(part_at rfl slv_at), ⟨(part_at rfl slv_at), trivial⟩⟩) rfl (fun _ => ?_)
  refine pull fun t24 h_t24 => ?_
  refine s_st (s_call (ψ := fun (x25 : (Value × List Nat)) => pv x25.1) (args := [.tmp 36]) Tryd.call56 rfl (slices_Concat_api_Fraction_api_Fraction_ok h_t24) ⟨arg rfl, trivial⟩ (fun _ _ _ _ h => h)) rfl (fun x25 => ?_)
  refine s_st (s_alloc zt_29) rfl (fun b26 => ?_)
  refine s_st0 (s_cstore (out := [pv x25.1]) Tryd.sizeOf29 rfl (j := 8) rfl (part_own rfl (j := 7) rfl) rfl rfl rfl) (fun _ => ?_)
  refine l_nil ?_
  refine b_of (nrm [oc be_0 [iv .u64 e_0], oc be_1 [iv .i64 e_1], oc be_2 [iv .i64 e_2], oc b1 [iv .i64 g_0.N, slv rT_api_Pair g_0.L], oc b2 [slv rT_api_Fraction o_1.Nodes, slv rT_api_Fraction o_1.Attacks], oc b3 [pv (.func (.func 58) #[] #[(ptr be_0 0), (ptr be_1 0), (ptr be_2 0)])], tbO (rI .u8) 0 tab_0, oa rT_api_Fraction x25.1 x25.2 t24, oc b26 [pv x25.1]] rfl) ?_
  refine n_then (ref_seq (ref_region ?_))
  refine s_rd (r_cload Tryd.isAgg29 rfl (j := 8) rfl rfl) rfl ?_
  refine s_rd (r_olen Tryd.underlying29 rfl (j := 7) rfl) rfl ?_
  refine pull fun t27 h_t27 => ?_
  refine s_st (s_make h_t27 Tryd.underlying97 el_4 ze_4 rfl rfl) rfl (fun o28 => ?_)
  refine s_st (s_alloc zt_97) rfl (fun b29 => ?_)
  refine s_st0 (s_cstore (out := [pv o28.1]) Tryd.sizeOf97 rfl (j := 10) rfl (part_own rfl (j := 9) rfl) rfl rfl rfl) (fun _ => ?_)
  refine l_nil (n_then (ref_seq (ref_region ?_)))
  refine s_st (s_alloc zt_98) rfl (fun b30 => ?_)
  refine l_nil ?_
  refine b_of (nrm [oc be_0 [iv .u64 e_0], oc be_1 [iv .i64 e_1], oc be_2 [iv .i64 e_2], oc b1 [iv .i64 g_0.N, slv rT_api_Pair g_0.L], oc b2 [slv rT_api_Fraction o_1.Nodes, slv rT_api_Fraction o_1.Attacks], oc b3 [pv (.func (.func 58) #[] #[(ptr be_0 0), (ptr be_1 0), (ptr be_2 0)])], tbO (rI .u8) 0 tab_0, oa rT_api_Fraction x25.1 x25.2 t24, oc b26 [pv x25.1], oa rB o28.1 o28.2 t27, oc b29 [pv o28.1], oc b30 [pv .nilFunc]] rfl) ?_
  refine n_then (ref_seq (ref_region ?_))
  refine s_rd (r_mkfn (xs := [.tmp 10, .tmp 5, .tmp 3, .tmp 11, .tmp 12]) (vs := [(ptr b26 0), (ptr b3 0), (ptr b1 0), (ptr b29 0), (ptr b30 0)]) ⟨rfl, rfl, rfl, rfl, rfl, trivial⟩) rfl ?_
  refine s_st0 (s_cstore (out := [pv (.func (.func 62) #[] #[(ptr b26 0), (ptr b3 0), (ptr b1 0), (ptr b29 0), (ptr b30 0)])]) Tryd.sizeOf98 rfl (j := 11) rfl (part_at (φ := pv (.func (.func 62) #[] #[(ptr b26 0), (ptr b3 0), (ptr b1 0), (ptr b29 0), (ptr b30 0)])) rfl (pv_at rfl)) rfl rfl rfl) (fun _ => ?_)
  refine l_nil (n_then (ref_seq (ref_region ?_)))
  refine s_rd (r_cload Tryd.isAgg98 rfl (j := 11) rfl rfl) rfl ?_
  refine pull fun t31 h_t31 => ?_
  refine s_st (s_callC [8, 7, 5, 0, 1, 2, 3, 10, 9, 11, 6] [true, true, true, true, true, true, true, true, true, true, true] (fun (_ : Unit) => [oc b26 [pv x25.1], oa rT_api_Fraction x25.1 x25.2 t24, oc b3 [pv (.func (.func 58) #[] #[(ptr be_0 0), (ptr be_1 0), (ptr be_2 0)])], oc be_0 [iv .u64 e_0], oc be_1 [iv .i64 e_1], oc be_2 [iv .i64 t31.1], oc b1 [iv .i64 g_0.N, slv rT_api_Pair g_0.L], oc b29 [pv o28.1], oa rB o28.1 o28.2 t31.2, oc b30 [pv (.func (.func 62) #[] #[(ptr b26 0), (ptr b3 0), (ptr b1 0), (ptr b29 0), (ptr b30 0)])], tbO (rI .u8) 0 tab_0]) (fun (_ : Unit) => []) (fun (_ : Unit) => tup []) (args := [.const (.int .i64 (0)), .const (.int .i64 (1))]) (caps := [(ptr b26 0), (ptr b3 0), (ptr b1 0), (ptr b29 0), (ptr b30 0)]) Tryd.call62 rfl (chance_worlds_1_ok h_t31) ⟨rfl, rfl, ⟨rfl, rfl, ⟨rfl, rfl, ⟨rfl, rfl, ⟨rfl, rfl, ⟨rfl, rfl, ⟨rfl, rfl, ⟨rfl, rfl, ⟨rfl, rfl, ⟨rfl, rfl, ⟨rfl, rfl, trivial⟩⟩⟩⟩⟩⟩⟩⟩⟩⟩⟩ (fun _ => rfl) (fun _ => trivial) (fun _ => rfl) ⟨arg rfl, arg rfl, arg rfl, arg rfl, arg rfl, arg rfl, arg rfl, trivial⟩ (fun _ _ _ _ h => h)) rfl (fun _ => ?_)
  refine l_nil ?_
  refine b_of (nrm [oc be_0 [iv .u64 e_0], oc be_1 [iv .i64 e_1], oc be_2 [iv .i64 t31.1], oc b1 [iv .i64 g_0.N, slv rT_api_Pair g_0.L], oc b2 [slv rT_api_Fraction o_1.Nodes, slv rT_api_Fraction o_1.Attacks], oc b3 [pv (.func (.func 58) #[] #[(ptr be_0 0), (ptr be_1 0), (ptr be_2 0)])], tbO (rI .u8) 0 tab_0, oa rT_api_Fraction x25.1 x25.2 t24, oc b26 [pv x25.1], oa rB o28.1 o28.2 t31.2, oc b29 [pv o28.1], oc b30 [pv (.func (.func 62) #[] #[(ptr b26 0), (ptr b3 0), (ptr b1 0), (ptr b29 0), (ptr b30 0)])]] rfl) ?_
  refine n_then (ref_seq (ref_region ?_))
  refine mv1 rfl rfl ?_
  refine as1 rfl rfl ?_
  refine l_nil (n_then (ref_ret ?_))
  exact fin1 (.inl rfl) () [0, 1, 2, 6] rfl ⟨rfl, rfl, rfl, rfl, trivial⟩ rfl (rv_tmp rfl)

end Go.Dc
