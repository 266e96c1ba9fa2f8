/- Part LAW22A.A2 of a proof: lemmas. -/
import Derived.Test.YtmbflfngkcmfeaaDoorLAW22AA1
import Derived.Test.YtmbflfngkcmfeaaDoorProg
set_option linter.unusedVariables false
set_option maxRecDepth 100000
set_option maxHeartbeats 4000000
namespace Go.Dc
open Go.Proofs
open Go.Proofs.Tryd (prog)

/-! deliberation/degree.without -/
noncomputable def degree_without_2_l1 (g_0 : T_api_Graph) (e_0 : (List Int)) (e_1 : Int) (s31 : Int × (List T_api_Pair)) : Option (Sum ((List T_api_Pair)) (Int × (List T_api_Pair))) :=
  bif decide (s31.1 < (g_0.L.length : Int)) then
    Option.bind (idxM g_0.L s31.1) fun t34 =>
    Option.bind (degree_Cut_1_m s31.1 e_0 e_1) fun t36 =>
    bif t36 then
      Option.bind (appM 16 s31.2 [t34]) fun t38 =>
      some (Sum.inr (iadd .i64 s31.1 1, t38))
    else
      some (Sum.inr (iadd .i64 s31.1 1, s31.2))
  else
    some (Sum.inl s31.2)

noncomputable def degree_without_2_m (g_0 : T_api_Graph) (e_0 : (List Int)) (e_1 : Int) : Option (T_api_Graph) :=
  Option.bind (loopC (degree_without_2_l1 g_0 e_0 e_1) (0, [])) fun q40 : (List T_api_Pair) =>
  some (T_api_Graph.mk g_0.N q40)

theorem degree_without_2_ok {g_0 : T_api_Graph} {e_0 : (List Int)} {e_1 : Int} {be_0 : Nat} {be_1 : Nat} {r : T_api_Graph} (hm : degree_without_2_m g_0 e_0 e_1 = some r) :
    FnOk prog 40 [ag [iv .i64 g_0.N, slv rT_api_Pair g_0.L], pv (.func (.func 67) #[] #[(ptr be_0 0), (ptr be_1 0)])] [oc be_0 [slv (rI .i64) e_0], oc be_1 [iv .i64 e_1]] (fun (x : Unit) => [ag [iv .i64 r.N, slv rT_api_Pair r.L]]) (fun (x : Unit) => [oc be_0 [slv (rI .i64) e_0], oc be_1 [iv .i64 e_1]]) := by
  refine fn_ok (fn := Tryd.f40) (N := 30) (res := fun r x => [ag [iv .i64 r.N, slv rT_api_Pair r.L]]) (Ω1 := fun r x => [oc be_0 [slv (rI .i64) e_0], oc be_1 [iv .i64 e_1]]) Tryd.func40 rfl rfl hm rfl (fun E hM => ?_)
  unfold degree_without_2_m
  refine ref_seq (ref_region ?_)
  refine s_st (s_box (part_agO (ψs := [iv .i64 g_0.N, slv rT_api_Pair g_0.L]) rfl ⟨.inl iv_at, .inl slv_at, trivial⟩)) rfl (fun b1 => ?_)
  refine s_st (s_alloc zt_27) rfl (fun b2 => ?_)
  refine l_nil (n_then (ref_seq (ref_region ?_)))
  refine s_rd (r_faddr (fo := 0) Tryd.underlying27 rfl rfl Tryd.sizeOf3 rfl) rfl ?_
  refine s_rd (r_cload Tryd.isAgg3 rfl (j := 2) rfl rfl) rfl ?_
  refine s_rd (r_build (ps := [(0, .tmp 9)]) (rs := [(0, [iv .i64 g_0.N])]) st_27 zs_27 ⟨rfl, (part_at rfl iv_at), trivial⟩ rfl rfl) rfl ?_
  refine s_st (s_alloc zt_27) rfl (fun b3 => ?_)
  refine s_st0 (s_cstore (out := [iv .i64 g_0.N, pv (.slice none 0 0)]) Tryd.sizeOf27 rfl (j := 4) rfl (part_agO (ψs := [iv .i64 g_0.N, pv (.slice none 0 0)]) rfl ⟨.inl iv_at, .inl (pv_at rfl), trivial⟩) rfl rfl rfl) (fun _ => ?_)
  refine l_nil ?_
  refine b_of (nrm [oc be_0 [slv (rI .i64) e_0], oc be_1 [iv .i64 e_1], oc b1 [iv .i64 g_0.N, slv rT_api_Pair g_0.L], oc b2 [iv .i64 0, pv (.slice none 0 0)], oc b3 [iv .i64 g_0.N, pv (.slice none 0 0)]] rfl) ?_
  refine n_then (ref_seq (ref_seq (ref_region ?_)))
  refine s_rd (r_faddr (fo := 1) Tryd.underlying27 rfl rfl Tryd.sizeOf25 rfl) rfl ?_
  refine s_rd (r_cload Tryd.isAgg25 rfl (j := 2) rfl rfl) rfl ?_
  refine s_rd (r_len Tryd.underlying25 rfl) rfl ?_
  refine mv1 rfl rfl ?_
  refine l_nil (n_then ?_)
  refine b_of (own_nil rT_api_Pair) ?_
  refine ref_loopB (f := (degree_without_2_l1 g_0 e_0 e_1)) (Γl := (fun (s31 : Int × (List T_api_Pair)) (x32 : (Value × List Nat)) => [(1, pv (.func (.func 67) #[] #[(ptr be_0 0), (ptr be_1 0)])), (4, pv (ptr b2 0)), (5, pv (ptr b3 0)), (12, slv rT_api_Pair g_0.L), (13, iv .i64 (g_0.L.length : Int)), (14, iv .i64 s31.1)])) (Ωl := (fun (s31 : Int × (List T_api_Pair)) (x32 : (Value × List Nat)) => [oc be_0 [slv (rI .i64) e_0], oc be_1 [iv .i64 e_1], oc b2 [iv .i64 0, pv (.slice none 0 0)], oc b3 [iv .i64 g_0.N, pv x32.1], oa rT_api_Pair x32.1 x32.2 s31.2])) (Γb := (fun (q40 : (List T_api_Pair)) (y41 : (Value × List Nat)) => [(1, pv (.func (.func 67) #[] #[(ptr be_0 0), (ptr be_1 0)])), (4, pv (ptr b2 0)), (5, pv (ptr b3 0))])) (Ωb := (fun (q40 : (List T_api_Pair)) (y41 : (Value × List Nat)) => [oc be_0 [slv (rI .i64) e_0], oc be_1 [iv .i64 e_1], oc b2 [iv .i64 0, pv (.slice none 0 0)], oc b3 [iv .i64 g_0.N, pv y41.1], oa rT_api_Pair y41.1 y41.2 q40])) (0, []) ((.slice none 0 0), []) (weak [0, 1, 3, 4, 5] ⟨rfl, rfl, rfl, rfl, rfl, rfl, trivial⟩ ⟨rfl, rfl, rfl, rfl, rfl, trivial⟩) (fun s31 x32 => ?_) (fun q40 y41 => ?_)
  · unfold degree_without_2_l1
    refine ref_seq (ref_region ?_)
    refine s_rd (r_lss rfl rfl) rfl ?_
    refine l_nil (n_then (ref_seq ?_))
    refine ref_cond rfl (fun hb33 => ?_) (fun hb33 => ?_)
    · refine ref_skip (n_then (ref_seq (ref_block (ref_seq (ref_region ?_)))))
      refine mv1 rfl rfl ?_
      refine pull fun t34 h_t34 => ?_
      refine s_rd (r_index h_t34 Tryd.underlying25 el_56 rfl rfl) rfl ?_
      refine s_rd (r_load el_56 rfl) rfl ?_
      refine s_st (s_alloc zt_56) rfl (fun b35 => ?_)
      refine as1 rfl rfl ?_
      refine s_st0 (s_cstore (out := [iv .i64 t34.From, iv .i64 t34.To]) Tryd.sizeOf56 rfl (j := 5) rfl (part_agO (ψs := [iv .i64 t34.From, iv .i64 t34.To]) rfl ⟨.inl iv_at, .inl iv_at, trivial⟩) rfl rfl rfl) (fun _ => ?_)
      refine l_nil (n_then (ref_seq (ref_region ?_)))
      refine mv1 rfl rfl ?_
      refine mv1 rfl rfl ?_
      refine pull fun t36 h_t36 => ?_
      refine s_st (s_callC [0, 1] [true, true] (fun (_ : Unit) => [oc be_0 [slv (rI .i64) e_0], oc be_1 [iv .i64 e_1]]) (fun (_ : Unit) => []) (fun (_ : Unit) => bv t36) (args := [.tmp 20]) (caps := [(ptr be_0 0), (ptr be_1 0)]) Tryd.call67 rfl (degree_Cut_1_ok h_t36) ⟨rfl, rfl, ⟨rfl, rfl, trivial⟩⟩ (fun _ => rfl) (fun _ => trivial) (fun _ => rfl) ⟨arg rfl, arg rfl, arg rfl, trivial⟩ (fun _ _ _ _ h => h)) rfl (fun _ => ?_)
      refine l_nil (n_then ?_)
      refine ref_cond rfl (fun hb37 => ?_) (fun hb37 => ?_)
      · refine ref_region ?_
        refine s_rd (r_faddr (fo := 1) Tryd.underlying27 rfl rfl Tryd.sizeOf25 rfl) rfl ?_
        refine s_rd (r_cload Tryd.isAgg25 rfl (j := 3) rfl rfl) rfl ?_
        refine s_rd (r_cloadS Tryd.isAgg56 Tryd.sizeOf56 rfl (j := 5) rfl rfl rfl) rfl ?_
        refine s_st (s_bslice (xs := [.tmp 24]) (ds := [t34]) Tryd.underlying25 el_56 rfl (Nat.le_of_ble_eq_true rfl) ⟨(part_agO (ψs := [iv .i64 t34.From, iv .i64 t34.To]) rfl ⟨.inl iv_at, .inl iv_at, trivial⟩), trivial⟩) rfl (fun _ => ?_)
        refine pull fun t38 h_t38 => ?_
        refine s_st (s_append h_t38 Tryd.underlying25 el_56 rfl (j := 4) rfl rfl) rfl (fun o39 => ?_)
        refine s_rd (r_faddr (fo := 1) Tryd.underlying27 rfl rfl Tryd.sizeOf25 rfl) rfl ?_
        refine s_st0 (s_cstore (out := [iv .i64 g_0.N, pv o39.1]) Tryd.sizeOf25 rfl (j := 3) rfl (part_own rfl (j := 4) rfl) rfl rfl rfl) (fun _ => ?_)
        refine l_nil ?_
        refine b_of (nrm [oc be_0 [slv (rI .i64) e_0], oc be_1 [iv .i64 e_1], oc b2 [iv .i64 0, pv (.slice none 0 0)], oc b3 [iv .i64 g_0.N, pv o39.1], oa rT_api_Pair o39.1 o39.2 t38, oc b35 [iv .i64 t34.From, iv .i64 t34.To]] rfl) ?_
        refine n_block (n_then (ref_region ?_))
        refine s_rd (r_add rfl rfl) rfl ?_
        refine mv1 rfl rfl ?_
        refine l_nil ?_
        exact goB o39 (weak [0, 1, 2, 3, 4] ⟨rfl, rfl, rfl, rfl, rfl, rfl, trivial⟩ ⟨rfl, rfl, rfl, rfl, rfl, trivial⟩)
      refine ref_skip (n_block (n_then (ref_region ?_)))
      refine s_rd (r_add rfl rfl) rfl ?_
      refine mv1 rfl rfl ?_
      refine l_nil ?_
      exact goB x32 (weak [0, 1, 2, 3, 4] ⟨rfl, rfl, rfl, rfl, rfl, rfl, trivial⟩ ⟨rfl, rfl, rfl, rfl, rfl, trivial⟩)
    refine ref_exit (x_then ?_)
    exact brkB x32 (weak [0, 1, 2, 3, 4] ⟨rfl, rfl, rfl, trivial⟩ ⟨rfl, rfl, rfl, rfl, rfl, trivial⟩)
  refine n_then (ref_seq (ref_region ?_))
  refine s_rd (r_cloadS Tryd.isAgg27 Tryd.sizeOf27 rfl (j := 3) rfl rfl rfl) rfl ?_
  refine s_st0 (s_cstore (out := [iv .i64 g_0.N, pv y41.1]) Tryd.sizeOf27 rfl (j := 2) rfl (part_agO (ψs := [iv .i64 g_0.N, pv y41.1]) rfl ⟨.inl iv_at, .inr ⟨_, _, _, _, _, 4, rfl, rfl⟩, trivial⟩) rfl rfl rfl) (fun _ => ?_)
  refine l_nil (n_then (ref_ret ?_))
  refine b_of (frzGL [(29, ag [iv .i64 g_0.N, slv rT_api_Pair q40])] [(2, b2, [iv .i64 g_0.N, slv rT_api_Pair q40]), (3, b3, [iv .i64 g_0.N, slv rT_api_Pair q40])] (j := 4) rfl ⟨⟨_, rfl, .inr ⟨_, _, rfl, rfl, ⟨.inl rfl, .inr ⟨rfl, rfl⟩, trivial⟩⟩⟩, trivial⟩ ⟨⟨_, rfl, ⟨.inl rfl, .inr ⟨rfl, rfl⟩, trivial⟩⟩, ⟨_, rfl, ⟨.inl rfl, .inr ⟨rfl, rfl⟩, trivial⟩⟩, trivial⟩) ?_
  refine b_of (nrm [oc be_0 [slv (rI .i64) e_0], oc be_1 [iv .i64 e_1], oc b2 [iv .i64 g_0.N, slv rT_api_Pair q40], oc b3 [iv .i64 g_0.N, slv rT_api_Pair q40], dead] rfl) ?_
  exact fin1 (.inl rfl) () [0, 1] rfl ⟨rfl, rfl, trivial⟩ rfl (rv_cell rfl (j := 2) rfl Tryd.isAgg27 Tryd.sizeOf27 rfl rfl)

/-! deliberation/degree.Cut -/
noncomputable def degree_Cut_m (g_0 : T_api_Graph) (weights_1 : (List Int)) (t_2 : Int) : Option (T_api_Graph × Int) :=
  Option.bind (graph_Validate_m g_0) fun e5 =>
  bif e5 != 0 then
    some ((T_api_Graph.mk 0 []), e5)
  else
    Option.bind (degree_weighs_m g_0 weights_1) fun t7 =>
    bif !t7 then
      some ((T_api_Graph.mk 0 []), 1)
    else
      Option.bind (degree_without_2_m g_0 weights_1 t_2) fun t9 =>
      some (t9, 0)

theorem degree_Cut_ok {g_0 : T_api_Graph} {weights_1 : (List Int)} {t_2 : Int} {r : T_api_Graph × Int} (hm : degree_Cut_m g_0 weights_1 t_2 = some r) :
    FnOk prog 29 [ag [iv .i64 g_0.N, slv rT_api_Pair g_0.L], slv (rI .i64) weights_1, iv .i64 t_2] [] (fun (x : Unit) => [ag [iv .i64 r.1.N, slv rT_api_Pair r.1.L], iv .i64 r.2]) (fun (x : Unit) => []) := by
  refine fn_ok (fn := Tryd.f29) (N := 23) (res := fun r x => [ag [iv .i64 r.1.N, slv rT_api_Pair r.1.L], iv .i64 r.2]) (Ω1 := fun r x => []) Tryd.func29 rfl rfl hm rfl (fun E hM => ?_)
  unfold degree_Cut_m
  refine ref_seq (ref_region ?_)
  refine s_st (s_box (part_agO (ψs := [iv .i64 g_0.N, slv rT_api_Pair g_0.L]) rfl ⟨.inl iv_at, .inl slv_at, trivial⟩)) rfl (fun b1 => ?_)
  refine s_st (s_box (part_at rfl slv_at)) rfl (fun b2 => ?_)
  refine s_st (s_box (part_at rfl iv_at)) rfl (fun b3 => ?_)
  refine s_st (s_alloc zt_27) rfl (fun b4 => ?_)
  refine as1 rfl rfl ?_
  refine l_nil ?_
  refine b_of (nrm [oc b1 [iv .i64 g_0.N, slv rT_api_Pair g_0.L], oc b2 [slv (rI .i64) weights_1], oc b3 [iv .i64 t_2], oc b4 [iv .i64 0, pv (.slice none 0 0)]] rfl) ?_
  refine n_then (ref_seq (ref_seq (ref_region ?_)))
  refine s_rd (r_cloadS Tryd.isAgg27 Tryd.sizeOf27 rfl (j := 0) rfl rfl rfl) rfl ?_
  refine pull fun e5 h_e5 => ?_
  refine s_st (s_call (ψ := fun (_ : Unit) => iv .i64 e5) (args := [.tmp 9]) Tryd.call36 rfl (graph_Validate_ok h_e5) ⟨arg rfl, trivial⟩ (fun _ _ _ _ h => h)) rfl (fun _ => ?_)
  refine as1 rfl rfl ?_
  refine l_nil (n_then (ref_seq (ref_region ?_)))
  refine mv1 rfl rfl ?_
  refine s_rd (r_neq rfl rfl) rfl ?_
  refine l_nil (n_then ?_)
  refine ref_cond rfl (fun hb6 => ?_) (fun hb6 => ?_)
  · refine ref_seq (ref_region ?_)
    refine s_rd (r_build (ps := []) (rs := []) st_27 zs_27 trivial rfl rfl) rfl ?_
    refine mv1 rfl rfl ?_
    refine s_st0 (s_cstore (out := [iv .i64 0, pv (.slice none 0 0)]) Tryd.sizeOf27 rfl (j := 3) rfl (part_agO (ψs := [iv .i64 0, pv (.slice none 0 0)]) rfl ⟨.inl iv_at, .inl (pv_at rfl), trivial⟩) rfl rfl rfl) (fun _ => ?_)
    refine as1 rfl rfl ?_
    refine l_nil (n_then (ref_ret (r_then ?_)))
    refine b_of (ocW 3 [iv .i64 0, slv rT_api_Pair []] rfl ⟨imp_rfl, nil_sl, trivial⟩) ?_
    exact fin2 (.inl rfl) () [] rfl trivial rfl (rv_cell rfl (j := 3) rfl Tryd.isAgg27 Tryd.sizeOf27 rfl rfl) (rv_tmp rfl)
  refine ref_skip (n_then (ref_seq (ref_seq (ref_region ?_))))
  refine s_rd (r_cloadS Tryd.isAgg27 Tryd.sizeOf27 rfl (j := 0) rfl rfl rfl) rfl ?_
  refine s_rd (r_cload Tryd.isAgg22 rfl (j := 1) rfl rfl) rfl ?_
  refine pull fun t7 h_t7 => ?_
  refine s_st (s_call (ψ := fun (_ : Unit) => bv t7) (args := [.tmp 15, .tmp 16]) Tryd.call37 rfl (degree_weighs_ok h_t7) ⟨arg rfl, arg rfl, trivial⟩ (fun _ _ _ _ h => h)) rfl (fun _ => ?_)
  refine s_rd (r_not rfl) rfl ?_
  refine l_nil (n_then ?_)
  refine ref_cond rfl (fun hb8 => ?_) (fun hb8 => ?_)
  · refine ref_seq (ref_region ?_)
    refine s_rd (r_build (ps := []) (rs := []) st_27 zs_27 trivial rfl rfl) rfl ?_
    refine s_st0 (s_cstore (out := [iv .i64 0, pv (.slice none 0 0)]) Tryd.sizeOf27 rfl (j := 3) rfl (part_agO (ψs := [iv .i64 0, pv (.slice none 0 0)]) rfl ⟨.inl iv_at, .inl (pv_at rfl), trivial⟩) rfl rfl rfl) (fun _ => ?_)
    refine as1 rfl rfl ?_
    refine l_nil (n_then (ref_ret (r_then ?_)))
    refine b_of (ocW 3 [iv .i64 0, slv rT_api_Pair []] rfl ⟨imp_rfl, nil_sl, trivial⟩) ?_
    exact fin2 (.inl rfl) () [] rfl trivial rfl (rv_cell rfl (j := 3) rfl Tryd.isAgg27 Tryd.sizeOf27 rfl rfl) (rv_tmp rfl)
  refine ref_skip (n_then (ref_seq (ref_region ?_)))
  refine s_rd (r_cloadS Tryd.isAgg27 Tryd.sizeOf27 rfl (j := 0) rfl rfl rfl) rfl ?_
  refine s_rd (r_mkfn (xs := [.tmp 4, .tmp 5]) (vs := [(ptr b2 0), (ptr b3 0)]) ⟨rfl, rfl, trivial⟩) rfl ?_
  refine pull fun t9 h_t9 => ?_
  refine s_st (s_callC [1, 2] [true, true] (fun (_ : Unit) => [oc b2 [slv (rI .i64) weights_1], oc b3 [iv .i64 t_2]]) (fun (_ : Unit) => []) (fun (_ : Unit) => ag [iv .i64 t9.N, slv rT_api_Pair t9.L]) (args := [.tmp 20, .tmp 21]) (caps := []) Tryd.call40 rfl (degree_without_2_ok h_t9) ⟨rfl, rfl, ⟨rfl, rfl, trivial⟩⟩ (fun _ => rfl) (fun _ => trivial) (fun _ => rfl) ⟨arg rfl, arg rfl, trivial⟩ (fun _ _ _ _ h => h)) rfl (fun _ => ?_)
  refine s_st0 (s_cstore (out := [iv .i64 t9.N, slv rT_api_Pair t9.L]) Tryd.sizeOf27 rfl (j := 3) rfl (part_agO (ψs := [iv .i64 t9.N, slv rT_api_Pair t9.L]) rfl ⟨.inl iv_at, .inl slv_at, trivial⟩) rfl rfl rfl) (fun _ => ?_)
  refine as1 rfl rfl ?_
  refine l_nil ?_
  refine b_of (nrm [oc b1 [iv .i64 g_0.N, slv rT_api_Pair g_0.L], oc b2 [slv (rI .i64) weights_1], oc b3 [iv .i64 t_2], oc b4 [iv .i64 t9.N, slv rT_api_Pair t9.L]] rfl) ?_
  refine n_then (ref_ret ?_)
  exact fin2 (.inl rfl) () [] rfl trivial rfl (rv_cell rfl (j := 3) rfl Tryd.isAgg27 Tryd.sizeOf27 rfl rfl) (rv_tmp rfl)

/-! deliberation/deliberationnet.Pairs -/
noncomputable def net_Pairs_l1 (a__0 : (List T_api_Pair)) (b_1 : (List T_api_Pair)) (s8 : Int) : Option (Sum ((Sum (Bool) (Unit))) (Int)) :=
  bif decide (s8 < (a__0.length : Int)) then
    Option.bind (idxM a__0 s8) fun t11 =>
    Option.bind (idxM b_1 s8) fun t12 =>
    bif !decide (t11 = t12) then
      some (Sum.inl (Sum.inl false))
    else
      some (Sum.inr (iadd .i64 s8 1))
  else
    some (Sum.inl (Sum.inr ()))

noncomputable def net_Pairs_m (a__0 : (List T_api_Pair)) (b_1 : (List T_api_Pair)) : Option (Bool) :=
  bif (a__0.length : Int) != (b_1.length : Int) then
    some false
  else
    Option.bind (loopC (net_Pairs_l1 a__0 b_1) 0) (sumK (fun a : Bool => some a) fun q14 : Unit =>
      some true)

theorem net_Pairs_ok {a__0 : (List T_api_Pair)} {b_1 : (List T_api_Pair)} {r : Bool} (hm : net_Pairs_m a__0 b_1 = some r) :
    FnOk prog 68 [slv rT_api_Pair a__0, slv rT_api_Pair b_1] [] (fun (x : Unit) => [bv r]) (fun (x : Unit) => []) := by
  refine fn_ok (fn := Tryd.f68) (N := 26) (res := fun r x => [bv r]) (Ω1 := fun r x => []) Tryd.func68 rfl rfl hm rfl (fun E hM => ?_)
  unfold net_Pairs_m
  refine ref_seq (ref_region ?_)
  refine as1 rfl rfl ?_
  refine l_nil (n_then (ref_seq (ref_seq (ref_region ?_))))
  refine mv1 rfl rfl ?_
  refine s_rd (r_len Tryd.underlying25 rfl) rfl ?_
  refine mv1 rfl rfl ?_
  refine s_rd (r_len Tryd.underlying25 rfl) rfl ?_
  refine s_rd (r_neq rfl rfl) rfl ?_
  refine l_nil (n_then ?_)
  refine ref_cond rfl (fun hb1 => ?_) (fun hb1 => ?_)
  · refine ref_seq (ref_region ?_)
    refine as1 rfl rfl ?_
    refine l_nil (n_then (ref_ret (r_then ?_)))
    exact fin1 (.inl rfl) () [] rfl trivial rfl (rv_tmp rfl)
  refine ref_skip (n_then (ref_seq (ref_seq (ref_region ?_))))
  refine as1 rfl rfl ?_
  refine l_nil (n_then ?_)
  refine ref_loopX (f := (net_Pairs_l1 a__0 b_1)) (Γl := (fun (s8 : Int) (x9 : Unit) => [(0, slv rT_api_Pair a__0), (1, slv rT_api_Pair b_1), (5, iv .i64 s8)])) (Ωl := (fun (s8 : Int) (x9 : Unit) => [])) (Γb := (fun (q14 : Unit) (y15 : Unit) => [])) (Ωb := (fun (q14 : Unit) (y15 : Unit) => [])) (kr := (fun a : Bool => some a)) 0 () (weak [] ⟨rfl, rfl, rfl, trivial⟩ trivial) (fun s8 x9 => ?_) (fun q14 y15 => ?_)
  · unfold net_Pairs_l1
    refine ref_seq (ref_seq (ref_region ?_))
    refine mv1 rfl rfl ?_
    refine mv1 rfl rfl ?_
    refine s_rd (r_len Tryd.underlying25 rfl) rfl ?_
    refine s_rd (r_lss rfl rfl) rfl ?_
    refine l_nil (n_then ?_)
    refine ref_cond rfl (fun hb10 => ?_) (fun hb10 => ?_)
    · refine ref_skip (n_then (ref_seq (ref_block (ref_seq ?_))))
      refine ref_draw [0, 1, 2, 3, 4, 5, 6, 7, 8] rfl (by kernel_rfl) (fun hok => ?_)
      refine a_rd (i := 0) hok rfl (by kernel_rfl) rfl (r_move rfl) rfl ?_
      refine a_rd (i := 1) hok rfl (by kernel_rfl) rfl (r_move rfl) rfl ?_
      refine pull fun t11 h_t11 => ?_
      refine a_rd (i := 2) hok rfl (by kernel_rfl) rfl (r_index h_t11 Tryd.underlying25 el_56 rfl rfl) rfl ?_
      refine a_rd (i := 3) hok rfl (by kernel_rfl) rfl (r_load el_56 rfl) rfl ?_
      refine a_rd (i := 4) hok rfl (by kernel_rfl) rfl (r_move rfl) rfl ?_
      refine a_rd (i := 5) hok rfl (by kernel_rfl) rfl (r_move rfl) rfl ?_
      refine pull fun t12 h_t12 => ?_
      refine a_rd (i := 6) hok rfl (by kernel_rfl) rfl (r_index h_t12 Tryd.underlying25 el_56 rfl rfl) rfl ?_
      refine a_rd (i := 7) hok rfl (by kernel_rfl) rfl (r_load el_56 rfl) rfl ?_
      refine a_rd (i := 8) hok rfl (by kernel_rfl) rfl (r_stneq (u := t11) (v := t12) eq_56 rfl rfl rfl rfl) rfl ?_
      refine a_fin hok (by kernel_rfl) ?_
      refine n_then ?_
      refine ref_cond rfl (fun hb13 => ?_) (fun hb13 => ?_)
      · refine ref_seq (ref_region ?_)
        refine as1 rfl rfl ?_
        refine l_nil (n_then (ref_ret (r_block (r_then ?_))))
        refine retX ?_
        refine r_block (r_then ?_)
        exact fin1 (.inl rfl) () [] rfl trivial rfl (rv_tmp rfl)
      refine ref_skip (n_block (n_then (ref_region ?_)))
      refine mv1 rfl rfl ?_
      refine s_rd (r_add rfl rfl) rfl ?_
      refine as1 rfl rfl ?_
      refine l_nil ?_
      exact goX () (weak [] ⟨rfl, rfl, rfl, trivial⟩ trivial)
    refine ref_exit (x_then ?_)
    exact brkX () (weak [] trivial trivial)
  refine n_then (ref_seq (ref_region ?_))
  refine as1 rfl rfl ?_
  refine l_nil (n_then (ref_ret ?_))
  exact fin1 (.inl rfl) () [] rfl trivial rfl (rv_tmp rfl)

/-! deliberation/deliberationnet.Same -/
noncomputable def net_Same_m (a__0 : T_api_Graph) (b_1 : T_api_Graph) : Option (Bool) :=
  bif a__0.N == b_1.N then
    Option.bind (net_Pairs_m a__0.L b_1.L) fun t3 =>
    some t3
  else
    some false

theorem net_Same_ok {a__0 : T_api_Graph} {b_1 : T_api_Graph} {r : Bool} (hm : net_Same_m a__0 b_1 = some r) :
    FnOk prog 31 [ag [iv .i64 a__0.N, slv rT_api_Pair a__0.L], ag [iv .i64 b_1.N, slv rT_api_Pair b_1.L]] [] (fun (x : Unit) => [bv r]) (fun (x : Unit) => []) := by
  refine fn_ok (fn := Tryd.f31) (N := 17) (res := fun r x => [bv r]) (Ω1 := fun r x => []) Tryd.func31 rfl rfl hm rfl (fun E hM => ?_)
  unfold net_Same_m
  refine ref_seq (ref_region ?_)
  refine s_st (s_box (part_agO (ψs := [iv .i64 a__0.N, slv rT_api_Pair a__0.L]) rfl ⟨.inl iv_at, .inl slv_at, trivial⟩)) rfl (fun b1 => ?_)
  refine s_st (s_box (part_agO (ψs := [iv .i64 b_1.N, slv rT_api_Pair b_1.L]) rfl ⟨.inl iv_at, .inl slv_at, trivial⟩)) rfl (fun b2 => ?_)
  refine as1 rfl rfl ?_
  refine l_nil (n_then (ref_seq (ref_region ?_)))
  refine s_rd (r_faddr (fo := 0) Tryd.underlying27 rfl rfl Tryd.sizeOf3 rfl) rfl ?_
  refine s_rd (r_cload Tryd.isAgg3 rfl (j := 0) rfl rfl) rfl ?_
  refine s_rd (r_faddr (fo := 0) Tryd.underlying27 rfl rfl Tryd.sizeOf3 rfl) rfl ?_
  refine s_rd (r_cload Tryd.isAgg3 rfl (j := 1) rfl rfl) rfl ?_
  refine s_rd (r_eql rfl rfl) rfl ?_
  refine mv1 rfl rfl ?_
  refine b_split (t := 10) rfl (fun _ => ?_) (fun _ => ?_)
  · refine s_on rfl rfl rfl ?_
    refine s_rd (r_faddr (fo := 1) Tryd.underlying27 rfl rfl Tryd.sizeOf25 rfl) rfl ?_
    refine s_on rfl rfl rfl ?_
    refine s_rd (r_cload Tryd.isAgg25 rfl (j := 0) rfl rfl) rfl ?_
    refine s_on rfl rfl rfl ?_
    refine s_rd (r_faddr (fo := 1) Tryd.underlying27 rfl rfl Tryd.sizeOf25 rfl) rfl ?_
    refine s_on rfl rfl rfl ?_
    refine s_rd (r_cload Tryd.isAgg25 rfl (j := 1) rfl rfl) rfl ?_
    refine s_on rfl rfl rfl ?_
    refine pull fun t3 h_t3 => ?_
    refine s_st (s_call (ψ := fun (_ : Unit) => bv t3) (args := [.tmp 12, .tmp 14]) Tryd.call68 rfl (net_Pairs_ok h_t3) ⟨arg rfl, arg rfl, trivial⟩ (fun _ _ _ _ h => h)) rfl (fun _ => ?_)
    refine s_rd (r_pickT rfl rfl) rfl ?_
    refine as1 rfl rfl ?_
    refine l_nil (n_then (ref_ret ?_))
    exact fin1 (.inl rfl) () [] rfl trivial rfl (rv_tmp rfl)
  refine s_off rfl rfl rfl rfl rfl ?_
  refine s_off rfl rfl rfl rfl rfl ?_
  refine s_off rfl rfl rfl rfl rfl ?_
  refine s_off rfl rfl rfl rfl rfl ?_
  refine s_off rfl rfl rfl rfl rfl ?_
  refine s_rd (r_pickF rfl rfl) rfl ?_
  refine as1 rfl rfl ?_
  refine l_nil (n_then (ref_ret ?_))
  exact fin1 (.inl rfl) () [] rfl trivial rfl (rv_tmp rfl)

/-! deliberation/deliberationlaw22.DegreeAnswers -/
noncomputable def law22_DegreeAnswers_l2 (t_4 : Int) (t93 : T_anon57) (t106 : Int × T_deliberationkeep_Src) (s117 : Int) : Option (Sum ((Sum (Bool) (Unit))) (Int)) :=
  bif decide (s117 < ([t_4, t106.1].length : Int)) then
    Option.bind (idxM [t_4, t106.1] s117) fun u120 =>
    Option.bind (degree_Cut_m t93.g t93.w' u120) fun t121 =>
    Option.bind (ref22_Cut_m t93.g t93.w' u120) fun t123 =>
    bif t121.2 != t123.2 then
      some (Sum.inl (Sum.inl false))
    else
      Option.bind (net_Same_m t121.1 t123.1) fun t125 =>
      bif !t125 then
        some (Sum.inl (Sum.inl false))
      else
        some (Sum.inr (iadd .i64 s117 1))
  else
    some (Sum.inl (Sum.inr ()))

noncomputable def law22_DegreeAnswers_l1 (raw_0 : T_api_Graph) (weights_1 : (List Int)) (node_3 : Int) (t_4 : Int) (t8 : T_api_Graph × List Int × T_deliberationkeep_Src) (k11 : Int × T_deliberationkeep_Src) (s90 : Int × T_deliberationkeep_Src) : Option (Sum ((Sum (Bool) (Unit))) (Int × T_deliberationkeep_Src)) :=
  bif decide (s90.1 < ([(T_anon57.mk raw_0 weights_1 node_3), (T_anon57.mk t8.1 t8.2.1 k11.1), (T_anon57.mk t8.1 weights_1 k11.1), (T_anon57.mk t8.1 t8.2.1 node_3)].length : Int)) then
    Option.bind (idxM [(T_anon57.mk raw_0 weights_1 node_3), (T_anon57.mk t8.1 t8.2.1 k11.1), (T_anon57.mk t8.1 weights_1 k11.1), (T_anon57.mk t8.1 t8.2.1 node_3)] s90.1) fun t93 =>
    Option.bind (degree_Budget_m t93.g t93.w' t93.node) fun t95 =>
    Option.bind (ref22_Budget_m t93.g t93.w' t93.node) fun t97 =>
    Option.bind (degree_Levels_m t93.g t93.w' t93.node) fun t99 =>
    Option.bind (ref22_Levels_m t93.g t93.w' t93.node) fun t101 =>
    bif t95.2 != t97.2 then
      some (Sum.inl (Sum.inl false))
    else
      bif t99.2 != t101.2 then
        some (Sum.inl (Sum.inl false))
      else
        bif t95.1.Weight != t97.1.Weight then
          some (Sum.inl (Sum.inl false))
        else
          Option.bind (keep_Ints_m t95.1.Dropped t97.1.Dropped) fun t103 =>
          bif !t103 then
            some (Sum.inl (Sum.inl false))
          else
            Option.bind (keep_Ints_m t99.1 t101.1) fun t104 =>
            bif !t104 then
              some (Sum.inl (Sum.inl false))
            else
              Option.bind (keep_Src_N_m s90.2 6) fun t106 =>
              Option.bind (loopC (law22_DegreeAnswers_l2 t_4 t93 t106) 0) (sumK (fun a : Bool => some (Sum.inl (Sum.inl a))) fun q127 : Unit =>
                some (Sum.inr (iadd .i64 s90.1 1, t106.2)))
  else
    some (Sum.inl (Sum.inr ()))

noncomputable def law22_DegreeAnswers_m (raw_0 : T_api_Graph) (weights_1 : (List Int)) (l_2 : (List Int)) (node_3 : Int) (t_4 : Int) : Option (Bool) :=
  Option.bind (net_Light_m raw_0) fun t2 =>
  bif !t2 then
    Option.bind (law22_awake_m ) fun t3 =>
    some t3
  else
    bif decide ((weights_1.length : Int) > 310) then
      Option.bind (law22_awake_m ) fun t5 =>
      some t5
    else
      Option.bind (keep_New_m l_2) fun s6 =>
      Option.bind (law22_weighted_m s6 6 9) fun t8 =>
      Option.bind (keep_Src_N_m t8.2.2 t8.1.N) fun k11 =>
      Option.bind (loopC (law22_DegreeAnswers_l1 raw_0 weights_1 node_3 t_4 t8 k11) (0, k11.2)) (sumK (fun a : Bool => some a) fun q129 : Unit =>
        Option.bind (law22_awake_m ) fun t131 =>
        some t131)

theorem law22_DegreeAnswers_ok {raw_0 : T_api_Graph} {weights_1 : (List Int)} {l_2 : (List Int)} {node_3 : Int} {t_4 : Int} {r : Bool} (hm : law22_DegreeAnswers_m raw_0 weights_1 l_2 node_3 t_4 = some r) :
    FnOk prog 7 [ag [iv .i64 raw_0.N, slv rT_api_Pair raw_0.L], slv (rI .i64) weights_1, slv (rI .i64) l_2, iv .i64 node_3, iv .i64 t_4] [tbO (rI .u8) 0 tab_0] (fun (x : Unit) => [bv r]) (fun (x : Unit) => [tbO (rI .u8) 0 tab_0]) := by
  refine fn_ok (fn := Tryd.f7) (N := 181) (res := fun r x => [bv r]) (Ω1 := fun r x => [tbO (rI .u8) 0 tab_0]) Tryd.func7 rfl rfl hm rfl (fun E hM => ?_)
  unfold law22_DegreeAnswers_m
  refine ref_seq (ref_region ?_)
  refine s_st (s_box (part_agO (ψs := [iv .i64 raw_0.N, slv rT_api_Pair raw_0.L]) rfl ⟨.inl iv_at, .inl slv_at, trivial⟩)) rfl (fun b1 => ?_)
  refine as1 rfl rfl ?_
  refine l_nil (n_then (ref_seq (ref_seq (ref_region ?_))))
  refine s_rd (r_cloadS Tryd.isAgg27 Tryd.sizeOf27 rfl (j := 1) rfl rfl rfl) rfl ?_
  refine pull fun t2 h_t2 => ?_
  refine s_st (s_call (ψ := fun (_ : Unit) => bv t2) (args := [.tmp 31]) Tryd.call15 rfl (net_Light_ok h_t2) ⟨arg rfl, trivial⟩ (fun _ _ _ _ h => h)) rfl (fun _ => ?_)
  refine s_rd (r_not rfl) rfl ?_
  refine mv1 rfl rfl ?_
  refine b_split (t := 34) rfl (fun _ => ?_) (fun _ => ?_)
  · refine s_off rfl rfl rfl rfl rfl ?_
    refine s_off rfl rfl rfl rfl rfl ?_
    refine s_off rfl rfl rfl rfl rfl ?_
    refine s_rd (r_pickT rfl rfl) rfl ?_
    refine l_nil (n_then ?_)
    refine ref_condT rfl rfl ?_
    refine ref_seq (ref_region ?_)
    refine pull fun t3 h_t3 => ?_
    refine s_st (s_callC [0] [true] (fun (_ : Unit) => [tbO (rI .u8) 0 tab_0]) (fun (_ : Unit) => []) (fun (_ : Unit) => bv t3) (args := []) (caps := []) Tryd.call14 rfl (law22_awake_ok h_t3) ⟨rfl, rfl, trivial⟩ (fun _ => rfl) (fun _ => trivial) (fun _ => rfl) trivial (fun _ _ _ _ h => h)) rfl (fun _ => ?_)
    refine as1 rfl rfl ?_
    refine l_nil (n_then (ref_ret (r_then ?_)))
    exact fin1 (.inl rfl) () [0] rfl ⟨rfl, trivial⟩ rfl (rv_tmp rfl)
  refine s_on rfl rfl rfl ?_
  refine mv1 rfl rfl ?_
  refine s_on rfl rfl rfl ?_
  refine s_rd (r_len Tryd.underlying22 rfl) rfl ?_
  refine s_on rfl rfl rfl ?_
  refine s_rd (r_gtr rfl rfl) rfl ?_
  refine s_rd (r_pickF rfl rfl) rfl ?_
  refine l_nil (n_then ?_)
  refine ref_cond rfl (fun hb4 => ?_) (fun hb4 => ?_)
  · refine ref_seq (ref_region ?_)
    refine pull fun t5 h_t5 => ?_
    refine s_st (s_callC [0] [true] (fun (_ : Unit) => [tbO (rI .u8) 0 tab_0]) (fun (_ : Unit) => []) (fun (_ : Unit) => bv t5) (args := []) (caps := []) Tryd.call14 rfl (law22_awake_ok h_t5) ⟨rfl, rfl, trivial⟩ (fun _ => rfl) (fun _ => trivial) (fun _ => rfl) trivial (fun _ _ _ _ h => h)) rfl (fun _ => ?_)
    refine as1 rfl rfl ?_
    refine l_nil (n_then (ref_ret (r_then ?_)))
    exact fin1 (.inl rfl) () [0] rfl ⟨rfl, trivial⟩ rfl (rv_tmp rfl)
  refine ref_skip (n_then (ref_seq (ref_region ?_)))
  refine mv1 rfl rfl ?_
  refine pull fun s6 h_s6 => ?_
  refine s_st (s_call (ψ := fun (x7 : Nat) => pv (ptr x7 0)) (args := [.tmp 40]) Tryd.call9 rfl (keep_New_ok h_s6) ⟨arg rfl, trivial⟩ (fun _ _ _ _ h => h)) rfl (fun x7 => ?_)
  refine as1 rfl rfl ?_
  refine l_nil (n_then (ref_seq (ref_region ?_)))
  refine mv1 rfl rfl ?_
  refine pull fun t8 h_t8 => ?_
  refine s_st (s_callC [2] [true] (fun (x9 : (Value × List Nat)) => [oc x7 [slv (rI .i64) t8.2.2.L, iv .i64 t8.2.2.At]]) (fun (x9 : (Value × List Nat)) => [oa (rI .i64) x9.1 x9.2 t8.2.1]) (fun (x9 : (Value × List Nat)) => tup [ag [iv .i64 t8.1.N, slv rT_api_Pair t8.1.L], pv x9.1]) (args := [.tmp 43, .const (.int .i64 (6)), .const (.int .i64 (9))]) (caps := []) Tryd.call10 rfl (law22_weighted_ok h_t8) ⟨rfl, rfl, trivial⟩ (fun _ => rfl) (fun _ => trivial) (fun _ => rfl) ⟨arg rfl, arg rfl, arg rfl, trivial⟩ (fun _ _ _ _ h => h)) rfl (fun x9 => ?_)
  refine mv1 rfl rfl ?_
  refine s_rd (r_extract rfl rfl) rfl ?_
  refine s_rd (r_extract rfl rfl) rfl ?_
  refine s_st (s_alloc zt_27) rfl (fun b10 => ?_)
  refine s_st0 (s_cstore (out := [iv .i64 t8.1.N, slv rT_api_Pair t8.1.L]) Tryd.sizeOf27 rfl (j := 4) rfl (part_agO (ψs := [iv .i64 t8.1.N, slv rT_api_Pair t8.1.L]) rfl ⟨.inl iv_at, .inl slv_at, trivial⟩) rfl rfl rfl) (fun _ => ?_)
  refine as1 rfl rfl ?_
  refine l_nil ?_
  refine b_of (nrm [tbO (rI .u8) 0 tab_0, oc b1 [iv .i64 raw_0.N, slv rT_api_Pair raw_0.L], oc x7 [slv (rI .i64) t8.2.2.L, iv .i64 t8.2.2.At], oa (rI .i64) x9.1 x9.2 t8.2.1, oc b10 [iv .i64 t8.1.N, slv rT_api_Pair t8.1.L]] rfl) ?_
  refine n_then (ref_seq (ref_region ?_))
  refine mv1 rfl rfl ?_
  refine s_rd (r_faddr (fo := 0) Tryd.underlying27 rfl rfl Tryd.sizeOf3 rfl) rfl ?_
  refine s_rd (r_cload Tryd.isAgg3 rfl (j := 4) rfl rfl) rfl ?_
  refine pull fun k11 h_k11 => ?_
  refine s_st (s_callC [2] [true] (fun (_ : Unit) => [oc x7 [slv (rI .i64) k11.2.L, iv .i64 k11.2.At]]) (fun (_ : Unit) => []) (fun (_ : Unit) => iv .i64 k11.1) (args := [.tmp 47, .tmp 49]) (caps := []) Tryd.call11 rfl (keep_Src_N_ok h_k11) ⟨rfl, rfl, trivial⟩ (fun _ => rfl) (fun _ => trivial) (fun _ => rfl) ⟨arg rfl, arg rfl, trivial⟩ (fun _ _ _ _ h => h)) rfl (fun _ => ?_)
  refine as1 rfl rfl ?_
  refine l_nil (n_then (ref_seq (ref_seq (ref_region ?_))))
  refine s_rd (r_cloadS Tryd.isAgg27 Tryd.sizeOf27 rfl (j := 1) rfl rfl rfl) rfl ?_
  refine mv1 rfl rfl ?_
  refine mv1 rfl rfl ?_
  refine s_rd (r_build (ps := [(0, .tmp 51), (1, .tmp 52), (2, .tmp 53)]) (rs := [(0, [iv .i64 raw_0.N, slv rT_api_Pair raw_0.L]), (1, [slv (rI .i64) weights_1]), (2, [iv .i64 node_3])]) st_57 zs_57 ⟨rfl, (part_agO (ψs := [iv .i64 raw_0.N, slv rT_api_Pair raw_0.L]) rfl ⟨.inl iv_at, .inl slv_at, trivial⟩), ⟨rfl, (part_at rfl slv_at), ⟨rfl, (part_at rfl iv_at), trivial⟩⟩⟩ rfl rfl) rfl ?_
  refine s_rd (r_cloadS Tryd.isAgg27 Tryd.sizeOf27 rfl (j := 4) rfl rfl rfl) rfl ?_
  refine mv1 rfl rfl ?_
  refine mv1 rfl rfl ?_
  refine s_rd (r_build (ps := [(0, .tmp 55), (1, .tmp 56), (2, .tmp 57)]) (rs := [(0, [iv .i64 t8.1.N, slv rT_api_Pair t8.1.L]), (1, [pv x9.1]), (2, [iv .i64 k11.1])]) st_57 zs_57 ⟨rfl, (part_agO (ψs := [iv .i64 t8.1.N, slv rT_api_Pair t8.1.L]) rfl ⟨.inl iv_at, .inl slv_at, trivial⟩), ⟨rfl, (part_own rfl (j := 3) rfl), ⟨rfl, (part_at rfl iv_at), trivial⟩⟩⟩ rfl rfl) rfl ?_
  refine s_rd (r_cloadS Tryd.isAgg27 Tryd.sizeOf27 rfl (j := 4) rfl rfl rfl) rfl ?_
  refine mv1 rfl rfl ?_
  refine mv1 rfl rfl ?_
  refine s_rd (r_build (ps := [(0, .tmp 59), (1, .tmp 60), (2, .tmp 61)]) (rs := [(0, [iv .i64 t8.1.N, slv rT_api_Pair t8.1.L]), (1, [slv (rI .i64) weights_1]), (2, [iv .i64 k11.1])]) st_57 zs_57 ⟨rfl, (part_agO (ψs := [iv .i64 t8.1.N, slv rT_api_Pair t8.1.L]) rfl ⟨.inl iv_at, .inl slv_at, trivial⟩), ⟨rfl, (part_at rfl slv_at), ⟨rfl, (part_at rfl iv_at), trivial⟩⟩⟩ rfl rfl) rfl ?_
  refine s_rd (r_cloadS Tryd.isAgg27 Tryd.sizeOf27 rfl (j := 4) rfl rfl rfl) rfl ?_
  refine mv1 rfl rfl ?_
  refine mv1 rfl rfl ?_
  refine s_rd (r_build (ps := [(0, .tmp 63), (1, .tmp 64), (2, .tmp 65)]) (rs := [(0, [iv .i64 t8.1.N, slv rT_api_Pair t8.1.L]), (1, [pv x9.1]), (2, [iv .i64 node_3])]) st_57 zs_57 ⟨rfl, (part_agO (ψs := [iv .i64 t8.1.N, slv rT_api_Pair t8.1.L]) rfl ⟨.inl iv_at, .inl slv_at, trivial⟩), ⟨rfl, (part_own rfl (j := 3) rfl), ⟨rfl, (part_at rfl iv_at), trivial⟩⟩⟩ rfl rfl) rfl ?_
  refine b_of (frzGL [(46, slv (rI .i64) t8.2.1), (13, slv (rI .i64) t8.2.1), (56, slv (rI .i64) t8.2.1), (64, slv (rI .i64) t8.2.1), (58, ag [iv .i64 t8.1.N, slv rT_api_Pair t8.1.L, slv (rI .i64) t8.2.1, iv .i64 k11.1]), (66, ag [iv .i64 t8.1.N, slv rT_api_Pair t8.1.L, slv (rI .i64) t8.2.1, iv .i64 node_3])] [] (j := 3) rfl ⟨⟨_, rfl, .inl ⟨rfl, rfl⟩⟩, ⟨_, rfl, .inl ⟨rfl, rfl⟩⟩, ⟨_, rfl, .inl ⟨rfl, rfl⟩⟩, ⟨_, rfl, .inl ⟨rfl, rfl⟩⟩, ⟨_, rfl, .inr ⟨_, _, rfl, rfl, ⟨.inl rfl, .inl rfl, .inr ⟨rfl, rfl⟩, .inl rfl, trivial⟩⟩⟩, ⟨_, rfl, .inr ⟨_, _, rfl, rfl, ⟨.inl rfl, .inl rfl, .inr ⟨rfl, rfl⟩, .inl rfl, trivial⟩⟩⟩, trivial⟩ trivial) ?_
  refine s_st (s_bslice (xs := [.tmp 54, .tmp 58, .tmp 62, .tmp 66]) (ds := [(T_anon57.mk raw_0 weights_1 node_3), (T_anon57.mk t8.1 t8.2.1 k11.1), (T_anon57.mk t8.1 weights_1 k11.1), (T_anon57.mk t8.1 t8.2.1 node_3)]) Tryd.underlying58 el_57 rfl (Nat.le_of_ble_eq_true rfl) ⟨(part_agO (ψs := [iv .i64 raw_0.N, slv rT_api_Pair raw_0.L, slv (rI .i64) weights_1, iv .i64 node_3]) rfl ⟨.inl iv_at, .inl slv_at, .inl slv_at, .inl iv_at, trivial⟩), ⟨(part_agO (ψs := [iv .i64 t8.1.N, slv rT_api_Pair t8.1.L, slv (rI .i64) t8.2.1, iv .i64 k11.1]) rfl ⟨.inl iv_at, .inl slv_at, .inl slv_at, .inl iv_at, trivial⟩), ⟨(part_agO (ψs := [iv .i64 t8.1.N, slv rT_api_Pair t8.1.L, slv (rI .i64) weights_1, iv .i64 k11.1]) rfl ⟨.inl iv_at, .inl slv_at, .inl slv_at, .inl iv_at, trivial⟩), ⟨(part_agO (ψs := [iv .i64 t8.1.N, slv rT_api_Pair t8.1.L, slv (rI .i64) t8.2.1, iv .i64 node_3]) rfl ⟨.inl iv_at, .inl slv_at, .inl slv_at, .inl iv_at, trivial⟩), trivial⟩⟩⟩⟩) rfl (fun _ => ?_)
  refine s_rd (r_len Tryd.underlying58 rfl) rfl ?_
  refine mv1 rfl rfl ?_
  refine l_nil (n_then ?_)
  refine ref_loopX (f := (law22_DegreeAnswers_l1 raw_0 weights_1 node_3 t_4 t8 k11)) (Γl := (fun (s90 : Int × T_deliberationkeep_Src) (x91 : Unit) => [(4, iv .i64 t_4), (11, pv (ptr x7 0)), (67, slv rT_anon57 [(T_anon57.mk raw_0 weights_1 node_3), (T_anon57.mk t8.1 t8.2.1 k11.1), (T_anon57.mk t8.1 weights_1 k11.1), (T_anon57.mk t8.1 t8.2.1 node_3)]), (68, iv .i64 ([(T_anon57.mk raw_0 weights_1 node_3), (T_anon57.mk t8.1 t8.2.1 k11.1), (T_anon57.mk t8.1 weights_1 k11.1), (T_anon57.mk t8.1 t8.2.1 node_3)].length : Int)), (69, iv .i64 s90.1)])) (Ωl := (fun (s90 : Int × T_deliberationkeep_Src) (x91 : Unit) => [tbO (rI .u8) 0 tab_0, oc x7 [slv (rI .i64) s90.2.L, iv .i64 s90.2.At]])) (Γb := (fun (q129 : Unit) (y130 : Unit) => [])) (Ωb := (fun (q129 : Unit) (y130 : Unit) => [tbO (rI .u8) 0 tab_0])) (kr := (fun a : Bool => some a)) (0, k11.2) () (weak [0, 2] ⟨rfl, rfl, rfl, rfl, rfl, trivial⟩ ⟨rfl, rfl, trivial⟩) (fun s90 x91 => ?_) (fun q129 y130 => ?_)
  · unfold law22_DegreeAnswers_l1
    refine ref_seq (ref_region ?_)
    refine s_rd (r_lss rfl rfl) rfl ?_
    refine l_nil (n_then (ref_seq ?_))
    refine ref_cond rfl (fun hb92 => ?_) (fun hb92 => ?_)
    · refine ref_skip (n_then (ref_seq (ref_block (ref_seq (ref_region ?_)))))
      refine pull fun t93 h_t93 => ?_
      refine s_rd (r_index h_t93 Tryd.underlying58 el_57 rfl rfl) rfl ?_
      refine s_rd (r_load el_57 rfl) rfl ?_
      refine s_st (s_alloc zt_57) rfl (fun b94 => ?_)
      refine s_st0 (s_cstore (out := [iv .i64 t93.g.N, slv rT_api_Pair t93.g.L, slv (rI .i64) t93.w', iv .i64 t93.node]) Tryd.sizeOf57 rfl (j := 2) rfl (part_agO (ψs := [iv .i64 t93.g.N, slv rT_api_Pair t93.g.L, slv (rI .i64) t93.w', iv .i64 t93.node]) rfl ⟨.inl iv_at, .inl slv_at, .inl slv_at, .inl iv_at, trivial⟩) rfl rfl rfl) (fun _ => ?_)
      refine l_nil ?_
      refine b_of (nrm [tbO (rI .u8) 0 tab_0, oc x7 [slv (rI .i64) s90.2.L, iv .i64 s90.2.At], oc b94 [iv .i64 t93.g.N, slv rT_api_Pair t93.g.L, slv (rI .i64) t93.w', iv .i64 t93.node]] rfl) ?_
      refine n_then (ref_seq (ref_region ?_))
      refine s_rd (r_faddr (fo := 0) Tryd.underlying57 rfl rfl Tryd.sizeOf27 rfl) rfl ?_
      refine s_rd (r_cloadS Tryd.isAgg27 Tryd.sizeOf27 rfl (j := 2) rfl rfl rfl) rfl ?_
      refine s_rd (r_faddr (fo := 2) Tryd.underlying57 rfl rfl Tryd.sizeOf22 rfl) rfl ?_
      refine s_rd (r_cload Tryd.isAgg22 rfl (j := 2) rfl rfl) rfl ?_
      refine s_rd (r_faddr (fo := 3) Tryd.underlying57 rfl rfl Tryd.sizeOf3 rfl) rfl ?_
      refine s_rd (r_cload Tryd.isAgg3 rfl (j := 2) rfl rfl) rfl ?_
      refine pull fun t95 h_t95 => ?_
      refine s_st (s_callC [0] [true] (fun (_ : Unit) => [tbO (rI .u8) 0 tab_0]) (fun (_ : Unit) => []) (fun (_ : Unit) => tup [ag [iv .i64 t95.1.Weight, slv (rI .i64) t95.1.Dropped], iv .i64 t95.2]) (args := [.tmp 75, .tmp 77, .tmp 79]) (caps := []) Tryd.call12 rfl (degree_Budget_ok h_t95) ⟨rfl, rfl, trivial⟩ (fun _ => rfl) (fun _ => trivial) (fun _ => rfl) ⟨arg rfl, arg rfl, arg rfl, trivial⟩ (fun _ _ _ _ h => h)) rfl (fun _ => ?_)
      refine mv1 rfl rfl ?_
      refine s_rd (r_extract rfl rfl) rfl ?_
      refine s_rd (r_extract rfl rfl) rfl ?_
      refine s_st (s_alloc zt_32) rfl (fun b96 => ?_)
      refine s_st0 (s_cstore (out := [iv .i64 t95.1.Weight, slv (rI .i64) t95.1.Dropped]) Tryd.sizeOf32 rfl (j := 3) rfl (part_agO (ψs := [iv .i64 t95.1.Weight, slv (rI .i64) t95.1.Dropped]) rfl ⟨.inl iv_at, .inl slv_at, trivial⟩) rfl rfl rfl) (fun _ => ?_)
      refine as1 rfl rfl ?_
      refine l_nil (n_then (ref_seq (ref_region ?_)))
      refine s_rd (r_faddr (fo := 0) Tryd.underlying57 rfl rfl Tryd.sizeOf27 rfl) rfl ?_
      refine s_rd (r_cloadS Tryd.isAgg27 Tryd.sizeOf27 rfl (j := 2) rfl rfl rfl) rfl ?_
      refine s_rd (r_faddr (fo := 2) Tryd.underlying57 rfl rfl Tryd.sizeOf22 rfl) rfl ?_
      refine s_rd (r_cload Tryd.isAgg22 rfl (j := 2) rfl rfl) rfl ?_
      refine s_rd (r_faddr (fo := 3) Tryd.underlying57 rfl rfl Tryd.sizeOf3 rfl) rfl ?_
      refine s_rd (r_cload Tryd.isAgg3 rfl (j := 2) rfl rfl) rfl ?_
      refine pull fun t97 h_t97 => ?_
      refine s_st (s_call (ψ := fun (_ : Unit) => tup [ag [iv .i64 t97.1.Weight, slv (rI .i64) t97.1.Dropped], iv .i64 t97.2]) (args := [.tmp 85, .tmp 87, .tmp 89]) Tryd.call25 rfl (ref22_Budget_ok h_t97) ⟨arg rfl, arg rfl, arg rfl, trivial⟩ (fun _ _ _ _ h => h)) rfl (fun _ => ?_)
      refine mv1 rfl rfl ?_
      refine s_rd (r_extract rfl rfl) rfl ?_
      refine s_rd (r_extract rfl rfl) rfl ?_
      refine s_st (s_alloc zt_32) rfl (fun b98 => ?_)
      refine s_st0 (s_cstore (out := [iv .i64 t97.1.Weight, slv (rI .i64) t97.1.Dropped]) Tryd.sizeOf32 rfl (j := 4) rfl (part_agO (ψs := [iv .i64 t97.1.Weight, slv (rI .i64) t97.1.Dropped]) rfl ⟨.inl iv_at, .inl slv_at, trivial⟩) rfl rfl rfl) (fun _ => ?_)
      refine as1 rfl rfl ?_
      refine l_nil ?_
      refine b_of (nrm [tbO (rI .u8) 0 tab_0, oc x7 [slv (rI .i64) s90.2.L, iv .i64 s90.2.At], oc b94 [iv .i64 t93.g.N, slv rT_api_Pair t93.g.L, slv (rI .i64) t93.w', iv .i64 t93.node], oc b96 [iv .i64 t95.1.Weight, slv (rI .i64) t95.1.Dropped], oc b98 [iv .i64 t97.1.Weight, slv (rI .i64) t97.1.Dropped]] rfl) ?_
      refine n_then (ref_seq (ref_region ?_))
      refine s_rd (r_faddr (fo := 0) Tryd.underlying57 rfl rfl Tryd.sizeOf27 rfl) rfl ?_
      refine s_rd (r_cloadS Tryd.isAgg27 Tryd.sizeOf27 rfl (j := 2) rfl rfl rfl) rfl ?_
      refine s_rd (r_faddr (fo := 2) Tryd.underlying57 rfl rfl Tryd.sizeOf22 rfl) rfl ?_
      refine s_rd (r_cload Tryd.isAgg22 rfl (j := 2) rfl rfl) rfl ?_
      refine s_rd (r_faddr (fo := 3) Tryd.underlying57 rfl rfl Tryd.sizeOf3 rfl) rfl ?_
      refine s_rd (r_cload Tryd.isAgg3 rfl (j := 2) rfl rfl) rfl ?_
      refine pull fun t99 h_t99 => ?_
      refine s_st (s_callC [0] [true] (fun (x100 : (Value × List Nat)) => [tbO (rI .u8) 0 tab_0]) (fun (x100 : (Value × List Nat)) => [oa (rI .i64) x100.1 x100.2 t99.1]) (fun (x100 : (Value × List Nat)) => tup [pv x100.1, iv .i64 t99.2]) (args := [.tmp 95, .tmp 97, .tmp 99]) (caps := []) Tryd.call26 rfl (degree_Levels_ok h_t99) ⟨rfl, rfl, trivial⟩ (fun _ => rfl) (fun _ => trivial) (fun _ => rfl) ⟨arg rfl, arg rfl, arg rfl, trivial⟩ (fun _ _ _ _ h => h)) rfl (fun x100 => ?_)
      refine mv1 rfl rfl ?_
      refine s_rd (r_extract rfl rfl) rfl ?_
      refine s_rd (r_extract rfl rfl) rfl ?_
      refine as1 rfl rfl ?_
      refine as1 rfl rfl ?_
      refine l_nil (n_then (ref_seq (ref_region ?_)))
      refine s_rd (r_faddr (fo := 0) Tryd.underlying57 rfl rfl Tryd.sizeOf27 rfl) rfl ?_
      refine s_rd (r_cloadS Tryd.isAgg27 Tryd.sizeOf27 rfl (j := 2) rfl rfl rfl) rfl ?_
      refine s_rd (r_faddr (fo := 2) Tryd.underlying57 rfl rfl Tryd.sizeOf22 rfl) rfl ?_
      refine s_rd (r_cload Tryd.isAgg22 rfl (j := 2) rfl rfl) rfl ?_
      refine s_rd (r_faddr (fo := 3) Tryd.underlying57 rfl rfl Tryd.sizeOf3 rfl) rfl ?_
      refine s_rd (r_cload Tryd.isAgg3 rfl (j := 2) rfl rfl) rfl ?_
      refine pull fun t101 h_t101 => ?_
      refine s_st (s_call (ψ := fun (x102 : (Value × List Nat)) => tup [pv x102.1, iv .i64 t101.2]) (args := [.tmp 105, .tmp 107, .tmp 109]) Tryd.call27 rfl (ref22_Levels_ok h_t101) ⟨arg rfl, arg rfl, arg rfl, trivial⟩ (fun _ _ _ _ h => h)) rfl (fun x102 => ?_)
      refine mv1 rfl rfl ?_
      refine s_rd (r_extract rfl rfl) rfl ?_
      refine s_rd (r_extract rfl rfl) rfl ?_
      refine as1 rfl rfl ?_
      refine as1 rfl rfl ?_
      refine l_nil (n_then (ref_seq (ref_seq (ref_region ?_))))
      refine mv1 rfl rfl ?_
      refine mv1 rfl rfl ?_
      refine s_rd (r_neq rfl rfl) rfl ?_
      refine mv1 rfl rfl ?_
      refine b_split (t := 116) rfl (fun _ => ?_) (fun _ => ?_)
      · refine s_off rfl rfl rfl rfl rfl ?_
        refine s_off rfl rfl rfl rfl rfl ?_
        refine s_off rfl rfl rfl rfl rfl ?_
        refine s_rd (r_pickT rfl rfl) rfl ?_
        refine mv1 rfl rfl ?_
        refine s_off rfl rfl rfl rfl rfl ?_
        refine s_off rfl rfl rfl rfl rfl ?_
        refine s_off rfl rfl rfl rfl rfl ?_
        refine s_off rfl rfl rfl rfl rfl ?_
        refine s_off rfl rfl rfl rfl rfl ?_
        refine s_rd (r_pickT rfl rfl) rfl ?_
        refine mv1 rfl rfl ?_
        refine s_off rfl rfl rfl rfl rfl ?_
        refine s_off rfl rfl rfl rfl rfl ?_
        refine s_off rfl rfl rfl rfl rfl ?_
        refine s_off rfl rfl rfl rfl rfl ?_
        refine s_off rfl rfl rfl rfl rfl ?_
        refine s_off rfl rfl rfl rfl rfl ?_
        refine s_rd (r_pickT rfl rfl) rfl ?_
        refine mv1 rfl rfl ?_
        refine s_off rfl rfl rfl rfl rfl ?_
        refine s_off rfl rfl rfl rfl rfl ?_
        refine s_off rfl rfl rfl rfl rfl ?_
        refine s_off rfl rfl rfl rfl rfl ?_
        refine s_rd (r_pickT rfl rfl) rfl ?_
        refine l_nil (n_then ?_)
        refine ref_condT rfl rfl ?_
        refine ref_seq (ref_region ?_)
        refine as1 rfl rfl ?_
        refine l_nil (n_then (ref_ret (r_then (r_block (r_then ?_)))))
        refine retX ?_
        refine r_block (r_then ?_)
        exact fin1 (.inl rfl) () [0] rfl ⟨rfl, trivial⟩ rfl (rv_tmp rfl)
      refine s_on rfl rfl rfl ?_
      refine mv1 rfl rfl ?_
      refine s_on rfl rfl rfl ?_
      refine mv1 rfl rfl ?_
      refine s_on rfl rfl rfl ?_
      refine s_rd (r_neq rfl rfl) rfl ?_
      refine s_rd (r_pickF rfl rfl) rfl ?_
      refine mv1 rfl rfl ?_
      refine b_split (t := 121) rfl (fun _ => ?_) (fun _ => ?_)
      · refine s_off rfl rfl rfl rfl rfl ?_
        refine s_off rfl rfl rfl rfl rfl ?_
        refine s_off rfl rfl rfl rfl rfl ?_
        refine s_off rfl rfl rfl rfl rfl ?_
        refine s_off rfl rfl rfl rfl rfl ?_
        refine s_rd (r_pickT rfl rfl) rfl ?_
        refine mv1 rfl rfl ?_
        refine s_off rfl rfl rfl rfl rfl ?_
        refine s_off rfl rfl rfl rfl rfl ?_
        refine s_off rfl rfl rfl rfl rfl ?_
        refine s_off rfl rfl rfl rfl rfl ?_
        refine s_off rfl rfl rfl rfl rfl ?_
        refine s_off rfl rfl rfl rfl rfl ?_
        refine s_rd (r_pickT rfl rfl) rfl ?_
        refine mv1 rfl rfl ?_
        refine s_off rfl rfl rfl rfl rfl ?_
        refine s_off rfl rfl rfl rfl rfl ?_
        refine s_off rfl rfl rfl rfl rfl ?_
        refine s_off rfl rfl rfl rfl rfl ?_
        refine s_rd (r_pickT rfl rfl) rfl ?_
        refine l_nil (n_then ?_)
        refine ref_condT rfl rfl ?_
        refine ref_seq (ref_region ?_)
        refine as1 rfl rfl ?_
        refine l_nil (n_then (ref_ret (r_then (r_block (r_then ?_)))))
        refine retX ?_
        refine r_block (r_then ?_)
        exact fin1 (.inl rfl) () [0] rfl ⟨rfl, trivial⟩ rfl (rv_tmp rfl)
      refine s_on rfl rfl rfl ?_
      refine s_rd (r_faddr (fo := 0) Tryd.underlying32 rfl rfl Tryd.sizeOf3 rfl) rfl ?_
      refine s_on rfl rfl rfl ?_
      refine s_rd (r_cload Tryd.isAgg3 rfl (j := 3) rfl rfl) rfl ?_
      refine s_on rfl rfl rfl ?_
      refine s_rd (r_faddr (fo := 0) Tryd.underlying32 rfl rfl Tryd.sizeOf3 rfl) rfl ?_
      refine s_on rfl rfl rfl ?_
      refine s_rd (r_cload Tryd.isAgg3 rfl (j := 4) rfl rfl) rfl ?_
      refine s_on rfl rfl rfl ?_
      refine s_rd (r_neq rfl rfl) rfl ?_
      refine s_rd (r_pickF rfl rfl) rfl ?_
      refine mv1 rfl rfl ?_
      refine b_split (t := 128) rfl (fun _ => ?_) (fun _ => ?_)
      · refine s_off rfl rfl rfl rfl rfl ?_
        refine s_off rfl rfl rfl rfl rfl ?_
        refine s_off rfl rfl rfl rfl rfl ?_
        refine s_off rfl rfl rfl rfl rfl ?_
        refine s_off rfl rfl rfl rfl rfl ?_
        refine s_off rfl rfl rfl rfl rfl ?_
        refine s_rd (r_pickT rfl rfl) rfl ?_
        refine mv1 rfl rfl ?_
        refine s_off rfl rfl rfl rfl rfl ?_
        refine s_off rfl rfl rfl rfl rfl ?_
        refine s_off rfl rfl rfl rfl rfl ?_
        refine s_off rfl rfl rfl rfl rfl ?_
        refine s_rd (r_pickT rfl rfl) rfl ?_
        refine l_nil (n_then ?_)
        refine ref_condT rfl rfl ?_
        refine ref_seq (ref_region ?_)
        refine as1 rfl rfl ?_
        refine l_nil (n_then (ref_ret (r_then (r_block (r_then ?_)))))
        refine retX ?_
        refine r_block (r_then ?_)
        exact fin1 (.inl rfl) () [0] rfl ⟨rfl, trivial⟩ rfl (rv_tmp rfl)
      refine s_on rfl rfl rfl ?_
      refine s_rd (r_faddr (fo := 1) Tryd.underlying32 rfl rfl Tryd.sizeOf22 rfl) rfl ?_
      refine s_on rfl rfl rfl ?_
      refine s_rd (r_cload Tryd.isAgg22 rfl (j := 3) rfl rfl) rfl ?_
      refine s_on rfl rfl rfl ?_
      refine s_rd (r_faddr (fo := 1) Tryd.underlying32 rfl rfl Tryd.sizeOf22 rfl) rfl ?_
      refine s_on rfl rfl rfl ?_
      refine s_rd (r_cload Tryd.isAgg22 rfl (j := 4) rfl rfl) rfl ?_
      refine s_on rfl rfl rfl ?_
      refine pull fun t103 h_t103 => ?_
      refine s_st (s_call (ψ := fun (_ : Unit) => bv t103) (args := [.tmp 130, .tmp 132]) Tryd.call28 rfl (keep_Ints_ok h_t103) ⟨arg rfl, arg rfl, trivial⟩ (fun _ _ _ _ h => h)) rfl (fun _ => ?_)
      refine s_on rfl rfl rfl ?_
      refine s_rd (r_not rfl) rfl ?_
      refine s_rd (r_pickF rfl rfl) rfl ?_
      refine mv1 rfl rfl ?_
      refine b_split (t := 136) rfl (fun _ => ?_) (fun _ => ?_)
      · refine s_off rfl rfl rfl rfl rfl ?_
        refine s_off rfl rfl rfl rfl rfl ?_
        refine s_off rfl rfl rfl rfl rfl ?_
        refine s_off rfl rfl rfl rfl rfl ?_
        refine s_rd (r_pickT rfl rfl) rfl ?_
        refine l_nil (n_then ?_)
        refine ref_condT rfl rfl ?_
        refine ref_seq (ref_region ?_)
        refine as1 rfl rfl ?_
        refine l_nil (n_then (ref_ret (r_then (r_block (r_then ?_)))))
        refine retX ?_
        refine r_block (r_then ?_)
        exact fin1 (.inl rfl) () [0] rfl ⟨rfl, trivial⟩ rfl (rv_tmp rfl)
      refine s_on rfl rfl rfl ?_
      refine mv1 rfl rfl ?_
      refine s_on rfl rfl rfl ?_
      refine mv1 rfl rfl ?_
      refine s_on rfl rfl rfl ?_
      refine pull fun t104 h_t104 => ?_
      refine s_st (s_callB (ψ := fun (_ : Unit) => bv t104) (args := [.tmp 137, .tmp 138]) Tryd.call28 rfl (keep_Ints_ok h_t104) ⟨argO rfl (j := 5) rfl, argO rfl (j := 6) rfl, trivial⟩ (fun _ _ _ _ _ h => h)) rfl (fun _ => ?_)
      refine s_on rfl rfl rfl ?_
      refine s_rd (r_not rfl) rfl ?_
      refine s_rd (r_pickF rfl rfl) rfl ?_
      refine l_nil ?_
      refine b_of (nrm [tbO (rI .u8) 0 tab_0, oc x7 [slv (rI .i64) s90.2.L, iv .i64 s90.2.At], oc b94 [iv .i64 t93.g.N, slv rT_api_Pair t93.g.L, slv (rI .i64) t93.w', iv .i64 t93.node], oc b96 [iv .i64 t95.1.Weight, slv (rI .i64) t95.1.Dropped], oc b98 [iv .i64 t97.1.Weight, slv (rI .i64) t97.1.Dropped], oa (rI .i64) x100.1 x100.2 t99.1, oa (rI .i64) x102.1 x102.2 t101.1] rfl) ?_
      refine n_then ?_
      refine ref_cond rfl (fun hb105 => ?_) (fun hb105 => ?_)
      · refine ref_seq (ref_region ?_)
        refine as1 rfl rfl ?_
        refine l_nil (n_then (ref_ret (r_then (r_block (r_then ?_)))))
        refine retX ?_
        refine r_block (r_then ?_)
        exact fin1 (.inl rfl) () [0] rfl ⟨rfl, trivial⟩ rfl (rv_tmp rfl)
      refine ref_skip (n_then (ref_seq (ref_region ?_)))
      refine mv1 rfl rfl ?_
      refine mv1 rfl rfl ?_
      refine pull fun t106 h_t106 => ?_
      refine s_st (s_callC [1] [true] (fun (_ : Unit) => [oc x7 [slv (rI .i64) t106.2.L, iv .i64 t106.2.At]]) (fun (_ : Unit) => []) (fun (_ : Unit) => iv .i64 t106.1) (args := [.tmp 143, .const (.int .i64 (6))]) (caps := []) Tryd.call11 rfl (keep_Src_N_ok h_t106) ⟨rfl, rfl, trivial⟩ (fun _ => rfl) (fun _ => trivial) (fun _ => rfl) ⟨arg rfl, arg rfl, trivial⟩ (fun _ _ _ _ h => h)) rfl (fun _ => ?_)
      refine s_st (s_bslice (xs := [.tmp 142, .tmp 144]) (ds := [t_4, t106.1]) Tryd.underlying22 el_3 rfl (Nat.le_of_ble_eq_true rfl) ⟨(part_at rfl iv_at), ⟨(part_at rfl iv_at), trivial⟩⟩) rfl (fun _ => ?_)
      refine s_rd (r_len Tryd.underlying22 rfl) rfl ?_
      refine mv1 rfl rfl ?_
      refine l_nil (n_then ?_)
      refine ref_loopX (f := (law22_DegreeAnswers_l2 t_4 t93 t106)) (Γl := (fun (s117 : Int) (x118 : Unit) => [(4, iv .i64 t_4), (11, pv (ptr x7 0)), (16, pv (ptr b94 0)), (67, slv rT_anon57 [(T_anon57.mk raw_0 weights_1 node_3), (T_anon57.mk t8.1 t8.2.1 k11.1), (T_anon57.mk t8.1 weights_1 k11.1), (T_anon57.mk t8.1 t8.2.1 node_3)]), (68, iv .i64 ([(T_anon57.mk raw_0 weights_1 node_3), (T_anon57.mk t8.1 t8.2.1 k11.1), (T_anon57.mk t8.1 weights_1 k11.1), (T_anon57.mk t8.1 t8.2.1 node_3)].length : Int)), (69, iv .i64 s90.1), (117, iv .i64 t99.2), (118, iv .i64 t101.2), (119, bv (t99.2 != t101.2)), (122, pv (ptr b96 0)), (123, iv .i64 t95.1.Weight), (124, pv (ptr b98 0)), (125, iv .i64 t97.1.Weight), (126, bv (t95.1.Weight != t97.1.Weight)), (129, pv (ptr b96 1)), (130, slv (rI .i64) t95.1.Dropped), (131, pv (ptr b98 1)), (132, slv (rI .i64) t97.1.Dropped), (133, bv t103), (134, bv (!t103)), (137, pv x100.1), (138, pv x102.1), (139, bv t104), (140, bv (!t104)), (145, slv (rI .i64) [t_4, t106.1]), (146, iv .i64 ([t_4, t106.1].length : Int)), (147, iv .i64 s117)])) (Ωl := (fun (s117 : Int) (x118 : Unit) => [tbO (rI .u8) 0 tab_0, oc x7 [slv (rI .i64) t106.2.L, iv .i64 t106.2.At], oc b94 [iv .i64 t93.g.N, slv rT_api_Pair t93.g.L, slv (rI .i64) t93.w', iv .i64 t93.node], oc b96 [iv .i64 t95.1.Weight, slv (rI .i64) t95.1.Dropped], oc b98 [iv .i64 t97.1.Weight, slv (rI .i64) t97.1.Dropped], oa (rI .i64) x100.1 x100.2 t99.1, oa (rI .i64) x102.1 x102.2 t101.1])) (Γb := (fun (q127 : Unit) (y128 : Unit) => [(4, iv .i64 t_4), (11, pv (ptr x7 0)), (67, slv rT_anon57 [(T_anon57.mk raw_0 weights_1 node_3), (T_anon57.mk t8.1 t8.2.1 k11.1), (T_anon57.mk t8.1 weights_1 k11.1), (T_anon57.mk t8.1 t8.2.1 node_3)]), (68, iv .i64 ([(T_anon57.mk raw_0 weights_1 node_3), (T_anon57.mk t8.1 t8.2.1 k11.1), (T_anon57.mk t8.1 weights_1 k11.1), (T_anon57.mk t8.1 t8.2.1 node_3)].length : Int)), (69, iv .i64 s90.1), (117, iv .i64 t99.2), (118, iv .i64 t101.2), (119, bv (t99.2 != t101.2)), (122, pv (ptr b96 0)), (123, iv .i64 t95.1.Weight), (124, pv (ptr b98 0)), (125, iv .i64 t97.1.Weight), (126, bv (t95.1.Weight != t97.1.Weight)), (129, pv (ptr b96 1)), (130, slv (rI .i64) t95.1.Dropped), (131, pv (ptr b98 1)), (132, slv (rI .i64) t97.1.Dropped), (133, bv t103), (134, bv (!t103)), (137, pv x100.1), (138, pv x102.1), (139, bv t104), (140, bv (!t104))])) (Ωb := (fun (q127 : Unit) (y128 : Unit) => [oc x7 [slv (rI .i64) t106.2.L, iv .i64 t106.2.At], oc b96 [iv .i64 t95.1.Weight, slv (rI .i64) t95.1.Dropped], oc b98 [iv .i64 t97.1.Weight, slv (rI .i64) t97.1.Dropped], oa (rI .i64) x100.1 x100.2 t99.1, oa (rI .i64) x102.1 x102.2 t101.1, tbO (rI .u8) 0 tab_0])) (kr := (fun a : Bool => some (Sum.inl (Sum.inl a)))) 0 () (weak [0, 1, 2, 3, 4, 5, 6] ⟨rfl, rfl, rfl, rfl, rfl, rfl, rfl, rfl, rfl, rfl, rfl, rfl, rfl, rfl, rfl, rfl, rfl, rfl, rfl, rfl, rfl, rfl, rfl, rfl, rfl, rfl, rfl, trivial⟩ ⟨rfl, rfl, rfl, rfl, rfl, rfl, rfl, trivial⟩) (fun s117 x118 => ?_) (fun q127 y128 => ?_)
      · unfold law22_DegreeAnswers_l2
        refine ref_seq (ref_region ?_)
        refine s_rd (r_lss rfl rfl) rfl ?_
        refine l_nil (n_then (ref_seq ?_))
        refine ref_cond rfl (fun hb119 => ?_) (fun hb119 => ?_)
        · refine ref_skip (n_then (ref_seq (ref_block (ref_seq (ref_region ?_)))))
          refine pull fun u120 h_u120 => ?_
          refine s_rd (r_index h_u120 Tryd.underlying22 el_3 rfl rfl) rfl ?_
          refine s_rd (r_load el_3 rfl) rfl ?_
          refine as1 rfl rfl ?_
          refine l_nil (n_then (ref_seq (ref_region ?_)))
          refine s_rd (r_faddr (fo := 0) Tryd.underlying57 rfl rfl Tryd.sizeOf27 rfl) rfl ?_
          refine s_rd (r_cloadS Tryd.isAgg27 Tryd.sizeOf27 rfl (j := 2) rfl rfl rfl) rfl ?_
          refine s_rd (r_faddr (fo := 2) Tryd.underlying57 rfl rfl Tryd.sizeOf22 rfl) rfl ?_
          refine s_rd (r_cload Tryd.isAgg22 rfl (j := 2) rfl rfl) rfl ?_
          refine mv1 rfl rfl ?_
          refine pull fun t121 h_t121 => ?_
          refine s_st (s_call (ψ := fun (_ : Unit) => tup [ag [iv .i64 t121.1.N, slv rT_api_Pair t121.1.L], iv .i64 t121.2]) (args := [.tmp 153, .tmp 155, .tmp 156]) Tryd.call29 rfl (degree_Cut_ok h_t121) ⟨arg rfl, arg rfl, arg rfl, trivial⟩ (fun _ _ _ _ h => h)) rfl (fun _ => ?_)
          refine mv1 rfl rfl ?_
          refine s_rd (r_extract rfl rfl) rfl ?_
          refine s_rd (r_extract rfl rfl) rfl ?_
          refine s_st (s_alloc zt_27) rfl (fun b122 => ?_)
          refine s_st0 (s_cstore (out := [iv .i64 t121.1.N, slv rT_api_Pair t121.1.L]) Tryd.sizeOf27 rfl (j := 7) rfl (part_agO (ψs := [iv .i64 t121.1.N, slv rT_api_Pair t121.1.L]) rfl ⟨.inl iv_at, .inl slv_at, trivial⟩) rfl rfl rfl) (fun _ => ?_)
          refine as1 rfl rfl ?_
          refine l_nil ?_
          refine b_of (nrm [tbO (rI .u8) 0 tab_0, oc x7 [slv (rI .i64) t106.2.L, iv .i64 t106.2.At], oc b94 [iv .i64 t93.g.N, slv rT_api_Pair t93.g.L, slv (rI .i64) t93.w', iv .i64 t93.node], oc b96 [iv .i64 t95.1.Weight, slv (rI .i64) t95.1.Dropped], oc b98 [iv .i64 t97.1.Weight, slv (rI .i64) t97.1.Dropped], oa (rI .i64) x100.1 x100.2 t99.1, oa (rI .i64) x102.1 x102.2 t101.1, oc b122 [iv .i64 t121.1.N, slv rT_api_Pair t121.1.L]] rfl) ?_
          refine n_then (ref_seq (ref_region ?_))
          refine s_rd (r_faddr (fo := 0) Tryd.underlying57 rfl rfl Tryd.sizeOf27 rfl) rfl ?_
          refine s_rd (r_cloadS Tryd.isAgg27 Tryd.sizeOf27 rfl (j := 2) rfl rfl rfl) rfl ?_
          refine s_rd (r_faddr (fo := 2) Tryd.underlying57 rfl rfl Tryd.sizeOf22 rfl) rfl ?_
          refine s_rd (r_cload Tryd.isAgg22 rfl (j := 2) rfl rfl) rfl ?_
          refine mv1 rfl rfl ?_
          refine pull fun t123 h_t123 => ?_
          refine s_st (s_call (ψ := fun (_ : Unit) => tup [ag [iv .i64 t123.1.N, slv rT_api_Pair t123.1.L], iv .i64 t123.2]) (args := [.tmp 162, .tmp 164, .tmp 165]) Tryd.call30 rfl (ref22_Cut_ok h_t123) ⟨arg rfl, arg rfl, arg rfl, trivial⟩ (fun _ _ _ _ h => h)) rfl (fun _ => ?_)
          refine mv1 rfl rfl ?_
          refine s_rd (r_extract rfl rfl) rfl ?_
          refine s_rd (r_extract rfl rfl) rfl ?_
          refine s_st (s_alloc zt_27) rfl (fun b124 => ?_)
          refine s_st0 (s_cstore (out := [iv .i64 t123.1.N, slv rT_api_Pair t123.1.L]) Tryd.sizeOf27 rfl (j := 8) rfl (part_agO (ψs := [iv .i64 t123.1.N, slv rT_api_Pair t123.1.L]) rfl ⟨.inl iv_at, .inl slv_at, trivial⟩) rfl rfl rfl) (fun _ => ?_)
          refine as1 rfl rfl ?_
          refine l_nil (n_then (ref_seq (ref_region ?_)))
          refine mv1 rfl rfl ?_
          refine mv1 rfl rfl ?_
          refine s_rd (r_neq rfl rfl) rfl ?_
          refine mv1 rfl rfl ?_
          refine b_split (t := 172) rfl (fun _ => ?_) (fun _ => ?_)
          · refine s_off rfl rfl rfl rfl rfl ?_
            refine s_off rfl rfl rfl rfl rfl ?_
            refine s_off rfl rfl rfl rfl rfl ?_
            refine s_off rfl rfl rfl rfl rfl ?_
            refine s_rd (r_pickT rfl rfl) rfl ?_
            refine l_nil (n_then ?_)
            refine ref_condT rfl rfl ?_
            refine ref_seq (ref_region ?_)
            refine as1 rfl rfl ?_
            refine l_nil (n_then (ref_ret (r_block (r_then ?_))))
            refine retX ?_
            refine r_block (r_block (r_then ?_))
            refine retX ?_
            refine r_block (r_then ?_)
            exact fin1 (.inl rfl) () [0] rfl ⟨rfl, trivial⟩ rfl (rv_tmp rfl)
          refine s_on rfl rfl rfl ?_
          refine s_rd (r_cloadS Tryd.isAgg27 Tryd.sizeOf27 rfl (j := 7) rfl rfl rfl) rfl ?_
          refine s_on rfl rfl rfl ?_
          refine s_rd (r_cloadS Tryd.isAgg27 Tryd.sizeOf27 rfl (j := 8) rfl rfl rfl) rfl ?_
          refine s_on rfl rfl rfl ?_
          refine pull fun t125 h_t125 => ?_
          refine s_st (s_call (ψ := fun (_ : Unit) => bv t125) (args := [.tmp 173, .tmp 174]) Tryd.call31 rfl (net_Same_ok h_t125) ⟨arg rfl, arg rfl, trivial⟩ (fun _ _ _ _ h => h)) rfl (fun _ => ?_)
          refine s_on rfl rfl rfl ?_
          refine s_rd (r_not rfl) rfl ?_
          refine s_rd (r_pickF rfl rfl) rfl ?_
          refine l_nil ?_
          refine b_of (nrm [tbO (rI .u8) 0 tab_0, oc x7 [slv (rI .i64) t106.2.L, iv .i64 t106.2.At], oc b94 [iv .i64 t93.g.N, slv rT_api_Pair t93.g.L, slv (rI .i64) t93.w', iv .i64 t93.node], oc b96 [iv .i64 t95.1.Weight, slv (rI .i64) t95.1.Dropped], oc b98 [iv .i64 t97.1.Weight, slv (rI .i64) t97.1.Dropped], oa (rI .i64) x100.1 x100.2 t99.1, oa (rI .i64) x102.1 x102.2 t101.1, oc b122 [iv .i64 t121.1.N, slv rT_api_Pair t121.1.L], oc b124 [iv .i64 t123.1.N, slv rT_api_Pair t123.1.L]] rfl) ?_
          refine n_then ?_
          refine ref_cond rfl (fun hb126 => ?_) (fun hb126 => ?_)
          · refine ref_seq (ref_region ?_)
            refine as1 rfl rfl ?_
            refine l_nil (n_then (ref_ret (r_block (r_then ?_))))
            refine retX ?_
            refine r_block (r_block (r_then ?_))
            refine retX ?_
            refine r_block (r_then ?_)
            exact fin1 (.inl rfl) () [0] rfl ⟨rfl, trivial⟩ rfl (rv_tmp rfl)
          refine ref_skip (n_block (n_then (ref_region ?_)))
          refine s_rd (r_add rfl rfl) rfl ?_
          refine mv1 rfl rfl ?_
          refine l_nil ?_
          exact goX () (weak [0, 1, 2, 3, 4, 5, 6] ⟨rfl, rfl, rfl, rfl, rfl, rfl, rfl, rfl, rfl, rfl, rfl, rfl, rfl, rfl, rfl, rfl, rfl, rfl, rfl, rfl, rfl, rfl, rfl, rfl, rfl, rfl, rfl, trivial⟩ ⟨rfl, rfl, rfl, rfl, rfl, rfl, rfl, trivial⟩)
        refine ref_exit (x_then ?_)
        exact brkX () (weak [1, 3, 4, 5, 6, 0] ⟨rfl, rfl, rfl, rfl, rfl, rfl, rfl, rfl, rfl, rfl, rfl, rfl, rfl, rfl, rfl, rfl, rfl, rfl, rfl, rfl, rfl, rfl, rfl, trivial⟩ ⟨rfl, rfl, rfl, rfl, rfl, rfl, trivial⟩)
      refine n_block (n_then (ref_region ?_))
      refine s_rd (r_add rfl rfl) rfl ?_
      refine mv1 rfl rfl ?_
      refine l_nil ?_
      exact goX () (weak [5, 0] ⟨rfl, rfl, rfl, rfl, rfl, trivial⟩ ⟨rfl, rfl, trivial⟩)
    refine ref_exit (x_then ?_)
    exact brkX () (weak [0] trivial ⟨rfl, trivial⟩)
  refine n_then (ref_seq (ref_region ?_))
  refine pull fun t131 h_t131 => ?_
  refine s_st (s_callC [0] [true] (fun (_ : Unit) => [tbO (rI .u8) 0 tab_0]) (fun (_ : Unit) => []) (fun (_ : Unit) => bv t131) (args := []) (caps := []) Tryd.call14 rfl (law22_awake_ok h_t131) ⟨rfl, rfl, trivial⟩ (fun _ => rfl) (fun _ => trivial) (fun _ => rfl) trivial (fun _ _ _ _ h => h)) rfl (fun _ => ?_)
  refine as1 rfl rfl ?_
  refine l_nil (n_then (ref_ret ?_))
  exact fin1 (.inl rfl) () [0] rfl ⟨rfl, trivial⟩ rfl (rv_tmp rfl)

end Go.Dc
