/- Part LAW23A.A2 of a proof: lemmas. -/
import Derived.Test.YtkcaadcoagimdaaDoorLAW23AA1
import Derived.Test.YtkcaadcoagimdaaDoorProg
set_option linter.unusedVariables false
set_option maxRecDepth 100000
set_option maxHeartbeats 4000000
namespace Go.Dc
open Go.Proofs
open Go.Proofs.Tryd (prog)

/-! deliberation/deliberationnet.Grounded -/
noncomputable def net_Grounded_l1 (g_0 : T_api_Graph) (s16 : Int × (List Int)) : Option (Sum ((List Int)) (Int × (List Int))) :=
  bif decide (s16.1 < g_0.N) then
    Option.bind (idxM s16.2 s16.1) fun t19 =>
    letM (iadd .i64 s16.1 1) fun i20 =>
    some (Sum.inr (i20, s16.2.set (Int.toNat s16.1) 3))
  else
    some (Sum.inl s16.2)

noncomputable def net_Grounded_l4 (g_0 : T_api_Graph) (s292 : Int × (List Int) × (List Int)) (s341 : Int × (List Int)) (s350 : Bool × Int) : Option (Sum (Bool) (Bool × Int)) :=
  bif decide (s350.2 < g_0.N) then
    bif s350.1 then
      Option.bind (net_Has_m g_0 s350.2 s341.1) fun t353 =>
      bif !t353 then
        letM (iadd .i64 s350.2 1) fun b355 =>
        some (Sum.inr (true, b355))
      else
        Option.bind (idxM s292.2.1 s350.2) fun t354 =>
        letM (iadd .i64 s350.2 1) fun b356 =>
        some (Sum.inr (t354 == 2, b356))
    else
      letM (iadd .i64 s350.2 1) fun b357 =>
      some (Sum.inr (false, b357))
  else
    some (Sum.inl s350.1)

noncomputable def net_Grounded_l3 (g_0 : T_api_Graph) (s292 : Int × (List Int) × (List Int)) (s341 : Int × (List Int)) : Option (Sum ((List Int)) (Int × (List Int))) :=
  bif decide (s341.1 < g_0.N) then
    Option.bind (idxM s292.2.1 s341.1) fun t344 =>
    Option.bind (loopC (net_Grounded_l4 g_0 s292 s341) (t344 == 3, 0)) fun q358 : Bool =>
    bif q358 then
      Option.bind (appM 8 s341.2 [s341.1]) fun now361 =>
      letM (iadd .i64 s341.1 1) fun a_363 =>
      some (Sum.inr (a_363, now361))
    else
      letM (iadd .i64 s341.1 1) fun a_364 =>
      some (Sum.inr (a_364, s341.2))
  else
    some (Sum.inl s341.2)

noncomputable def net_Grounded_l5 (s292 : Int × (List Int) × (List Int)) (q365 : (List Int)) (s379 : Int × (List Int) × (List Int)) : Option (Sum ((List Int) × (List Int)) (Int × (List Int) × (List Int))) :=
  bif decide (s379.1 < (q365.length : Int)) then
    Option.bind (idxM q365 s379.1) fun a_382 =>
    Option.bind (idxM s379.2.1 a_382) fun t383 =>
    Option.bind (idxM s379.2.2 a_382) fun t384 =>
    some (Sum.inr (iadd .i64 s379.1 1, s379.2.1.set (Int.toNat a_382) 1, s379.2.2.set (Int.toNat a_382) s292.1))
  else
    some (Sum.inl (s379.2.1, s379.2.2))

noncomputable def net_Grounded_l6 (g_0 : T_api_Graph) (s292 : Int × (List Int) × (List Int)) (q365 : (List Int)) (s411 : Int × (List Int) × (List Int)) : Option (Sum ((List Int) × (List Int)) (Int × (List Int) × (List Int))) :=
  bif decide (s411.1 < g_0.N) then
    joinM (fun j416 : Bool =>
        bif j416 then
          Option.bind (idxM s411.2.1 s411.1) fun t420 =>
          Option.bind (idxM s411.2.2 s411.1) fun t421 =>
          letM (iadd .i64 s411.1 1) fun b422 =>
          some (Sum.inr (b422, s411.2.1.set (Int.toNat s411.1) 2, s411.2.2.set (Int.toNat s411.1) s292.1))
        else
          letM (iadd .i64 s411.1 1) fun b423 =>
          some (Sum.inr (b423, s411.2.1, s411.2.2))) fun k418 =>
    Option.bind (idxM s411.2.1 s411.1) fun t414 =>
    bif t414 == 3 then
      Option.bind (net_Attacked_m g_0 q365 s411.1) fun t415 =>
      k418 t415
    else
      k418 false
  else
    some (Sum.inl (s411.2.1, s411.2.2))

noncomputable def net_Grounded_l2 (g_0 : T_api_Graph) (s292 : Int × (List Int) × (List Int)) : Option (Sum ((List Int) × (List Int)) (Int × (List Int) × (List Int))) :=
  bif decide (s292.1 ≤ (iadd .i64 g_0.N 1)) then
    Option.bind (loopC (net_Grounded_l3 g_0 s292) (0, [])) fun q365 : (List Int) =>
    Option.bind (loopC (net_Grounded_l5 s292 q365) (0, s292.2.1, s292.2.2)) fun q385 : (List Int) × (List Int) =>
    Option.bind (loopC (net_Grounded_l6 g_0 s292 q365) (0, q385.1, q385.2)) fun q424 : (List Int) × (List Int) =>
    letM (iadd .i64 s292.1 1) fun round426 =>
    some (Sum.inr (round426, q424.1, q424.2))
  else
    some (Sum.inl (s292.2.1, s292.2.2))

noncomputable def net_Grounded_m (g_0 : T_api_Graph) : Option (List Int × List Int) :=
  Option.bind (mkM 8 0 g_0.N) fun labels3 =>
  Option.bind (mkM 8 0 g_0.N) fun ranks5 =>
  Option.bind (loopC (net_Grounded_l1 g_0) (0, labels3)) fun q21 : (List Int) =>
  Option.bind (loopC (net_Grounded_l2 g_0) (1, q21, ranks5)) fun q427 : (List Int) × (List Int) =>
  some (q427.1, q427.2)

theorem net_Grounded_ok {g_0 : T_api_Graph} {r : List Int × List Int} (hm : net_Grounded_m g_0 = some r) :
    FnOk prog 45 [ag [iv .i64 g_0.N, slv rT_api_Pair g_0.L]] [] (fun (x : (Value × List Nat) × (Value × List Nat)) => [pv x.1.1, pv x.2.1]) (fun (x : (Value × List Nat) × (Value × List Nat)) => [oa (rI .i64) x.1.1 x.1.2 r.1, oa (rI .i64) x.2.1 x.2.2 r.2]) := by
  refine fn_ok (X := (Value × List Nat) × (Value × List Nat)) (fn := Tryd.f45) (N := 114) (res := fun r x => [pv x.1.1, pv x.2.1]) (Ω1 := fun r x => [oa (rI .i64) x.1.1 x.1.2 r.1, oa (rI .i64) x.2.1 x.2.2 r.2]) Tryd.func45 rfl rfl hm rfl (fun E hM => ?_)
  unfold net_Grounded_m
  refine ref_seq (ref_region ?_)
  refine s_st (s_box (part_agO (ψs := [iv .i64 g_0.N, slv rT_api_Pair g_0.L]) rfl ⟨.inl iv_at, .inl slv_at, trivial⟩)) rfl (fun b1 => ?_)
  refine as1 rfl rfl ?_
  refine as1 rfl rfl ?_
  refine l_nil (n_then (ref_seq ?_))
  refine pull fun labels3 h_labels3 => ?_
  refine pull fun ranks5 h_ranks5 => ?_
  refine ref_drawI 2 [⟨[], [], [], [], [], fun us u => pv (ptr b1 0), fun us u => []⟩, ⟨[0], [], [], [0], [], fun us u => iv .i64 g_0.N, fun us u => []⟩, ⟨[0, 1], [], [1], [1], [], fun us u => pv u.V.1, fun us u => [oa (rI .i64) u.V.1 u.V.2 labels3]⟩, ⟨[], [], [], [], [], fun us u => pv (ptr b1 0), fun us u => []⟩, ⟨[3], [], [], [0], [], fun us u => iv .i64 g_0.N, fun us u => []⟩, ⟨[3, 4], [], [2], [2], [], fun us u => pv u.V.1, fun us u => [oa (rI .i64) u.V.1 u.V.2 ranks5]⟩, ⟨[0, 1, 2], [2], [], [], [], fun us u => pv (us.getD 0 .none).V.1, fun us u => []⟩, ⟨[0, 1, 2, 3, 4, 5, 6], [5], [], [], [], fun us u => pv (us.getD 0 .none).V.1, fun us u => []⟩] (fun χ2 => [(1, pv (ptr b1 0)), (4, pv (χ2 2).V.1), (5, pv (χ2 5).V.1)]) (fun χ2 => [oc b1 [iv .i64 g_0.N, slv rT_api_Pair g_0.L], oa (rI .i64) (χ2 2).V.1 (χ2 2).V.2 labels3, oa (rI .i64) (χ2 5).V.1 (χ2 5).V.2 ranks5]) rfl (by kernel_rfl) ⟨fun χ2 Ω _ => St.toR (r_faddr (fo := 0) Tryd.underlying27 rfl rfl Tryd.sizeOf3 rfl) (fun _ => rfl) (fun _ => rfl), (by intro _ h; cases h; rfl), ⟨fun χ2 Ω ⟨h0, _⟩ => St.toR (r_cload Tryd.isAgg3 rfl (j := 0) h0 rfl) (fun _ => rfl) (fun _ => rfl), (by intro _ h; cases h; rfl), ⟨fun χ2 Ω ⟨h1, _⟩ => St.to XU.V XU.hV (St.placeL (os := fun _ => [_]) [1] (s_make h_labels3 Tryd.underlying22 el_3 ze_3 rfl rfl) (fun _ => rfl) (fun _ => ⟨h1, rfl, trivial⟩)) (fun _ => rfl) (fun _ => rfl), (by intro _ h; cases h; rfl), ⟨fun χ2 Ω _ => St.toR (r_faddr (fo := 0) Tryd.underlying27 rfl rfl Tryd.sizeOf3 rfl) (fun _ => rfl) (fun _ => rfl), (by intro _ h; cases h; rfl), ⟨fun χ2 Ω ⟨h0, _⟩ => St.toR (r_cload Tryd.isAgg3 rfl (j := 0) h0 rfl) (fun _ => rfl) (fun _ => rfl), (by intro _ h; cases h; rfl), ⟨fun χ2 Ω ⟨h2, _⟩ => St.to XU.V XU.hV (St.placeL (os := fun _ => [_]) [2] (s_make h_ranks5 Tryd.underlying22 el_3 ze_3 rfl rfl) (fun _ => rfl) (fun _ => ⟨h2, rfl, trivial⟩)) (fun _ => rfl) (fun _ => rfl), (by intro _ h; cases h; rfl), ⟨fun χ2 Ω _ => St.toR (r_assign rfl) (fun _ => rfl) (fun _ => rfl), (by intro _ h; cases h; rfl), ⟨fun χ2 Ω _ => St.toR (r_assign rfl) (fun _ => rfl) (fun _ => rfl), (by intro _ h; cases h; rfl), trivial⟩⟩⟩⟩⟩⟩⟩⟩ (fun _ => ⟨rfl, rfl, rfl, trivial⟩) (fun _ => rfl) (fun χ2 => ?_)
  refine n_then (ref_seq (ref_seq (ref_region ?_)))
  refine as1 rfl rfl ?_
  refine l_nil (n_then ?_)
  refine ref_loopB (f := (net_Grounded_l1 g_0)) (Γl := (fun (s16 : Int × (List Int)) (x17 : Unit) => [(1, pv (ptr b1 0)), (4, pv (χ2 2).V.1), (5, pv (χ2 5).V.1), (6, iv .i64 s16.1)])) (Ωl := (fun (s16 : Int × (List Int)) (x17 : Unit) => [oc b1 [iv .i64 g_0.N, slv rT_api_Pair g_0.L], oa (rI .i64) (χ2 2).V.1 (χ2 2).V.2 s16.2, oa (rI .i64) (χ2 5).V.1 (χ2 5).V.2 ranks5])) (Γb := (fun (q21 : (List Int)) (y22 : Unit) => [(1, pv (ptr b1 0)), (4, pv (χ2 2).V.1), (5, pv (χ2 5).V.1)])) (Ωb := (fun (q21 : (List Int)) (y22 : Unit) => [oc b1 [iv .i64 g_0.N, slv rT_api_Pair g_0.L], oa (rI .i64) (χ2 2).V.1 (χ2 2).V.2 q21, oa (rI .i64) (χ2 5).V.1 (χ2 5).V.2 ranks5])) (0, labels3) () (weak [0, 1, 2] ⟨rfl, rfl, rfl, rfl, trivial⟩ ⟨rfl, rfl, rfl, trivial⟩) (fun s16 x17 => ?_) (fun q21 y22 => ?_)
  · unfold net_Grounded_l1
    refine ref_seq (ref_seq (ref_region ?_))
    refine mv1 rfl rfl ?_
    refine s_rd (r_faddr (fo := 0) Tryd.underlying27 rfl rfl Tryd.sizeOf3 rfl) rfl ?_
    refine s_rd (r_cload Tryd.isAgg3 rfl (j := 0) rfl rfl) rfl ?_
    refine s_rd (r_lss rfl rfl) rfl ?_
    refine l_nil (n_then ?_)
    refine ref_cond rfl (fun hb18 => ?_) (fun hb18 => ?_)
    · refine ref_skip (n_then (ref_seq (ref_block (ref_region ?_))))
      refine mv1 rfl rfl ?_
      refine mv1 rfl rfl ?_
      refine pull fun t19 h_t19 => ?_
      refine s_rd (r_oindex h_t19 Tryd.underlying22 el_3 rfl (j := 1) rfl rfl) rfl ?_
      refine s_st0 (s_ostore (u := 3) h_t19 el_3 rfl (j := 1) rfl (part_at rfl iv_at)) (fun _ => ?_)
      refine l_nil (n_block (n_then (ref_region ?_)))
      refine mv1 rfl rfl ?_
      refine s_rd (r_add rfl rfl) rfl ?_
      refine as1 rfl rfl ?_
      refine b_let (f := iv .i64) (t := 6) rfl fun i20 => ?_
      refine l_nil ?_
      exact goB () (weak [0, 1, 2] ⟨rfl, rfl, rfl, rfl, trivial⟩ ⟨rfl, rfl, rfl, trivial⟩)
    refine ref_exit (x_then ?_)
    exact brkB () (weak [0, 1, 2] ⟨rfl, rfl, rfl, trivial⟩ ⟨rfl, rfl, rfl, trivial⟩)
  refine n_then (ref_seq (ref_seq (ref_region ?_)))
  refine as1 rfl rfl ?_
  refine l_nil (n_then ?_)
  refine ref_loopB (f := (net_Grounded_l2 g_0)) (Γl := (fun (s292 : Int × (List Int) × (List Int)) (x293 : Unit) => [(1, pv (ptr b1 0)), (4, pv (χ2 2).V.1), (5, pv (χ2 5).V.1), (7, iv .i64 s292.1)])) (Ωl := (fun (s292 : Int × (List Int) × (List Int)) (x293 : Unit) => [oc b1 [iv .i64 g_0.N, slv rT_api_Pair g_0.L], oa (rI .i64) (χ2 2).V.1 (χ2 2).V.2 s292.2.1, oa (rI .i64) (χ2 5).V.1 (χ2 5).V.2 s292.2.2])) (Γb := (fun (q427 : (List Int) × (List Int)) (y428 : Unit) => [(4, pv (χ2 2).V.1), (5, pv (χ2 5).V.1)])) (Ωb := (fun (q427 : (List Int) × (List Int)) (y428 : Unit) => [oa (rI .i64) (χ2 2).V.1 (χ2 2).V.2 q427.1, oa (rI .i64) (χ2 5).V.1 (χ2 5).V.2 q427.2])) (1, q21, ranks5) () (weak [0, 1, 2] ⟨rfl, rfl, rfl, rfl, trivial⟩ ⟨rfl, rfl, rfl, trivial⟩) (fun s292 x293 => ?_) (fun q427 y428 => ?_)
  · unfold net_Grounded_l2
    refine ref_seq (ref_seq (ref_region ?_))
    refine mv1 rfl rfl ?_
    refine s_rd (r_faddr (fo := 0) Tryd.underlying27 rfl rfl Tryd.sizeOf3 rfl) rfl ?_
    refine s_rd (r_cload Tryd.isAgg3 rfl (j := 0) rfl rfl) rfl ?_
    refine s_rd (r_add rfl rfl) rfl ?_
    refine s_rd (r_leq rfl rfl) rfl ?_
    refine l_nil (n_then ?_)
    refine ref_cond rfl (fun hb294 => ?_) (fun hb294 => ?_)
    · refine ref_skip (n_then (ref_seq (ref_block (ref_seq (ref_region ?_)))))
      refine as1 rfl rfl ?_
      refine l_nil (n_then (ref_seq (ref_seq (ref_region ?_))))
      refine as1 rfl rfl ?_
      refine l_nil (n_then ?_)
      refine b_of (own_nil (rI .i64)) ?_
      refine ref_loopB (f := (net_Grounded_l3 g_0 s292)) (Γl := (fun (s341 : Int × (List Int)) (x342 : (Value × List Nat)) => [(1, pv (ptr b1 0)), (4, pv (χ2 2).V.1), (5, pv (χ2 5).V.1), (7, iv .i64 s292.1), (8, pv x342.1), (9, iv .i64 s341.1)])) (Ωl := (fun (s341 : Int × (List Int)) (x342 : (Value × List Nat)) => [oc b1 [iv .i64 g_0.N, slv rT_api_Pair g_0.L], oa (rI .i64) (χ2 2).V.1 (χ2 2).V.2 s292.2.1, oa (rI .i64) (χ2 5).V.1 (χ2 5).V.2 s292.2.2, oa (rI .i64) x342.1 x342.2 s341.2])) (Γb := (fun (q365 : (List Int)) (y366 : (Value × List Nat)) => [(1, pv (ptr b1 0)), (4, pv (χ2 2).V.1), (5, pv (χ2 5).V.1), (7, iv .i64 s292.1), (8, pv y366.1)])) (Ωb := (fun (q365 : (List Int)) (y366 : (Value × List Nat)) => [oc b1 [iv .i64 g_0.N, slv rT_api_Pair g_0.L], oa (rI .i64) (χ2 2).V.1 (χ2 2).V.2 s292.2.1, oa (rI .i64) (χ2 5).V.1 (χ2 5).V.2 s292.2.2, oa (rI .i64) y366.1 y366.2 q365])) (0, []) ((.slice none 0 0), []) (weak [0, 1, 2, 3] ⟨rfl, rfl, rfl, rfl, rfl, rfl, trivial⟩ ⟨rfl, rfl, rfl, rfl, trivial⟩) (fun s341 x342 => ?_) (fun q365 y366 => ?_)
      · unfold net_Grounded_l3
        refine ref_seq (ref_seq (ref_region ?_))
        refine mv1 rfl rfl ?_
        refine s_rd (r_faddr (fo := 0) Tryd.underlying27 rfl rfl Tryd.sizeOf3 rfl) rfl ?_
        refine s_rd (r_cload Tryd.isAgg3 rfl (j := 0) rfl rfl) rfl ?_
        refine s_rd (r_lss rfl rfl) rfl ?_
        refine l_nil (n_then ?_)
        refine ref_cond rfl (fun hb343 => ?_) (fun hb343 => ?_)
        · refine ref_skip (n_then (ref_seq (ref_block (ref_seq (ref_region ?_)))))
          refine mv1 rfl rfl ?_
          refine mv1 rfl rfl ?_
          refine pull fun t344 h_t344 => ?_
          refine s_rd (r_oindex h_t344 Tryd.underlying22 el_3 rfl (j := 1) rfl rfl) rfl ?_
          refine s_rd (r_oload h_t344 el_3 rfl (j := 1) rfl) rfl ?_
          refine s_rd (r_eql rfl rfl) rfl ?_
          refine as1 rfl rfl ?_
          refine l_nil (n_then (ref_seq (ref_seq (ref_region ?_))))
          refine as1 rfl rfl ?_
          refine l_nil (n_then ?_)
          refine ref_loopB (f := (net_Grounded_l4 g_0 s292 s341)) (Γl := (fun (s350 : Bool × Int) (x351 : Unit) => [(1, pv (ptr b1 0)), (4, pv (χ2 2).V.1), (5, pv (χ2 5).V.1), (7, iv .i64 s292.1), (8, pv x342.1), (9, iv .i64 s341.1), (10, bv s350.1), (11, iv .i64 s350.2)])) (Ωl := (fun (s350 : Bool × Int) (x351 : Unit) => [oc b1 [iv .i64 g_0.N, slv rT_api_Pair g_0.L], oa (rI .i64) (χ2 2).V.1 (χ2 2).V.2 s292.2.1, oa (rI .i64) (χ2 5).V.1 (χ2 5).V.2 s292.2.2, oa (rI .i64) x342.1 x342.2 s341.2])) (Γb := (fun (q358 : Bool) (y359 : Unit) => [(1, pv (ptr b1 0)), (4, pv (χ2 2).V.1), (5, pv (χ2 5).V.1), (7, iv .i64 s292.1), (8, pv x342.1), (9, iv .i64 s341.1), (10, bv q358)])) (Ωb := (fun (q358 : Bool) (y359 : Unit) => [oc b1 [iv .i64 g_0.N, slv rT_api_Pair g_0.L], oa (rI .i64) (χ2 2).V.1 (χ2 2).V.2 s292.2.1, oa (rI .i64) (χ2 5).V.1 (χ2 5).V.2 s292.2.2, oa (rI .i64) x342.1 x342.2 s341.2])) (t344 == 3, 0) () (weak [0, 1, 2, 3] ⟨rfl, rfl, rfl, rfl, rfl, rfl, rfl, rfl, trivial⟩ ⟨rfl, rfl, rfl, rfl, trivial⟩) (fun s350 x351 => ?_) (fun q358 y359 => ?_)
          · unfold net_Grounded_l4
            refine ref_seq (ref_seq (ref_region ?_))
            refine mv1 rfl rfl ?_
            refine s_rd (r_faddr (fo := 0) Tryd.underlying27 rfl rfl Tryd.sizeOf3 rfl) rfl ?_
            refine s_rd (r_cload Tryd.isAgg3 rfl (j := 0) rfl rfl) rfl ?_
            refine s_rd (r_lss rfl rfl) rfl ?_
            refine l_nil (n_then ?_)
            refine ref_cond rfl (fun hb352 => ?_) (fun hb352 => ?_)
            · refine ref_skip (n_then (ref_seq (ref_block (ref_region ?_))))
              refine mv1 rfl rfl ?_
              refine mv1 rfl rfl ?_
              refine b_split (t := 55) rfl (fun _ => ?_) (fun _ => ?_)
              · refine s_on rfl rfl rfl ?_
                refine s_rd (r_cloadS Tryd.isAgg27 Tryd.sizeOf27 rfl (j := 0) rfl rfl rfl) rfl ?_
                refine s_on rfl rfl rfl ?_
                refine mv1 rfl rfl ?_
                refine s_on rfl rfl rfl ?_
                refine mv1 rfl rfl ?_
                refine s_on rfl rfl rfl ?_
                refine pull fun t353 h_t353 => ?_
                refine s_st (s_call (ψ := fun (_ : Unit) => bv t353) (args := [.tmp 56, .tmp 57, .tmp 58]) Tryd.call67 rfl (net_Has_ok h_t353) ⟨arg rfl, arg rfl, arg rfl, trivial⟩ (fun _ _ _ _ h => h)) rfl (fun _ => ?_)
                refine s_on rfl rfl rfl ?_
                refine s_rd (r_not rfl) rfl ?_
                refine s_on rfl rfl rfl ?_
                refine mv1 rfl rfl ?_
                refine b_split (t := 61) rfl (fun _ => ?_) (fun _ => ?_)
                · refine s_off rfl rfl rfl rfl rfl ?_
                  refine s_off rfl rfl rfl rfl rfl ?_
                  refine s_off rfl rfl rfl rfl rfl ?_
                  refine s_off rfl rfl rfl rfl rfl ?_
                  refine s_off rfl rfl rfl rfl rfl ?_
                  refine s_on rfl rfl rfl ?_
                  refine s_rd (r_pickT rfl rfl) rfl ?_
                  refine s_rd (r_pickT rfl rfl) rfl ?_
                  refine as1 rfl rfl ?_
                  refine l_nil (n_block (n_then (ref_region ?_)))
                  refine mv1 rfl rfl ?_
                  refine s_rd (r_add rfl rfl) rfl ?_
                  refine as1 rfl rfl ?_
                  refine b_let (f := iv .i64) (t := 11) rfl fun b355 => ?_
                  refine l_nil ?_
                  exact goB () (weak [0, 1, 2, 3] ⟨rfl, rfl, rfl, rfl, rfl, rfl, rfl, rfl, trivial⟩ ⟨rfl, rfl, rfl, rfl, trivial⟩)
                refine s_on rfl rfl rfl ?_
                refine mv1 rfl rfl ?_
                refine s_on rfl rfl rfl ?_
                refine mv1 rfl rfl ?_
                refine s_on rfl rfl rfl ?_
                refine pull fun t354 h_t354 => ?_
                refine s_rd (r_oindex h_t354 Tryd.underlying22 el_3 rfl (j := 1) rfl rfl) rfl ?_
                refine s_on rfl rfl rfl ?_
                refine s_rd (r_oload h_t354 el_3 rfl (j := 1) rfl) rfl ?_
                refine s_on rfl rfl rfl ?_
                refine s_rd (r_eql rfl rfl) rfl ?_
                refine s_on rfl rfl rfl ?_
                refine s_rd (r_pickF rfl rfl) rfl ?_
                refine s_rd (r_pickT rfl rfl) rfl ?_
                refine as1 rfl rfl ?_
                refine l_nil (n_block (n_then (ref_region ?_)))
                refine mv1 rfl rfl ?_
                refine s_rd (r_add rfl rfl) rfl ?_
                refine as1 rfl rfl ?_
                refine b_let (f := iv .i64) (t := 11) rfl fun b356 => ?_
                refine l_nil ?_
                exact goB () (weak [0, 1, 2, 3] ⟨rfl, rfl, rfl, rfl, rfl, rfl, rfl, rfl, trivial⟩ ⟨rfl, rfl, rfl, rfl, trivial⟩)
              refine s_off rfl rfl rfl rfl rfl ?_
              refine s_off rfl rfl rfl rfl rfl ?_
              refine s_off rfl rfl rfl rfl rfl ?_
              refine s_off rfl rfl rfl rfl rfl ?_
              refine s_off rfl rfl rfl rfl rfl ?_
              refine s_off rfl rfl rfl rfl rfl ?_
              refine s_offU rfl rfl rfl ?_
              refine s_offU rfl rfl rfl ?_
              refine s_offU rfl rfl rfl ?_
              refine s_offU rfl rfl rfl ?_
              refine s_offU rfl rfl rfl ?_
              refine s_off rfl rfl rfl rfl rfl ?_
              refine s_rd (r_pickF rfl rfl) rfl ?_
              refine as1 rfl rfl ?_
              refine l_nil (n_block (n_then (ref_region ?_)))
              refine mv1 rfl rfl ?_
              refine s_rd (r_add rfl rfl) rfl ?_
              refine as1 rfl rfl ?_
              refine b_let (f := iv .i64) (t := 11) rfl fun b357 => ?_
              refine l_nil ?_
              exact goB () (weak [0, 1, 2, 3] ⟨rfl, rfl, rfl, rfl, rfl, rfl, rfl, rfl, trivial⟩ ⟨rfl, rfl, rfl, rfl, trivial⟩)
            refine ref_exit (x_then ?_)
            exact brkB () (weak [0, 1, 2, 3] ⟨rfl, rfl, rfl, rfl, rfl, rfl, rfl, trivial⟩ ⟨rfl, rfl, rfl, rfl, trivial⟩)
          refine n_then (ref_seq (ref_region ?_))
          refine mv1 rfl rfl ?_
          refine l_nil (n_then ?_)
          refine ref_cond rfl (fun hb360 => ?_) (fun hb360 => ?_)
          · refine ref_region ?_
            refine mv1 rfl rfl ?_
            refine mv1 rfl rfl ?_
            refine s_st (s_bslice (xs := [.tmp 71]) (ds := [s341.1]) Tryd.underlying22 el_3 rfl (Nat.le_of_ble_eq_true rfl) ⟨(part_at rfl iv_at), trivial⟩) rfl (fun _ => ?_)
            refine pull fun now361 h_now361 => ?_
            refine s_st (s_append h_now361 Tryd.underlying22 el_3 rfl (j := 3) rfl rfl) rfl (fun o362 => ?_)
            refine as1 rfl rfl ?_
            refine l_nil (n_block (n_then (ref_region ?_)))
            refine mv1 rfl rfl ?_
            refine s_rd (r_add rfl rfl) rfl ?_
            refine as1 rfl rfl ?_
            refine b_let (f := iv .i64) (t := 9) rfl fun a_363 => ?_
            refine l_nil ?_
            exact goB o362 (weak [0, 1, 2, 3] ⟨rfl, rfl, rfl, rfl, rfl, rfl, trivial⟩ ⟨rfl, rfl, rfl, rfl, trivial⟩)
          refine ref_skip (n_block (n_then (ref_region ?_)))
          refine mv1 rfl rfl ?_
          refine s_rd (r_add rfl rfl) rfl ?_
          refine as1 rfl rfl ?_
          refine b_let (f := iv .i64) (t := 9) rfl fun a_364 => ?_
          refine l_nil ?_
          exact goB x342 (weak [0, 1, 2, 3] ⟨rfl, rfl, rfl, rfl, rfl, rfl, trivial⟩ ⟨rfl, rfl, rfl, rfl, trivial⟩)
        refine ref_exit (x_then ?_)
        exact brkB x342 (weak [0, 1, 2, 3] ⟨rfl, rfl, rfl, rfl, rfl, trivial⟩ ⟨rfl, rfl, rfl, rfl, trivial⟩)
      refine n_then (ref_seq (ref_seq (ref_region ?_)))
      refine mv1 rfl rfl ?_
      refine s_rd (r_olen Tryd.underlying22 rfl (j := 3) rfl) rfl ?_
      refine mv1 rfl rfl ?_
      refine l_nil (n_then ?_)
      refine ref_loopB (f := (net_Grounded_l5 s292 q365)) (Γl := (fun (s379 : Int × (List Int) × (List Int)) (x380 : Unit) => [(1, pv (ptr b1 0)), (4, pv (χ2 2).V.1), (5, pv (χ2 5).V.1), (7, iv .i64 s292.1), (8, pv y366.1), (74, pv y366.1), (75, iv .i64 (q365.length : Int)), (76, iv .i64 s379.1)])) (Ωl := (fun (s379 : Int × (List Int) × (List Int)) (x380 : Unit) => [oc b1 [iv .i64 g_0.N, slv rT_api_Pair g_0.L], oa (rI .i64) (χ2 2).V.1 (χ2 2).V.2 s379.2.1, oa (rI .i64) (χ2 5).V.1 (χ2 5).V.2 s379.2.2, oa (rI .i64) y366.1 y366.2 q365])) (Γb := (fun (q385 : (List Int) × (List Int)) (y386 : Unit) => [(1, pv (ptr b1 0)), (4, pv (χ2 2).V.1), (5, pv (χ2 5).V.1), (7, iv .i64 s292.1), (8, pv y366.1)])) (Ωb := (fun (q385 : (List Int) × (List Int)) (y386 : Unit) => [oc b1 [iv .i64 g_0.N, slv rT_api_Pair g_0.L], oa (rI .i64) (χ2 2).V.1 (χ2 2).V.2 q385.1, oa (rI .i64) (χ2 5).V.1 (χ2 5).V.2 q385.2, oa (rI .i64) y366.1 y366.2 q365])) (0, s292.2.1, s292.2.2) () (weak [0, 1, 2, 3] ⟨rfl, rfl, rfl, rfl, rfl, rfl, rfl, rfl, trivial⟩ ⟨rfl, rfl, rfl, rfl, trivial⟩) (fun s379 x380 => ?_) (fun q385 y386 => ?_)
      · unfold net_Grounded_l5
        refine ref_seq (ref_region ?_)
        refine s_rd (r_lss rfl rfl) rfl ?_
        refine l_nil (n_then (ref_seq ?_))
        refine ref_cond rfl (fun hb381 => ?_) (fun hb381 => ?_)
        · refine ref_skip (n_then (ref_seq (ref_block (ref_seq (ref_region ?_)))))
          refine pull fun a_382 h_a_382 => ?_
          refine s_rd (r_oindex h_a_382 Tryd.underlying22 el_3 rfl (j := 3) rfl rfl) rfl ?_
          refine s_rd (r_oload h_a_382 el_3 rfl (j := 3) rfl) rfl ?_
          refine as1 rfl rfl ?_
          refine l_nil (n_then (ref_region ?_))
          refine mv1 rfl rfl ?_
          refine mv1 rfl rfl ?_
          refine mv1 rfl rfl ?_
          refine mv1 rfl rfl ?_
          refine mv1 rfl rfl ?_
          refine pull fun t383 h_t383 => ?_
          refine s_rd (r_oindex h_t383 Tryd.underlying22 el_3 rfl (j := 1) rfl rfl) rfl ?_
          refine s_st0 (s_ostore (u := 1) h_t383 el_3 rfl (j := 1) rfl (part_at rfl iv_at)) (fun _ => ?_)
          refine pull fun t384 h_t384 => ?_
          refine s_rd (r_oindex h_t384 Tryd.underlying22 el_3 rfl (j := 2) rfl rfl) rfl ?_
          refine s_st0 (s_ostore (u := s292.1) h_t384 el_3 rfl (j := 2) rfl (part_at rfl iv_at)) (fun _ => ?_)
          refine l_nil (n_block (n_then (ref_region ?_)))
          refine s_rd (r_add rfl rfl) rfl ?_
          refine mv1 rfl rfl ?_
          refine l_nil ?_
          exact goB () (weak [0, 1, 2, 3] ⟨rfl, rfl, rfl, rfl, rfl, rfl, rfl, rfl, trivial⟩ ⟨rfl, rfl, rfl, rfl, trivial⟩)
        refine ref_exit (x_then ?_)
        exact brkB () (weak [0, 1, 2, 3] ⟨rfl, rfl, rfl, rfl, rfl, trivial⟩ ⟨rfl, rfl, rfl, rfl, trivial⟩)
      refine n_then (ref_seq (ref_region ?_))
      refine as1 rfl rfl ?_
      refine l_nil (n_then ?_)
      refine ref_loopB (f := (net_Grounded_l6 g_0 s292 q365)) (Γl := (fun (s411 : Int × (List Int) × (List Int)) (x412 : Unit) => [(1, pv (ptr b1 0)), (4, pv (χ2 2).V.1), (5, pv (χ2 5).V.1), (7, iv .i64 s292.1), (8, pv y366.1), (14, iv .i64 s411.1)])) (Ωl := (fun (s411 : Int × (List Int) × (List Int)) (x412 : Unit) => [oc b1 [iv .i64 g_0.N, slv rT_api_Pair g_0.L], oa (rI .i64) (χ2 2).V.1 (χ2 2).V.2 s411.2.1, oa (rI .i64) (χ2 5).V.1 (χ2 5).V.2 s411.2.2, oa (rI .i64) y366.1 y366.2 q365])) (Γb := (fun (q424 : (List Int) × (List Int)) (y425 : Unit) => [(1, pv (ptr b1 0)), (4, pv (χ2 2).V.1), (5, pv (χ2 5).V.1), (7, iv .i64 s292.1)])) (Ωb := (fun (q424 : (List Int) × (List Int)) (y425 : Unit) => [oc b1 [iv .i64 g_0.N, slv rT_api_Pair g_0.L], oa (rI .i64) (χ2 2).V.1 (χ2 2).V.2 q424.1, oa (rI .i64) (χ2 5).V.1 (χ2 5).V.2 q424.2])) (0, q385.1, q385.2) () (weak [0, 1, 2, 3] ⟨rfl, rfl, rfl, rfl, rfl, rfl, trivial⟩ ⟨rfl, rfl, rfl, rfl, trivial⟩) (fun s411 x412 => ?_) (fun q424 y425 => ?_)
      · unfold net_Grounded_l6
        refine ref_seq (ref_seq (ref_region ?_))
        refine mv1 rfl rfl ?_
        refine s_rd (r_faddr (fo := 0) Tryd.underlying27 rfl rfl Tryd.sizeOf3 rfl) rfl ?_
        refine s_rd (r_cload Tryd.isAgg3 rfl (j := 0) rfl rfl) rfl ?_
        refine s_rd (r_lss rfl rfl) rfl ?_
        refine l_nil (n_then ?_)
        refine ref_cond rfl (fun hb413 => ?_) (fun hb413 => ?_)
        · refine ref_skip (n_then (ref_seq (ref_block (ref_seq ?_))))
          refine ref_join (fun (j416 : Bool) (x417 : Unit) => [(1, pv (ptr b1 0)), (4, pv (χ2 2).V.1), (5, pv (χ2 5).V.1), (7, iv .i64 s292.1), (8, pv y366.1), (14, iv .i64 s411.1), (104, bv j416)]) (fun (j416 : Bool) (x417 : Unit) => [oc b1 [iv .i64 g_0.N, slv rT_api_Pair g_0.L], oa (rI .i64) (χ2 2).V.1 (χ2 2).V.2 s411.2.1, oa (rI .i64) (χ2 5).V.1 (χ2 5).V.2 s411.2.2, oa (rI .i64) y366.1 y366.2 q365]) (fun k418 hk418 => ?_) (fun j416 x417 => ?_)
          · refine ref_region ?_
            refine mv1 rfl rfl ?_
            refine mv1 rfl rfl ?_
            refine pull fun t414 h_t414 => ?_
            refine s_rd (r_oindex h_t414 Tryd.underlying22 el_3 rfl (j := 1) rfl rfl) rfl ?_
            refine s_rd (r_oload h_t414 el_3 rfl (j := 1) rfl) rfl ?_
            refine s_rd (r_eql rfl rfl) rfl ?_
            refine mv1 rfl rfl ?_
            refine b_split (t := 99) rfl (fun _ => ?_) (fun _ => ?_)
            · refine s_on rfl rfl rfl ?_
              refine s_rd (r_cloadS Tryd.isAgg27 Tryd.sizeOf27 rfl (j := 0) rfl rfl rfl) rfl ?_
              refine s_on rfl rfl rfl ?_
              refine mv1 rfl rfl ?_
              refine s_on rfl rfl rfl ?_
              refine mv1 rfl rfl ?_
              refine s_on rfl rfl rfl ?_
              refine pull fun t415 h_t415 => ?_
              refine s_st (s_callB (ψ := fun (_ : Unit) => bv t415) (args := [.tmp 100, .tmp 101, .tmp 102]) Tryd.call68 rfl (net_Attacked_ok h_t415) ⟨argB rfl, argO rfl (j := 3) rfl, argB rfl, trivial⟩ (fun _ _ _ _ _ h => h)) rfl (fun _ => ?_)
              refine s_rd (r_pickT rfl rfl) rfl ?_
              refine l_nil ?_
              exact b_to (hk418 t415 ()) (weak [0, 1, 2, 3] ⟨rfl, rfl, rfl, rfl, rfl, rfl, rfl, trivial⟩ ⟨rfl, rfl, rfl, rfl, trivial⟩)
            refine s_off rfl rfl rfl rfl rfl ?_
            refine s_off rfl rfl rfl rfl rfl ?_
            refine s_off rfl rfl rfl rfl rfl ?_
            refine s_off rfl rfl rfl rfl rfl ?_
            refine s_rd (r_pickF rfl rfl) rfl ?_
            refine l_nil ?_
            exact b_to (hk418 false ()) (weak [0, 1, 2, 3] ⟨rfl, rfl, rfl, rfl, rfl, rfl, rfl, trivial⟩ ⟨rfl, rfl, rfl, rfl, trivial⟩)
          refine n_then ?_
          refine ref_cond rfl (fun hb419 => ?_) (fun hb419 => ?_)
          · refine ref_region ?_
            refine mv1 rfl rfl ?_
            refine mv1 rfl rfl ?_
            refine mv1 rfl rfl ?_
            refine mv1 rfl rfl ?_
            refine mv1 rfl rfl ?_
            refine pull fun t420 h_t420 => ?_
            refine s_rd (r_oindex h_t420 Tryd.underlying22 el_3 rfl (j := 1) rfl rfl) rfl ?_
            refine s_st0 (s_ostore (u := 2) h_t420 el_3 rfl (j := 1) rfl (part_at rfl iv_at)) (fun _ => ?_)
            refine pull fun t421 h_t421 => ?_
            refine s_rd (r_oindex h_t421 Tryd.underlying22 el_3 rfl (j := 2) rfl rfl) rfl ?_
            refine s_st0 (s_ostore (u := s292.1) h_t421 el_3 rfl (j := 2) rfl (part_at rfl iv_at)) (fun _ => ?_)
            refine l_nil (n_block (n_then (ref_region ?_)))
            refine mv1 rfl rfl ?_
            refine s_rd (r_add rfl rfl) rfl ?_
            refine as1 rfl rfl ?_
            refine b_let (f := iv .i64) (t := 14) rfl fun b422 => ?_
            refine l_nil ?_
            exact goB () (weak [0, 1, 2, 3] ⟨rfl, rfl, rfl, rfl, rfl, rfl, trivial⟩ ⟨rfl, rfl, rfl, rfl, trivial⟩)
          refine ref_skip (n_block (n_then (ref_region ?_)))
          refine mv1 rfl rfl ?_
          refine s_rd (r_add rfl rfl) rfl ?_
          refine as1 rfl rfl ?_
          refine b_let (f := iv .i64) (t := 14) rfl fun b423 => ?_
          refine l_nil ?_
          exact goB () (weak [0, 1, 2, 3] ⟨rfl, rfl, rfl, rfl, rfl, rfl, trivial⟩ ⟨rfl, rfl, rfl, rfl, trivial⟩)
        refine ref_exit (x_then ?_)
        exact brkB () (weak [0, 1, 2] ⟨rfl, rfl, rfl, rfl, trivial⟩ ⟨rfl, rfl, rfl, trivial⟩)
      refine n_block (n_then (ref_region ?_))
      refine mv1 rfl rfl ?_
      refine s_rd (r_add rfl rfl) rfl ?_
      refine as1 rfl rfl ?_
      refine b_let (f := iv .i64) (t := 7) rfl fun round426 => ?_
      refine l_nil ?_
      exact goB () (weak [0, 1, 2] ⟨rfl, rfl, rfl, rfl, trivial⟩ ⟨rfl, rfl, rfl, trivial⟩)
    refine ref_exit (x_then ?_)
    exact brkB () (weak [1, 2] ⟨rfl, rfl, trivial⟩ ⟨rfl, rfl, trivial⟩)
  refine n_then (ref_seq (ref_region ?_))
  refine mv1 rfl rfl ?_
  refine mv1 rfl rfl ?_
  refine as1 rfl rfl ?_
  refine as1 rfl rfl ?_
  refine l_nil (n_then (ref_ret ?_))
  exact fin2 (.inl rfl) ((χ2 2).V, (χ2 5).V) [0, 1] rfl ⟨rfl, rfl, trivial⟩ rfl (rv_tmp rfl) (rv_tmp rfl)

/-! deliberation/deliberationnet.Members -/
noncomputable def net_Members_l1 (bits_0 : Int) (s15 : Int × (List Int)) : Option (Sum ((List Int)) (Int × (List Int))) :=
  bif decide (s15.1 < 64) then
    Option.bind (ishrM .u64 bits_0 (IntKind.wrap .u64 s15.1)) fun t18 =>
    bif (iand .u64 t18 1) == 1 then
      Option.bind (appM 8 s15.2 [s15.1]) fun out20 =>
      letM (iadd .i64 s15.1 1) fun i22 =>
      some (Sum.inr (i22, out20))
    else
      letM (iadd .i64 s15.1 1) fun i23 =>
      some (Sum.inr (i23, s15.2))
  else
    some (Sum.inl s15.2)

noncomputable def net_Members_m (bits_0 : Int) : Option (List Int) :=
  Option.bind (loopC (net_Members_l1 bits_0) (0, [])) fun q24 : (List Int) =>
  some q24

theorem net_Members_ok {bits_0 : Int} {r : List Int} (hm : net_Members_m bits_0 = some r) :
    FnOk prog 17 [iv .u64 bits_0] [] (fun (x : (Value × List Nat)) => [pv x.1]) (fun (x : (Value × List Nat)) => [oa (rI .i64) x.1 x.2 r]) := by
  refine fn_ok (X := (Value × List Nat)) (fn := Tryd.f17) (N := 20) (res := fun r x => [pv x.1]) (Ω1 := fun r x => [oa (rI .i64) x.1 x.2 r]) Tryd.func17 rfl rfl hm rfl (fun E hM => ?_)
  unfold net_Members_m
  refine ref_seq (ref_region ?_)
  refine as1 rfl rfl ?_
  refine l_nil (n_then (ref_seq (ref_region ?_)))
  refine as1 rfl rfl ?_
  refine l_nil (n_then (ref_seq (ref_seq (ref_region ?_))))
  refine as1 rfl rfl ?_
  refine l_nil (n_then ?_)
  refine b_of (own_nil (rI .i64)) ?_
  refine ref_loopB (f := (net_Members_l1 bits_0)) (Γl := (fun (s15 : Int × (List Int)) (x16 : (Value × List Nat)) => [(0, iv .u64 bits_0), (3, pv x16.1), (4, iv .i64 s15.1)])) (Ωl := (fun (s15 : Int × (List Int)) (x16 : (Value × List Nat)) => [oa (rI .i64) x16.1 x16.2 s15.2])) (Γb := (fun (q24 : (List Int)) (y25 : (Value × List Nat)) => [(3, pv y25.1)])) (Ωb := (fun (q24 : (List Int)) (y25 : (Value × List Nat)) => [oa (rI .i64) y25.1 y25.2 q24])) (0, []) ((.slice none 0 0), []) (weak [0] ⟨rfl, rfl, rfl, trivial⟩ ⟨rfl, trivial⟩) (fun s15 x16 => ?_) (fun q24 y25 => ?_)
  · unfold net_Members_l1
    refine ref_seq (ref_seq (ref_region ?_))
    refine mv1 rfl rfl ?_
    refine s_rd (r_lss rfl rfl) rfl ?_
    refine l_nil (n_then ?_)
    refine ref_cond rfl (fun hb17 => ?_) (fun hb17 => ?_)
    · refine ref_skip (n_then (ref_seq (ref_block (ref_seq (ref_region ?_)))))
      refine mv1 rfl rfl ?_
      refine mv1 rfl rfl ?_
      refine s_rd (r_conv (k' := .u64) rfl rfl rfl) rfl ?_
      refine pull fun t18 h_t18 => ?_
      refine s_rd (r_shrM h_t18 rfl rfl) rfl ?_
      refine s_rd (r_and rfl rfl) rfl ?_
      refine s_rd (r_eql rfl rfl) rfl ?_
      refine l_nil (n_then ?_)
      refine ref_cond rfl (fun hb19 => ?_) (fun hb19 => ?_)
      · refine ref_region ?_
        refine mv1 rfl rfl ?_
        refine mv1 rfl rfl ?_
        refine s_st (s_bslice (xs := [.tmp 16]) (ds := [s15.1]) Tryd.underlying22 el_3 rfl (Nat.le_of_ble_eq_true rfl) ⟨(part_at rfl iv_at), trivial⟩) rfl (fun _ => ?_)
        refine pull fun out20 h_out20 => ?_
        refine s_st (s_append h_out20 Tryd.underlying22 el_3 rfl (j := 0) rfl rfl) rfl (fun o21 => ?_)
        refine as1 rfl rfl ?_
        refine l_nil (n_block (n_then (ref_region ?_)))
        refine mv1 rfl rfl ?_
        refine s_rd (r_add rfl rfl) rfl ?_
        refine as1 rfl rfl ?_
        refine b_let (f := iv .i64) (t := 4) rfl fun i22 => ?_
        refine l_nil ?_
        exact goB o21 (weak [0] ⟨rfl, rfl, rfl, trivial⟩ ⟨rfl, trivial⟩)
      refine ref_skip (n_block (n_then (ref_region ?_)))
      refine mv1 rfl rfl ?_
      refine s_rd (r_add rfl rfl) rfl ?_
      refine as1 rfl rfl ?_
      refine b_let (f := iv .i64) (t := 4) rfl fun i23 => ?_
      refine l_nil ?_
      exact goB x16 (weak [0] ⟨rfl, rfl, rfl, trivial⟩ ⟨rfl, trivial⟩)
    refine ref_exit (x_then ?_)
    exact brkB x16 (weak [0] ⟨rfl, trivial⟩ ⟨rfl, trivial⟩)
  refine n_then (ref_seq (ref_region ?_))
  refine mv1 rfl rfl ?_
  refine as1 rfl rfl ?_
  refine l_nil (n_then (ref_ret ?_))
  exact fin1 (.inl rfl) y25 [0] rfl ⟨rfl, trivial⟩ rfl (rv_tmp rfl)

/-! deliberation/deliberationnet.Free -/
noncomputable def net_Free_l1 (g_0 : T_api_Graph) (s_1 : (List Int)) (s8 : Int) : Option (Sum ((Sum (Bool) (Unit))) (Int)) :=
  bif decide (s8 < (s_1.length : Int)) then
    Option.bind (idxM s_1 s8) fun t11 =>
    Option.bind (net_Attacked_m g_0 s_1 t11) fun t12 =>
    bif t12 then
      some (Sum.inl (Sum.inl false))
    else
      some (Sum.inr (iadd .i64 s8 1))
  else
    some (Sum.inl (Sum.inr ()))

noncomputable def net_Free_m (g_0 : T_api_Graph) (s_1 : (List Int)) : Option (Bool) :=
  Option.bind (loopC (net_Free_l1 g_0 s_1) 0) (sumK (fun a : Bool => some a) fun q14 : Unit =>
    some true)

theorem net_Free_ok {g_0 : T_api_Graph} {s_1 : (List Int)} {r : Bool} (hm : net_Free_m g_0 s_1 = some r) :
    FnOk prog 70 [ag [iv .i64 g_0.N, slv rT_api_Pair g_0.L], slv (rI .i64) s_1] [] (fun (x : Unit) => [bv r]) (fun (x : Unit) => []) := by
  refine fn_ok (fn := Tryd.f70) (N := 19) (res := fun r x => [bv r]) (Ω1 := fun r x => []) Tryd.func70 rfl rfl hm rfl (fun E hM => ?_)
  unfold net_Free_m
  refine ref_seq (ref_region ?_)
  refine s_st (s_box (part_agO (ψs := [iv .i64 g_0.N, slv rT_api_Pair g_0.L]) rfl ⟨.inl iv_at, .inl slv_at, trivial⟩)) rfl (fun b1 => ?_)
  refine as1 rfl rfl ?_
  refine l_nil (n_then (ref_seq (ref_seq (ref_region ?_))))
  refine as1 rfl rfl ?_
  refine l_nil (n_then ?_)
  refine ref_loopX (f := (net_Free_l1 g_0 s_1)) (Γl := (fun (s8 : Int) (x9 : Unit) => [(1, slv (rI .i64) s_1), (2, pv (ptr b1 0)), (5, iv .i64 s8)])) (Ωl := (fun (s8 : Int) (x9 : Unit) => [oc b1 [iv .i64 g_0.N, slv rT_api_Pair g_0.L]])) (Γb := (fun (q14 : Unit) (y15 : Unit) => [])) (Ωb := (fun (q14 : Unit) (y15 : Unit) => [])) (kr := (fun a : Bool => some a)) 0 () (weak [0] ⟨rfl, rfl, rfl, trivial⟩ ⟨rfl, trivial⟩) (fun s8 x9 => ?_) (fun q14 y15 => ?_)
  · unfold net_Free_l1
    refine ref_seq (ref_seq (ref_region ?_))
    refine mv1 rfl rfl ?_
    refine mv1 rfl rfl ?_
    refine s_rd (r_len Tryd.underlying22 rfl) rfl ?_
    refine s_rd (r_lss rfl rfl) rfl ?_
    refine l_nil (n_then ?_)
    refine ref_cond rfl (fun hb10 => ?_) (fun hb10 => ?_)
    · refine ref_skip (n_then (ref_seq (ref_block (ref_seq ?_))))
      refine ref_draw [0, 1, 2, 3, 4, 5] rfl (by kernel_rfl) (fun hok => ?_)
      refine a_rd (i := 0) hok rfl (by kernel_rfl) rfl (r_cloadS Tryd.isAgg27 Tryd.sizeOf27 rfl (j := 0) rfl rfl rfl) rfl ?_
      refine a_rd (i := 1) hok rfl (by kernel_rfl) rfl (r_move rfl) rfl ?_
      refine a_rd (i := 2) hok rfl (by kernel_rfl) rfl (r_move rfl) rfl ?_
      refine a_rd (i := 3) hok rfl (by kernel_rfl) rfl (r_move rfl) rfl ?_
      refine pull fun t11 h_t11 => ?_
      refine a_rd (i := 4) hok rfl (by kernel_rfl) rfl (r_index h_t11 Tryd.underlying22 el_3 rfl rfl) rfl ?_
      refine a_rd (i := 5) hok rfl (by kernel_rfl) rfl (r_load el_3 rfl) rfl ?_
      refine pull fun t12 h_t12 => ?_
      refine a_next hok 6 [] (by kernel_rfl) ?_ trivial
      refine a_st (i := 6) hok rfl rfl (s_call (ψ := fun (_ : Unit) => bv t12) (args := [.tmp 12, .tmp 13, .tmp 17]) Tryd.call68 rfl (net_Attacked_ok h_t12) ⟨arg rfl, arg rfl, arg rfl, trivial⟩ (fun _ _ _ _ h => h)) (by intro _ h; cases h; rfl) (fun _ => ⟨trivial, ⟨trivial, ⟨trivial, ⟨trivial, ⟨trivial, ⟨trivial, trivial⟩⟩⟩⟩⟩⟩) (fun _ => ?_)
      refine a_fin hok (by kernel_rfl) ?_
      refine n_then ?_
      refine ref_cond rfl (fun hb13 => ?_) (fun hb13 => ?_)
      · refine ref_seq (ref_region ?_)
        refine as1 rfl rfl ?_
        refine l_nil (n_then (ref_ret (r_block (r_then ?_))))
        refine retX ?_
        refine r_block (r_then ?_)
        exact fin1 (.inl rfl) () [] rfl trivial rfl (rv_tmp rfl)
      refine ref_skip (n_block (n_then (ref_region ?_)))
      refine mv1 rfl rfl ?_
      refine s_rd (r_add rfl rfl) rfl ?_
      refine as1 rfl rfl ?_
      refine l_nil ?_
      exact goX () (weak [0] ⟨rfl, rfl, rfl, trivial⟩ ⟨rfl, trivial⟩)
    refine ref_exit (x_then ?_)
    exact brkX () (weak [] trivial trivial)
  refine n_then (ref_seq (ref_region ?_))
  refine as1 rfl rfl ?_
  refine l_nil (n_then (ref_ret ?_))
  exact fin1 (.inl rfl) () [] rfl trivial rfl (rv_tmp rfl)

/-! deliberation/deliberationnet.Admissible -/
noncomputable def net_Admissible_l1 (g_0 : T_api_Graph) (s_1 : (List Int)) (s10 : Int) : Option (Sum ((Sum (Bool) (Unit))) (Int)) :=
  bif decide (s10 < (g_0.L.length : Int)) then
    Option.bind (idxM g_0.L s10) fun t13 =>
    Option.bind (net_In_m s_1 t13.To) fun t14 =>
    bif t14 then
      Option.bind (idxM g_0.L s10) fun t15 =>
      Option.bind (net_Attacked_m g_0 s_1 t15.From) fun t16 =>
      bif !t16 then
        some (Sum.inl (Sum.inl false))
      else
        letM (iadd .i64 s10 1) fun i18 =>
        some (Sum.inr i18)
    else
      letM (iadd .i64 s10 1) fun i19 =>
      some (Sum.inr i19)
  else
    some (Sum.inl (Sum.inr ()))

noncomputable def net_Admissible_m (g_0 : T_api_Graph) (s_1 : (List Int)) : Option (Bool) :=
  Option.bind (loopC (net_Admissible_l1 g_0 s_1) 0) (sumK (fun a : Bool => some a) fun q20 : Unit =>
    Option.bind (net_Free_m g_0 s_1) fun t22 =>
    some t22)

theorem net_Admissible_ok {g_0 : T_api_Graph} {s_1 : (List Int)} {r : Bool} (hm : net_Admissible_m g_0 s_1 = some r) :
    FnOk prog 69 [ag [iv .i64 g_0.N, slv rT_api_Pair g_0.L], slv (rI .i64) s_1] [] (fun (x : Unit) => [bv r]) (fun (x : Unit) => []) := by
  refine fn_ok (fn := Tryd.f69) (N := 36) (res := fun r x => [bv r]) (Ω1 := fun r x => []) Tryd.func69 rfl rfl hm rfl (fun E hM => ?_)
  unfold net_Admissible_m
  refine ref_seq (ref_region ?_)
  refine s_st (s_box (part_agO (ψs := [iv .i64 g_0.N, slv rT_api_Pair g_0.L]) rfl ⟨.inl iv_at, .inl slv_at, trivial⟩)) rfl (fun b1 => ?_)
  refine as1 rfl rfl ?_
  refine l_nil (n_then (ref_seq (ref_seq (ref_region ?_))))
  refine as1 rfl rfl ?_
  refine l_nil (n_then ?_)
  refine ref_loopX (f := (net_Admissible_l1 g_0 s_1)) (Γl := (fun (s10 : Int) (x11 : Unit) => [(1, slv (rI .i64) s_1), (2, pv (ptr b1 0)), (5, iv .i64 s10)])) (Ωl := (fun (s10 : Int) (x11 : Unit) => [oc b1 [iv .i64 g_0.N, slv rT_api_Pair g_0.L]])) (Γb := (fun (q20 : Unit) (y21 : Unit) => [(1, slv (rI .i64) s_1), (2, pv (ptr b1 0))])) (Ωb := (fun (q20 : Unit) (y21 : Unit) => [oc b1 [iv .i64 g_0.N, slv rT_api_Pair g_0.L]])) (kr := (fun a : Bool => some a)) 0 () (weak [0] ⟨rfl, rfl, rfl, trivial⟩ ⟨rfl, trivial⟩) (fun s10 x11 => ?_) (fun q20 y21 => ?_)
  · unfold net_Admissible_l1
    refine ref_seq (ref_seq (ref_region ?_))
    refine mv1 rfl rfl ?_
    refine s_rd (r_faddr (fo := 1) Tryd.underlying27 rfl rfl Tryd.sizeOf25 rfl) rfl ?_
    refine s_rd (r_cload Tryd.isAgg25 rfl (j := 0) rfl rfl) rfl ?_
    refine s_rd (r_len Tryd.underlying25 rfl) rfl ?_
    refine s_rd (r_lss rfl rfl) rfl ?_
    refine l_nil (n_then ?_)
    refine ref_cond rfl (fun hb12 => ?_) (fun hb12 => ?_)
    · refine ref_skip (n_then (ref_seq (ref_block (ref_seq ?_))))
      refine ref_draw [0, 1, 2, 3, 4, 5, 6, 8, 9, 10, 11, 12, 13, 14, 15, 16, 18, 19] rfl (by kernel_rfl) (fun hok => ?_)
      refine a_rd (i := 0) hok rfl (by kernel_rfl) rfl (r_move rfl) rfl ?_
      refine a_rd (i := 1) hok rfl (by kernel_rfl) rfl (r_faddr (fo := 1) Tryd.underlying27 rfl rfl Tryd.sizeOf25 rfl) rfl ?_
      refine a_rd (i := 2) hok rfl (by kernel_rfl) rfl (r_cload Tryd.isAgg25 rfl (j := 0) rfl rfl) rfl ?_
      refine a_rd (i := 3) hok rfl (by kernel_rfl) rfl (r_move rfl) rfl ?_
      refine pull fun t13 h_t13 => ?_
      refine a_rd (i := 4) hok rfl (by kernel_rfl) rfl (r_index h_t13 Tryd.underlying25 el_63 rfl rfl) rfl ?_
      refine a_rd (i := 5) hok rfl (by kernel_rfl) rfl (r_fea (fo := 1) (ρ := rT_api_Pair) (y := t13) (ρ' := (rI .i64)) (z := t13.To) Tryd.underlying63 rfl rfl Tryd.sizeOf3 rfl rfl rfl) rfl ?_
      refine a_rd (i := 6) hok rfl (by kernel_rfl) rfl (r_load el_3 rfl) rfl ?_
      refine pull fun t14 h_t14 => ?_
      refine a_next hok 7 [] (by kernel_rfl) ?_ trivial
      refine a_st (i := 7) hok rfl rfl (s_call (ψ := fun (_ : Unit) => bv t14) (args := [.tmp 13, .tmp 19]) Tryd.call44 rfl (net_In_ok h_t14) ⟨arg rfl, arg rfl, trivial⟩ (fun _ _ _ _ h => h)) (by intro _ h; cases h; rfl) (fun _ => ⟨trivial, ⟨trivial, ⟨trivial, ⟨trivial, ⟨⟨⟨rfl, rfl⟩, trivial⟩, ⟨trivial, ⟨trivial, trivial⟩⟩⟩⟩⟩⟩⟩) (fun _ => ?_)
      refine a_rd (i := 8) hok rfl (by kernel_rfl) rfl (r_move rfl) rfl ?_
      refine b_split (t := 21) rfl (fun _ => ?_) (fun _ => ?_)
      · refine a_rdOn (i := 9) hok rfl rfl rfl rfl (by kernel_rfl) rfl (r_cloadS Tryd.isAgg27 Tryd.sizeOf27 rfl (j := 0) rfl rfl rfl) rfl ?_
        refine a_rdOn (i := 10) hok rfl rfl rfl rfl (by kernel_rfl) rfl (r_move rfl) rfl ?_
        refine a_rdOn (i := 11) hok rfl rfl rfl rfl (by kernel_rfl) rfl (r_faddr (fo := 1) Tryd.underlying27 rfl rfl Tryd.sizeOf25 rfl) rfl ?_
        refine a_rdOn (i := 12) hok rfl rfl rfl rfl (by kernel_rfl) rfl (r_cload Tryd.isAgg25 rfl (j := 0) rfl rfl) rfl ?_
        refine a_rdOn (i := 13) hok rfl rfl rfl rfl (by kernel_rfl) rfl (r_move rfl) rfl ?_
        refine pull fun t15 h_t15 => ?_
        refine a_rdOn (i := 14) hok rfl rfl rfl rfl (by kernel_rfl) rfl (r_index h_t15 Tryd.underlying25 el_63 rfl rfl) rfl ?_
        refine a_rdOn (i := 15) hok rfl rfl rfl rfl (by kernel_rfl) rfl (r_fea (fo := 0) (ρ := rT_api_Pair) (y := t15) (ρ' := (rI .i64)) (z := t15.From) Tryd.underlying63 rfl rfl Tryd.sizeOf3 rfl rfl rfl) rfl ?_
        refine a_rdOn (i := 16) hok rfl rfl rfl rfl (by kernel_rfl) rfl (r_load el_3 rfl) rfl ?_
        refine pull fun t16 h_t16 => ?_
        refine a_next hok 17 [] (by kernel_rfl) ?_ trivial
        refine a_stOn (i := 17) hok rfl rfl rfl rfl rfl (s_call (ψ := fun (_ : Unit) => bv t16) (args := [.tmp 22, .tmp 23, .tmp 29]) Tryd.call68 rfl (net_Attacked_ok h_t16) ⟨arg rfl, arg rfl, arg rfl, trivial⟩ (fun _ _ _ _ h => h)) (by intro _ h; cases h; rfl) (fun _ => ⟨trivial, ⟨trivial, ⟨trivial, ⟨trivial, ⟨⟨⟨rfl, rfl⟩, trivial⟩, ⟨trivial, ⟨trivial, ⟨trivial, ⟨trivial, ⟨trivial, ⟨trivial, ⟨trivial, ⟨trivial, ⟨⟨⟨rfl, rfl⟩, trivial⟩, ⟨trivial, ⟨trivial, trivial⟩⟩⟩⟩⟩⟩⟩⟩⟩⟩⟩⟩⟩⟩⟩⟩) (fun _ => ?_)
        refine a_rdOn (i := 18) hok rfl rfl rfl rfl (by kernel_rfl) rfl (r_not rfl) rfl ?_
        refine a_rd (i := 19) hok rfl (by kernel_rfl) rfl (r_pickT rfl rfl) rfl ?_
        refine a_fin hok (by kernel_rfl) ?_
        refine n_then ?_
        refine ref_cond rfl (fun hb17 => ?_) (fun hb17 => ?_)
        · refine ref_seq (ref_region ?_)
          refine as1 rfl rfl ?_
          refine l_nil (n_then (ref_ret (r_block (r_then ?_))))
          refine retX ?_
          refine r_block (r_then ?_)
          exact fin1 (.inl rfl) () [] rfl trivial rfl (rv_tmp rfl)
        refine ref_skip (n_block (n_then (ref_region ?_)))
        refine mv1 rfl rfl ?_
        refine s_rd (r_add rfl rfl) rfl ?_
        refine as1 rfl rfl ?_
        refine b_let (f := iv .i64) (t := 5) rfl fun i18 => ?_
        refine l_nil ?_
        exact goX () (weak [0] ⟨rfl, rfl, rfl, trivial⟩ ⟨rfl, trivial⟩)
      refine a_off (i := 9) hok rfl rfl rfl rfl rfl (by kernel_rfl) rfl rfl ?_
      refine a_off (i := 10) hok rfl rfl rfl rfl rfl (by kernel_rfl) rfl rfl ?_
      refine a_off (i := 11) hok rfl rfl rfl rfl rfl (by kernel_rfl) rfl rfl ?_
      refine a_off (i := 12) hok rfl rfl rfl rfl rfl (by kernel_rfl) rfl rfl ?_
      refine a_off (i := 13) hok rfl rfl rfl rfl rfl (by kernel_rfl) rfl rfl ?_
      refine a_off (i := 14) hok rfl rfl rfl rfl rfl (by kernel_rfl) rfl rfl ?_
      refine a_off (i := 15) hok rfl rfl rfl rfl rfl (by kernel_rfl) rfl rfl ?_
      refine a_off (i := 16) hok rfl rfl rfl rfl rfl (by kernel_rfl) rfl rfl ?_
      refine a_next hok 17 [] (by kernel_rfl) ?_ trivial
      refine a_stOff (i := 17) hok rfl rfl rfl rfl rfl rfl (by intro _ h; cases h; rfl) ⟨trivial, ⟨trivial, ⟨trivial, ⟨trivial, ⟨trivial, ⟨trivial, ⟨trivial, ⟨trivial, ⟨trivial, ⟨trivial, ⟨trivial, ⟨trivial, ⟨trivial, ⟨⟨⟨rfl, rfl⟩, trivial⟩, ⟨trivial, ⟨trivial, trivial⟩⟩⟩⟩⟩⟩⟩⟩⟩⟩⟩⟩⟩⟩⟩⟩ ?_
      refine a_off (i := 18) hok rfl rfl rfl rfl rfl (by kernel_rfl) rfl rfl ?_
      refine a_rd (i := 19) hok rfl (by kernel_rfl) rfl (r_pickF rfl rfl) rfl ?_
      refine a_fin hok (by kernel_rfl) ?_
      refine n_then ?_
      refine ref_condF rfl rfl ?_
      refine ref_skip (n_block (n_then (ref_region ?_)))
      refine mv1 rfl rfl ?_
      refine s_rd (r_add rfl rfl) rfl ?_
      refine as1 rfl rfl ?_
      refine b_let (f := iv .i64) (t := 5) rfl fun i19 => ?_
      refine l_nil ?_
      exact goX () (weak [0] ⟨rfl, rfl, rfl, trivial⟩ ⟨rfl, trivial⟩)
    refine ref_exit (x_then ?_)
    exact brkX () (weak [0] ⟨rfl, rfl, trivial⟩ ⟨rfl, trivial⟩)
  refine n_then (ref_seq (ref_region ?_))
  refine s_rd (r_cloadS Tryd.isAgg27 Tryd.sizeOf27 rfl (j := 0) rfl rfl rfl) rfl ?_
  refine mv1 rfl rfl ?_
  refine pull fun t22 h_t22 => ?_
  refine s_st (s_call (ψ := fun (_ : Unit) => bv t22) (args := [.tmp 33, .tmp 34]) Tryd.call70 rfl (net_Free_ok h_t22) ⟨arg rfl, arg rfl, trivial⟩ (fun _ _ _ _ h => h)) rfl (fun _ => ?_)
  refine as1 rfl rfl ?_
  refine l_nil (n_then (ref_ret ?_))
  exact fin1 (.inl rfl) () [] rfl trivial rfl (rv_tmp rfl)

/-! deliberation/deliberationnet.SomeAdmissible -/
noncomputable def net_SomeAdmissible_l2 (gone_2 : (List Int)) (s32 : List Int) (s39 : Bool × Int) : Option (Sum (Bool) (Bool × Int)) :=
  bif decide (s39.2 < (s32.length : Int)) then
    bif s39.1 then
      letM (iadd .i64 s39.2 1) fun i44 =>
      some (Sum.inr (true, i44))
    else
      Option.bind (idxM s32 s39.2) fun t42 =>
      Option.bind (net_In_m gone_2 t42) fun t43 =>
      letM (iadd .i64 s39.2 1) fun i45 =>
      some (Sum.inr (t43, i45))
  else
    some (Sum.inl s39.1)

noncomputable def net_SomeAdmissible_l1 (g_0 : T_api_Graph) (a__1 : Int) (gone_2 : (List Int)) (s26 : Int) : Option (Sum ((Sum (Bool) (Unit))) (Int)) :=
  Option.bind (ishlM .u64 1 (IntKind.wrap .u64 g_0.N)) fun t28 =>
  bif decide (s26 < t28) then
    Option.bind (ishrM .u64 s26 (IntKind.wrap .u64 a__1)) fun t30 =>
    bif (iand .u64 t30 1) == 0 then
      letM (iadd .u64 s26 1) fun bits50 =>
      some (Sum.inr bits50)
    else
      Option.bind (net_Members_m s26) fun s32 =>
      Option.bind (loopC (net_SomeAdmissible_l2 gone_2 s32) (false, 0)) fun q46 : Bool =>
      bif !q46 then
        Option.bind (net_Admissible_m g_0 s32) fun t48 =>
        bif t48 then
          some (Sum.inl (Sum.inl true))
        else
          letM (iadd .u64 s26 1) fun bits51 =>
          some (Sum.inr bits51)
      else
        letM (iadd .u64 s26 1) fun bits52 =>
        some (Sum.inr bits52)
  else
    some (Sum.inl (Sum.inr ()))

noncomputable def net_SomeAdmissible_m (g_0 : T_api_Graph) (a__1 : Int) (gone_2 : (List Int)) : Option (Bool) :=
  Option.bind (loopC (net_SomeAdmissible_l1 g_0 a__1 gone_2) 0) (sumK (fun a : Bool => some a) fun q53 : Unit =>
    some false)

theorem net_SomeAdmissible_ok {g_0 : T_api_Graph} {a__1 : Int} {gone_2 : (List Int)} {r : Bool} (hm : net_SomeAdmissible_m g_0 a__1 gone_2 = some r) :
    FnOk prog 46 [ag [iv .i64 g_0.N, slv rT_api_Pair g_0.L], iv .i64 a__1, slv (rI .i64) gone_2] [] (fun (x : Unit) => [bv r]) (fun (x : Unit) => []) := by
  refine fn_ok (fn := Tryd.f46) (N := 49) (res := fun r x => [bv r]) (Ω1 := fun r x => []) Tryd.func46 rfl rfl hm rfl (fun E hM => ?_)
  unfold net_SomeAdmissible_m
  refine ref_seq (ref_region ?_)
  refine s_st (s_box (part_agO (ψs := [iv .i64 g_0.N, slv rT_api_Pair g_0.L]) rfl ⟨.inl iv_at, .inl slv_at, trivial⟩)) rfl (fun b1 => ?_)
  refine as1 rfl rfl ?_
  refine l_nil (n_then (ref_seq (ref_seq (ref_region ?_))))
  refine as1 rfl rfl ?_
  refine l_nil (n_then ?_)
  refine ref_loopX (f := (net_SomeAdmissible_l1 g_0 a__1 gone_2)) (Γl := (fun (s26 : Int) (x27 : Unit) => [(1, iv .i64 a__1), (2, slv (rI .i64) gone_2), (3, pv (ptr b1 0)), (7, iv .u64 s26)])) (Ωl := (fun (s26 : Int) (x27 : Unit) => [oc b1 [iv .i64 g_0.N, slv rT_api_Pair g_0.L]])) (Γb := (fun (q53 : Unit) (y54 : Unit) => [])) (Ωb := (fun (q53 : Unit) (y54 : Unit) => [])) (kr := (fun a : Bool => some a)) 0 () (weak [0] ⟨rfl, rfl, rfl, rfl, trivial⟩ ⟨rfl, trivial⟩) (fun s26 x27 => ?_) (fun q53 y54 => ?_)
  · unfold net_SomeAdmissible_l1
    refine ref_seq (ref_seq (ref_region ?_))
    refine mv1 rfl rfl ?_
    refine s_rd (r_faddr (fo := 0) Tryd.underlying27 rfl rfl Tryd.sizeOf3 rfl) rfl ?_
    refine s_rd (r_cload Tryd.isAgg3 rfl (j := 0) rfl rfl) rfl ?_
    refine s_rd (r_conv (k' := .u64) rfl rfl rfl) rfl ?_
    refine pull fun t28 h_t28 => ?_
    refine s_rd (r_shlM h_t28 rfl rfl) rfl ?_
    refine s_rd (r_lss rfl rfl) rfl ?_
    refine l_nil (n_then ?_)
    refine ref_cond rfl (fun hb29 => ?_) (fun hb29 => ?_)
    · refine ref_skip (n_then (ref_seq (ref_block (ref_seq (ref_seq (ref_region ?_))))))
      refine mv1 rfl rfl ?_
      refine mv1 rfl rfl ?_
      refine s_rd (r_conv (k' := .u64) rfl rfl rfl) rfl ?_
      refine pull fun t30 h_t30 => ?_
      refine s_rd (r_shrM h_t30 rfl rfl) rfl ?_
      refine s_rd (r_and rfl rfl) rfl ?_
      refine s_rd (r_eql rfl rfl) rfl ?_
      refine l_nil (n_then ?_)
      refine ref_cond rfl (fun hb31 => ?_) (fun hb31 => ?_)
      · refine ref_exit (x_then (x_eq (n_then (ref_region ?_))))
        refine mv1 rfl rfl ?_
        refine s_rd (r_add rfl rfl) rfl ?_
        refine as1 rfl rfl ?_
        refine b_let (f := iv .u64) (t := 7) rfl fun bits50 => ?_
        refine l_nil ?_
        exact goX () (weak [0] ⟨rfl, rfl, rfl, rfl, trivial⟩ ⟨rfl, trivial⟩)
      refine ref_skip (n_then (ref_seq (ref_region ?_)))
      refine mv1 rfl rfl ?_
      refine pull fun s32 h_s32 => ?_
      refine s_st (s_call (ψ := fun (x33 : (Value × List Nat)) => pv x33.1) (args := [.tmp 25]) Tryd.call17 rfl (net_Members_ok h_s32) ⟨arg rfl, trivial⟩ (fun _ _ _ _ h => h)) rfl (fun x33 => ?_)
      refine as1 rfl rfl ?_
      refine l_nil (n_then (ref_seq (ref_region ?_)))
      refine as1 rfl rfl ?_
      refine l_nil (n_then (ref_seq (ref_seq (ref_region ?_))))
      refine as1 rfl rfl ?_
      refine l_nil (n_then ?_)
      refine ref_loopB (f := (net_SomeAdmissible_l2 gone_2 s32)) (Γl := (fun (s39 : Bool × Int) (x40 : Unit) => [(1, iv .i64 a__1), (2, slv (rI .i64) gone_2), (3, pv (ptr b1 0)), (7, iv .u64 s26), (8, pv x33.1), (9, bv s39.1), (10, iv .i64 s39.2)])) (Ωl := (fun (s39 : Bool × Int) (x40 : Unit) => [oc b1 [iv .i64 g_0.N, slv rT_api_Pair g_0.L], oa (rI .i64) x33.1 x33.2 s32])) (Γb := (fun (q46 : Bool) (y47 : Unit) => [(1, iv .i64 a__1), (2, slv (rI .i64) gone_2), (3, pv (ptr b1 0)), (7, iv .u64 s26), (8, pv x33.1), (9, bv q46)])) (Ωb := (fun (q46 : Bool) (y47 : Unit) => [oc b1 [iv .i64 g_0.N, slv rT_api_Pair g_0.L], oa (rI .i64) x33.1 x33.2 s32])) (false, 0) () (weak [0, 1] ⟨rfl, rfl, rfl, rfl, rfl, rfl, rfl, trivial⟩ ⟨rfl, rfl, trivial⟩) (fun s39 x40 => ?_) (fun q46 y47 => ?_)
      · unfold net_SomeAdmissible_l2
        refine ref_seq (ref_seq (ref_region ?_))
        refine mv1 rfl rfl ?_
        refine mv1 rfl rfl ?_
        refine s_rd (r_olen Tryd.underlying22 rfl (j := 1) rfl) rfl ?_
        refine s_rd (r_lss rfl rfl) rfl ?_
        refine l_nil (n_then ?_)
        refine ref_cond rfl (fun hb41 => ?_) (fun hb41 => ?_)
        · refine ref_skip (n_then (ref_seq (ref_block (ref_region ?_))))
          refine mv1 rfl rfl ?_
          refine mv1 rfl rfl ?_
          refine b_split (t := 34) rfl (fun _ => ?_) (fun _ => ?_)
          · refine s_off rfl rfl rfl rfl rfl ?_
            refine s_off rfl rfl rfl rfl rfl ?_
            refine s_off rfl rfl rfl rfl rfl ?_
            refine s_off rfl rfl rfl rfl rfl ?_
            refine s_off rfl rfl rfl rfl rfl ?_
            refine s_off rfl rfl rfl rfl rfl ?_
            refine s_rd (r_pickT rfl rfl) rfl ?_
            refine as1 rfl rfl ?_
            refine l_nil (n_block (n_then (ref_region ?_)))
            refine mv1 rfl rfl ?_
            refine s_rd (r_add rfl rfl) rfl ?_
            refine as1 rfl rfl ?_
            refine b_let (f := iv .i64) (t := 10) rfl fun i44 => ?_
            refine l_nil ?_
            exact goB () (weak [0, 1] ⟨rfl, rfl, rfl, rfl, rfl, rfl, rfl, trivial⟩ ⟨rfl, rfl, trivial⟩)
          refine s_on rfl rfl rfl ?_
          refine mv1 rfl rfl ?_
          refine s_on rfl rfl rfl ?_
          refine mv1 rfl rfl ?_
          refine s_on rfl rfl rfl ?_
          refine mv1 rfl rfl ?_
          refine s_on rfl rfl rfl ?_
          refine pull fun t42 h_t42 => ?_
          refine s_rd (r_oindex h_t42 Tryd.underlying22 el_3 rfl (j := 1) rfl rfl) rfl ?_
          refine s_on rfl rfl rfl ?_
          refine s_rd (r_oload h_t42 el_3 rfl (j := 1) rfl) rfl ?_
          refine s_on rfl rfl rfl ?_
          refine pull fun t43 h_t43 => ?_
          refine s_st (s_call (ψ := fun (_ : Unit) => bv t43) (args := [.tmp 35, .tmp 39]) Tryd.call44 rfl (net_In_ok h_t43) ⟨arg rfl, arg rfl, trivial⟩ (fun _ _ _ _ h => h)) rfl (fun _ => ?_)
          refine s_rd (r_pickF rfl rfl) rfl ?_
          refine as1 rfl rfl ?_
          refine l_nil (n_block (n_then (ref_region ?_)))
          refine mv1 rfl rfl ?_
          refine s_rd (r_add rfl rfl) rfl ?_
          refine as1 rfl rfl ?_
          refine b_let (f := iv .i64) (t := 10) rfl fun i45 => ?_
          refine l_nil ?_
          exact goB () (weak [0, 1] ⟨rfl, rfl, rfl, rfl, rfl, rfl, rfl, trivial⟩ ⟨rfl, rfl, trivial⟩)
        refine ref_exit (x_then ?_)
        exact brkB () (weak [0, 1] ⟨rfl, rfl, rfl, rfl, rfl, rfl, trivial⟩ ⟨rfl, rfl, trivial⟩)
      refine n_then (ref_seq (ref_region ?_))
      refine mv1 rfl rfl ?_
      refine s_rd (r_not rfl) rfl ?_
      refine mv1 rfl rfl ?_
      refine b_split (t := 44) rfl (fun _ => ?_) (fun _ => ?_)
      · refine s_on rfl rfl rfl ?_
        refine s_rd (r_cloadS Tryd.isAgg27 Tryd.sizeOf27 rfl (j := 0) rfl rfl rfl) rfl ?_
        refine s_on rfl rfl rfl ?_
        refine mv1 rfl rfl ?_
        refine s_on rfl rfl rfl ?_
        refine pull fun t48 h_t48 => ?_
        refine s_st (s_callB (ψ := fun (_ : Unit) => bv t48) (args := [.tmp 45, .tmp 46]) Tryd.call69 rfl (net_Admissible_ok h_t48) ⟨argB rfl, argO rfl (j := 1) rfl, trivial⟩ (fun _ _ _ _ _ h => h)) rfl (fun _ => ?_)
        refine s_rd (r_pickT rfl rfl) rfl ?_
        refine l_nil (n_then ?_)
        refine ref_cond rfl (fun hb49 => ?_) (fun hb49 => ?_)
        · refine ref_seq (ref_region ?_)
          refine as1 rfl rfl ?_
          refine l_nil (n_then (ref_ret (r_block (r_then ?_))))
          refine retX ?_
          refine r_block (r_then ?_)
          exact fin1 (.inl rfl) () [] rfl trivial rfl (rv_tmp rfl)
        refine ref_skip (n_block (n_then (ref_region ?_)))
        refine mv1 rfl rfl ?_
        refine s_rd (r_add rfl rfl) rfl ?_
        refine as1 rfl rfl ?_
        refine b_let (f := iv .u64) (t := 7) rfl fun bits51 => ?_
        refine l_nil ?_
        exact goX () (weak [0] ⟨rfl, rfl, rfl, rfl, trivial⟩ ⟨rfl, trivial⟩)
      refine s_off rfl rfl rfl rfl rfl ?_
      refine s_off rfl rfl rfl rfl rfl ?_
      refine s_off rfl rfl rfl rfl rfl ?_
      refine s_rd (r_pickF rfl rfl) rfl ?_
      refine l_nil (n_then ?_)
      refine ref_condF rfl rfl ?_
      refine ref_skip (n_block (n_then (ref_region ?_)))
      refine mv1 rfl rfl ?_
      refine s_rd (r_add rfl rfl) rfl ?_
      refine as1 rfl rfl ?_
      refine b_let (f := iv .u64) (t := 7) rfl fun bits52 => ?_
      refine l_nil ?_
      exact goX () (weak [0] ⟨rfl, rfl, rfl, rfl, trivial⟩ ⟨rfl, trivial⟩)
    refine ref_exit (x_then ?_)
    exact brkX () (weak [] trivial trivial)
  refine n_then (ref_seq (ref_region ?_))
  refine as1 rfl rfl ?_
  refine l_nil (n_then (ref_ret ?_))
  exact fin1 (.inl rfl) () [] rfl trivial rfl (rv_tmp rfl)

/-! deliberation/deliberationnet.Stable -/
noncomputable def net_Stable_l1 (g_0 : T_api_Graph) (s_1 : (List Int)) (s8 : Int) : Option (Sum ((Sum (Bool) (Unit))) (Int)) :=
  bif decide (s8 < g_0.N) then
    Option.bind (net_In_m s_1 s8) fun t11 =>
    bif !t11 then
      Option.bind (net_Attacked_m g_0 s_1 s8) fun t12 =>
      bif !t12 then
        some (Sum.inl (Sum.inl false))
      else
        some (Sum.inr (iadd .i64 s8 1))
    else
      some (Sum.inr (iadd .i64 s8 1))
  else
    some (Sum.inl (Sum.inr ()))

noncomputable def net_Stable_m (g_0 : T_api_Graph) (s_1 : (List Int)) : Option (Bool) :=
  Option.bind (loopC (net_Stable_l1 g_0 s_1) 0) (sumK (fun a : Bool => some a) fun q14 : Unit =>
    Option.bind (net_Free_m g_0 s_1) fun t16 =>
    some t16)

theorem net_Stable_ok {g_0 : T_api_Graph} {s_1 : (List Int)} {r : Bool} (hm : net_Stable_m g_0 s_1 = some r) :
    FnOk prog 47 [ag [iv .i64 g_0.N, slv rT_api_Pair g_0.L], slv (rI .i64) s_1] [] (fun (x : Unit) => [bv r]) (fun (x : Unit) => []) := by
  refine fn_ok (fn := Tryd.f47) (N := 26) (res := fun r x => [bv r]) (Ω1 := fun r x => []) Tryd.func47 rfl rfl hm rfl (fun E hM => ?_)
  unfold net_Stable_m
  refine ref_seq (ref_region ?_)
  refine s_st (s_box (part_agO (ψs := [iv .i64 g_0.N, slv rT_api_Pair g_0.L]) rfl ⟨.inl iv_at, .inl slv_at, trivial⟩)) rfl (fun b1 => ?_)
  refine as1 rfl rfl ?_
  refine l_nil (n_then (ref_seq (ref_seq (ref_region ?_))))
  refine as1 rfl rfl ?_
  refine l_nil (n_then ?_)
  refine ref_loopX (f := (net_Stable_l1 g_0 s_1)) (Γl := (fun (s8 : Int) (x9 : Unit) => [(1, slv (rI .i64) s_1), (2, pv (ptr b1 0)), (5, iv .i64 s8)])) (Ωl := (fun (s8 : Int) (x9 : Unit) => [oc b1 [iv .i64 g_0.N, slv rT_api_Pair g_0.L]])) (Γb := (fun (q14 : Unit) (y15 : Unit) => [(1, slv (rI .i64) s_1), (2, pv (ptr b1 0))])) (Ωb := (fun (q14 : Unit) (y15 : Unit) => [oc b1 [iv .i64 g_0.N, slv rT_api_Pair g_0.L]])) (kr := (fun a : Bool => some a)) 0 () (weak [0] ⟨rfl, rfl, rfl, trivial⟩ ⟨rfl, trivial⟩) (fun s8 x9 => ?_) (fun q14 y15 => ?_)
  · unfold net_Stable_l1
    refine ref_seq (ref_seq (ref_region ?_))
    refine mv1 rfl rfl ?_
    refine s_rd (r_faddr (fo := 0) Tryd.underlying27 rfl rfl Tryd.sizeOf3 rfl) rfl ?_
    refine s_rd (r_cload Tryd.isAgg3 rfl (j := 0) rfl rfl) rfl ?_
    refine s_rd (r_lss rfl rfl) rfl ?_
    refine l_nil (n_then ?_)
    refine ref_cond rfl (fun hb10 => ?_) (fun hb10 => ?_)
    · refine ref_skip (n_then (ref_seq (ref_block (ref_seq (ref_region ?_)))))
      refine mv1 rfl rfl ?_
      refine mv1 rfl rfl ?_
      refine pull fun t11 h_t11 => ?_
      refine s_st (s_call (ψ := fun (_ : Unit) => bv t11) (args := [.tmp 12, .tmp 13]) Tryd.call44 rfl (net_In_ok h_t11) ⟨arg rfl, arg rfl, trivial⟩ (fun _ _ _ _ h => h)) rfl (fun _ => ?_)
      refine s_rd (r_not rfl) rfl ?_
      refine mv1 rfl rfl ?_
      refine b_split (t := 16) rfl (fun _ => ?_) (fun _ => ?_)
      · refine s_on rfl rfl rfl ?_
        refine s_rd (r_cloadS Tryd.isAgg27 Tryd.sizeOf27 rfl (j := 0) rfl rfl rfl) rfl ?_
        refine s_on rfl rfl rfl ?_
        refine mv1 rfl rfl ?_
        refine s_on rfl rfl rfl ?_
        refine mv1 rfl rfl ?_
        refine s_on rfl rfl rfl ?_
        refine pull fun t12 h_t12 => ?_
        refine s_st (s_call (ψ := fun (_ : Unit) => bv t12) (args := [.tmp 17, .tmp 18, .tmp 19]) Tryd.call68 rfl (net_Attacked_ok h_t12) ⟨arg rfl, arg rfl, arg rfl, trivial⟩ (fun _ _ _ _ h => h)) rfl (fun _ => ?_)
        refine s_on rfl rfl rfl ?_
        refine s_rd (r_not rfl) rfl ?_
        refine s_rd (r_pickT rfl rfl) rfl ?_
        refine l_nil (n_then ?_)
        refine ref_cond rfl (fun hb13 => ?_) (fun hb13 => ?_)
        · refine ref_seq (ref_region ?_)
          refine as1 rfl rfl ?_
          refine l_nil (n_then (ref_ret (r_block (r_then ?_))))
          refine retX ?_
          refine r_block (r_then ?_)
          exact fin1 (.inl rfl) () [] rfl trivial rfl (rv_tmp rfl)
        refine ref_skip (n_block (n_then (ref_region ?_)))
        refine mv1 rfl rfl ?_
        refine s_rd (r_add rfl rfl) rfl ?_
        refine as1 rfl rfl ?_
        refine l_nil ?_
        exact goX () (weak [0] ⟨rfl, rfl, rfl, trivial⟩ ⟨rfl, trivial⟩)
      refine s_off rfl rfl rfl rfl rfl ?_
      refine s_off rfl rfl rfl rfl rfl ?_
      refine s_off rfl rfl rfl rfl rfl ?_
      refine s_off rfl rfl rfl rfl rfl ?_
      refine s_off rfl rfl rfl rfl rfl ?_
      refine s_rd (r_pickF rfl rfl) rfl ?_
      refine l_nil (n_then ?_)
      refine ref_condF rfl rfl ?_
      refine ref_skip (n_block (n_then (ref_region ?_)))
      refine mv1 rfl rfl ?_
      refine s_rd (r_add rfl rfl) rfl ?_
      refine as1 rfl rfl ?_
      refine l_nil ?_
      exact goX () (weak [0] ⟨rfl, rfl, rfl, trivial⟩ ⟨rfl, trivial⟩)
    refine ref_exit (x_then ?_)
    exact brkX () (weak [0] ⟨rfl, rfl, trivial⟩ ⟨rfl, trivial⟩)
  refine n_then (ref_seq (ref_region ?_))
  refine s_rd (r_cloadS Tryd.isAgg27 Tryd.sizeOf27 rfl (j := 0) rfl rfl rfl) rfl ?_
  refine mv1 rfl rfl ?_
  refine pull fun t16 h_t16 => ?_
  refine s_st (s_call (ψ := fun (_ : Unit) => bv t16) (args := [.tmp 23, .tmp 24]) Tryd.call70 rfl (net_Free_ok h_t16) ⟨arg rfl, arg rfl, trivial⟩ (fun _ _ _ _ h => h)) rfl (fun _ => ?_)
  refine as1 rfl rfl ?_
  refine l_nil (n_then (ref_ret ?_))
  exact fin1 (.inl rfl) () [] rfl trivial rfl (rv_tmp rfl)

/-! deliberation/deliberationref23.Accepted -/
noncomputable def ref23_Accepted_l1 (g_0 : T_api_Graph) (a__2 : Int) (t2 : T_api_Graph) (s24 : Bool × Bool × Int) : Option (Sum (Bool × Bool) (Bool × Bool × Int)) :=
  Option.bind (ishlM .u64 1 (IntKind.wrap .u64 g_0.N)) fun t26 =>
  bif decide (s24.2.2 < t26) then
    Option.bind (net_Members_m s24.2.2) fun s28 =>
    Option.bind (net_Stable_m t2 s28) fun t30 =>
    bif !t30 then
      letM (iadd .u64 s24.2.2 1) fun bits34 =>
      some (Sum.inr (s24.1, s24.2.1, bits34))
    else
      Option.bind (net_In_m s28 a__2) fun t32 =>
      bif t32 then
        letM (iadd .u64 s24.2.2 1) fun bits35 =>
        some (Sum.inr (true, s24.2.1, bits35))
      else
        letM (iadd .u64 s24.2.2 1) fun bits36 =>
        some (Sum.inr (s24.1, false, bits36))
  else
    some (Sum.inl (s24.1, s24.2.1))

noncomputable def ref23_Accepted_m (g_0 : T_api_Graph) (gone_1 : (List Int)) (a__2 : Int) (question_3 : Int) : Option (Bool) :=
  Option.bind (net_Without_m g_0 gone_1) fun t2 =>
  Option.bind (net_In_m gone_1 a__2) fun t4 =>
  bif t4 then
    some false
  else
    Option.bind (net_Grounded_m t2) fun t6 =>
    letM (question_3 == 4) fun t8 =>
    bif t8 then
      Option.bind (idxM t6.1 a__2) fun t10 =>
      some (t10 == 1)
    else
      letM (question_3 == 1) fun t11 =>
      bif t11 then
        Option.bind (net_SomeAdmissible_m t2 a__2 gone_1) fun t13 =>
        some t13
      else
        Option.bind (loopC (ref23_Accepted_l1 g_0 a__2 t2) (false, true, 0)) fun q37 : Bool × Bool =>
        bif question_3 == 2 then
          some q37.1
        else
          some q37.2

theorem ref23_Accepted_ok {g_0 : T_api_Graph} {gone_1 : (List Int)} {a__2 : Int} {question_3 : Int} {r : Bool} (hm : ref23_Accepted_m g_0 gone_1 a__2 question_3 = some r) :
    FnOk prog 21 [ag [iv .i64 g_0.N, slv rT_api_Pair g_0.L], slv (rI .i64) gone_1, iv .i64 a__2, iv .i64 question_3] [] (fun (x : Unit) => [bv r]) (fun (x : Unit) => []) := by
  refine fn_ok (fn := Tryd.f21) (N := 62) (res := fun r x => [bv r]) (Ω1 := fun r x => []) Tryd.func21 rfl rfl hm rfl (fun E hM => ?_)
  unfold ref23_Accepted_m
  refine ref_seq (ref_region ?_)
  refine s_st (s_box (part_agO (ψs := [iv .i64 g_0.N, slv rT_api_Pair g_0.L]) rfl ⟨.inl iv_at, .inl slv_at, trivial⟩)) rfl (fun b1 => ?_)
  refine as1 rfl rfl ?_
  refine l_nil (n_then (ref_seq (ref_region ?_)))
  refine s_rd (r_cloadS Tryd.isAgg27 Tryd.sizeOf27 rfl (j := 0) rfl rfl rfl) rfl ?_
  refine mv1 rfl rfl ?_
  refine pull fun t2 h_t2 => ?_
  refine s_st (s_call (ψ := fun (_ : Unit) => ag [iv .i64 t2.N, slv rT_api_Pair t2.L]) (args := [.tmp 16, .tmp 17]) Tryd.call43 rfl (net_Without_ok h_t2) ⟨arg rfl, arg rfl, trivial⟩ (fun _ _ _ _ h => h)) rfl (fun _ => ?_)
  refine s_st (s_alloc zt_27) rfl (fun b3 => ?_)
  refine s_st0 (s_cstore (out := [iv .i64 t2.N, slv rT_api_Pair t2.L]) Tryd.sizeOf27 rfl (j := 1) rfl (part_agO (ψs := [iv .i64 t2.N, slv rT_api_Pair t2.L]) rfl ⟨.inl iv_at, .inl slv_at, trivial⟩) rfl rfl rfl) (fun _ => ?_)
  refine l_nil ?_
  refine b_of (nrm [oc b1 [iv .i64 g_0.N, slv rT_api_Pair g_0.L], oc b3 [iv .i64 t2.N, slv rT_api_Pair t2.L]] rfl) ?_
  refine n_then (ref_seq (ref_seq (ref_region ?_)))
  refine mv1 rfl rfl ?_
  refine mv1 rfl rfl ?_
  refine pull fun t4 h_t4 => ?_
  refine s_st (s_call (ψ := fun (_ : Unit) => bv t4) (args := [.tmp 19, .tmp 20]) Tryd.call44 rfl (net_In_ok h_t4) ⟨arg rfl, arg rfl, trivial⟩ (fun _ _ _ _ h => h)) rfl (fun _ => ?_)
  refine l_nil (n_then ?_)
  refine ref_cond rfl (fun hb5 => ?_) (fun hb5 => ?_)
  · refine ref_seq (ref_region ?_)
    refine as1 rfl rfl ?_
    refine l_nil (n_then (ref_ret (r_then ?_)))
    exact fin1 (.inl rfl) () [] rfl trivial rfl (rv_tmp rfl)
  refine ref_skip (n_then (ref_seq (ref_region ?_)))
  refine s_rd (r_cloadS Tryd.isAgg27 Tryd.sizeOf27 rfl (j := 1) rfl rfl rfl) rfl ?_
  refine pull fun t6 h_t6 => ?_
  refine s_st (s_call (ψ := fun (x7 : (Value × List Nat) × (Value × List Nat)) => tup [pv x7.1.1, pv x7.2.1]) (args := [.tmp 23]) Tryd.call45 rfl (net_Grounded_ok h_t6) ⟨arg rfl, trivial⟩ (fun _ _ _ _ h => h)) rfl (fun x7 => ?_)
  refine mv1 rfl rfl ?_
  refine s_rd (r_extract rfl rfl) rfl ?_
  refine s_rd (r_extract rfl rfl) rfl ?_
  refine as1 rfl rfl ?_
  refine as1 rfl rfl ?_
  refine l_nil (n_then (ref_seq (ref_seq (ref_region ?_))))
  refine mv1 rfl rfl ?_
  refine l_nil (n_then (ref_block (ref_seq (ref_region ?_))))
  refine s_rd (r_eql rfl rfl) rfl ?_
  refine as1 rfl rfl ?_
  refine b_let (f := bv) (t := 28) rfl fun t8 => ?_
  refine l_nil (n_then ?_)
  refine ref_cond rfl (fun hb9 => ?_) (fun hb9 => ?_)
  · refine ref_seq (ref_region ?_)
    refine mv1 rfl rfl ?_
    refine mv1 rfl rfl ?_
    refine pull fun t10 h_t10 => ?_
    refine s_rd (r_oindex h_t10 Tryd.underlying22 el_3 rfl (j := 2) rfl rfl) rfl ?_
    refine s_rd (r_oload h_t10 el_3 rfl (j := 2) rfl) rfl ?_
    refine s_rd (r_eql rfl rfl) rfl ?_
    refine as1 rfl rfl ?_
    refine l_nil (n_then (ref_ret (r_block (r_then ?_))))
    exact fin1 (.inl rfl) () [] rfl trivial rfl (rv_tmp rfl)
  refine ref_seq (ref_region ?_)
  refine s_rd (r_eql rfl rfl) rfl ?_
  refine as1 rfl rfl ?_
  refine b_let (f := bv) (t := 35) rfl fun t11 => ?_
  refine l_nil (n_then ?_)
  refine ref_cond rfl (fun hb12 => ?_) (fun hb12 => ?_)
  · refine ref_seq (ref_region ?_)
    refine s_rd (r_cloadS Tryd.isAgg27 Tryd.sizeOf27 rfl (j := 1) rfl rfl rfl) rfl ?_
    refine mv1 rfl rfl ?_
    refine mv1 rfl rfl ?_
    refine pull fun t13 h_t13 => ?_
    refine s_st (s_call (ψ := fun (_ : Unit) => bv t13) (args := [.tmp 37, .tmp 38, .tmp 39]) Tryd.call46 rfl (net_SomeAdmissible_ok h_t13) ⟨arg rfl, arg rfl, arg rfl, trivial⟩ (fun _ _ _ _ h => h)) rfl (fun _ => ?_)
    refine as1 rfl rfl ?_
    refine l_nil (n_then (ref_ret (r_block (r_then ?_))))
    exact fin1 (.inl rfl) () [] rfl trivial rfl (rv_tmp rfl)
  refine ref_skip (n_block (n_then (ref_seq (ref_region ?_))))
  refine as1 rfl rfl ?_
  refine as1 rfl rfl ?_
  refine l_nil (n_then (ref_seq (ref_seq (ref_region ?_))))
  refine as1 rfl rfl ?_
  refine l_nil (n_then ?_)
  refine ref_loopB (f := (ref23_Accepted_l1 g_0 a__2 t2)) (Γl := (fun (s24 : Bool × Bool × Int) (x25 : Unit) => [(2, iv .i64 a__2), (3, iv .i64 question_3), (4, pv (ptr b1 0)), (9, pv (ptr b3 0)), (12, bv s24.1), (13, bv s24.2.1), (14, iv .u64 s24.2.2)])) (Ωl := (fun (s24 : Bool × Bool × Int) (x25 : Unit) => [oc b1 [iv .i64 g_0.N, slv rT_api_Pair g_0.L], oc b3 [iv .i64 t2.N, slv rT_api_Pair t2.L]])) (Γb := (fun (q37 : Bool × Bool) (y38 : Unit) => [(3, iv .i64 question_3), (12, bv q37.1), (13, bv q37.2)])) (Ωb := (fun (q37 : Bool × Bool) (y38 : Unit) => [])) (false, true, 0) () (weak [0, 1] ⟨rfl, rfl, rfl, rfl, rfl, rfl, rfl, trivial⟩ ⟨rfl, rfl, trivial⟩) (fun s24 x25 => ?_) (fun q37 y38 => ?_)
  · unfold ref23_Accepted_l1
    refine ref_seq (ref_seq (ref_region ?_))
    refine mv1 rfl rfl ?_
    refine s_rd (r_faddr (fo := 0) Tryd.underlying27 rfl rfl Tryd.sizeOf3 rfl) rfl ?_
    refine s_rd (r_cload Tryd.isAgg3 rfl (j := 0) rfl rfl) rfl ?_
    refine s_rd (r_conv (k' := .u64) rfl rfl rfl) rfl ?_
    refine pull fun t26 h_t26 => ?_
    refine s_rd (r_shlM h_t26 rfl rfl) rfl ?_
    refine s_rd (r_lss rfl rfl) rfl ?_
    refine l_nil (n_then ?_)
    refine ref_cond rfl (fun hb27 => ?_) (fun hb27 => ?_)
    · refine ref_skip (n_then (ref_seq (ref_block (ref_seq (ref_region ?_)))))
      refine mv1 rfl rfl ?_
      refine pull fun s28 h_s28 => ?_
      refine s_st (s_call (ψ := fun (x29 : (Value × List Nat)) => pv x29.1) (args := [.tmp 49]) Tryd.call17 rfl (net_Members_ok h_s28) ⟨arg rfl, trivial⟩ (fun _ _ _ _ h => h)) rfl (fun x29 => ?_)
      refine as1 rfl rfl ?_
      refine l_nil (n_then (ref_seq (ref_seq (ref_region ?_))))
      refine s_rd (r_cloadS Tryd.isAgg27 Tryd.sizeOf27 rfl (j := 1) rfl rfl rfl) rfl ?_
      refine mv1 rfl rfl ?_
      refine pull fun t30 h_t30 => ?_
      refine s_st (s_callB (ψ := fun (_ : Unit) => bv t30) (args := [.tmp 51, .tmp 52]) Tryd.call47 rfl (net_Stable_ok h_t30) ⟨argB rfl, argO rfl (j := 2) rfl, trivial⟩ (fun _ _ _ _ _ h => h)) rfl (fun _ => ?_)
      refine s_rd (r_not rfl) rfl ?_
      refine l_nil ?_
      refine b_of (nrm [oc b1 [iv .i64 g_0.N, slv rT_api_Pair g_0.L], oc b3 [iv .i64 t2.N, slv rT_api_Pair t2.L], oa (rI .i64) x29.1 x29.2 s28] rfl) ?_
      refine n_then ?_
      refine ref_cond rfl (fun hb31 => ?_) (fun hb31 => ?_)
      · refine ref_exit (x_then (x_eq (n_then (ref_region ?_))))
        refine mv1 rfl rfl ?_
        refine s_rd (r_add rfl rfl) rfl ?_
        refine as1 rfl rfl ?_
        refine b_let (f := iv .u64) (t := 14) rfl fun bits34 => ?_
        refine l_nil ?_
        exact goB () (weak [0, 1] ⟨rfl, rfl, rfl, rfl, rfl, rfl, rfl, trivial⟩ ⟨rfl, rfl, trivial⟩)
      refine ref_skip (n_then (ref_seq (ref_region ?_)))
      refine mv1 rfl rfl ?_
      refine mv1 rfl rfl ?_
      refine pull fun t32 h_t32 => ?_
      refine s_st (s_callB (ψ := fun (_ : Unit) => bv t32) (args := [.tmp 55, .tmp 56]) Tryd.call44 rfl (net_In_ok h_t32) ⟨argO rfl (j := 2) rfl, argB rfl, trivial⟩ (fun _ _ _ _ _ h => h)) rfl (fun _ => ?_)
      refine l_nil (n_then ?_)
      refine ref_cond rfl (fun hb33 => ?_) (fun hb33 => ?_)
      · refine ref_region ?_
        refine as1 rfl rfl ?_
        refine l_nil (n_block (n_then (ref_region ?_)))
        refine mv1 rfl rfl ?_
        refine s_rd (r_add rfl rfl) rfl ?_
        refine as1 rfl rfl ?_
        refine b_let (f := iv .u64) (t := 14) rfl fun bits35 => ?_
        refine l_nil ?_
        exact goB () (weak [0, 1] ⟨rfl, rfl, rfl, rfl, rfl, rfl, rfl, trivial⟩ ⟨rfl, rfl, trivial⟩)
      refine ref_region ?_
      refine as1 rfl rfl ?_
      refine l_nil (n_block (n_then (ref_region ?_)))
      refine mv1 rfl rfl ?_
      refine s_rd (r_add rfl rfl) rfl ?_
      refine as1 rfl rfl ?_
      refine b_let (f := iv .u64) (t := 14) rfl fun bits36 => ?_
      refine l_nil ?_
      exact goB () (weak [0, 1] ⟨rfl, rfl, rfl, rfl, rfl, rfl, rfl, trivial⟩ ⟨rfl, rfl, trivial⟩)
    refine ref_exit (x_then ?_)
    exact brkB () (weak [] ⟨rfl, rfl, rfl, trivial⟩ trivial)
  refine n_then (ref_seq (ref_seq (ref_region ?_)))
  refine mv1 rfl rfl ?_
  refine s_rd (r_eql rfl rfl) rfl ?_
  refine l_nil (n_then ?_)
  refine ref_cond rfl (fun hb39 => ?_) (fun hb39 => ?_)
  · refine ref_seq (ref_region ?_)
    refine mv1 rfl rfl ?_
    refine as1 rfl rfl ?_
    refine l_nil (n_then (ref_ret (r_then ?_)))
    exact fin1 (.inl rfl) () [] rfl trivial rfl (rv_tmp rfl)
  refine ref_skip (n_then (ref_seq (ref_region ?_)))
  refine mv1 rfl rfl ?_
  refine as1 rfl rfl ?_
  refine l_nil (n_then (ref_ret ?_))
  exact fin1 (.inl rfl) () [] rfl trivial rfl (rv_tmp rfl)

/-! deliberation/deliberationref23.Joint -/
noncomputable def ref23_Joint_l2 (set__2 : (List Int)) (question_3 : Int) (t29 : T_deliberationref23_world) (s35 : Bool × Int) : Option (Sum (Bool) (Bool × Int)) :=
  bif decide (s35.2 < (set__2.length : Int)) then
    bif s35.1 then
      Option.bind (idxM set__2 s35.2) fun t38 =>
      Option.bind (ref23_Accepted_m t29.g t29.gone t38 question_3) fun ok39 =>
      letM (iadd .i64 s35.2 1) fun i40 =>
      some (Sum.inr (ok39, i40))
    else
      some (Sum.inl s35.1)
  else
    some (Sum.inl s35.1)

noncomputable def ref23_Joint_l1 (set__2 : (List Int)) (question_3 : Int) (t6 : List T_deliberationref23_world × Int) (s26 : Int × Int) : Option (Sum (Int) (Int × Int)) :=
  bif decide (s26.2 < (t6.1.length : Int)) then
    Option.bind (idxM t6.1 s26.2) fun t29 =>
    Option.bind (loopC (ref23_Joint_l2 set__2 question_3 t29) (true, 0)) fun q41 : Bool =>
    bif q41 then
      letM (iadd .i64 s26.1 t29.num) fun sum44 =>
      some (Sum.inr (sum44, iadd .i64 s26.2 1))
    else
      some (Sum.inr (s26.1, iadd .i64 s26.2 1))
  else
    some (Sum.inl s26.1)

noncomputable def ref23_Joint_m (g_0 : T_api_Graph) (o_1 : T_api_Odds) (set__2 : (List Int)) (question_3 : Int) : Option (T_api_Fraction × Int) :=
  Option.bind (ref23_possible_m g_0 o_1 set__2 question_3) fun e4 =>
  bif e4 != 0 then
    some ((T_api_Fraction.mk 0 0), e4)
  else
    Option.bind (ref23_worlds_m g_0 o_1) fun t6 =>
    Option.bind (loopC (ref23_Joint_l1 set__2 question_3 t6) (0, 0)) fun q45 : Int =>
    Option.bind (ref22_Reduced_m q45 t6.2) fun t47 =>
    some (t47, 0)

theorem ref23_Joint_ok {g_0 : T_api_Graph} {o_1 : T_api_Odds} {set__2 : (List Int)} {question_3 : Int} {r : T_api_Fraction × Int} (hm : ref23_Joint_m g_0 o_1 set__2 question_3 = some r) :
    FnOk prog 24 [ag [iv .i64 g_0.N, slv rT_api_Pair g_0.L], ag [slv rT_api_Fraction o_1.Nodes, slv rT_api_Fraction o_1.Attacks], slv (rI .i64) set__2, iv .i64 question_3] [] (fun (x : Unit) => [ag [iv .i64 r.1.Num, iv .i64 r.1.Den], iv .i64 r.2]) (fun (x : Unit) => []) := by
  refine fn_ok (fn := Tryd.f24) (N := 67) (res := fun r x => [ag [iv .i64 r.1.Num, iv .i64 r.1.Den], iv .i64 r.2]) (Ω1 := fun r x => []) Tryd.func24 rfl rfl hm rfl (fun E hM => ?_)
  unfold ref23_Joint_m
  refine ref_seq (ref_region ?_)
  refine s_st (s_box (part_agO (ψs := [iv .i64 g_0.N, slv rT_api_Pair g_0.L]) rfl ⟨.inl iv_at, .inl slv_at, trivial⟩)) rfl (fun b1 => ?_)
  refine s_st (s_box (part_agO (ψs := [slv rT_api_Fraction o_1.Nodes, slv rT_api_Fraction o_1.Attacks]) rfl ⟨.inl slv_at, .inl slv_at, trivial⟩)) rfl (fun b2 => ?_)
  refine s_st (s_alloc zt_36) rfl (fun b3 => ?_)
  refine as1 rfl rfl ?_
  refine l_nil (n_then (ref_seq (ref_seq (ref_region ?_))))
  refine s_rd (r_cloadS Tryd.isAgg27 Tryd.sizeOf27 rfl (j := 0) rfl rfl rfl) rfl ?_
  refine s_rd (r_cloadS Tryd.isAgg31 Tryd.sizeOf31 rfl (j := 1) rfl rfl rfl) rfl ?_
  refine mv1 rfl rfl ?_
  refine mv1 rfl rfl ?_
  refine pull fun e4 h_e4 => ?_
  refine s_st (s_call (ψ := fun (_ : Unit) => iv .i64 e4) (args := [.tmp 18, .tmp 19, .tmp 20, .tmp 21]) Tryd.call48 rfl (ref23_possible_ok h_e4) ⟨arg rfl, arg rfl, arg rfl, arg rfl, trivial⟩ (fun _ _ _ _ h => h)) rfl (fun _ => ?_)
  refine as1 rfl rfl ?_
  refine l_nil ?_
  refine b_of (nrm [oc b1 [iv .i64 g_0.N, slv rT_api_Pair g_0.L], oc b2 [slv rT_api_Fraction o_1.Nodes, slv rT_api_Fraction o_1.Attacks], oc b3 [iv .i64 0, iv .i64 0]] rfl) ?_
  refine n_then (ref_seq (ref_region ?_))
  refine mv1 rfl rfl ?_
  refine s_rd (r_neq rfl rfl) rfl ?_
  refine l_nil (n_then ?_)
  refine ref_cond rfl (fun hb5 => ?_) (fun hb5 => ?_)
  · refine ref_seq (ref_region ?_)
    refine s_rd (r_build (ps := []) (rs := []) st_36 zs_36 trivial rfl rfl) rfl ?_
    refine mv1 rfl rfl ?_
    refine s_st0 (s_cstore (out := [iv .i64 0, iv .i64 0]) Tryd.sizeOf36 rfl (j := 2) rfl (part_agO (ψs := [iv .i64 0, iv .i64 0]) rfl ⟨.inl iv_at, .inl iv_at, trivial⟩) rfl rfl rfl) (fun _ => ?_)
    refine as1 rfl rfl ?_
    refine l_nil (n_then (ref_ret (r_then ?_)))
    exact fin2 (.inl rfl) () [] rfl trivial rfl (rv_cell rfl (j := 2) rfl Tryd.isAgg36 Tryd.sizeOf36 rfl rfl) (rv_tmp rfl)
  refine ref_skip (n_then (ref_seq (ref_region ?_)))
  refine s_rd (r_cloadS Tryd.isAgg27 Tryd.sizeOf27 rfl (j := 0) rfl rfl rfl) rfl ?_
  refine s_rd (r_cloadS Tryd.isAgg31 Tryd.sizeOf31 rfl (j := 1) rfl rfl rfl) rfl ?_
  refine pull fun t6 h_t6 => ?_
  refine s_st (s_call (ψ := fun (_ : Unit) => tup [slv rT_deliberationref23_world t6.1, iv .i64 t6.2]) (args := [.tmp 28, .tmp 29]) Tryd.call49 rfl (ref23_worlds_ok h_t6) ⟨arg rfl, arg rfl, trivial⟩ (fun _ _ _ _ h => h)) rfl (fun _ => ?_)
  refine mv1 rfl rfl ?_
  refine s_rd (r_extract rfl rfl) rfl ?_
  refine s_rd (r_extract rfl rfl) rfl ?_
  refine as1 rfl rfl ?_
  refine as1 rfl rfl ?_
  refine l_nil (n_then (ref_seq (ref_region ?_)))
  refine as1 rfl rfl ?_
  refine l_nil (n_then (ref_seq (ref_seq (ref_region ?_))))
  refine mv1 rfl rfl ?_
  refine s_rd (r_len Tryd.underlying85 rfl) rfl ?_
  refine mv1 rfl rfl ?_
  refine l_nil (n_then ?_)
  refine ref_loopB (f := (ref23_Joint_l1 set__2 question_3 t6)) (Γl := (fun (s26 : Int × Int) (x27 : Unit) => [(2, slv (rI .i64) set__2), (3, iv .i64 question_3), (8, pv (ptr b3 0)), (12, iv .i64 t6.2), (13, iv .i64 s26.1), (33, slv rT_deliberationref23_world t6.1), (34, iv .i64 (t6.1.length : Int)), (35, iv .i64 s26.2)])) (Ωl := (fun (s26 : Int × Int) (x27 : Unit) => [oc b3 [iv .i64 0, iv .i64 0]])) (Γb := (fun (q45 : Int) (y46 : Unit) => [(8, pv (ptr b3 0)), (12, iv .i64 t6.2), (13, iv .i64 q45)])) (Ωb := (fun (q45 : Int) (y46 : Unit) => [oc b3 [iv .i64 0, iv .i64 0]])) (0, 0) () (weak [2] ⟨rfl, rfl, rfl, rfl, rfl, rfl, rfl, rfl, trivial⟩ ⟨rfl, trivial⟩) (fun s26 x27 => ?_) (fun q45 y46 => ?_)
  · unfold ref23_Joint_l1
    refine ref_seq (ref_region ?_)
    refine s_rd (r_lss rfl rfl) rfl ?_
    refine l_nil (n_then (ref_seq ?_))
    refine ref_cond rfl (fun hb28 => ?_) (fun hb28 => ?_)
    · refine ref_skip (n_then (ref_seq (ref_block (ref_seq (ref_region ?_)))))
      refine pull fun t29 h_t29 => ?_
      refine s_rd (r_index h_t29 Tryd.underlying85 el_89 rfl rfl) rfl ?_
      refine s_rd (r_load el_89 rfl) rfl ?_
      refine s_st (s_alloc zt_89) rfl (fun b30 => ?_)
      refine s_st0 (s_cstore (out := [iv .i64 t29.g.N, slv rT_api_Pair t29.g.L, slv (rI .i64) t29.gone, iv .i64 t29.num]) Tryd.sizeOf89 rfl (j := 1) rfl (part_agO (ψs := [iv .i64 t29.g.N, slv rT_api_Pair t29.g.L, slv (rI .i64) t29.gone, iv .i64 t29.num]) rfl ⟨.inl iv_at, .inl slv_at, .inl slv_at, .inl iv_at, trivial⟩) rfl rfl rfl) (fun _ => ?_)
      refine l_nil (n_then (ref_seq (ref_region ?_)))
      refine as1 rfl rfl ?_
      refine l_nil (n_then (ref_seq (ref_seq (ref_region ?_))))
      refine as1 rfl rfl ?_
      refine l_nil (n_then ?_)
      refine ref_loopB (f := (ref23_Joint_l2 set__2 question_3 t29)) (Γl := (fun (s35 : Bool × Int) (x36 : Unit) => [(2, slv (rI .i64) set__2), (3, iv .i64 question_3), (8, pv (ptr b3 0)), (12, iv .i64 t6.2), (13, iv .i64 s26.1), (15, pv (ptr b30 0)), (16, bv s35.1), (17, iv .i64 s35.2), (33, slv rT_deliberationref23_world t6.1), (34, iv .i64 (t6.1.length : Int)), (35, iv .i64 s26.2)])) (Ωl := (fun (s35 : Bool × Int) (x36 : Unit) => [oc b3 [iv .i64 0, iv .i64 0], oc b30 [iv .i64 t29.g.N, slv rT_api_Pair t29.g.L, slv (rI .i64) t29.gone, iv .i64 t29.num]])) (Γb := (fun (q41 : Bool) (y42 : Unit) => [(2, slv (rI .i64) set__2), (3, iv .i64 question_3), (8, pv (ptr b3 0)), (12, iv .i64 t6.2), (13, iv .i64 s26.1), (15, pv (ptr b30 0)), (16, bv q41), (33, slv rT_deliberationref23_world t6.1), (34, iv .i64 (t6.1.length : Int)), (35, iv .i64 s26.2)])) (Ωb := (fun (q41 : Bool) (y42 : Unit) => [oc b3 [iv .i64 0, iv .i64 0], oc b30 [iv .i64 t29.g.N, slv rT_api_Pair t29.g.L, slv (rI .i64) t29.gone, iv .i64 t29.num]])) (true, 0) () (weak [0, 1] ⟨rfl, rfl, rfl, rfl, rfl, rfl, rfl, rfl, rfl, rfl, rfl, trivial⟩ ⟨rfl, rfl, trivial⟩) (fun s35 x36 => ?_) (fun q41 y42 => ?_)
      · unfold ref23_Joint_l2
        refine ref_seq (ref_seq (ref_region ?_))
        refine mv1 rfl rfl ?_
        refine mv1 rfl rfl ?_
        refine s_rd (r_len Tryd.underlying22 rfl) rfl ?_
        refine s_rd (r_lss rfl rfl) rfl ?_
        refine mv1 rfl rfl ?_
        refine b_split (t := 43) rfl (fun _ => ?_) (fun _ => ?_)
        · refine s_on rfl rfl rfl ?_
          refine mv1 rfl rfl ?_
          refine s_rd (r_pickT rfl rfl) rfl ?_
          refine l_nil (n_then ?_)
          refine ref_cond rfl (fun hb37 => ?_) (fun hb37 => ?_)
          · refine ref_skip (n_then (ref_seq (ref_block ?_)))
            refine ref_draw [0, 1, 2, 3, 4, 5, 6, 7, 8] rfl (by kernel_rfl) (fun hok => ?_)
            refine a_rd (i := 0) hok rfl (by kernel_rfl) rfl (r_faddr (fo := 0) Tryd.underlying89 rfl rfl Tryd.sizeOf27 rfl) rfl ?_
            refine a_rd (i := 1) hok rfl (by kernel_rfl) rfl (r_cloadS Tryd.isAgg27 Tryd.sizeOf27 rfl (j := 1) rfl rfl rfl) rfl ?_
            refine a_rd (i := 2) hok rfl (by kernel_rfl) rfl (r_faddr (fo := 2) Tryd.underlying89 rfl rfl Tryd.sizeOf22 rfl) rfl ?_
            refine a_rd (i := 3) hok rfl (by kernel_rfl) rfl (r_cload Tryd.isAgg22 rfl (j := 1) rfl rfl) rfl ?_
            refine a_rd (i := 4) hok rfl (by kernel_rfl) rfl (r_move rfl) rfl ?_
            refine a_rd (i := 5) hok rfl (by kernel_rfl) rfl (r_move rfl) rfl ?_
            refine pull fun t38 h_t38 => ?_
            refine a_rd (i := 6) hok rfl (by kernel_rfl) rfl (r_index h_t38 Tryd.underlying22 el_3 rfl rfl) rfl ?_
            refine a_rd (i := 7) hok rfl (by kernel_rfl) rfl (r_load el_3 rfl) rfl ?_
            refine a_rd (i := 8) hok rfl (by kernel_rfl) rfl (r_move rfl) rfl ?_
            refine pull fun ok39 h_ok39 => ?_
            refine a_next hok 9 [] (by kernel_rfl) ?_ trivial
            refine a_st (i := 9) hok rfl rfl (s_call (ψ := fun (_ : Unit) => bv ok39) (args := [.tmp 49, .tmp 51, .tmp 55, .tmp 56]) Tryd.call21 rfl (ref23_Accepted_ok h_ok39) ⟨arg rfl, arg rfl, arg rfl, arg rfl, trivial⟩ (fun _ _ _ _ h => h)) (by intro _ h; cases h; rfl) (fun _ => ⟨trivial, ⟨trivial, ⟨trivial, ⟨trivial, ⟨trivial, ⟨trivial, ⟨trivial, ⟨trivial, ⟨trivial, trivial⟩⟩⟩⟩⟩⟩⟩⟩⟩) (fun _ => ?_)
            refine a_next hok 10 [] (by kernel_rfl) ?_ trivial
            refine a_st (i := 10) hok rfl rfl (St.ofRd (r_assign rfl)) (by intro _ h; cases h; rfl) (fun _ => ⟨trivial, ⟨trivial, ⟨trivial, ⟨trivial, ⟨trivial, ⟨trivial, ⟨trivial, ⟨trivial, ⟨trivial, trivial⟩⟩⟩⟩⟩⟩⟩⟩⟩) (fun _ => ?_)
            refine a_fin hok (by kernel_rfl) ?_
            refine b_of (nrm [oc b3 [iv .i64 0, iv .i64 0], oc b30 [iv .i64 t29.g.N, slv rT_api_Pair t29.g.L, slv (rI .i64) t29.gone, iv .i64 t29.num]] rfl) ?_
            refine n_block (n_then (ref_region ?_))
            refine mv1 rfl rfl ?_
            refine s_rd (r_add rfl rfl) rfl ?_
            refine as1 rfl rfl ?_
            refine b_let (f := iv .i64) (t := 17) rfl fun i40 => ?_
            refine l_nil ?_
            exact goB () (weak [0, 1] ⟨rfl, rfl, rfl, rfl, rfl, rfl, rfl, rfl, rfl, rfl, rfl, trivial⟩ ⟨rfl, rfl, trivial⟩)
          refine ref_exit (x_then ?_)
          exact brkB () (weak [0, 1] ⟨rfl, rfl, rfl, rfl, rfl, rfl, rfl, rfl, rfl, rfl, trivial⟩ ⟨rfl, rfl, trivial⟩)
        refine s_off rfl rfl rfl rfl rfl ?_
        refine s_rd (r_pickF rfl rfl) rfl ?_
        refine l_nil (n_then ?_)
        refine ref_condF rfl rfl ?_
        refine ref_exit (x_then ?_)
        exact brkB () (weak [0, 1] ⟨rfl, rfl, rfl, rfl, rfl, rfl, rfl, rfl, rfl, rfl, trivial⟩ ⟨rfl, rfl, trivial⟩)
      refine n_then (ref_seq (ref_region ?_))
      refine mv1 rfl rfl ?_
      refine l_nil (n_then ?_)
      refine ref_cond rfl (fun hb43 => ?_) (fun hb43 => ?_)
      · refine ref_region ?_
        refine mv1 rfl rfl ?_
        refine s_rd (r_faddr (fo := 3) Tryd.underlying89 rfl rfl Tryd.sizeOf3 rfl) rfl ?_
        refine s_rd (r_cload Tryd.isAgg3 rfl (j := 1) rfl rfl) rfl ?_
        refine s_rd (r_add rfl rfl) rfl ?_
        refine as1 rfl rfl ?_
        refine b_let (f := iv .i64) (t := 13) rfl fun sum44 => ?_
        refine l_nil (n_block (n_then (ref_region ?_)))
        refine s_rd (r_add rfl rfl) rfl ?_
        refine mv1 rfl rfl ?_
        refine l_nil ?_
        exact goB () (weak [0] ⟨rfl, rfl, rfl, rfl, rfl, rfl, rfl, rfl, trivial⟩ ⟨rfl, trivial⟩)
      refine ref_skip (n_block (n_then (ref_region ?_)))
      refine s_rd (r_add rfl rfl) rfl ?_
      refine mv1 rfl rfl ?_
      refine l_nil ?_
      exact goB () (weak [0] ⟨rfl, rfl, rfl, rfl, rfl, rfl, rfl, rfl, trivial⟩ ⟨rfl, trivial⟩)
    refine ref_exit (x_then ?_)
    exact brkB () (weak [0] ⟨rfl, rfl, rfl, trivial⟩ ⟨rfl, trivial⟩)
  refine n_then (ref_seq (ref_region ?_))
  refine mv1 rfl rfl ?_
  refine mv1 rfl rfl ?_
  refine pull fun t47 h_t47 => ?_
  refine s_st (s_call (ψ := fun (_ : Unit) => ag [iv .i64 t47.Num, iv .i64 t47.Den]) (args := [.tmp 64, .tmp 65]) Tryd.call15 rfl (ref22_Reduced_ok h_t47) ⟨arg rfl, arg rfl, trivial⟩ (fun _ _ _ _ h => h)) rfl (fun _ => ?_)
  refine s_st0 (s_cstore (out := [iv .i64 t47.Num, iv .i64 t47.Den]) Tryd.sizeOf36 rfl (j := 0) rfl (part_agO (ψs := [iv .i64 t47.Num, iv .i64 t47.Den]) rfl ⟨.inl iv_at, .inl iv_at, trivial⟩) rfl rfl rfl) (fun _ => ?_)
  refine as1 rfl rfl ?_
  refine l_nil (n_then (ref_ret ?_))
  exact fin2 (.inl rfl) () [] rfl trivial rfl (rv_cell rfl (j := 0) rfl Tryd.isAgg36 Tryd.sizeOf36 rfl rfl) (rv_tmp rfl)

/-! deliberation/deliberationref23.union -/
noncomputable def ref23_union_l1 (g_0 : T_api_Graph) (a__1 : (List Int)) (b_2 : (List Int)) (s26 : Int × (List Int)) : Option (Sum ((List Int)) (Int × (List Int))) :=
  bif decide (s26.1 < g_0.N) then
    joinM (fun j31 : Bool =>
        bif j31 then
          Option.bind (appM 8 s26.2 [s26.1]) fun out35 =>
          letM (iadd .i64 s26.1 1) fun i37 =>
          some (Sum.inr (i37, out35))
        else
          letM (iadd .i64 s26.1 1) fun i38 =>
          some (Sum.inr (i38, s26.2))) fun k33 =>
    Option.bind (net_In_m a__1 s26.1) fun t29 =>
    bif t29 then
      k33 true
    else
      Option.bind (net_In_m b_2 s26.1) fun t30 =>
      k33 t30
  else
    some (Sum.inl s26.2)

noncomputable def ref23_union_m (g_0 : T_api_Graph) (a__1 : (List Int)) (b_2 : (List Int)) : Option (List Int) :=
  Option.bind (loopC (ref23_union_l1 g_0 a__1 b_2) (0, [])) fun q39 : (List Int) =>
  some q39

theorem ref23_union_ok {g_0 : T_api_Graph} {a__1 : (List Int)} {b_2 : (List Int)} {r : List Int} (hm : ref23_union_m g_0 a__1 b_2 = some r) :
    FnOk prog 50 [ag [iv .i64 g_0.N, slv rT_api_Pair g_0.L], slv (rI .i64) a__1, slv (rI .i64) b_2] [] (fun (x : (Value × List Nat)) => [pv x.1]) (fun (x : (Value × List Nat)) => [oa (rI .i64) x.1 x.2 r]) := by
  refine fn_ok (X := (Value × List Nat)) (fn := Tryd.f50) (N := 28) (res := fun r x => [pv x.1]) (Ω1 := fun r x => [oa (rI .i64) x.1 x.2 r]) Tryd.func50 rfl rfl hm rfl (fun E hM => ?_)
  unfold ref23_union_m
  refine ref_seq (ref_region ?_)
  refine s_st (s_box (part_agO (ψs := [iv .i64 g_0.N, slv rT_api_Pair g_0.L]) rfl ⟨.inl iv_at, .inl slv_at, trivial⟩)) rfl (fun b1 => ?_)
  refine as1 rfl rfl ?_
  refine l_nil (n_then (ref_seq (ref_region ?_)))
  refine as1 rfl rfl ?_
  refine l_nil (n_then (ref_seq (ref_seq (ref_region ?_))))
  refine as1 rfl rfl ?_
  refine l_nil (n_then ?_)
  refine b_of (own_nil (rI .i64)) ?_
  refine ref_loopB (f := (ref23_union_l1 g_0 a__1 b_2)) (Γl := (fun (s26 : Int × (List Int)) (x27 : (Value × List Nat)) => [(1, slv (rI .i64) a__1), (2, slv (rI .i64) b_2), (3, pv (ptr b1 0)), (7, pv x27.1), (8, iv .i64 s26.1)])) (Ωl := (fun (s26 : Int × (List Int)) (x27 : (Value × List Nat)) => [oc b1 [iv .i64 g_0.N, slv rT_api_Pair g_0.L], oa (rI .i64) x27.1 x27.2 s26.2])) (Γb := (fun (q39 : (List Int)) (y40 : (Value × List Nat)) => [(7, pv y40.1)])) (Ωb := (fun (q39 : (List Int)) (y40 : (Value × List Nat)) => [oa (rI .i64) y40.1 y40.2 q39])) (0, []) ((.slice none 0 0), []) (weak [0, 1] ⟨rfl, rfl, rfl, rfl, rfl, trivial⟩ ⟨rfl, rfl, trivial⟩) (fun s26 x27 => ?_) (fun q39 y40 => ?_)
  · unfold ref23_union_l1
    refine ref_seq (ref_seq (ref_region ?_))
    refine mv1 rfl rfl ?_
    refine s_rd (r_faddr (fo := 0) Tryd.underlying27 rfl rfl Tryd.sizeOf3 rfl) rfl ?_
    refine s_rd (r_cload Tryd.isAgg3 rfl (j := 0) rfl rfl) rfl ?_
    refine s_rd (r_lss rfl rfl) rfl ?_
    refine l_nil (n_then ?_)
    refine ref_cond rfl (fun hb28 => ?_) (fun hb28 => ?_)
    · refine ref_skip (n_then (ref_seq (ref_block (ref_seq ?_))))
      refine ref_join (fun (j31 : Bool) (x32 : Unit) => [(1, slv (rI .i64) a__1), (2, slv (rI .i64) b_2), (3, pv (ptr b1 0)), (7, pv x27.1), (8, iv .i64 s26.1), (22, bv j31)]) (fun (j31 : Bool) (x32 : Unit) => [oc b1 [iv .i64 g_0.N, slv rT_api_Pair g_0.L], oa (rI .i64) x27.1 x27.2 s26.2]) (fun k33 hk33 => ?_) (fun j31 x32 => ?_)
      · refine ref_region ?_
        refine mv1 rfl rfl ?_
        refine mv1 rfl rfl ?_
        refine pull fun t29 h_t29 => ?_
        refine s_st (s_call (ψ := fun (_ : Unit) => bv t29) (args := [.tmp 15, .tmp 16]) Tryd.call44 rfl (net_In_ok h_t29) ⟨arg rfl, arg rfl, trivial⟩ (fun _ _ _ _ h => h)) rfl (fun _ => ?_)
        refine mv1 rfl rfl ?_
        refine b_split (t := 18) rfl (fun _ => ?_) (fun _ => ?_)
        · refine s_off rfl rfl rfl rfl rfl ?_
          refine s_off rfl rfl rfl rfl rfl ?_
          refine s_off rfl rfl rfl rfl rfl ?_
          refine s_rd (r_pickT rfl rfl) rfl ?_
          refine l_nil ?_
          exact b_to (hk33 true ()) (weak [0, 1] ⟨rfl, rfl, rfl, rfl, rfl, rfl, trivial⟩ ⟨rfl, rfl, trivial⟩)
        refine s_on rfl rfl rfl ?_
        refine mv1 rfl rfl ?_
        refine s_on rfl rfl rfl ?_
        refine mv1 rfl rfl ?_
        refine s_on rfl rfl rfl ?_
        refine pull fun t30 h_t30 => ?_
        refine s_st (s_call (ψ := fun (_ : Unit) => bv t30) (args := [.tmp 19, .tmp 20]) Tryd.call44 rfl (net_In_ok h_t30) ⟨arg rfl, arg rfl, trivial⟩ (fun _ _ _ _ h => h)) rfl (fun _ => ?_)
        refine s_rd (r_pickF rfl rfl) rfl ?_
        refine l_nil ?_
        exact b_to (hk33 t30 ()) (weak [0, 1] ⟨rfl, rfl, rfl, rfl, rfl, rfl, trivial⟩ ⟨rfl, rfl, trivial⟩)
      refine n_then ?_
      refine ref_cond rfl (fun hb34 => ?_) (fun hb34 => ?_)
      · refine ref_region ?_
        refine mv1 rfl rfl ?_
        refine mv1 rfl rfl ?_
        refine s_st (s_bslice (xs := [.tmp 24]) (ds := [s26.1]) Tryd.underlying22 el_3 rfl (Nat.le_of_ble_eq_true rfl) ⟨(part_at rfl iv_at), trivial⟩) rfl (fun _ => ?_)
        refine pull fun out35 h_out35 => ?_
        refine s_st (s_append h_out35 Tryd.underlying22 el_3 rfl (j := 1) rfl rfl) rfl (fun o36 => ?_)
        refine as1 rfl rfl ?_
        refine l_nil (n_block (n_then (ref_region ?_)))
        refine mv1 rfl rfl ?_
        refine s_rd (r_add rfl rfl) rfl ?_
        refine as1 rfl rfl ?_
        refine b_let (f := iv .i64) (t := 8) rfl fun i37 => ?_
        refine l_nil ?_
        exact goB o36 (weak [0, 1] ⟨rfl, rfl, rfl, rfl, rfl, trivial⟩ ⟨rfl, rfl, trivial⟩)
      refine ref_skip (n_block (n_then (ref_region ?_)))
      refine mv1 rfl rfl ?_
      refine s_rd (r_add rfl rfl) rfl ?_
      refine as1 rfl rfl ?_
      refine b_let (f := iv .i64) (t := 8) rfl fun i38 => ?_
      refine l_nil ?_
      exact goB x27 (weak [0, 1] ⟨rfl, rfl, rfl, rfl, rfl, trivial⟩ ⟨rfl, rfl, trivial⟩)
    refine ref_exit (x_then ?_)
    exact brkB x27 (weak [1] ⟨rfl, trivial⟩ ⟨rfl, trivial⟩)
  refine n_then (ref_seq (ref_region ?_))
  refine mv1 rfl rfl ?_
  refine as1 rfl rfl ?_
  refine l_nil (n_then (ref_ret ?_))
  exact fin1 (.inl rfl) y40 [0] rfl ⟨rfl, trivial⟩ rfl (rv_tmp rfl)

/-! deliberation/deliberationref23.Given -/
noncomputable def ref23_Given_l2 (b_3 : (List Int)) (question_4 : Int) (t47 : T_deliberationref23_world) (t49 : List Int) (s59 : Bool × Bool × Int) : Option (Sum (Bool × Bool) (Bool × Bool × Int)) :=
  bif decide (s59.2.2 < (t49.length : Int)) then
    Option.bind (idxM t49 s59.2.2) fun x62 =>
    Option.bind (ref23_Accepted_m t47.g t47.gone x62 question_4) fun t63 =>
    bif t63 then
      some (Sum.inr (s59.1, s59.2.1, iadd .i64 s59.2.2 1))
    else
      Option.bind (net_In_m b_3 x62) fun t65 =>
      bif t65 then
        some (Sum.inr (false, false, iadd .i64 s59.2.2 1))
      else
        some (Sum.inr (false, s59.2.1, iadd .i64 s59.2.2 1))
  else
    some (Sum.inl (s59.1, s59.2.1))

noncomputable def ref23_Given_l1 (g_0 : T_api_Graph) (a__2 : (List Int)) (b_3 : (List Int)) (question_4 : Int) (t11 : List T_deliberationref23_world × Int) (s44 : Int × Int × Int) : Option (Sum (Int × Int) (Int × Int × Int)) :=
  bif decide (s44.2.2 < (t11.1.length : Int)) then
    Option.bind (idxM t11.1 s44.2.2) fun t47 =>
    Option.bind (ref23_union_m g_0 a__2 b_3) fun t49 =>
    Option.bind (loopC (ref23_Given_l2 b_3 question_4 t47 t49) (true, true, 0)) fun q67 : Bool × Bool =>
    joinM (fun j71 : Int =>
        bif q67.2 then
          letM (iadd .i64 s44.2.1 t47.num) fun one75 =>
          some (Sum.inr (j71, one75, iadd .i64 s44.2.2 1))
        else
          some (Sum.inr (j71, s44.2.1, iadd .i64 s44.2.2 1))) fun k73 =>
    bif q67.1 then
      letM (iadd .i64 s44.1 t47.num) fun both70 =>
      k73 both70
    else
      k73 s44.1
  else
    some (Sum.inl (s44.1, s44.2.1))

noncomputable def ref23_Given_m (g_0 : T_api_Graph) (o_1 : T_api_Odds) (a__2 : (List Int)) (b_3 : (List Int)) (question_4 : Int) : Option (T_api_Fraction × Int) :=
  Option.bind (ref23_Joint_m g_0 o_1 a__2 question_4) fun t4 =>
  bif t4.2 != 0 then
    some ((T_api_Fraction.mk 0 0), t4.2)
  else
    Option.bind (ref23_Joint_m g_0 o_1 b_3 question_4) fun t7 =>
    bif t7.2 != 0 then
      some ((T_api_Fraction.mk 0 0), t7.2)
    else
      bif t7.1.Num == 0 then
        some ((T_api_Fraction.mk 0 0), 9)
      else
        Option.bind (ref23_worlds_m g_0 o_1) fun t11 =>
        Option.bind (loopC (ref23_Given_l1 g_0 a__2 b_3 question_4 t11) (0, 0, 0)) fun q76 : Int × Int =>
        Option.bind (ref22_Reduced_m q76.1 q76.2) fun t78 =>
        some (t78, 0)

theorem ref23_Given_ok {g_0 : T_api_Graph} {o_1 : T_api_Odds} {a__2 : (List Int)} {b_3 : (List Int)} {question_4 : Int} {r : T_api_Fraction × Int} (hm : ref23_Given_m g_0 o_1 a__2 b_3 question_4 = some r) :
    FnOk prog 25 [ag [iv .i64 g_0.N, slv rT_api_Pair g_0.L], ag [slv rT_api_Fraction o_1.Nodes, slv rT_api_Fraction o_1.Attacks], slv (rI .i64) a__2, slv (rI .i64) b_3, iv .i64 question_4] [] (fun (x : Unit) => [ag [iv .i64 r.1.Num, iv .i64 r.1.Den], iv .i64 r.2]) (fun (x : Unit) => []) := by
  refine fn_ok (fn := Tryd.f25) (N := 100) (res := fun r x => [ag [iv .i64 r.1.Num, iv .i64 r.1.Den], iv .i64 r.2]) (Ω1 := fun r x => []) Tryd.func25 rfl rfl hm rfl (fun E hM => ?_)
  unfold ref23_Given_m
  refine ref_seq (ref_region ?_)
  refine s_st (s_box (part_agO (ψs := [iv .i64 g_0.N, slv rT_api_Pair g_0.L]) rfl ⟨.inl iv_at, .inl slv_at, trivial⟩)) rfl (fun b1 => ?_)
  refine s_st (s_box (part_agO (ψs := [slv rT_api_Fraction o_1.Nodes, slv rT_api_Fraction o_1.Attacks]) rfl ⟨.inl slv_at, .inl slv_at, trivial⟩)) rfl (fun b2 => ?_)
  refine s_st (s_alloc zt_36) rfl (fun b3 => ?_)
  refine as1 rfl rfl ?_
  refine l_nil (n_then (ref_seq (ref_seq (ref_region ?_))))
  refine s_rd (r_cloadS Tryd.isAgg27 Tryd.sizeOf27 rfl (j := 0) rfl rfl rfl) rfl ?_
  refine s_rd (r_cloadS Tryd.isAgg31 Tryd.sizeOf31 rfl (j := 1) rfl rfl rfl) rfl ?_
  refine mv1 rfl rfl ?_
  refine mv1 rfl rfl ?_
  refine pull fun t4 h_t4 => ?_
  refine s_st (s_call (ψ := fun (_ : Unit) => tup [ag [iv .i64 t4.1.Num, iv .i64 t4.1.Den], iv .i64 t4.2]) (args := [.tmp 27, .tmp 28, .tmp 29, .tmp 30]) Tryd.call24 rfl (ref23_Joint_ok h_t4) ⟨arg rfl, arg rfl, arg rfl, arg rfl, trivial⟩ (fun _ _ _ _ h => h)) rfl (fun _ => ?_)
  refine mv1 rfl rfl ?_
  refine s_rd (r_extract rfl rfl) rfl ?_
  refine s_rd (r_extract rfl rfl) rfl ?_
  refine s_st (s_alloc zt_36) rfl (fun b5 => ?_)
  refine s_st0 (s_cstore (out := [iv .i64 t4.1.Num, iv .i64 t4.1.Den]) Tryd.sizeOf36 rfl (j := 3) rfl (part_agO (ψs := [iv .i64 t4.1.Num, iv .i64 t4.1.Den]) rfl ⟨.inl iv_at, .inl iv_at, trivial⟩) rfl rfl rfl) (fun _ => ?_)
  refine as1 rfl rfl ?_
  refine l_nil ?_
  refine b_of (nrm [oc b1 [iv .i64 g_0.N, slv rT_api_Pair g_0.L], oc b2 [slv rT_api_Fraction o_1.Nodes, slv rT_api_Fraction o_1.Attacks], oc b3 [iv .i64 0, iv .i64 0], oc b5 [iv .i64 t4.1.Num, iv .i64 t4.1.Den]] rfl) ?_
  refine n_then (ref_seq (ref_region ?_))
  refine mv1 rfl rfl ?_
  refine s_rd (r_neq rfl rfl) rfl ?_
  refine l_nil (n_then ?_)
  refine ref_cond rfl (fun hb6 => ?_) (fun hb6 => ?_)
  · refine ref_seq (ref_region ?_)
    refine s_rd (r_build (ps := []) (rs := []) st_36 zs_36 trivial rfl rfl) rfl ?_
    refine mv1 rfl rfl ?_
    refine s_st0 (s_cstore (out := [iv .i64 0, iv .i64 0]) Tryd.sizeOf36 rfl (j := 2) rfl (part_agO (ψs := [iv .i64 0, iv .i64 0]) rfl ⟨.inl iv_at, .inl iv_at, trivial⟩) rfl rfl rfl) (fun _ => ?_)
    refine as1 rfl rfl ?_
    refine l_nil (n_then (ref_ret (r_then ?_)))
    exact fin2 (.inl rfl) () [] rfl trivial rfl (rv_cell rfl (j := 2) rfl Tryd.isAgg36 Tryd.sizeOf36 rfl rfl) (rv_tmp rfl)
  refine ref_skip (n_then (ref_seq (ref_region ?_)))
  refine s_rd (r_cloadS Tryd.isAgg27 Tryd.sizeOf27 rfl (j := 0) rfl rfl rfl) rfl ?_
  refine s_rd (r_cloadS Tryd.isAgg31 Tryd.sizeOf31 rfl (j := 1) rfl rfl rfl) rfl ?_
  refine mv1 rfl rfl ?_
  refine mv1 rfl rfl ?_
  refine pull fun t7 h_t7 => ?_
  refine s_st (s_call (ψ := fun (_ : Unit) => tup [ag [iv .i64 t7.1.Num, iv .i64 t7.1.Den], iv .i64 t7.2]) (args := [.tmp 39, .tmp 40, .tmp 41, .tmp 42]) Tryd.call24 rfl (ref23_Joint_ok h_t7) ⟨arg rfl, arg rfl, arg rfl, arg rfl, trivial⟩ (fun _ _ _ _ h => h)) rfl (fun _ => ?_)
  refine mv1 rfl rfl ?_
  refine s_rd (r_extract rfl rfl) rfl ?_
  refine s_rd (r_extract rfl rfl) rfl ?_
  refine s_st (s_alloc zt_36) rfl (fun b8 => ?_)
  refine s_st0 (s_cstore (out := [iv .i64 t7.1.Num, iv .i64 t7.1.Den]) Tryd.sizeOf36 rfl (j := 4) rfl (part_agO (ψs := [iv .i64 t7.1.Num, iv .i64 t7.1.Den]) rfl ⟨.inl iv_at, .inl iv_at, trivial⟩) rfl rfl rfl) (fun _ => ?_)
  refine as1 rfl rfl ?_
  refine l_nil (n_then (ref_seq (ref_seq (ref_region ?_))))
  refine mv1 rfl rfl ?_
  refine s_rd (r_neq rfl rfl) rfl ?_
  refine l_nil (n_then ?_)
  refine ref_cond rfl (fun hb9 => ?_) (fun hb9 => ?_)
  · refine ref_seq (ref_region ?_)
    refine s_rd (r_build (ps := []) (rs := []) st_36 zs_36 trivial rfl rfl) rfl ?_
    refine mv1 rfl rfl ?_
    refine s_st0 (s_cstore (out := [iv .i64 0, iv .i64 0]) Tryd.sizeOf36 rfl (j := 2) rfl (part_agO (ψs := [iv .i64 0, iv .i64 0]) rfl ⟨.inl iv_at, .inl iv_at, trivial⟩) rfl rfl rfl) (fun _ => ?_)
    refine as1 rfl rfl ?_
    refine l_nil ?_
    refine b_of (nrm [oc b1 [iv .i64 g_0.N, slv rT_api_Pair g_0.L], oc b2 [slv rT_api_Fraction o_1.Nodes, slv rT_api_Fraction o_1.Attacks], oc b3 [iv .i64 0, iv .i64 0], oc b5 [iv .i64 t4.1.Num, iv .i64 t4.1.Den], oc b8 [iv .i64 t7.1.Num, iv .i64 t7.1.Den]] rfl) ?_
    refine n_then (ref_ret (r_then ?_))
    exact fin2 (.inl rfl) () [] rfl trivial rfl (rv_cell rfl (j := 2) rfl Tryd.isAgg36 Tryd.sizeOf36 rfl rfl) (rv_tmp rfl)
  refine ref_skip (n_then (ref_seq (ref_seq (ref_region ?_))))
  refine s_rd (r_faddr (fo := 0) Tryd.underlying36 rfl rfl Tryd.sizeOf3 rfl) rfl ?_
  refine s_rd (r_cload Tryd.isAgg3 rfl (j := 4) rfl rfl) rfl ?_
  refine s_rd (r_eql rfl rfl) rfl ?_
  refine l_nil (n_then ?_)
  refine ref_cond rfl (fun hb10 => ?_) (fun hb10 => ?_)
  · refine ref_seq (ref_region ?_)
    refine s_rd (r_build (ps := []) (rs := []) st_36 zs_36 trivial rfl rfl) rfl ?_
    refine s_st0 (s_cstore (out := [iv .i64 0, iv .i64 0]) Tryd.sizeOf36 rfl (j := 2) rfl (part_agO (ψs := [iv .i64 0, iv .i64 0]) rfl ⟨.inl iv_at, .inl iv_at, trivial⟩) rfl rfl rfl) (fun _ => ?_)
    refine as1 rfl rfl ?_
    refine l_nil ?_
    refine b_of (nrm [oc b1 [iv .i64 g_0.N, slv rT_api_Pair g_0.L], oc b2 [slv rT_api_Fraction o_1.Nodes, slv rT_api_Fraction o_1.Attacks], oc b3 [iv .i64 0, iv .i64 0], oc b5 [iv .i64 t4.1.Num, iv .i64 t4.1.Den], oc b8 [iv .i64 t7.1.Num, iv .i64 t7.1.Den]] rfl) ?_
    refine n_then (ref_ret (r_then ?_))
    exact fin2 (.inl rfl) () [] rfl trivial rfl (rv_cell rfl (j := 2) rfl Tryd.isAgg36 Tryd.sizeOf36 rfl rfl) (rv_tmp rfl)
  refine ref_skip (n_then (ref_seq (ref_region ?_)))
  refine s_rd (r_cloadS Tryd.isAgg27 Tryd.sizeOf27 rfl (j := 0) rfl rfl rfl) rfl ?_
  refine s_rd (r_cloadS Tryd.isAgg31 Tryd.sizeOf31 rfl (j := 1) rfl rfl rfl) rfl ?_
  refine pull fun t11 h_t11 => ?_
  refine s_st (s_call (ψ := fun (_ : Unit) => tup [slv rT_deliberationref23_world t11.1, iv .i64 t11.2]) (args := [.tmp 55, .tmp 56]) Tryd.call49 rfl (ref23_worlds_ok h_t11) ⟨arg rfl, arg rfl, trivial⟩ (fun _ _ _ _ h => h)) rfl (fun _ => ?_)
  refine mv1 rfl rfl ?_
  refine s_rd (r_extract rfl rfl) rfl ?_
  refine s_rd (r_extract rfl rfl) rfl ?_
  refine as1 rfl rfl ?_
  refine as1 rfl rfl ?_
  refine l_nil ?_
  refine b_of (nrm [oc b1 [iv .i64 g_0.N, slv rT_api_Pair g_0.L], oc b2 [slv rT_api_Fraction o_1.Nodes, slv rT_api_Fraction o_1.Attacks], oc b3 [iv .i64 0, iv .i64 0], oc b5 [iv .i64 t4.1.Num, iv .i64 t4.1.Den], oc b8 [iv .i64 t7.1.Num, iv .i64 t7.1.Den]] rfl) ?_
  refine n_then (ref_seq (ref_region ?_))
  refine as1 rfl rfl ?_
  refine as1 rfl rfl ?_
  refine l_nil (n_then (ref_seq (ref_seq (ref_region ?_))))
  refine mv1 rfl rfl ?_
  refine s_rd (r_len Tryd.underlying85 rfl) rfl ?_
  refine mv1 rfl rfl ?_
  refine l_nil (n_then ?_)
  refine ref_loopB (f := (ref23_Given_l1 g_0 a__2 b_3 question_4 t11)) (Γl := (fun (s44 : Int × Int × Int) (x45 : Unit) => [(2, slv (rI .i64) a__2), (3, slv (rI .i64) b_3), (4, iv .i64 question_4), (5, pv (ptr b1 0)), (10, pv (ptr b3 0)), (18, iv .i64 s44.1), (19, iv .i64 s44.2.1), (60, slv rT_deliberationref23_world t11.1), (61, iv .i64 (t11.1.length : Int)), (62, iv .i64 s44.2.2)])) (Ωl := (fun (s44 : Int × Int × Int) (x45 : Unit) => [oc b1 [iv .i64 g_0.N, slv rT_api_Pair g_0.L], oc b3 [iv .i64 0, iv .i64 0]])) (Γb := (fun (q76 : Int × Int) (y77 : Unit) => [(10, pv (ptr b3 0)), (18, iv .i64 q76.1), (19, iv .i64 q76.2)])) (Ωb := (fun (q76 : Int × Int) (y77 : Unit) => [oc b3 [iv .i64 0, iv .i64 0]])) (0, 0, 0) () (weak [0, 2] ⟨rfl, rfl, rfl, rfl, rfl, rfl, rfl, rfl, rfl, rfl, trivial⟩ ⟨rfl, rfl, trivial⟩) (fun s44 x45 => ?_) (fun q76 y77 => ?_)
  · unfold ref23_Given_l1
    refine ref_seq (ref_region ?_)
    refine s_rd (r_lss rfl rfl) rfl ?_
    refine l_nil (n_then (ref_seq ?_))
    refine ref_cond rfl (fun hb46 => ?_) (fun hb46 => ?_)
    · refine ref_skip (n_then (ref_seq (ref_block (ref_seq (ref_region ?_)))))
      refine pull fun t47 h_t47 => ?_
      refine s_rd (r_index h_t47 Tryd.underlying85 el_89 rfl rfl) rfl ?_
      refine s_rd (r_load el_89 rfl) rfl ?_
      refine s_st (s_alloc zt_89) rfl (fun b48 => ?_)
      refine s_st0 (s_cstore (out := [iv .i64 t47.g.N, slv rT_api_Pair t47.g.L, slv (rI .i64) t47.gone, iv .i64 t47.num]) Tryd.sizeOf89 rfl (j := 2) rfl (part_agO (ψs := [iv .i64 t47.g.N, slv rT_api_Pair t47.g.L, slv (rI .i64) t47.gone, iv .i64 t47.num]) rfl ⟨.inl iv_at, .inl slv_at, .inl slv_at, .inl iv_at, trivial⟩) rfl rfl rfl) (fun _ => ?_)
      refine l_nil (n_then (ref_seq (ref_region ?_)))
      refine as1 rfl rfl ?_
      refine as1 rfl rfl ?_
      refine l_nil (n_then (ref_seq (ref_seq (ref_region ?_))))
      refine s_rd (r_cloadS Tryd.isAgg27 Tryd.sizeOf27 rfl (j := 0) rfl rfl rfl) rfl ?_
      refine mv1 rfl rfl ?_
      refine mv1 rfl rfl ?_
      refine pull fun t49 h_t49 => ?_
      refine s_st (s_call (ψ := fun (x50 : (Value × List Nat)) => pv x50.1) (args := [.tmp 66, .tmp 67, .tmp 68]) Tryd.call50 rfl (ref23_union_ok h_t49) ⟨arg rfl, arg rfl, arg rfl, trivial⟩ (fun _ _ _ _ h => h)) rfl (fun x50 => ?_)
      refine s_rd (r_olen Tryd.underlying22 rfl (j := 3) rfl) rfl ?_
      refine mv1 rfl rfl ?_
      refine l_nil (n_then ?_)
      refine ref_loopB (f := (ref23_Given_l2 b_3 question_4 t47 t49)) (Γl := (fun (s59 : Bool × Bool × Int) (x60 : Unit) => [(2, slv (rI .i64) a__2), (3, slv (rI .i64) b_3), (4, iv .i64 question_4), (5, pv (ptr b1 0)), (10, pv (ptr b3 0)), (18, iv .i64 s44.1), (19, iv .i64 s44.2.1), (21, pv (ptr b48 0)), (22, bv s59.1), (23, bv s59.2.1), (60, slv rT_deliberationref23_world t11.1), (61, iv .i64 (t11.1.length : Int)), (62, iv .i64 s44.2.2), (69, pv x50.1), (70, iv .i64 (t49.length : Int)), (71, iv .i64 s59.2.2)])) (Ωl := (fun (s59 : Bool × Bool × Int) (x60 : Unit) => [oc b1 [iv .i64 g_0.N, slv rT_api_Pair g_0.L], oc b3 [iv .i64 0, iv .i64 0], oc b48 [iv .i64 t47.g.N, slv rT_api_Pair t47.g.L, slv (rI .i64) t47.gone, iv .i64 t47.num], oa (rI .i64) x50.1 x50.2 t49])) (Γb := (fun (q67 : Bool × Bool) (y68 : Unit) => [(2, slv (rI .i64) a__2), (3, slv (rI .i64) b_3), (4, iv .i64 question_4), (5, pv (ptr b1 0)), (10, pv (ptr b3 0)), (18, iv .i64 s44.1), (19, iv .i64 s44.2.1), (21, pv (ptr b48 0)), (22, bv q67.1), (23, bv q67.2), (60, slv rT_deliberationref23_world t11.1), (61, iv .i64 (t11.1.length : Int)), (62, iv .i64 s44.2.2)])) (Ωb := (fun (q67 : Bool × Bool) (y68 : Unit) => [oc b1 [iv .i64 g_0.N, slv rT_api_Pair g_0.L], oc b3 [iv .i64 0, iv .i64 0], oc b48 [iv .i64 t47.g.N, slv rT_api_Pair t47.g.L, slv (rI .i64) t47.gone, iv .i64 t47.num]])) (true, true, 0) () (weak [0, 1, 2, 3] ⟨rfl, rfl, rfl, rfl, rfl, rfl, rfl, rfl, rfl, rfl, rfl, rfl, rfl, rfl, rfl, rfl, trivial⟩ ⟨rfl, rfl, rfl, rfl, trivial⟩) (fun s59 x60 => ?_) (fun q67 y68 => ?_)
      · unfold ref23_Given_l2
        refine ref_seq (ref_region ?_)
        refine s_rd (r_lss rfl rfl) rfl ?_
        refine l_nil (n_then (ref_seq ?_))
        refine ref_cond rfl (fun hb61 => ?_) (fun hb61 => ?_)
        · refine ref_skip (n_then (ref_seq (ref_block (ref_seq (ref_region ?_)))))
          refine pull fun x62 h_x62 => ?_
          refine s_rd (r_oindex h_x62 Tryd.underlying22 el_3 rfl (j := 3) rfl rfl) rfl ?_
          refine s_rd (r_oload h_x62 el_3 rfl (j := 3) rfl) rfl ?_
          refine as1 rfl rfl ?_
          refine l_nil (n_then (ref_seq (ref_seq (ref_region ?_))))
          refine s_rd (r_faddr (fo := 0) Tryd.underlying89 rfl rfl Tryd.sizeOf27 rfl) rfl ?_
          refine s_rd (r_cloadS Tryd.isAgg27 Tryd.sizeOf27 rfl (j := 2) rfl rfl rfl) rfl ?_
          refine s_rd (r_faddr (fo := 2) Tryd.underlying89 rfl rfl Tryd.sizeOf22 rfl) rfl ?_
          refine s_rd (r_cload Tryd.isAgg22 rfl (j := 2) rfl rfl) rfl ?_
          refine mv1 rfl rfl ?_
          refine mv1 rfl rfl ?_
          refine pull fun t63 h_t63 => ?_
          refine s_st (s_call (ψ := fun (_ : Unit) => bv t63) (args := [.tmp 76, .tmp 78, .tmp 79, .tmp 80]) Tryd.call21 rfl (ref23_Accepted_ok h_t63) ⟨arg rfl, arg rfl, arg rfl, arg rfl, trivial⟩ (fun _ _ _ _ h => h)) rfl (fun _ => ?_)
          refine l_nil ?_
          refine b_of (nrm [oc b1 [iv .i64 g_0.N, slv rT_api_Pair g_0.L], oc b3 [iv .i64 0, iv .i64 0], oc b48 [iv .i64 t47.g.N, slv rT_api_Pair t47.g.L, slv (rI .i64) t47.gone, iv .i64 t47.num], oa (rI .i64) x50.1 x50.2 t49] rfl) ?_
          refine n_then ?_
          refine ref_cond rfl (fun hb64 => ?_) (fun hb64 => ?_)
          · refine ref_exit (x_then (x_eq (n_then (ref_region ?_))))
            refine s_rd (r_add rfl rfl) rfl ?_
            refine mv1 rfl rfl ?_
            refine l_nil ?_
            exact goB () (weak [0, 1, 2, 3] ⟨rfl, rfl, rfl, rfl, rfl, rfl, rfl, rfl, rfl, rfl, rfl, rfl, rfl, rfl, rfl, rfl, trivial⟩ ⟨rfl, rfl, rfl, rfl, trivial⟩)
          refine ref_skip (n_then (ref_seq (ref_region ?_)))
          refine as1 rfl rfl ?_
          refine l_nil (n_then (ref_seq (ref_region ?_)))
          refine mv1 rfl rfl ?_
          refine mv1 rfl rfl ?_
          refine pull fun t65 h_t65 => ?_
          refine s_st (s_call (ψ := fun (_ : Unit) => bv t65) (args := [.tmp 82, .tmp 83]) Tryd.call44 rfl (net_In_ok h_t65) ⟨arg rfl, arg rfl, trivial⟩ (fun _ _ _ _ h => h)) rfl (fun _ => ?_)
          refine l_nil (n_then ?_)
          refine ref_cond rfl (fun hb66 => ?_) (fun hb66 => ?_)
          · refine ref_region ?_
            refine as1 rfl rfl ?_
            refine l_nil (n_block (n_then (ref_region ?_)))
            refine s_rd (r_add rfl rfl) rfl ?_
            refine mv1 rfl rfl ?_
            refine l_nil ?_
            exact goB () (weak [0, 1, 2, 3] ⟨rfl, rfl, rfl, rfl, rfl, rfl, rfl, rfl, rfl, rfl, rfl, rfl, rfl, rfl, rfl, rfl, trivial⟩ ⟨rfl, rfl, rfl, rfl, trivial⟩)
          refine ref_skip (n_block (n_then (ref_region ?_)))
          refine s_rd (r_add rfl rfl) rfl ?_
          refine mv1 rfl rfl ?_
          refine l_nil ?_
          exact goB () (weak [0, 1, 2, 3] ⟨rfl, rfl, rfl, rfl, rfl, rfl, rfl, rfl, rfl, rfl, rfl, rfl, rfl, rfl, rfl, rfl, trivial⟩ ⟨rfl, rfl, rfl, rfl, trivial⟩)
        refine ref_exit (x_then ?_)
        exact brkB () (weak [0, 1, 2] ⟨rfl, rfl, rfl, rfl, rfl, rfl, rfl, rfl, rfl, rfl, rfl, rfl, rfl, trivial⟩ ⟨rfl, rfl, rfl, trivial⟩)
      refine n_then (ref_seq ?_)
      refine ref_join (fun (j71 : Int) (x72 : Unit) => [(2, slv (rI .i64) a__2), (3, slv (rI .i64) b_3), (4, iv .i64 question_4), (5, pv (ptr b1 0)), (10, pv (ptr b3 0)), (18, iv .i64 j71), (19, iv .i64 s44.2.1), (21, pv (ptr b48 0)), (23, bv q67.2), (60, slv rT_deliberationref23_world t11.1), (61, iv .i64 (t11.1.length : Int)), (62, iv .i64 s44.2.2)]) (fun (j71 : Int) (x72 : Unit) => [oc b1 [iv .i64 g_0.N, slv rT_api_Pair g_0.L], oc b3 [iv .i64 0, iv .i64 0], oc b48 [iv .i64 t47.g.N, slv rT_api_Pair t47.g.L, slv (rI .i64) t47.gone, iv .i64 t47.num]]) (fun k73 hk73 => ?_) (fun j71 x72 => ?_)
      · refine ref_seq (ref_region ?_)
        refine mv1 rfl rfl ?_
        refine l_nil (n_then ?_)
        refine ref_cond rfl (fun hb69 => ?_) (fun hb69 => ?_)
        · refine ref_region ?_
          refine mv1 rfl rfl ?_
          refine s_rd (r_faddr (fo := 3) Tryd.underlying89 rfl rfl Tryd.sizeOf3 rfl) rfl ?_
          refine s_rd (r_cload Tryd.isAgg3 rfl (j := 2) rfl rfl) rfl ?_
          refine s_rd (r_add rfl rfl) rfl ?_
          refine as1 rfl rfl ?_
          refine b_let (f := iv .i64) (t := 18) rfl fun both70 => ?_
          refine l_nil ?_
          exact b_to (hk73 both70 ()) (weak [0, 1, 2] ⟨rfl, rfl, rfl, rfl, rfl, rfl, rfl, rfl, rfl, rfl, rfl, rfl, trivial⟩ ⟨rfl, rfl, rfl, trivial⟩)
        refine ref_skip ?_
        exact b_to (hk73 s44.1 ()) (weak [0, 1, 2] ⟨rfl, rfl, rfl, rfl, rfl, rfl, rfl, rfl, rfl, rfl, rfl, rfl, trivial⟩ ⟨rfl, rfl, rfl, trivial⟩)
      refine n_then (ref_seq (ref_region ?_))
      refine mv1 rfl rfl ?_
      refine l_nil (n_then ?_)
      refine ref_cond rfl (fun hb74 => ?_) (fun hb74 => ?_)
      · refine ref_region ?_
        refine mv1 rfl rfl ?_
        refine s_rd (r_faddr (fo := 3) Tryd.underlying89 rfl rfl Tryd.sizeOf3 rfl) rfl ?_
        refine s_rd (r_cload Tryd.isAgg3 rfl (j := 2) rfl rfl) rfl ?_
        refine s_rd (r_add rfl rfl) rfl ?_
        refine as1 rfl rfl ?_
        refine b_let (f := iv .i64) (t := 19) rfl fun one75 => ?_
        refine l_nil (n_block (n_then (ref_region ?_)))
        refine s_rd (r_add rfl rfl) rfl ?_
        refine mv1 rfl rfl ?_
        refine l_nil ?_
        exact goB () (weak [0, 1] ⟨rfl, rfl, rfl, rfl, rfl, rfl, rfl, rfl, rfl, rfl, trivial⟩ ⟨rfl, rfl, trivial⟩)
      refine ref_skip (n_block (n_then (ref_region ?_)))
      refine s_rd (r_add rfl rfl) rfl ?_
      refine mv1 rfl rfl ?_
      refine l_nil ?_
      exact goB () (weak [0, 1] ⟨rfl, rfl, rfl, rfl, rfl, rfl, rfl, rfl, rfl, rfl, trivial⟩ ⟨rfl, rfl, trivial⟩)
    refine ref_exit (x_then ?_)
    exact brkB () (weak [1] ⟨rfl, rfl, rfl, trivial⟩ ⟨rfl, trivial⟩)
  refine n_then (ref_seq (ref_region ?_))
  refine mv1 rfl rfl ?_
  refine mv1 rfl rfl ?_
  refine pull fun t78 h_t78 => ?_
  refine s_st (s_call (ψ := fun (_ : Unit) => ag [iv .i64 t78.Num, iv .i64 t78.Den]) (args := [.tmp 97, .tmp 98]) Tryd.call15 rfl (ref22_Reduced_ok h_t78) ⟨arg rfl, arg rfl, trivial⟩ (fun _ _ _ _ h => h)) rfl (fun _ => ?_)
  refine s_st0 (s_cstore (out := [iv .i64 t78.Num, iv .i64 t78.Den]) Tryd.sizeOf36 rfl (j := 0) rfl (part_agO (ψs := [iv .i64 t78.Num, iv .i64 t78.Den]) rfl ⟨.inl iv_at, .inl iv_at, trivial⟩) rfl rfl rfl) (fun _ => ?_)
  refine as1 rfl rfl ?_
  refine l_nil (n_then (ref_ret ?_))
  exact fin2 (.inl rfl) () [] rfl trivial rfl (rv_cell rfl (j := 0) rfl Tryd.isAgg36 Tryd.sizeOf36 rfl rfl) (rv_tmp rfl)

/-! deliberation/chance.Extension$1 -/
noncomputable def chance_Extension_1_m (n_0 : T_network_Net) (weight_1 : Int) (p_2 : (List Int)) (p_3 : Int) : Option (Int) :=
  Option.bind (network_Net_In_m n_0) fun t2 =>
  Option.bind (network_Of_m p_2) fun t3 =>
  bif t2 == t3 then
    some (iadd .i64 p_3 weight_1)
  else
    some p_3

theorem chance_Extension_1_ok {n_0 : T_network_Net} {weight_1 : Int} {p_2 : (List Int)} {p_3 : Int} {b_2 : Nat} {b_3 : Nat} {r : Int} (hm : chance_Extension_1_m n_0 weight_1 p_2 p_3 = some r) :
    FnOk prog 38 [ag [iv .u64 n_0.All, slv (rI .u64) n_0.By, slv (rI .u64) n_0.Out], iv .i64 weight_1, pv (ptr b_2 0), pv (ptr b_3 0)] [oc b_2 [slv (rI .i64) p_2], oc b_3 [iv .i64 p_3], tbO (rI .u8) 0 tab_0] (fun (x : Unit) => []) (fun (x : Unit) => [oc b_2 [slv (rI .i64) p_2], oc b_3 [iv .i64 r], tbO (rI .u8) 0 tab_0]) := by
  refine fn_ok (fn := Tryd.f38) (N := 14) (res := fun r x => []) (Ω1 := fun r x => [oc b_2 [slv (rI .i64) p_2], oc b_3 [iv .i64 r], tbO (rI .u8) 0 tab_0]) Tryd.func38 rfl rfl hm rfl (fun E hM => ?_)
  unfold chance_Extension_1_m
  refine ref_seq (ref_region ?_)
  refine s_st (s_box (part_agO (ψs := [iv .u64 n_0.All, slv (rI .u64) n_0.By, slv (rI .u64) n_0.Out]) rfl ⟨.inl iv_at, .inl slv_at, .inl slv_at, trivial⟩)) rfl (fun b1 => ?_)
  refine l_nil (n_then (ref_seq ?_))
  refine ref_draw [0, 2, 4] rfl (by kernel_rfl) (fun hok => ?_)
  refine a_rd (i := 0) hok rfl (by kernel_rfl) rfl (r_cloadS Tryd.isAgg74 Tryd.sizeOf74 rfl (j := 3) rfl rfl rfl) rfl ?_
  refine a_rd (i := 2) hok rfl (by kernel_rfl) rfl (r_cload Tryd.isAgg22 rfl (j := 0) rfl rfl) rfl ?_
  refine pull fun t2 h_t2 => ?_
  refine a_next hok 1 [] (by kernel_rfl) ?_ trivial
  refine a_st (i := 1) hok rfl rfl (s_callC [2] [true] (fun (_ : Unit) => [tbO (rI .u8) 0 tab_0]) (fun (_ : Unit) => []) (fun (_ : Unit) => iv .u64 t2) (args := [.tmp 6]) (caps := []) Tryd.call39 rfl (network_Net_In_ok h_t2) ⟨rfl, rfl, trivial⟩ (fun _ => rfl) (fun _ => trivial) (fun _ => rfl) ⟨arg rfl, trivial⟩ (fun _ _ _ _ h => h)) (by intro _ h; cases h; rfl) (fun _ => ⟨⟨⟨rfl, rfl⟩, trivial⟩, ⟨trivial, trivial⟩⟩) (fun _ => ?_)
  refine pull fun t3 h_t3 => ?_
  refine a_next hok 3 [] (by kernel_rfl) ?_ trivial
  refine a_st (i := 3) hok rfl rfl (s_call (ψ := fun (_ : Unit) => iv .u64 t3) (args := [.tmp 8]) Tryd.call33 rfl (network_Of_ok h_t3) ⟨arg rfl, trivial⟩ (fun _ _ _ _ h => h)) (by intro _ h; cases h; rfl) (fun _ => ⟨trivial, ⟨⟨⟨rfl, rfl⟩, trivial⟩, trivial⟩⟩) (fun _ => ?_)
  refine a_rd (i := 4) hok rfl (by kernel_rfl) rfl (r_eql rfl rfl) rfl ?_
  refine a_fin hok (by kernel_rfl) ?_
  refine n_then ?_
  refine ref_cond rfl (fun hb4 => ?_) (fun hb4 => ?_)
  · refine ref_region ?_
    refine s_rd (r_cload Tryd.isAgg3 rfl (j := 1) rfl rfl) rfl ?_
    refine mv1 rfl rfl ?_
    refine s_rd (r_add rfl rfl) rfl ?_
    refine s_st0 (s_cstore (out := [iv .i64 (iadd .i64 p_3 weight_1)]) Tryd.sizeOf3 rfl (j := 1) rfl (part_at rfl iv_at) rfl rfl rfl) (fun _ => ?_)
    refine l_nil ?_
    refine b_of (nrm [oc b_2 [slv (rI .i64) p_2], oc b_3 [iv .i64 (iadd .i64 p_3 weight_1)], tbO (rI .u8) 0 tab_0, oc b1 [iv .u64 n_0.All, slv (rI .u64) n_0.By, slv (rI .u64) n_0.Out]] rfl) ?_
    exact fin0 (.inr rfl) () [0, 1, 2] rfl ⟨rfl, rfl, rfl, trivial⟩ rfl 
  refine ref_skip ?_
  exact fin0 (.inr rfl) () [0, 1, 2] rfl ⟨rfl, rfl, rfl, trivial⟩ rfl 

/-! deliberation/chance.worlds$1 -/
noncomputable def chance_worlds_1_1_b (rec_ : Int → Int → (List T_api_Fraction) → (List Int) → Int → T_api_Graph → (List Bool) → Option (Int × (List Bool))) (i_0 : Int) (weight_1 : Int) (p_2 : (List T_api_Fraction)) (e_3 : (List Int)) (e_4 : Int) (p_4 : T_api_Graph) (p_5 : (List Bool)) : Option (Int × (List Bool)) :=
  bif i_0 == (p_2.length : Int) then
    Option.bind (chance_world_m p_4 p_5) fun t2 =>
    Option.bind (chance_Extension_1_m t2 weight_1 e_3 e_4) fun t3 =>
    some (t3, p_5)
  else
    Option.bind (idxM p_2 i_0) fun t4 =>
    Option.bind (chance_certain_m t4) fun t6 =>
    bif t6 then
      Option.bind (idxM p_5 i_0) fun t8 =>
      Option.bind (rec_ (iadd .i64 i_0 1) weight_1 p_2 e_3 e_4 p_4 (p_5.set (Int.toNat i_0) (t4.Num != 0))) fun t9 =>
      some (t9.1, t9.2)
    else
      Option.bind (idxM p_5 i_0) fun t10 =>
      Option.bind (rec_ (iadd .i64 i_0 1) (imul .i64 weight_1 t4.Num) p_2 e_3 e_4 p_4 (p_5.set (Int.toNat i_0) true)) fun t11 =>
      Option.bind (idxM t11.2 i_0) fun t12 =>
      Option.bind (rec_ (iadd .i64 i_0 1) (imul .i64 weight_1 (isub .i64 t4.Den t4.Num)) p_2 e_3 t11.1 p_4 (t11.2.set (Int.toNat i_0) false)) fun t13 =>
      some (t13.1, t13.2)

noncomputable def chance_worlds_1_1_n : Nat → Int → Int → (List T_api_Fraction) → (List Int) → Int → T_api_Graph → (List Bool) → Option (Int × (List Bool))
  | 0 => fun _ _ _ _ _ _ _ => none
  | n_ + 1 => chance_worlds_1_1_b (chance_worlds_1_1_n n_)

noncomputable def chance_worlds_1_1_m (i_0 : Int) (weight_1 : Int) (p_2 : (List T_api_Fraction)) (e_3 : (List Int)) (e_4 : Int) (p_4 : T_api_Graph) (p_5 : (List Bool)) : Option (Int × (List Bool)) := recC fun n_ => chance_worlds_1_1_n n_ i_0 weight_1 p_2 e_3 e_4 p_4 p_5

theorem chance_worlds_1_1_step (rec_ : Int → Int → (List T_api_Fraction) → (List Int) → Int → T_api_Graph → (List Bool) → Option (Int × (List Bool))) (ih : ∀ {i_0 : Int} {weight_1 : Int} {p_2 : (List T_api_Fraction)} {e_3 : (List Int)} {e_4 : Int} {p_4 : T_api_Graph} {p_5 : (List Bool)} {b_2 : Nat} {h_1 : Value × List Nat} {b_3 : Nat} {be_3 : Nat} {be_4 : Nat} {b_4 : Nat} {b_5 : Nat} {h_7 : Value × List Nat} {b_6 : Nat} {r : Int × (List Bool)}, rec_ i_0 weight_1 p_2 e_3 e_4 p_4 p_5 = some r →
    FnOk prog 62 [iv .i64 i_0, iv .i64 weight_1, pv (ptr b_2 0), pv (ptr b_3 0), pv (ptr b_4 0), pv (ptr b_5 0), pv (ptr b_6 0)] [oc b_2 [pv h_1.1], oa rT_api_Fraction h_1.1 h_1.2 p_2, oc b_3 [pv (.func (.func 38) #[] #[(ptr be_3 0), (ptr be_4 0)])], oc be_3 [slv (rI .i64) e_3], oc be_4 [iv .i64 e_4], oc b_4 [iv .i64 p_4.N, slv rT_api_Pair p_4.L], oc b_5 [pv h_7.1], oa rB h_7.1 h_7.2 p_5, oc b_6 [pv (.func (.func 62) #[] #[(ptr b_2 0), (ptr b_3 0), (ptr b_4 0), (ptr b_5 0), (ptr b_6 0)])], tbO (rI .u8) 0 tab_0] (fun (x : Unit) => []) (fun (x : Unit) => [oc b_2 [pv h_1.1], oa rT_api_Fraction h_1.1 h_1.2 p_2, oc b_3 [pv (.func (.func 38) #[] #[(ptr be_3 0), (ptr be_4 0)])], oc be_3 [slv (rI .i64) e_3], oc be_4 [iv .i64 r.1], oc b_4 [iv .i64 p_4.N, slv rT_api_Pair p_4.L], oc b_5 [pv h_7.1], oa rB h_7.1 h_7.2 r.2, oc b_6 [pv (.func (.func 62) #[] #[(ptr b_2 0), (ptr b_3 0), (ptr b_4 0), (ptr b_5 0), (ptr b_6 0)])], tbO (rI .u8) 0 tab_0])) {i_0 : Int} {weight_1 : Int} {p_2 : (List T_api_Fraction)} {e_3 : (List Int)} {e_4 : Int} {p_4 : T_api_Graph} {p_5 : (List Bool)} {b_2 : Nat} {h_1 : Value × List Nat} {b_3 : Nat} {be_3 : Nat} {be_4 : Nat} {b_4 : Nat} {b_5 : Nat} {h_7 : Value × List Nat} {b_6 : Nat} {r : Int × (List Bool)} (hm : chance_worlds_1_1_b rec_ i_0 weight_1 p_2 e_3 e_4 p_4 p_5 = some r) :
    FnOk prog 62 [iv .i64 i_0, iv .i64 weight_1, pv (ptr b_2 0), pv (ptr b_3 0), pv (ptr b_4 0), pv (ptr b_5 0), pv (ptr b_6 0)] [oc b_2 [pv h_1.1], oa rT_api_Fraction h_1.1 h_1.2 p_2, oc b_3 [pv (.func (.func 38) #[] #[(ptr be_3 0), (ptr be_4 0)])], oc be_3 [slv (rI .i64) e_3], oc be_4 [iv .i64 e_4], oc b_4 [iv .i64 p_4.N, slv rT_api_Pair p_4.L], oc b_5 [pv h_7.1], oa rB h_7.1 h_7.2 p_5, oc b_6 [pv (.func (.func 62) #[] #[(ptr b_2 0), (ptr b_3 0), (ptr b_4 0), (ptr b_5 0), (ptr b_6 0)])], tbO (rI .u8) 0 tab_0] (fun (x : Unit) => []) (fun (x : Unit) => [oc b_2 [pv h_1.1], oa rT_api_Fraction h_1.1 h_1.2 p_2, oc b_3 [pv (.func (.func 38) #[] #[(ptr be_3 0), (ptr be_4 0)])], oc be_3 [slv (rI .i64) e_3], oc be_4 [iv .i64 r.1], oc b_4 [iv .i64 p_4.N, slv rT_api_Pair p_4.L], oc b_5 [pv h_7.1], oa rB h_7.1 h_7.2 r.2, oc b_6 [pv (.func (.func 62) #[] #[(ptr b_2 0), (ptr b_3 0), (ptr b_4 0), (ptr b_5 0), (ptr b_6 0)])], tbO (rI .u8) 0 tab_0]) := by
  refine fn_ok (fn := Tryd.f62) (N := 62) (res := fun r x => []) (Ω1 := fun r x => [oc b_2 [pv h_1.1], oa rT_api_Fraction h_1.1 h_1.2 p_2, oc b_3 [pv (.func (.func 38) #[] #[(ptr be_3 0), (ptr be_4 0)])], oc be_3 [slv (rI .i64) e_3], oc be_4 [iv .i64 r.1], oc b_4 [iv .i64 p_4.N, slv rT_api_Pair p_4.L], oc b_5 [pv h_7.1], oa rB h_7.1 h_7.2 r.2, oc b_6 [pv (.func (.func 62) #[] #[(ptr b_2 0), (ptr b_3 0), (ptr b_4 0), (ptr b_5 0), (ptr b_6 0)])], tbO (rI .u8) 0 tab_0]) Tryd.func62 rfl rfl hm rfl (fun E hM => ?_)
  unfold chance_worlds_1_1_b
  refine ref_seq (ref_seq (ref_region ?_))
  refine mv1 rfl rfl ?_
  refine s_rd (r_cload Tryd.isAgg29 rfl (j := 0) rfl rfl) rfl ?_
  refine s_rd (r_olen Tryd.underlying29 rfl (j := 1) rfl) rfl ?_
  refine s_rd (r_eql rfl rfl) rfl ?_
  refine l_nil (n_then ?_)
  refine ref_cond rfl (fun hb1 => ?_) (fun hb1 => ?_)
  · refine ref_seq ?_
    refine ref_draw [0, 1, 2, 4] rfl (by kernel_rfl) (fun hok => ?_)
    refine a_rd (i := 0) hok rfl (by kernel_rfl) rfl (r_cload Tryd.isAgg76 rfl (j := 2) rfl rfl) rfl ?_
    refine a_rd (i := 1) hok rfl (by kernel_rfl) rfl (r_cloadS Tryd.isAgg27 Tryd.sizeOf27 rfl (j := 5) rfl rfl rfl) rfl ?_
    refine a_rd (i := 2) hok rfl (by kernel_rfl) rfl (r_cload Tryd.isAgg97 rfl (j := 6) rfl rfl) rfl ?_
    refine a_rd (i := 4) hok rfl (by kernel_rfl) rfl (r_move rfl) rfl ?_
    refine pull fun t2 h_t2 => ?_
    refine a_next hok 3 [] (by kernel_rfl) ?_ trivial
    refine a_st (i := 3) hok rfl rfl (s_callC [7] [true] (fun (_ : Unit) => [oa rB h_7.1 h_7.2 p_5]) (fun (_ : Unit) => []) (fun (_ : Unit) => ag [iv .u64 t2.All, slv (rI .u64) t2.By, slv (rI .u64) t2.Out]) (args := [.tmp 15, .tmp 16]) (caps := []) Tryd.call63 rfl (chance_world_ok h_t2) ⟨rfl, rfl, trivial⟩ (fun _ => rfl) (fun _ => trivial) (fun _ => rfl) ⟨arg rfl, arg rfl, trivial⟩ (fun _ _ _ _ h => h)) (by intro _ h; cases h; rfl) (fun _ => ⟨trivial, ⟨trivial, ⟨trivial, ⟨⟨⟨rfl, rfl⟩, trivial⟩, trivial⟩⟩⟩⟩) (fun _ => ?_)
    refine pull fun t3 h_t3 => ?_
    refine a_next hok 5 [] (by kernel_rfl) ?_ trivial
    refine a_st (i := 5) hok rfl rfl (s_callC [3, 4, 9] [true, true, true] (fun (_ : Unit) => [oc be_3 [slv (rI .i64) e_3], oc be_4 [iv .i64 t3], tbO (rI .u8) 0 tab_0]) (fun (_ : Unit) => []) (fun (_ : Unit) => tup []) (args := [.tmp 17, .tmp 18]) (caps := [(ptr be_3 0), (ptr be_4 0)]) Tryd.call38 rfl (chance_Extension_1_ok h_t3) ⟨rfl, rfl, ⟨rfl, rfl, ⟨rfl, rfl, trivial⟩⟩⟩ (fun _ => rfl) (fun _ => trivial) (fun _ => rfl) ⟨arg rfl, arg rfl, arg rfl, arg rfl, trivial⟩ (fun _ _ _ _ h => h)) (by intro _ h; cases h; rfl) (fun _ => ⟨trivial, ⟨⟨⟨rfl, rfl⟩, trivial⟩, ⟨⟨⟨rfl, rfl⟩, trivial⟩, ⟨trivial, trivial⟩⟩⟩⟩) (fun _ => ?_)
    refine a_fin hok (by kernel_rfl) ?_
    refine b_of (nrm [oc b_2 [pv h_1.1], oa rT_api_Fraction h_1.1 h_1.2 p_2, oc b_3 [pv (.func (.func 38) #[] #[(ptr be_3 0), (ptr be_4 0)])], oc be_3 [slv (rI .i64) e_3], oc be_4 [iv .i64 t3], oc b_4 [iv .i64 p_4.N, slv rT_api_Pair p_4.L], oc b_5 [pv h_7.1], oa rB h_7.1 h_7.2 p_5, oc b_6 [pv (.func (.func 62) #[] #[(ptr b_2 0), (ptr b_3 0), (ptr b_4 0), (ptr b_5 0), (ptr b_6 0)])], tbO (rI .u8) 0 tab_0] rfl) ?_
    refine n_then (ref_ret (r_then ?_))
    exact fin0 (.inl rfl) () [0, 1, 2, 3, 4, 5, 6, 7, 8, 9] rfl ⟨rfl, rfl, rfl, rfl, rfl, rfl, rfl, rfl, rfl, rfl, trivial⟩ rfl 
  refine ref_skip (n_then (ref_seq (ref_region ?_)))
  refine s_rd (r_cload Tryd.isAgg29 rfl (j := 0) rfl rfl) rfl ?_
  refine mv1 rfl rfl ?_
  refine pull fun t4 h_t4 => ?_
  refine s_rd (r_oindex h_t4 Tryd.underlying29 el_36 rfl (j := 1) rfl rfl) rfl ?_
  refine s_rd (r_oload h_t4 el_36 rfl (j := 1) rfl) rfl ?_
  refine s_st (s_alloc zt_36) rfl (fun b5 => ?_)
  refine s_st0 (s_cstore (out := [iv .i64 t4.Num, iv .i64 t4.Den]) Tryd.sizeOf36 rfl (j := 10) rfl (part_agO (ψs := [iv .i64 t4.Num, iv .i64 t4.Den]) rfl ⟨.inl iv_at, .inl iv_at, trivial⟩) rfl rfl rfl) (fun _ => ?_)
  refine l_nil (n_then (ref_seq (ref_seq (ref_region ?_))))
  refine s_rd (r_cloadS Tryd.isAgg36 Tryd.sizeOf36 rfl (j := 10) rfl rfl rfl) rfl ?_
  refine pull fun t6 h_t6 => ?_
  refine s_st (s_call (ψ := fun (_ : Unit) => bv t6) (args := [.tmp 24]) Tryd.call57 rfl (chance_certain_ok h_t6) ⟨arg rfl, trivial⟩ (fun _ _ _ _ h => h)) rfl (fun _ => ?_)
  refine l_nil (n_then ?_)
  refine ref_cond rfl (fun hb7 => ?_) (fun hb7 => ?_)
  · refine ref_seq (ref_region ?_)
    refine s_rd (r_cload Tryd.isAgg97 rfl (j := 6) rfl rfl) rfl ?_
    refine mv1 rfl rfl ?_
    refine s_rd (r_faddr (fo := 0) Tryd.underlying36 rfl rfl Tryd.sizeOf3 rfl) rfl ?_
    refine s_rd (r_cload Tryd.isAgg3 rfl (j := 10) rfl rfl) rfl ?_
    refine s_rd (r_neq rfl rfl) rfl ?_
    refine pull fun t8 h_t8 => ?_
    refine s_rd (r_oindex h_t8 Tryd.underlying97 el_4 rfl (j := 7) rfl rfl) rfl ?_
    refine s_st0 (s_ostore (u := t4.Num != 0) h_t8 el_4 rfl (j := 7) rfl (part_at rfl bv_at)) (fun _ => ?_)
    refine l_nil ?_
    refine b_of (nrm [oc b_2 [pv h_1.1], oa rT_api_Fraction h_1.1 h_1.2 p_2, oc b_3 [pv (.func (.func 38) #[] #[(ptr be_3 0), (ptr be_4 0)])], oc be_3 [slv (rI .i64) e_3], oc be_4 [iv .i64 e_4], oc b_4 [iv .i64 p_4.N, slv rT_api_Pair p_4.L], oc b_5 [pv h_7.1], oa rB h_7.1 h_7.2 (p_5.set (Int.toNat i_0) (t4.Num != 0)), oc b_6 [pv (.func (.func 62) #[] #[(ptr b_2 0), (ptr b_3 0), (ptr b_4 0), (ptr b_5 0), (ptr b_6 0)])], tbO (rI .u8) 0 tab_0, oc b5 [iv .i64 t4.Num, iv .i64 t4.Den]] rfl) ?_
    refine n_then (ref_seq (ref_region ?_))
    refine s_rd (r_cload Tryd.isAgg98 rfl (j := 8) rfl rfl) rfl ?_
    refine mv1 rfl rfl ?_
    refine s_rd (r_add rfl rfl) rfl ?_
    refine mv1 rfl rfl ?_
    refine pull fun t9 h_t9 => ?_
    refine s_st (s_callC [0, 1, 2, 3, 4, 5, 6, 7, 8, 9] [true, true, true, true, true, true, true, true, true, true] (fun (_ : Unit) => [oc b_2 [pv h_1.1], oa rT_api_Fraction h_1.1 h_1.2 p_2, oc b_3 [pv (.func (.func 38) #[] #[(ptr be_3 0), (ptr be_4 0)])], oc be_3 [slv (rI .i64) e_3], oc be_4 [iv .i64 t9.1], oc b_4 [iv .i64 p_4.N, slv rT_api_Pair p_4.L], oc b_5 [pv h_7.1], oa rB h_7.1 h_7.2 t9.2, oc b_6 [pv (.func (.func 62) #[] #[(ptr b_2 0), (ptr b_3 0), (ptr b_4 0), (ptr b_5 0), (ptr b_6 0)])], tbO (rI .u8) 0 tab_0]) (fun (_ : Unit) => []) (fun (_ : Unit) => tup []) (args := [.tmp 34, .tmp 35]) (caps := [(ptr b_2 0), (ptr b_3 0), (ptr b_4 0), (ptr b_5 0), (ptr b_6 0)]) Tryd.call62 rfl (ih h_t9) ⟨rfl, rfl, ⟨rfl, rfl, ⟨rfl, rfl, ⟨rfl, rfl, ⟨rfl, rfl, ⟨rfl, rfl, ⟨rfl, rfl, ⟨rfl, rfl, ⟨rfl, rfl, ⟨rfl, rfl, trivial⟩⟩⟩⟩⟩⟩⟩⟩⟩⟩ (fun _ => rfl) (fun _ => trivial) (fun _ => rfl) ⟨arg rfl, arg rfl, arg rfl, arg rfl, arg rfl, arg rfl, arg rfl, trivial⟩ (fun _ _ _ _ h => h)) rfl (fun _ => ?_)
    refine l_nil ?_
    refine b_of (nrm [oc b_2 [pv h_1.1], oa rT_api_Fraction h_1.1 h_1.2 p_2, oc b_3 [pv (.func (.func 38) #[] #[(ptr be_3 0), (ptr be_4 0)])], oc be_3 [slv (rI .i64) e_3], oc be_4 [iv .i64 t9.1], oc b_4 [iv .i64 p_4.N, slv rT_api_Pair p_4.L], oc b_5 [pv h_7.1], oa rB h_7.1 h_7.2 t9.2, oc b_6 [pv (.func (.func 62) #[] #[(ptr b_2 0), (ptr b_3 0), (ptr b_4 0), (ptr b_5 0), (ptr b_6 0)])], tbO (rI .u8) 0 tab_0, oc b5 [iv .i64 t4.Num, iv .i64 t4.Den]] rfl) ?_
    refine n_then (ref_ret (r_then ?_))
    exact fin0 (.inl rfl) () [0, 1, 2, 3, 4, 5, 6, 7, 8, 9] rfl ⟨rfl, rfl, rfl, rfl, rfl, rfl, rfl, rfl, rfl, rfl, trivial⟩ rfl 
  refine ref_skip (n_then (ref_seq (ref_region ?_)))
  refine s_rd (r_cload Tryd.isAgg97 rfl (j := 6) rfl rfl) rfl ?_
  refine mv1 rfl rfl ?_
  refine pull fun t10 h_t10 => ?_
  refine s_rd (r_oindex h_t10 Tryd.underlying97 el_4 rfl (j := 7) rfl rfl) rfl ?_
  refine s_st0 (s_ostore (u := true) h_t10 el_4 rfl (j := 7) rfl (part_at rfl bv_at)) (fun _ => ?_)
  refine l_nil ?_
  refine b_of (nrm [oc b_2 [pv h_1.1], oa rT_api_Fraction h_1.1 h_1.2 p_2, oc b_3 [pv (.func (.func 38) #[] #[(ptr be_3 0), (ptr be_4 0)])], oc be_3 [slv (rI .i64) e_3], oc be_4 [iv .i64 e_4], oc b_4 [iv .i64 p_4.N, slv rT_api_Pair p_4.L], oc b_5 [pv h_7.1], oa rB h_7.1 h_7.2 (p_5.set (Int.toNat i_0) true), oc b_6 [pv (.func (.func 62) #[] #[(ptr b_2 0), (ptr b_3 0), (ptr b_4 0), (ptr b_5 0), (ptr b_6 0)])], tbO (rI .u8) 0 tab_0, oc b5 [iv .i64 t4.Num, iv .i64 t4.Den]] rfl) ?_
  refine n_then (ref_seq (ref_region ?_))
  refine s_rd (r_cload Tryd.isAgg98 rfl (j := 8) rfl rfl) rfl ?_
  refine mv1 rfl rfl ?_
  refine s_rd (r_add rfl rfl) rfl ?_
  refine mv1 rfl rfl ?_
  refine s_rd (r_faddr (fo := 0) Tryd.underlying36 rfl rfl Tryd.sizeOf3 rfl) rfl ?_
  refine s_rd (r_cload Tryd.isAgg3 rfl (j := 10) rfl rfl) rfl ?_
  refine s_rd (r_mul rfl rfl) rfl ?_
  refine pull fun t11 h_t11 => ?_
  refine s_st (s_callC [0, 1, 2, 3, 4, 5, 6, 7, 8, 9] [true, true, true, true, true, true, true, true, true, true] (fun (_ : Unit) => [oc b_2 [pv h_1.1], oa rT_api_Fraction h_1.1 h_1.2 p_2, oc b_3 [pv (.func (.func 38) #[] #[(ptr be_3 0), (ptr be_4 0)])], oc be_3 [slv (rI .i64) e_3], oc be_4 [iv .i64 t11.1], oc b_4 [iv .i64 p_4.N, slv rT_api_Pair p_4.L], oc b_5 [pv h_7.1], oa rB h_7.1 h_7.2 t11.2, oc b_6 [pv (.func (.func 62) #[] #[(ptr b_2 0), (ptr b_3 0), (ptr b_4 0), (ptr b_5 0), (ptr b_6 0)])], tbO (rI .u8) 0 tab_0]) (fun (_ : Unit) => []) (fun (_ : Unit) => tup []) (args := [.tmp 42, .tmp 46]) (caps := [(ptr b_2 0), (ptr b_3 0), (ptr b_4 0), (ptr b_5 0), (ptr b_6 0)]) Tryd.call62 rfl (ih h_t11) ⟨rfl, rfl, ⟨rfl, rfl, ⟨rfl, rfl, ⟨rfl, rfl, ⟨rfl, rfl, ⟨rfl, rfl, ⟨rfl, rfl, ⟨rfl, rfl, ⟨rfl, rfl, ⟨rfl, rfl, trivial⟩⟩⟩⟩⟩⟩⟩⟩⟩⟩ (fun _ => rfl) (fun _ => trivial) (fun _ => rfl) ⟨arg rfl, arg rfl, arg rfl, arg rfl, arg rfl, arg rfl, arg rfl, trivial⟩ (fun _ _ _ _ h => h)) rfl (fun _ => ?_)
  refine l_nil ?_
  refine b_of (nrm [oc b_2 [pv h_1.1], oa rT_api_Fraction h_1.1 h_1.2 p_2, oc b_3 [pv (.func (.func 38) #[] #[(ptr be_3 0), (ptr be_4 0)])], oc be_3 [slv (rI .i64) e_3], oc be_4 [iv .i64 t11.1], oc b_4 [iv .i64 p_4.N, slv rT_api_Pair p_4.L], oc b_5 [pv h_7.1], oa rB h_7.1 h_7.2 t11.2, oc b_6 [pv (.func (.func 62) #[] #[(ptr b_2 0), (ptr b_3 0), (ptr b_4 0), (ptr b_5 0), (ptr b_6 0)])], tbO (rI .u8) 0 tab_0, oc b5 [iv .i64 t4.Num, iv .i64 t4.Den]] rfl) ?_
  refine n_then (ref_seq (ref_region ?_))
  refine s_rd (r_cload Tryd.isAgg97 rfl (j := 6) rfl rfl) rfl ?_
  refine mv1 rfl rfl ?_
  refine pull fun t12 h_t12 => ?_
  refine s_rd (r_oindex h_t12 Tryd.underlying97 el_4 rfl (j := 7) rfl rfl) rfl ?_
  refine s_st0 (s_ostore (u := false) h_t12 el_4 rfl (j := 7) rfl (part_at rfl bv_at)) (fun _ => ?_)
  refine l_nil (n_then (ref_region ?_))
  refine s_rd (r_cload Tryd.isAgg98 rfl (j := 8) rfl rfl) rfl ?_
  refine mv1 rfl rfl ?_
  refine s_rd (r_add rfl rfl) rfl ?_
  refine mv1 rfl rfl ?_
  refine s_rd (r_faddr (fo := 1) Tryd.underlying36 rfl rfl Tryd.sizeOf3 rfl) rfl ?_
  refine s_rd (r_cload Tryd.isAgg3 rfl (j := 10) rfl rfl) rfl ?_
  refine s_rd (r_faddr (fo := 0) Tryd.underlying36 rfl rfl Tryd.sizeOf3 rfl) rfl ?_
  refine s_rd (r_cload Tryd.isAgg3 rfl (j := 10) rfl rfl) rfl ?_
  refine s_rd (r_sub rfl rfl) rfl ?_
  refine s_rd (r_mul rfl rfl) rfl ?_
  refine pull fun t13 h_t13 => ?_
  refine s_st (s_callC [0, 1, 2, 3, 4, 5, 6, 7, 8, 9] [true, true, true, true, true, true, true, true, true, true] (fun (_ : Unit) => [oc b_2 [pv h_1.1], oa rT_api_Fraction h_1.1 h_1.2 p_2, oc b_3 [pv (.func (.func 38) #[] #[(ptr be_3 0), (ptr be_4 0)])], oc be_3 [slv (rI .i64) e_3], oc be_4 [iv .i64 t13.1], oc b_4 [iv .i64 p_4.N, slv rT_api_Pair p_4.L], oc b_5 [pv h_7.1], oa rB h_7.1 h_7.2 t13.2, oc b_6 [pv (.func (.func 62) #[] #[(ptr b_2 0), (ptr b_3 0), (ptr b_4 0), (ptr b_5 0), (ptr b_6 0)])], tbO (rI .u8) 0 tab_0]) (fun (_ : Unit) => []) (fun (_ : Unit) => tup []) (args := [.tmp 53, .tmp 60]) (caps := [(ptr b_2 0), (ptr b_3 0), (ptr b_4 0), (ptr b_5 0), (ptr b_6 0)]) Tryd.call62 rfl (ih h_t13) ⟨rfl, rfl, ⟨rfl, rfl, ⟨rfl, rfl, ⟨rfl, rfl, ⟨rfl, rfl, ⟨rfl, rfl, ⟨rfl, rfl, ⟨rfl, rfl, ⟨rfl, rfl, ⟨rfl, rfl, trivial⟩⟩⟩⟩⟩⟩⟩⟩⟩⟩ (fun _ => rfl) (fun _ => trivial) (fun _ => rfl) ⟨arg rfl, arg rfl, arg rfl, arg rfl, arg rfl, arg rfl, arg rfl, trivial⟩ (fun _ _ _ _ h => h)) rfl (fun _ => ?_)
  refine l_nil ?_
  refine b_of (nrm [oc b_2 [pv h_1.1], oa rT_api_Fraction h_1.1 h_1.2 p_2, oc b_3 [pv (.func (.func 38) #[] #[(ptr be_3 0), (ptr be_4 0)])], oc be_3 [slv (rI .i64) e_3], oc be_4 [iv .i64 t13.1], oc b_4 [iv .i64 p_4.N, slv rT_api_Pair p_4.L], oc b_5 [pv h_7.1], oa rB h_7.1 h_7.2 t13.2, oc b_6 [pv (.func (.func 62) #[] #[(ptr b_2 0), (ptr b_3 0), (ptr b_4 0), (ptr b_5 0), (ptr b_6 0)])], tbO (rI .u8) 0 tab_0, oc b5 [iv .i64 t4.Num, iv .i64 t4.Den]] rfl) ?_
  exact fin0 (.inr rfl) () [0, 1, 2, 3, 4, 5, 6, 7, 8, 9] rfl ⟨rfl, rfl, rfl, rfl, rfl, rfl, rfl, rfl, rfl, rfl, trivial⟩ rfl 

theorem chance_worlds_1_1_n_ok : ∀ (n_ : Nat) {i_0 : Int} {weight_1 : Int} {p_2 : (List T_api_Fraction)} {e_3 : (List Int)} {e_4 : Int} {p_4 : T_api_Graph} {p_5 : (List Bool)} {b_2 : Nat} {h_1 : Value × List Nat} {b_3 : Nat} {be_3 : Nat} {be_4 : Nat} {b_4 : Nat} {b_5 : Nat} {h_7 : Value × List Nat} {b_6 : Nat} {r : Int × (List Bool)}, chance_worlds_1_1_n n_ i_0 weight_1 p_2 e_3 e_4 p_4 p_5 = some r →
    FnOk prog 62 [iv .i64 i_0, iv .i64 weight_1, pv (ptr b_2 0), pv (ptr b_3 0), pv (ptr b_4 0), pv (ptr b_5 0), pv (ptr b_6 0)] [oc b_2 [pv h_1.1], oa rT_api_Fraction h_1.1 h_1.2 p_2, oc b_3 [pv (.func (.func 38) #[] #[(ptr be_3 0), (ptr be_4 0)])], oc be_3 [slv (rI .i64) e_3], oc be_4 [iv .i64 e_4], oc b_4 [iv .i64 p_4.N, slv rT_api_Pair p_4.L], oc b_5 [pv h_7.1], oa rB h_7.1 h_7.2 p_5, oc b_6 [pv (.func (.func 62) #[] #[(ptr b_2 0), (ptr b_3 0), (ptr b_4 0), (ptr b_5 0), (ptr b_6 0)])], tbO (rI .u8) 0 tab_0] (fun (x : Unit) => []) (fun (x : Unit) => [oc b_2 [pv h_1.1], oa rT_api_Fraction h_1.1 h_1.2 p_2, oc b_3 [pv (.func (.func 38) #[] #[(ptr be_3 0), (ptr be_4 0)])], oc be_3 [slv (rI .i64) e_3], oc be_4 [iv .i64 r.1], oc b_4 [iv .i64 p_4.N, slv rT_api_Pair p_4.L], oc b_5 [pv h_7.1], oa rB h_7.1 h_7.2 r.2, oc b_6 [pv (.func (.func 62) #[] #[(ptr b_2 0), (ptr b_3 0), (ptr b_4 0), (ptr b_5 0), (ptr b_6 0)])], tbO (rI .u8) 0 tab_0]) := by
  intro n_
  induction n_ with
  | zero => intros; rename_i h; cases h
  | succ n_ ih => intros; rename_i h; exact chance_worlds_1_1_step _ @ih h

theorem chance_worlds_1_1_ok {i_0 : Int} {weight_1 : Int} {p_2 : (List T_api_Fraction)} {e_3 : (List Int)} {e_4 : Int} {p_4 : T_api_Graph} {p_5 : (List Bool)} {b_2 : Nat} {h_1 : Value × List Nat} {b_3 : Nat} {be_3 : Nat} {be_4 : Nat} {b_4 : Nat} {b_5 : Nat} {h_7 : Value × List Nat} {b_6 : Nat} {r : Int × (List Bool)} (hm : chance_worlds_1_1_m i_0 weight_1 p_2 e_3 e_4 p_4 p_5 = some r) :
    FnOk prog 62 [iv .i64 i_0, iv .i64 weight_1, pv (ptr b_2 0), pv (ptr b_3 0), pv (ptr b_4 0), pv (ptr b_5 0), pv (ptr b_6 0)] [oc b_2 [pv h_1.1], oa rT_api_Fraction h_1.1 h_1.2 p_2, oc b_3 [pv (.func (.func 38) #[] #[(ptr be_3 0), (ptr be_4 0)])], oc be_3 [slv (rI .i64) e_3], oc be_4 [iv .i64 e_4], oc b_4 [iv .i64 p_4.N, slv rT_api_Pair p_4.L], oc b_5 [pv h_7.1], oa rB h_7.1 h_7.2 p_5, oc b_6 [pv (.func (.func 62) #[] #[(ptr b_2 0), (ptr b_3 0), (ptr b_4 0), (ptr b_5 0), (ptr b_6 0)])], tbO (rI .u8) 0 tab_0] (fun (x : Unit) => []) (fun (x : Unit) => [oc b_2 [pv h_1.1], oa rT_api_Fraction h_1.1 h_1.2 p_2, oc b_3 [pv (.func (.func 38) #[] #[(ptr be_3 0), (ptr be_4 0)])], oc be_3 [slv (rI .i64) e_3], oc be_4 [iv .i64 r.1], oc b_4 [iv .i64 p_4.N, slv rT_api_Pair p_4.L], oc b_5 [pv h_7.1], oa rB h_7.1 h_7.2 r.2, oc b_6 [pv (.func (.func 62) #[] #[(ptr b_2 0), (ptr b_3 0), (ptr b_4 0), (ptr b_5 0), (ptr b_6 0)])], tbO (rI .u8) 0 tab_0]) := by
  obtain ⟨n_, h⟩ := recC_some hm
  exact chance_worlds_1_1_n_ok n_ h

theorem chance_worlds_1_1_b_le {rec_ rec_' : Int → Int → (List T_api_Fraction) → (List Int) → Int → T_api_Graph → (List Bool) → Option (Int × (List Bool))} (h : ∀ i_0 weight_1 p_2 e_3 e_4 p_4 p_5, Le (rec_ i_0 weight_1 p_2 e_3 e_4 p_4 p_5) (rec_' i_0 weight_1 p_2 e_3 e_4 p_4 p_5)) {i_0 : Int} {weight_1 : Int} {p_2 : (List T_api_Fraction)} {e_3 : (List Int)} {e_4 : Int} {p_4 : T_api_Graph} {p_5 : (List Bool)} : Le (chance_worlds_1_1_b rec_ i_0 weight_1 p_2 e_3 e_4 p_4 p_5) (chance_worlds_1_1_b rec_' i_0 weight_1 p_2 e_3 e_4 p_4 p_5) := by
  unfold chance_worlds_1_1_b
  repeat' with_reducible (first | exact Le.refl _ | exact h _ _ _ _ _ _ _ | refine Le.bind ?_ (Le.sumK fun _ => ?_) | refine Le.bind ?_ (fun _ => ?_) | refine Le.cond ?_ ?_ | refine Le.letM (fun _ => ?_) | refine Le.join (fun _ => ?_) (fun _ _ hj => ?_) | exact hj _)

theorem chance_worlds_1_1_n_le : ∀ (n_ : Nat) (i_0 : Int) (weight_1 : Int) (p_2 : (List T_api_Fraction)) (e_3 : (List Int)) (e_4 : Int) (p_4 : T_api_Graph) (p_5 : (List Bool)), Le (chance_worlds_1_1_n n_ i_0 weight_1 p_2 e_3 e_4 p_4 p_5) (chance_worlds_1_1_n (n_ + 1) i_0 weight_1 p_2 e_3 e_4 p_4 p_5)
  | 0, _, _, _, _, _, _, _ => fun _ h => by cases h
  | n_ + 1, _, _, _, _, _, _, _ => chance_worlds_1_1_b_le (chance_worlds_1_1_n_le n_)

/-! deliberation/chance.worlds -/
noncomputable def chance_worlds_s1_l1 (t4 : List T_api_Fraction) (s14 : Int × Int) : Option (Sum (Int) (Int × Int)) :=
  bif decide (s14.2 < (t4.length : Int)) then
    Option.bind (idxM t4 s14.2) fun t17 =>
    Option.bind (chance_certain_m t17) fun t19 =>
    bif !t19 then
      letM (imul .i64 s14.1 t17.Den) fun total21 =>
      some (Sum.inr (total21, iadd .i64 s14.2 1))
    else
      some (Sum.inr (s14.1, iadd .i64 s14.2 1))
  else
    some (Sum.inl s14.1)

noncomputable def chance_worlds_s1_m (g_0 : T_api_Graph) (o_1 : T_api_Odds) (e_0 : (List Int)) (e_1 : Int) : Option (Int × Int) :=
  Option.bind (slices_Concat_api_Fraction_api_Fraction_m [o_1.Nodes, o_1.Attacks]) fun t4 =>
  Option.bind (loopC (chance_worlds_s1_l1 t4) (1, 0)) fun q22 : Int =>
  Option.bind (slices_Concat_api_Fraction_api_Fraction_m [o_1.Nodes, o_1.Attacks]) fun t24 =>
  Option.bind (mkM 1 false (t24.length : Int)) fun t27 =>
  Option.bind (chance_worlds_1_1_m 0 1 t24 e_0 e_1 g_0 t27) fun t31 =>
  some (q22, t31.1)

theorem chance_worlds_s1_ok {g_0 : T_api_Graph} {o_1 : T_api_Odds} {e_0 : (List Int)} {e_1 : Int} {be_0 : Nat} {be_1 : Nat} {r : Int × Int} (hm : chance_worlds_s1_m g_0 o_1 e_0 e_1 = some r) :
    FnOk prog 37 [ag [iv .i64 g_0.N, slv rT_api_Pair g_0.L], ag [slv rT_api_Fraction o_1.Nodes, slv rT_api_Fraction o_1.Attacks], pv (.func (.func 38) #[] #[(ptr be_0 0), (ptr be_1 0)])] [oc be_0 [slv (rI .i64) e_0], oc be_1 [iv .i64 e_1], tbO (rI .u8) 0 tab_0] (fun (x : Unit) => [iv .i64 r.1]) (fun (x : Unit) => [oc be_0 [slv (rI .i64) e_0], oc be_1 [iv .i64 r.2], tbO (rI .u8) 0 tab_0]) := by
  refine fn_ok (fn := Tryd.f37) (N := 45) (res := fun r x => [iv .i64 r.1]) (Ω1 := fun r x => [oc be_0 [slv (rI .i64) e_0], oc be_1 [iv .i64 r.2], tbO (rI .u8) 0 tab_0]) Tryd.func37 rfl rfl hm rfl (fun E hM => ?_)
  unfold chance_worlds_s1_m
  refine ref_seq (ref_region ?_)
  refine s_st (s_box (part_agO (ψs := [iv .i64 g_0.N, slv rT_api_Pair g_0.L]) rfl ⟨.inl iv_at, .inl slv_at, trivial⟩)) rfl (fun b1 => ?_)
  refine s_st (s_box (part_agO (ψs := [slv rT_api_Fraction o_1.Nodes, slv rT_api_Fraction o_1.Attacks]) rfl ⟨.inl slv_at, .inl slv_at, trivial⟩)) rfl (fun b2 => ?_)
  refine s_st (s_box (part_at (φ := pv (.func (.func 38) #[] #[(ptr be_0 0), (ptr be_1 0)])) rfl (pv_at rfl))) rfl (fun b3 => ?_)
  refine as1 rfl rfl ?_
  refine l_nil (n_then (ref_seq (ref_region ?_)))
  refine as1 rfl rfl ?_
  refine l_nil (n_then (ref_seq (ref_seq (ref_region ?_))))
  refine s_rd (r_faddr (fo := 0) Tryd.underlying31 rfl rfl Tryd.sizeOf29 rfl) rfl ?_
  refine s_rd (r_cload Tryd.isAgg29 rfl (j := 4) rfl rfl) rfl ?_
  refine s_rd (r_faddr (fo := 1) Tryd.underlying31 rfl rfl Tryd.sizeOf29 rfl) rfl ?_
  refine s_rd (r_cload Tryd.isAgg29 rfl (j := 4) rfl rfl) rfl ?_
  refine s_st (s_bslice (xs := [.tmp 14, .tmp 16]) (ds := [o_1.Nodes, o_1.Attacks]) Tryd.underlying106 el_29 rfl (Nat.le_of_ble_eq_true rfl) ⟨(part_at rfl slv_at), ⟨(part_at rfl slv_at), trivial⟩⟩) rfl (fun _ => ?_)
  refine pull fun t4 h_t4 => ?_
  refine s_st (s_call (ψ := fun (x5 : (Value × List Nat)) => pv x5.1) (args := [.tmp 17]) Tryd.call56 rfl (slices_Concat_api_Fraction_api_Fraction_ok h_t4) ⟨arg rfl, trivial⟩ (fun _ _ _ _ h => h)) rfl (fun x5 => ?_)
  refine s_rd (r_olen Tryd.underlying29 rfl (j := 6) rfl) rfl ?_
  refine mv1 rfl rfl ?_
  refine l_nil ?_
  refine b_of (nrm [oc be_0 [slv (rI .i64) e_0], oc be_1 [iv .i64 e_1], tbO (rI .u8) 0 tab_0, oc b1 [iv .i64 g_0.N, slv rT_api_Pair g_0.L], oc b2 [slv rT_api_Fraction o_1.Nodes, slv rT_api_Fraction o_1.Attacks], oc b3 [pv (.func (.func 38) #[] #[(ptr be_0 0), (ptr be_1 0)])], oa rT_api_Fraction x5.1 x5.2 t4] rfl) ?_
  refine n_then ?_
  refine ref_loopB (f := (chance_worlds_s1_l1 t4)) (Γl := (fun (s14 : Int × Int) (x15 : Unit) => [(2, pv (.func (.func 38) #[] #[(ptr be_0 0), (ptr be_1 0)])), (3, pv (ptr b1 0)), (4, pv (ptr b2 0)), (5, pv (ptr b3 0)), (7, iv .i64 s14.1), (18, pv x5.1), (19, iv .i64 (t4.length : Int)), (20, iv .i64 s14.2)])) (Ωl := (fun (s14 : Int × Int) (x15 : Unit) => [tbO (rI .u8) 0 tab_0, oc be_0 [slv (rI .i64) e_0], oc be_1 [iv .i64 e_1], oc b1 [iv .i64 g_0.N, slv rT_api_Pair g_0.L], oc b2 [slv rT_api_Fraction o_1.Nodes, slv rT_api_Fraction o_1.Attacks], oc b3 [pv (.func (.func 38) #[] #[(ptr be_0 0), (ptr be_1 0)])], oa rT_api_Fraction x5.1 x5.2 t4])) (Γb := (fun (q22 : Int) (y23 : Unit) => [(2, pv (.func (.func 38) #[] #[(ptr be_0 0), (ptr be_1 0)])), (3, pv (ptr b1 0)), (4, pv (ptr b2 0)), (5, pv (ptr b3 0)), (7, iv .i64 q22)])) (Ωb := (fun (q22 : Int) (y23 : Unit) => [oc be_0 [slv (rI .i64) e_0], oc be_1 [iv .i64 e_1], oc b1 [iv .i64 g_0.N, slv rT_api_Pair g_0.L], oc b2 [slv rT_api_Fraction o_1.Nodes, slv rT_api_Fraction o_1.Attacks], oc b3 [pv (.func (.func 38) #[] #[(ptr be_0 0), (ptr be_1 0)])], tbO (rI .u8) 0 tab_0])) (1, 0) () (weak [2, 0, 1, 3, 4, 5, 6] ⟨rfl, rfl, rfl, rfl, rfl, rfl, rfl, rfl, trivial⟩ ⟨rfl, rfl, rfl, rfl, rfl, rfl, rfl, trivial⟩) (fun s14 x15 => ?_) (fun q22 y23 => ?_)
  · unfold chance_worlds_s1_l1
    refine ref_seq (ref_region ?_)
    refine s_rd (r_lss rfl rfl) rfl ?_
    refine l_nil (n_then (ref_seq ?_))
    refine ref_cond rfl (fun hb16 => ?_) (fun hb16 => ?_)
    · refine ref_skip (n_then (ref_seq (ref_block (ref_seq (ref_region ?_)))))
      refine pull fun t17 h_t17 => ?_
      refine s_rd (r_oindex h_t17 Tryd.underlying29 el_36 rfl (j := 6) rfl rfl) rfl ?_
      refine s_rd (r_oload h_t17 el_36 rfl (j := 6) rfl) rfl ?_
      refine s_st (s_alloc zt_36) rfl (fun b18 => ?_)
      refine s_st0 (s_cstore (out := [iv .i64 t17.Num, iv .i64 t17.Den]) Tryd.sizeOf36 rfl (j := 7) rfl (part_agO (ψs := [iv .i64 t17.Num, iv .i64 t17.Den]) rfl ⟨.inl iv_at, .inl iv_at, trivial⟩) rfl rfl rfl) (fun _ => ?_)
      refine l_nil (n_then (ref_seq (ref_region ?_)))
      refine s_rd (r_cloadS Tryd.isAgg36 Tryd.sizeOf36 rfl (j := 7) rfl rfl rfl) rfl ?_
      refine pull fun t19 h_t19 => ?_
      refine s_st (s_call (ψ := fun (_ : Unit) => bv t19) (args := [.tmp 24]) Tryd.call57 rfl (chance_certain_ok h_t19) ⟨arg rfl, trivial⟩ (fun _ _ _ _ h => h)) rfl (fun _ => ?_)
      refine s_rd (r_not rfl) rfl ?_
      refine l_nil (n_then ?_)
      refine ref_cond rfl (fun hb20 => ?_) (fun hb20 => ?_)
      · refine ref_region ?_
        refine mv1 rfl rfl ?_
        refine s_rd (r_faddr (fo := 1) Tryd.underlying36 rfl rfl Tryd.sizeOf3 rfl) rfl ?_
        refine s_rd (r_cload Tryd.isAgg3 rfl (j := 7) rfl rfl) rfl ?_
        refine s_rd (r_mul rfl rfl) rfl ?_
        refine as1 rfl rfl ?_
        refine b_let (f := iv .i64) (t := 7) rfl fun total21 => ?_
        refine l_nil (n_block (n_then (ref_region ?_)))
        refine s_rd (r_add rfl rfl) rfl ?_
        refine mv1 rfl rfl ?_
        refine l_nil ?_
        exact goB () (weak [0, 1, 2, 3, 4, 5, 6] ⟨rfl, rfl, rfl, rfl, rfl, rfl, rfl, rfl, trivial⟩ ⟨rfl, rfl, rfl, rfl, rfl, rfl, rfl, trivial⟩)
      refine ref_skip (n_block (n_then (ref_region ?_)))
      refine s_rd (r_add rfl rfl) rfl ?_
      refine mv1 rfl rfl ?_
      refine l_nil ?_
      exact goB () (weak [0, 1, 2, 3, 4, 5, 6] ⟨rfl, rfl, rfl, rfl, rfl, rfl, rfl, rfl, trivial⟩ ⟨rfl, rfl, rfl, rfl, rfl, rfl, rfl, trivial⟩)
    refine ref_exit (x_then ?_)
    exact brkB () (weak [1, 2, 3, 4, 5, 0] ⟨rfl, rfl, rfl, rfl, rfl, trivial⟩ ⟨rfl, rfl, rfl, rfl, rfl, rfl, trivial⟩)
  refine n_then (ref_seq (ref_region ?_))
  refine s_rd (r_faddr (fo := 0) Tryd.underlying31 rfl rfl Tryd.sizeOf29 rfl) rfl ?_
  refine s_rd (r_cload Tryd.isAgg29 rfl (j := 3) rfl rfl) rfl ?_
  refine s_rd (r_faddr (fo := 1) Tryd.underlying31 rfl rfl Tryd.sizeOf29 rfl) rfl ?_
  refine s_rd (r_cload Tryd.isAgg29 rfl (j := 3) rfl rfl) rfl ?_
  refine s_st (s_bslice (xs := [.tmp 33, .tmp 35]) (ds := [o_1.Nodes, o_1.Attacks]) Tryd.underlying106 el_29 rfl (Nat.le_of_ble_eq_true rfl) ⟨(part_at rfl slv_at), ⟨(part_at rfl slv_at), trivial⟩⟩) rfl (fun _ => ?_)
  refine pull fun t24 h_t24 => ?_
  refine s_st (s_call (ψ := fun (x25 : (Value × List Nat)) => pv x25.1) (args := [.tmp 36]) Tryd.call56 rfl (slices_Concat_api_Fraction_api_Fraction_ok h_t24) ⟨arg rfl, trivial⟩ (fun _ _ _ _ h => h)) rfl (fun x25 => ?_)
  refine s_st (s_alloc zt_29) rfl (fun b26 => ?_)
  refine s_st0 (s_cstore (out := [pv x25.1]) Tryd.sizeOf29 rfl (j := 7) rfl (part_own rfl (j := 6) rfl) rfl rfl rfl) (fun _ => ?_)
  refine l_nil ?_
  refine b_of (nrm [oc be_0 [slv (rI .i64) e_0], oc be_1 [iv .i64 e_1], oc b1 [iv .i64 g_0.N, slv rT_api_Pair g_0.L], oc b2 [slv rT_api_Fraction o_1.Nodes, slv rT_api_Fraction o_1.Attacks], oc b3 [pv (.func (.func 38) #[] #[(ptr be_0 0), (ptr be_1 0)])], tbO (rI .u8) 0 tab_0, oa rT_api_Fraction x25.1 x25.2 t24, oc b26 [pv x25.1]] rfl) ?_
  refine n_then (ref_seq (ref_region ?_))
  refine s_rd (r_cload Tryd.isAgg29 rfl (j := 7) rfl rfl) rfl ?_
  refine s_rd (r_olen Tryd.underlying29 rfl (j := 6) rfl) rfl ?_
  refine pull fun t27 h_t27 => ?_
  refine s_st (s_make h_t27 Tryd.underlying97 el_4 ze_4 rfl rfl) rfl (fun o28 => ?_)
  refine s_st (s_alloc zt_97) rfl (fun b29 => ?_)
  refine s_st0 (s_cstore (out := [pv o28.1]) Tryd.sizeOf97 rfl (j := 9) rfl (part_own rfl (j := 8) rfl) rfl rfl rfl) (fun _ => ?_)
  refine l_nil (n_then (ref_seq (ref_region ?_)))
  refine s_st (s_alloc zt_98) rfl (fun b30 => ?_)
  refine l_nil ?_
  refine b_of (nrm [oc be_0 [slv (rI .i64) e_0], oc be_1 [iv .i64 e_1], oc b1 [iv .i64 g_0.N, slv rT_api_Pair g_0.L], oc b2 [slv rT_api_Fraction o_1.Nodes, slv rT_api_Fraction o_1.Attacks], oc b3 [pv (.func (.func 38) #[] #[(ptr be_0 0), (ptr be_1 0)])], tbO (rI .u8) 0 tab_0, oa rT_api_Fraction x25.1 x25.2 t24, oc b26 [pv x25.1], oa rB o28.1 o28.2 t27, oc b29 [pv o28.1], oc b30 [pv .nilFunc]] rfl) ?_
  refine n_then (ref_seq (ref_region ?_))
  refine s_rd (r_mkfn (xs := [.tmp 10, .tmp 5, .tmp 3, .tmp 11, .tmp 12]) (vs := [(ptr b26 0), (ptr b3 0), (ptr b1 0), (ptr b29 0), (ptr b30 0)]) ⟨rfl, rfl, rfl, rfl, rfl, trivial⟩) rfl ?_
  refine s_st0 (s_cstore (out := [pv (.func (.func 62) #[] #[(ptr b26 0), (ptr b3 0), (ptr b1 0), (ptr b29 0), (ptr b30 0)])]) Tryd.sizeOf98 rfl (j := 10) rfl (part_at (φ := pv (.func (.func 62) #[] #[(ptr b26 0), (ptr b3 0), (ptr b1 0), (ptr b29 0), (ptr b30 0)])) rfl (pv_at rfl)) rfl rfl rfl) (fun _ => ?_)
  refine l_nil (n_then (ref_seq (ref_region ?_)))
  refine s_rd (r_cload Tryd.isAgg98 rfl (j := 10) rfl rfl) rfl ?_
  refine pull fun t31 h_t31 => ?_
  refine s_st (s_callC [7, 6, 4, 0, 1, 2, 9, 8, 10, 5] [true, true, true, true, true, true, true, true, true, true] (fun (_ : Unit) => [oc b26 [pv x25.1], oa rT_api_Fraction x25.1 x25.2 t24, oc b3 [pv (.func (.func 38) #[] #[(ptr be_0 0), (ptr be_1 0)])], oc be_0 [slv (rI .i64) e_0], oc be_1 [iv .i64 t31.1], oc b1 [iv .i64 g_0.N, slv rT_api_Pair g_0.L], oc b29 [pv o28.1], oa rB o28.1 o28.2 t31.2, oc b30 [pv (.func (.func 62) #[] #[(ptr b26 0), (ptr b3 0), (ptr b1 0), (ptr b29 0), (ptr b30 0)])], tbO (rI .u8) 0 tab_0]) (fun (_ : Unit) => []) (fun (_ : Unit) => tup []) (args := [.const (.int .i64 (0)), .const (.int .i64 (1))]) (caps := [(ptr b26 0), (ptr b3 0), (ptr b1 0), (ptr b29 0), (ptr b30 0)]) Tryd.call62 rfl (chance_worlds_1_1_ok h_t31) ⟨rfl, rfl, ⟨rfl, rfl, ⟨rfl, rfl, ⟨rfl, rfl, ⟨rfl, rfl, ⟨rfl, rfl, ⟨rfl, rfl, ⟨rfl, rfl, ⟨rfl, rfl, ⟨rfl, rfl, trivial⟩⟩⟩⟩⟩⟩⟩⟩⟩⟩ (fun _ => rfl) (fun _ => trivial) (fun _ => rfl) ⟨arg rfl, arg rfl, arg rfl, arg rfl, arg rfl, arg rfl, arg rfl, trivial⟩ (fun _ _ _ _ h => h)) rfl (fun _ => ?_)
  refine l_nil ?_
  refine b_of (nrm [oc be_0 [slv (rI .i64) e_0], oc be_1 [iv .i64 t31.1], oc b1 [iv .i64 g_0.N, slv rT_api_Pair g_0.L], oc b2 [slv rT_api_Fraction o_1.Nodes, slv rT_api_Fraction o_1.Attacks], oc b3 [pv (.func (.func 38) #[] #[(ptr be_0 0), (ptr be_1 0)])], tbO (rI .u8) 0 tab_0, oa rT_api_Fraction x25.1 x25.2 t24, oc b26 [pv x25.1], oa rB o28.1 o28.2 t31.2, oc b29 [pv o28.1], oc b30 [pv (.func (.func 62) #[] #[(ptr b26 0), (ptr b3 0), (ptr b1 0), (ptr b29 0), (ptr b30 0)])]] rfl) ?_
  refine n_then (ref_seq (ref_region ?_))
  refine mv1 rfl rfl ?_
  refine as1 rfl rfl ?_
  refine l_nil (n_then (ref_ret ?_))
  exact fin1 (.inl rfl) () [0, 1, 5] rfl ⟨rfl, rfl, rfl, trivial⟩ rfl (rv_tmp rfl)

/-! deliberation/chance.Extension -/
noncomputable def chance_Extension_m (g_0 : T_api_Graph) (o_1 : T_api_Odds) (set__2 : (List Int)) : Option (T_api_Fraction × Int) :=
  Option.bind (chance_arguments_m g_0 o_1 set__2 4) fun e5 =>
  bif e5 != 0 then
    some ((T_api_Fraction.mk 0 0), e5)
  else
    Option.bind (chance_worlds_s1_m g_0 o_1 set__2 0) fun total8 =>
    Option.bind (chance_reduced_m total8.2 total8.1) fun t9 =>
    some (t9, 0)

theorem chance_Extension_ok {g_0 : T_api_Graph} {o_1 : T_api_Odds} {set__2 : (List Int)} {r : T_api_Fraction × Int} (hm : chance_Extension_m g_0 o_1 set__2 = some r) :
    FnOk prog 18 [ag [iv .i64 g_0.N, slv rT_api_Pair g_0.L], ag [slv rT_api_Fraction o_1.Nodes, slv rT_api_Fraction o_1.Attacks], slv (rI .i64) set__2] [tbO (rI .u8) 0 tab_0] (fun (x : Unit) => [ag [iv .i64 r.1.Num, iv .i64 r.1.Den], iv .i64 r.2]) (fun (x : Unit) => [tbO (rI .u8) 0 tab_0]) := by
  refine fn_ok (fn := Tryd.f18) (N := 26) (res := fun r x => [ag [iv .i64 r.1.Num, iv .i64 r.1.Den], iv .i64 r.2]) (Ω1 := fun r x => [tbO (rI .u8) 0 tab_0]) Tryd.func18 rfl rfl hm rfl (fun E hM => ?_)
  unfold chance_Extension_m
  refine ref_seq (ref_region ?_)
  refine s_st (s_box (part_agO (ψs := [iv .i64 g_0.N, slv rT_api_Pair g_0.L]) rfl ⟨.inl iv_at, .inl slv_at, trivial⟩)) rfl (fun b1 => ?_)
  refine s_st (s_box (part_agO (ψs := [slv rT_api_Fraction o_1.Nodes, slv rT_api_Fraction o_1.Attacks]) rfl ⟨.inl slv_at, .inl slv_at, trivial⟩)) rfl (fun b2 => ?_)
  refine s_st (s_box (part_at rfl slv_at)) rfl (fun b3 => ?_)
  refine s_st (s_alloc zt_36) rfl (fun b4 => ?_)
  refine as1 rfl rfl ?_
  refine l_nil ?_
  refine b_of (nrm [tbO (rI .u8) 0 tab_0, oc b1 [iv .i64 g_0.N, slv rT_api_Pair g_0.L], oc b2 [slv rT_api_Fraction o_1.Nodes, slv rT_api_Fraction o_1.Attacks], oc b3 [slv (rI .i64) set__2], oc b4 [iv .i64 0, iv .i64 0]] rfl) ?_
  refine n_then (ref_seq (ref_seq (ref_region ?_)))
  refine s_rd (r_cloadS Tryd.isAgg27 Tryd.sizeOf27 rfl (j := 1) rfl rfl rfl) rfl ?_
  refine s_rd (r_cloadS Tryd.isAgg31 Tryd.sizeOf31 rfl (j := 2) rfl rfl rfl) rfl ?_
  refine s_rd (r_cload Tryd.isAgg22 rfl (j := 3) rfl rfl) rfl ?_
  refine pull fun e5 h_e5 => ?_
  refine s_st (s_call (ψ := fun (_ : Unit) => iv .i64 e5) (args := [.tmp 11, .tmp 12, .tmp 13, .const (.int .i64 (4))]) Tryd.call30 rfl (chance_arguments_ok h_e5) ⟨arg rfl, arg rfl, arg rfl, arg rfl, trivial⟩ (fun _ _ _ _ h => h)) rfl (fun _ => ?_)
  refine as1 rfl rfl ?_
  refine l_nil (n_then (ref_seq (ref_region ?_)))
  refine mv1 rfl rfl ?_
  refine s_rd (r_neq rfl rfl) rfl ?_
  refine l_nil (n_then ?_)
  refine ref_cond rfl (fun hb6 => ?_) (fun hb6 => ?_)
  · refine ref_seq (ref_region ?_)
    refine s_rd (r_build (ps := []) (rs := []) st_36 zs_36 trivial rfl rfl) rfl ?_
    refine mv1 rfl rfl ?_
    refine s_st0 (s_cstore (out := [iv .i64 0, iv .i64 0]) Tryd.sizeOf36 rfl (j := 4) rfl (part_agO (ψs := [iv .i64 0, iv .i64 0]) rfl ⟨.inl iv_at, .inl iv_at, trivial⟩) rfl rfl rfl) (fun _ => ?_)
    refine as1 rfl rfl ?_
    refine l_nil (n_then (ref_ret (r_then ?_)))
    exact fin2 (.inl rfl) () [0] rfl ⟨rfl, trivial⟩ rfl (rv_cell rfl (j := 4) rfl Tryd.isAgg36 Tryd.sizeOf36 rfl rfl) (rv_tmp rfl)
  refine ref_skip (n_then (ref_seq (ref_region ?_)))
  refine s_st (s_alloc zt_3) rfl (fun b7 => ?_)
  refine s_st0 (s_cstore (out := [iv .i64 0]) Tryd.sizeOf3 rfl (j := 5) rfl (part_at rfl iv_at) rfl rfl rfl) (fun _ => ?_)
  refine l_nil (n_then (ref_seq (ref_region ?_)))
  refine s_rd (r_cloadS Tryd.isAgg27 Tryd.sizeOf27 rfl (j := 1) rfl rfl rfl) rfl ?_
  refine s_rd (r_cloadS Tryd.isAgg31 Tryd.sizeOf31 rfl (j := 2) rfl rfl rfl) rfl ?_
  refine s_rd (r_mkfn (xs := [.tmp 5, .tmp 9]) (vs := [(ptr b3 0), (ptr b7 0)]) ⟨rfl, rfl, trivial⟩) rfl ?_
  refine pull fun total8 h_total8 => ?_
  refine s_st (s_callC [3, 5, 0] [true, true, true] (fun (_ : Unit) => [oc b3 [slv (rI .i64) set__2], oc b7 [iv .i64 total8.2], tbO (rI .u8) 0 tab_0]) (fun (_ : Unit) => []) (fun (_ : Unit) => iv .i64 total8.1) (args := [.tmp 19, .tmp 20, .tmp 21]) (caps := []) Tryd.call37 rfl (chance_worlds_s1_ok h_total8) ⟨rfl, rfl, ⟨rfl, rfl, ⟨rfl, rfl, trivial⟩⟩⟩ (fun _ => rfl) (fun _ => trivial) (fun _ => rfl) ⟨arg rfl, arg rfl, arg rfl, trivial⟩ (fun _ _ _ _ h => h)) rfl (fun _ => ?_)
  refine as1 rfl rfl ?_
  refine l_nil ?_
  refine b_of (nrm [tbO (rI .u8) 0 tab_0, oc b1 [iv .i64 g_0.N, slv rT_api_Pair g_0.L], oc b2 [slv rT_api_Fraction o_1.Nodes, slv rT_api_Fraction o_1.Attacks], oc b3 [slv (rI .i64) set__2], oc b4 [iv .i64 0, iv .i64 0], oc b7 [iv .i64 total8.2]] rfl) ?_
  refine n_then (ref_seq (ref_region ?_))
  refine s_rd (r_cload Tryd.isAgg3 rfl (j := 5) rfl rfl) rfl ?_
  refine mv1 rfl rfl ?_
  refine pull fun t9 h_t9 => ?_
  refine s_st (s_call (ψ := fun (_ : Unit) => ag [iv .i64 t9.Num, iv .i64 t9.Den]) (args := [.tmp 23, .tmp 24]) Tryd.call31 rfl (chance_reduced_ok h_t9) ⟨arg rfl, arg rfl, trivial⟩ (fun _ _ _ _ h => h)) rfl (fun _ => ?_)
  refine s_st0 (s_cstore (out := [iv .i64 t9.Num, iv .i64 t9.Den]) Tryd.sizeOf36 rfl (j := 4) rfl (part_agO (ψs := [iv .i64 t9.Num, iv .i64 t9.Den]) rfl ⟨.inl iv_at, .inl iv_at, trivial⟩) rfl rfl rfl) (fun _ => ?_)
  refine as1 rfl rfl ?_
  refine l_nil (n_then (ref_ret ?_))
  exact fin2 (.inl rfl) () [0] rfl ⟨rfl, trivial⟩ rfl (rv_cell rfl (j := 4) rfl Tryd.isAgg36 Tryd.sizeOf36 rfl rfl) (rv_tmp rfl)

/-! deliberation/deliberationref23.Extension -/
noncomputable def ref23_Extension_l2 (g_0 : T_api_Graph) (set__2 : (List Int)) (t31 : T_deliberationref23_world) (s38 : Bool × Int) : Option (Sum (Bool) (Bool × Int)) :=
  bif decide (s38.2 < g_0.N) then
    bif s38.1 then
      Option.bind (ref23_Accepted_m t31.g t31.gone s38.2 4) fun t41 =>
      Option.bind (net_In_m set__2 s38.2) fun t42 =>
      letM (iadd .i64 s38.2 1) fun a_43 =>
      some (Sum.inr (t41 == t42, a_43))
    else
      letM (iadd .i64 s38.2 1) fun a_44 =>
      some (Sum.inr (false, a_44))
  else
    some (Sum.inl s38.1)

noncomputable def ref23_Extension_l1 (g_0 : T_api_Graph) (set__2 : (List Int)) (t6 : List T_deliberationref23_world × Int) (s28 : Int × Int) : Option (Sum (Int) (Int × Int)) :=
  bif decide (s28.2 < (t6.1.length : Int)) then
    Option.bind (idxM t6.1 s28.2) fun t31 =>
    Option.bind (loopC (ref23_Extension_l2 g_0 set__2 t31) (true, 0)) fun q45 : Bool =>
    bif q45 then
      letM (iadd .i64 s28.1 t31.num) fun sum48 =>
      some (Sum.inr (sum48, iadd .i64 s28.2 1))
    else
      some (Sum.inr (s28.1, iadd .i64 s28.2 1))
  else
    some (Sum.inl s28.1)

noncomputable def ref23_Extension_m (g_0 : T_api_Graph) (o_1 : T_api_Odds) (set__2 : (List Int)) : Option (T_api_Fraction × Int) :=
  Option.bind (ref23_possible_m g_0 o_1 set__2 4) fun e4 =>
  bif e4 != 0 then
    some ((T_api_Fraction.mk 0 0), e4)
  else
    Option.bind (ref23_worlds_m g_0 o_1) fun t6 =>
    Option.bind (loopC (ref23_Extension_l1 g_0 set__2 t6) (0, 0)) fun q49 : Int =>
    Option.bind (ref22_Reduced_m q49 t6.2) fun t51 =>
    some (t51, 0)

theorem ref23_Extension_ok {g_0 : T_api_Graph} {o_1 : T_api_Odds} {set__2 : (List Int)} {r : T_api_Fraction × Int} (hm : ref23_Extension_m g_0 o_1 set__2 = some r) :
    FnOk prog 26 [ag [iv .i64 g_0.N, slv rT_api_Pair g_0.L], ag [slv rT_api_Fraction o_1.Nodes, slv rT_api_Fraction o_1.Attacks], slv (rI .i64) set__2] [] (fun (x : Unit) => [ag [iv .i64 r.1.Num, iv .i64 r.1.Den], iv .i64 r.2]) (fun (x : Unit) => []) := by
  refine fn_ok (fn := Tryd.f26) (N := 64) (res := fun r x => [ag [iv .i64 r.1.Num, iv .i64 r.1.Den], iv .i64 r.2]) (Ω1 := fun r x => []) Tryd.func26 rfl rfl hm rfl (fun E hM => ?_)
  unfold ref23_Extension_m
  refine ref_seq (ref_region ?_)
  refine s_st (s_box (part_agO (ψs := [iv .i64 g_0.N, slv rT_api_Pair g_0.L]) rfl ⟨.inl iv_at, .inl slv_at, trivial⟩)) rfl (fun b1 => ?_)
  refine s_st (s_box (part_agO (ψs := [slv rT_api_Fraction o_1.Nodes, slv rT_api_Fraction o_1.Attacks]) rfl ⟨.inl slv_at, .inl slv_at, trivial⟩)) rfl (fun b2 => ?_)
  refine s_st (s_alloc zt_36) rfl (fun b3 => ?_)
  refine as1 rfl rfl ?_
  refine l_nil (n_then (ref_seq (ref_seq (ref_region ?_))))
  refine s_rd (r_cloadS Tryd.isAgg27 Tryd.sizeOf27 rfl (j := 0) rfl rfl rfl) rfl ?_
  refine s_rd (r_cloadS Tryd.isAgg31 Tryd.sizeOf31 rfl (j := 1) rfl rfl rfl) rfl ?_
  refine mv1 rfl rfl ?_
  refine pull fun e4 h_e4 => ?_
  refine s_st (s_call (ψ := fun (_ : Unit) => iv .i64 e4) (args := [.tmp 16, .tmp 17, .tmp 18, .const (.int .i64 (4))]) Tryd.call48 rfl (ref23_possible_ok h_e4) ⟨arg rfl, arg rfl, arg rfl, arg rfl, trivial⟩ (fun _ _ _ _ h => h)) rfl (fun _ => ?_)
  refine as1 rfl rfl ?_
  refine l_nil ?_
  refine b_of (nrm [oc b1 [iv .i64 g_0.N, slv rT_api_Pair g_0.L], oc b2 [slv rT_api_Fraction o_1.Nodes, slv rT_api_Fraction o_1.Attacks], oc b3 [iv .i64 0, iv .i64 0]] rfl) ?_
  refine n_then (ref_seq (ref_region ?_))
  refine mv1 rfl rfl ?_
  refine s_rd (r_neq rfl rfl) rfl ?_
  refine l_nil (n_then ?_)
  refine ref_cond rfl (fun hb5 => ?_) (fun hb5 => ?_)
  · refine ref_seq (ref_region ?_)
    refine s_rd (r_build (ps := []) (rs := []) st_36 zs_36 trivial rfl rfl) rfl ?_
    refine mv1 rfl rfl ?_
    refine s_st0 (s_cstore (out := [iv .i64 0, iv .i64 0]) Tryd.sizeOf36 rfl (j := 2) rfl (part_agO (ψs := [iv .i64 0, iv .i64 0]) rfl ⟨.inl iv_at, .inl iv_at, trivial⟩) rfl rfl rfl) (fun _ => ?_)
    refine as1 rfl rfl ?_
    refine l_nil (n_then (ref_ret (r_then ?_)))
    exact fin2 (.inl rfl) () [] rfl trivial rfl (rv_cell rfl (j := 2) rfl Tryd.isAgg36 Tryd.sizeOf36 rfl rfl) (rv_tmp rfl)
  refine ref_skip (n_then (ref_seq (ref_region ?_)))
  refine s_rd (r_cloadS Tryd.isAgg27 Tryd.sizeOf27 rfl (j := 0) rfl rfl rfl) rfl ?_
  refine s_rd (r_cloadS Tryd.isAgg31 Tryd.sizeOf31 rfl (j := 1) rfl rfl rfl) rfl ?_
  refine pull fun t6 h_t6 => ?_
  refine s_st (s_call (ψ := fun (_ : Unit) => tup [slv rT_deliberationref23_world t6.1, iv .i64 t6.2]) (args := [.tmp 25, .tmp 26]) Tryd.call49 rfl (ref23_worlds_ok h_t6) ⟨arg rfl, arg rfl, trivial⟩ (fun _ _ _ _ h => h)) rfl (fun _ => ?_)
  refine mv1 rfl rfl ?_
  refine s_rd (r_extract rfl rfl) rfl ?_
  refine s_rd (r_extract rfl rfl) rfl ?_
  refine as1 rfl rfl ?_
  refine as1 rfl rfl ?_
  refine l_nil (n_then (ref_seq (ref_region ?_)))
  refine as1 rfl rfl ?_
  refine l_nil (n_then (ref_seq (ref_seq (ref_region ?_))))
  refine mv1 rfl rfl ?_
  refine s_rd (r_len Tryd.underlying85 rfl) rfl ?_
  refine mv1 rfl rfl ?_
  refine l_nil (n_then ?_)
  refine ref_loopB (f := (ref23_Extension_l1 g_0 set__2 t6)) (Γl := (fun (s28 : Int × Int) (x29 : Unit) => [(2, slv (rI .i64) set__2), (3, pv (ptr b1 0)), (6, pv (ptr b3 0)), (10, iv .i64 t6.2), (11, iv .i64 s28.1), (30, slv rT_deliberationref23_world t6.1), (31, iv .i64 (t6.1.length : Int)), (32, iv .i64 s28.2)])) (Ωl := (fun (s28 : Int × Int) (x29 : Unit) => [oc b1 [iv .i64 g_0.N, slv rT_api_Pair g_0.L], oc b3 [iv .i64 0, iv .i64 0]])) (Γb := (fun (q49 : Int) (y50 : Unit) => [(6, pv (ptr b3 0)), (10, iv .i64 t6.2), (11, iv .i64 q49)])) (Ωb := (fun (q49 : Int) (y50 : Unit) => [oc b3 [iv .i64 0, iv .i64 0]])) (0, 0) () (weak [0, 2] ⟨rfl, rfl, rfl, rfl, rfl, rfl, rfl, rfl, trivial⟩ ⟨rfl, rfl, trivial⟩) (fun s28 x29 => ?_) (fun q49 y50 => ?_)
  · unfold ref23_Extension_l1
    refine ref_seq (ref_region ?_)
    refine s_rd (r_lss rfl rfl) rfl ?_
    refine l_nil (n_then (ref_seq ?_))
    refine ref_cond rfl (fun hb30 => ?_) (fun hb30 => ?_)
    · refine ref_skip (n_then (ref_seq (ref_block (ref_seq (ref_region ?_)))))
      refine pull fun t31 h_t31 => ?_
      refine s_rd (r_index h_t31 Tryd.underlying85 el_89 rfl rfl) rfl ?_
      refine s_rd (r_load el_89 rfl) rfl ?_
      refine s_st (s_alloc zt_89) rfl (fun b32 => ?_)
      refine s_st0 (s_cstore (out := [iv .i64 t31.g.N, slv rT_api_Pair t31.g.L, slv (rI .i64) t31.gone, iv .i64 t31.num]) Tryd.sizeOf89 rfl (j := 2) rfl (part_agO (ψs := [iv .i64 t31.g.N, slv rT_api_Pair t31.g.L, slv (rI .i64) t31.gone, iv .i64 t31.num]) rfl ⟨.inl iv_at, .inl slv_at, .inl slv_at, .inl iv_at, trivial⟩) rfl rfl rfl) (fun _ => ?_)
      refine l_nil (n_then (ref_seq (ref_region ?_)))
      refine as1 rfl rfl ?_
      refine l_nil (n_then (ref_seq (ref_seq (ref_region ?_))))
      refine as1 rfl rfl ?_
      refine l_nil (n_then ?_)
      refine ref_loopB (f := (ref23_Extension_l2 g_0 set__2 t31)) (Γl := (fun (s38 : Bool × Int) (x39 : Unit) => [(2, slv (rI .i64) set__2), (3, pv (ptr b1 0)), (6, pv (ptr b3 0)), (10, iv .i64 t6.2), (11, iv .i64 s28.1), (13, pv (ptr b32 0)), (14, bv s38.1), (15, iv .i64 s38.2), (30, slv rT_deliberationref23_world t6.1), (31, iv .i64 (t6.1.length : Int)), (32, iv .i64 s28.2)])) (Ωl := (fun (s38 : Bool × Int) (x39 : Unit) => [oc b1 [iv .i64 g_0.N, slv rT_api_Pair g_0.L], oc b3 [iv .i64 0, iv .i64 0], oc b32 [iv .i64 t31.g.N, slv rT_api_Pair t31.g.L, slv (rI .i64) t31.gone, iv .i64 t31.num]])) (Γb := (fun (q45 : Bool) (y46 : Unit) => [(2, slv (rI .i64) set__2), (3, pv (ptr b1 0)), (6, pv (ptr b3 0)), (10, iv .i64 t6.2), (11, iv .i64 s28.1), (13, pv (ptr b32 0)), (14, bv q45), (30, slv rT_deliberationref23_world t6.1), (31, iv .i64 (t6.1.length : Int)), (32, iv .i64 s28.2)])) (Ωb := (fun (q45 : Bool) (y46 : Unit) => [oc b1 [iv .i64 g_0.N, slv rT_api_Pair g_0.L], oc b3 [iv .i64 0, iv .i64 0], oc b32 [iv .i64 t31.g.N, slv rT_api_Pair t31.g.L, slv (rI .i64) t31.gone, iv .i64 t31.num]])) (true, 0) () (weak [0, 1, 2] ⟨rfl, rfl, rfl, rfl, rfl, rfl, rfl, rfl, rfl, rfl, rfl, trivial⟩ ⟨rfl, rfl, rfl, trivial⟩) (fun s38 x39 => ?_) (fun q45 y46 => ?_)
      · unfold ref23_Extension_l2
        refine ref_seq (ref_seq (ref_region ?_))
        refine mv1 rfl rfl ?_
        refine s_rd (r_faddr (fo := 0) Tryd.underlying27 rfl rfl Tryd.sizeOf3 rfl) rfl ?_
        refine s_rd (r_cload Tryd.isAgg3 rfl (j := 0) rfl rfl) rfl ?_
        refine s_rd (r_lss rfl rfl) rfl ?_
        refine l_nil (n_then ?_)
        refine ref_cond rfl (fun hb40 => ?_) (fun hb40 => ?_)
        · refine ref_skip (n_then (ref_seq (ref_block (ref_region ?_))))
          refine mv1 rfl rfl ?_
          refine mv1 rfl rfl ?_
          refine b_split (t := 43) rfl (fun _ => ?_) (fun _ => ?_)
          · refine s_on rfl rfl rfl ?_
            refine s_rd (r_faddr (fo := 0) Tryd.underlying89 rfl rfl Tryd.sizeOf27 rfl) rfl ?_
            refine s_on rfl rfl rfl ?_
            refine s_rd (r_cloadS Tryd.isAgg27 Tryd.sizeOf27 rfl (j := 2) rfl rfl rfl) rfl ?_
            refine s_on rfl rfl rfl ?_
            refine s_rd (r_faddr (fo := 2) Tryd.underlying89 rfl rfl Tryd.sizeOf22 rfl) rfl ?_
            refine s_on rfl rfl rfl ?_
            refine s_rd (r_cload Tryd.isAgg22 rfl (j := 2) rfl rfl) rfl ?_
            refine s_on rfl rfl rfl ?_
            refine mv1 rfl rfl ?_
            refine s_on rfl rfl rfl ?_
            refine pull fun t41 h_t41 => ?_
            refine s_st (s_call (ψ := fun (_ : Unit) => bv t41) (args := [.tmp 45, .tmp 47, .tmp 48, .const (.int .i64 (4))]) Tryd.call21 rfl (ref23_Accepted_ok h_t41) ⟨arg rfl, arg rfl, arg rfl, arg rfl, trivial⟩ (fun _ _ _ _ h => h)) rfl (fun _ => ?_)
            refine s_on rfl rfl rfl ?_
            refine mv1 rfl rfl ?_
            refine s_on rfl rfl rfl ?_
            refine mv1 rfl rfl ?_
            refine s_on rfl rfl rfl ?_
            refine pull fun t42 h_t42 => ?_
            refine s_st (s_call (ψ := fun (_ : Unit) => bv t42) (args := [.tmp 50, .tmp 51]) Tryd.call44 rfl (net_In_ok h_t42) ⟨arg rfl, arg rfl, trivial⟩ (fun _ _ _ _ h => h)) rfl (fun _ => ?_)
            refine s_on rfl rfl rfl ?_
            refine s_rd (r_beql Tryd.underlying4 rfl rfl) rfl ?_
            refine s_rd (r_pickT rfl rfl) rfl ?_
            refine as1 rfl rfl ?_
            refine l_nil ?_
            refine b_of (nrm [oc b1 [iv .i64 g_0.N, slv rT_api_Pair g_0.L], oc b3 [iv .i64 0, iv .i64 0], oc b32 [iv .i64 t31.g.N, slv rT_api_Pair t31.g.L, slv (rI .i64) t31.gone, iv .i64 t31.num]] rfl) ?_
            refine n_block (n_then (ref_region ?_))
            refine mv1 rfl rfl ?_
            refine s_rd (r_add rfl rfl) rfl ?_
            refine as1 rfl rfl ?_
            refine b_let (f := iv .i64) (t := 15) rfl fun a_43 => ?_
            refine l_nil ?_
            exact goB () (weak [0, 1, 2] ⟨rfl, rfl, rfl, rfl, rfl, rfl, rfl, rfl, rfl, rfl, rfl, trivial⟩ ⟨rfl, rfl, rfl, trivial⟩)
          refine s_off rfl rfl rfl rfl rfl ?_
          refine s_off rfl rfl rfl rfl rfl ?_
          refine s_off rfl rfl rfl rfl rfl ?_
          refine s_off rfl rfl rfl rfl rfl ?_
          refine s_off rfl rfl rfl rfl rfl ?_
          refine s_off rfl rfl rfl rfl rfl ?_
          refine s_off rfl rfl rfl rfl rfl ?_
          refine s_off rfl rfl rfl rfl rfl ?_
          refine s_off rfl rfl rfl rfl rfl ?_
          refine s_off rfl rfl rfl rfl rfl ?_
          refine s_rd (r_pickF rfl rfl) rfl ?_
          refine as1 rfl rfl ?_
          refine l_nil (n_block (n_then (ref_region ?_)))
          refine mv1 rfl rfl ?_
          refine s_rd (r_add rfl rfl) rfl ?_
          refine as1 rfl rfl ?_
          refine b_let (f := iv .i64) (t := 15) rfl fun a_44 => ?_
          refine l_nil ?_
          exact goB () (weak [0, 1, 2] ⟨rfl, rfl, rfl, rfl, rfl, rfl, rfl, rfl, rfl, rfl, rfl, trivial⟩ ⟨rfl, rfl, rfl, trivial⟩)
        refine ref_exit (x_then ?_)
        exact brkB () (weak [0, 1, 2] ⟨rfl, rfl, rfl, rfl, rfl, rfl, rfl, rfl, rfl, rfl, trivial⟩ ⟨rfl, rfl, rfl, trivial⟩)
      refine n_then (ref_seq (ref_region ?_))
      refine mv1 rfl rfl ?_
      refine l_nil (n_then ?_)
      refine ref_cond rfl (fun hb47 => ?_) (fun hb47 => ?_)
      · refine ref_region ?_
        refine mv1 rfl rfl ?_
        refine s_rd (r_faddr (fo := 3) Tryd.underlying89 rfl rfl Tryd.sizeOf3 rfl) rfl ?_
        refine s_rd (r_cload Tryd.isAgg3 rfl (j := 2) rfl rfl) rfl ?_
        refine s_rd (r_add rfl rfl) rfl ?_
        refine as1 rfl rfl ?_
        refine b_let (f := iv .i64) (t := 11) rfl fun sum48 => ?_
        refine l_nil (n_block (n_then (ref_region ?_)))
        refine s_rd (r_add rfl rfl) rfl ?_
        refine mv1 rfl rfl ?_
        refine l_nil ?_
        exact goB () (weak [0, 1] ⟨rfl, rfl, rfl, rfl, rfl, rfl, rfl, rfl, trivial⟩ ⟨rfl, rfl, trivial⟩)
      refine ref_skip (n_block (n_then (ref_region ?_)))
      refine s_rd (r_add rfl rfl) rfl ?_
      refine mv1 rfl rfl ?_
      refine l_nil ?_
      exact goB () (weak [0, 1] ⟨rfl, rfl, rfl, rfl, rfl, rfl, rfl, rfl, trivial⟩ ⟨rfl, rfl, trivial⟩)
    refine ref_exit (x_then ?_)
    exact brkB () (weak [1] ⟨rfl, rfl, rfl, trivial⟩ ⟨rfl, trivial⟩)
  refine n_then (ref_seq (ref_region ?_))
  refine mv1 rfl rfl ?_
  refine mv1 rfl rfl ?_
  refine pull fun t51 h_t51 => ?_
  refine s_st (s_call (ψ := fun (_ : Unit) => ag [iv .i64 t51.Num, iv .i64 t51.Den]) (args := [.tmp 61, .tmp 62]) Tryd.call15 rfl (ref22_Reduced_ok h_t51) ⟨arg rfl, arg rfl, trivial⟩ (fun _ _ _ _ h => h)) rfl (fun _ => ?_)
  refine s_st0 (s_cstore (out := [iv .i64 t51.Num, iv .i64 t51.Den]) Tryd.sizeOf36 rfl (j := 0) rfl (part_agO (ψs := [iv .i64 t51.Num, iv .i64 t51.Den]) rfl ⟨.inl iv_at, .inl iv_at, trivial⟩) rfl rfl rfl) (fun _ => ?_)
  refine as1 rfl rfl ?_
  refine l_nil (n_then (ref_ret ?_))
  exact fin2 (.inl rfl) () [] rfl trivial rfl (rv_cell rfl (j := 0) rfl Tryd.isAgg36 Tryd.sizeOf36 rfl rfl) (rv_tmp rfl)

/-! deliberation/chance.Certain$1 -/
noncomputable def chance_Certain_1_m (f_0 : T_api_Fraction) : Option (Bool) :=
  letM (f_0.Num == f_0.Den) fun t2 =>
  some t2

theorem chance_Certain_1_ok {f_0 : T_api_Fraction} {r : Bool} (hm : chance_Certain_1_m f_0 = some r) :
    FnOk prog 42 [ag [iv .i64 f_0.Num, iv .i64 f_0.Den]] [] (fun (x : Unit) => [bv r]) (fun (x : Unit) => []) := by
  refine fn_ok (fn := Tryd.f42) (N := 8) (res := fun r x => [bv r]) (Ω1 := fun r x => []) Tryd.func42 rfl rfl hm rfl (fun E hM => ?_)
  unfold chance_Certain_1_m
  refine ref_seq (ref_region ?_)
  refine s_st (s_box (part_agO (ψs := [iv .i64 f_0.Num, iv .i64 f_0.Den]) rfl ⟨.inl iv_at, .inl iv_at, trivial⟩)) rfl (fun b1 => ?_)
  refine as1 rfl rfl ?_
  refine l_nil (n_then (ref_seq (ref_region ?_)))
  refine s_rd (r_faddr (fo := 0) Tryd.underlying36 rfl rfl Tryd.sizeOf3 rfl) rfl ?_
  refine s_rd (r_cload Tryd.isAgg3 rfl (j := 0) rfl rfl) rfl ?_
  refine s_rd (r_faddr (fo := 1) Tryd.underlying36 rfl rfl Tryd.sizeOf3 rfl) rfl ?_
  refine s_rd (r_cload Tryd.isAgg3 rfl (j := 0) rfl rfl) rfl ?_
  refine s_rd (r_eql rfl rfl) rfl ?_
  refine as1 rfl rfl ?_
  refine b_let (f := bv) (t := 2) rfl fun t2 => ?_
  refine l_nil (n_then (ref_ret ?_))
  exact fin1 (.inl rfl) () [] rfl trivial rfl (rv_tmp rfl)

/-! deliberation/chance.Certain -/
noncomputable def chance_Certain_l1 (o_1 : T_api_Odds) (s27 : Int × (List Int)) : Option (Sum ((List Int)) (Int × (List Int))) :=
  bif decide (s27.1 < (o_1.Nodes.length : Int)) then
    Option.bind (idxM o_1.Nodes s27.1) fun t30 =>
    Option.bind (chance_Certain_1_m t30) fun t32 =>
    bif t32 then
      Option.bind (appM 8 s27.2 [s27.1]) fun nodes34 =>
      some (Sum.inr (iadd .i64 s27.1 1, nodes34))
    else
      some (Sum.inr (iadd .i64 s27.1 1, s27.2))
  else
    some (Sum.inl s27.2)

noncomputable def chance_Certain_l2 (g_0 : T_api_Graph) (o_1 : T_api_Odds) (s89 : Int × (List T_api_Pair)) : Option (Sum ((List T_api_Pair)) (Int × (List T_api_Pair))) :=
  bif decide (s89.1 < (g_0.L.length : Int)) then
    Option.bind (idxM g_0.L s89.1) fun t92 =>
    joinM (fun j100 : Bool =>
        bif j100 then
          Option.bind (appM 16 s89.2 [t92]) fun t104 =>
          some (Sum.inr (iadd .i64 s89.1 1, t104))
        else
          some (Sum.inr (iadd .i64 s89.1 1, s89.2))) fun k102 =>
    Option.bind (idxM o_1.Attacks s89.1) fun t94 =>
    Option.bind (chance_Certain_1_m t94) fun t95 =>
    bif t95 then
      Option.bind (idxM o_1.Nodes t92.From) fun t96 =>
      Option.bind (chance_Certain_1_m t96) fun t97 =>
      bif t97 then
        Option.bind (idxM o_1.Nodes t92.To) fun t98 =>
        Option.bind (chance_Certain_1_m t98) fun t99 =>
        k102 t99
      else
        k102 false
    else
      k102 false
  else
    some (Sum.inl s89.2)

noncomputable def chance_Certain_m (g_0 : T_api_Graph) (o_1 : T_api_Odds) : Option (T_api_Graph × List Int × Int) :=
  Option.bind (graph_Validate_m g_0) fun e4 =>
  bif e4 != 0 then
    some ((T_api_Graph.mk 0 []), [], e4)
  else
    Option.bind (chance_fits_m g_0 o_1) fun t6 =>
    bif !t6 then
      some ((T_api_Graph.mk 0 []), [], 1)
    else
      Option.bind (loopC (chance_Certain_l1 o_1) (0, [])) fun q36 : (List Int) =>
      Option.bind (loopC (chance_Certain_l2 g_0 o_1) (0, [])) fun q106 : (List T_api_Pair) =>
      some ((T_api_Graph.mk g_0.N q106), q36, 0)

theorem chance_Certain_ok {g_0 : T_api_Graph} {o_1 : T_api_Odds} {r : T_api_Graph × List Int × Int} (hm : chance_Certain_m g_0 o_1 = some r) :
    FnOk prog 20 [ag [iv .i64 g_0.N, slv rT_api_Pair g_0.L], ag [slv rT_api_Fraction o_1.Nodes, slv rT_api_Fraction o_1.Attacks]] [] (fun (x : (Value × List Nat)) => [ag [iv .i64 r.1.N, slv rT_api_Pair r.1.L], pv x.1, iv .i64 r.2.2]) (fun (x : (Value × List Nat)) => [oa (rI .i64) x.1 x.2 r.2.1]) := by
  refine fn_ok (X := (Value × List Nat)) (fn := Tryd.f20) (N := 89) (res := fun r x => [ag [iv .i64 r.1.N, slv rT_api_Pair r.1.L], pv x.1, iv .i64 r.2.2]) (Ω1 := fun r x => [oa (rI .i64) x.1 x.2 r.2.1]) Tryd.func20 rfl rfl hm rfl (fun E hM => ?_)
  unfold chance_Certain_m
  refine ref_seq (ref_region ?_)
  refine s_st (s_box (part_agO (ψs := [iv .i64 g_0.N, slv rT_api_Pair g_0.L]) rfl ⟨.inl iv_at, .inl slv_at, trivial⟩)) rfl (fun b1 => ?_)
  refine s_st (s_box (part_agO (ψs := [slv rT_api_Fraction o_1.Nodes, slv rT_api_Fraction o_1.Attacks]) rfl ⟨.inl slv_at, .inl slv_at, trivial⟩)) rfl (fun b2 => ?_)
  refine s_st (s_alloc zt_27) rfl (fun b3 => ?_)
  refine as1 rfl rfl ?_
  refine as1 rfl rfl ?_
  refine l_nil (n_then (ref_seq (ref_seq (ref_region ?_))))
  refine s_rd (r_cloadS Tryd.isAgg27 Tryd.sizeOf27 rfl (j := 0) rfl rfl rfl) rfl ?_
  refine pull fun e4 h_e4 => ?_
  refine s_st (s_call (ψ := fun (_ : Unit) => iv .i64 e4) (args := [.tmp 15]) Tryd.call40 rfl (graph_Validate_ok h_e4) ⟨arg rfl, trivial⟩ (fun _ _ _ _ h => h)) rfl (fun _ => ?_)
  refine as1 rfl rfl ?_
  refine l_nil ?_
  refine b_of (nrm [oc b1 [iv .i64 g_0.N, slv rT_api_Pair g_0.L], oc b2 [slv rT_api_Fraction o_1.Nodes, slv rT_api_Fraction o_1.Attacks], oc b3 [iv .i64 0, pv (.slice none 0 0)]] rfl) ?_
  refine n_then (ref_seq (ref_region ?_))
  refine mv1 rfl rfl ?_
  refine s_rd (r_neq rfl rfl) rfl ?_
  refine l_nil (n_then ?_)
  refine ref_cond rfl (fun hb5 => ?_) (fun hb5 => ?_)
  · refine ref_seq (ref_region ?_)
    refine s_rd (r_build (ps := []) (rs := []) st_27 zs_27 trivial rfl rfl) rfl ?_
    refine mv1 rfl rfl ?_
    refine s_st0 (s_cstore (out := [iv .i64 0, pv (.slice none 0 0)]) Tryd.sizeOf27 rfl (j := 2) rfl (part_agO (ψs := [iv .i64 0, pv (.slice none 0 0)]) rfl ⟨.inl iv_at, .inl (pv_at rfl), trivial⟩) rfl rfl rfl) (fun _ => ?_)
    refine as1 rfl rfl ?_
    refine as1 rfl rfl ?_
    refine l_nil (n_then (ref_ret (r_then ?_)))
    refine b_of (own_nil (rI .i64)) ?_
    refine b_of (ocW 2 [iv .i64 0, slv rT_api_Pair []] rfl ⟨imp_rfl, nil_sl, trivial⟩) ?_
    exact fin3 (.inl rfl) ((.slice none 0 0), []) [3] rfl ⟨rfl, trivial⟩ rfl (rv_cell rfl (j := 2) rfl Tryd.isAgg27 Tryd.sizeOf27 rfl rfl) (rv_tmp rfl) (rv_tmp rfl)
  refine ref_skip (n_then (ref_seq (ref_seq (ref_region ?_))))
  refine s_rd (r_cloadS Tryd.isAgg27 Tryd.sizeOf27 rfl (j := 0) rfl rfl rfl) rfl ?_
  refine s_rd (r_cloadS Tryd.isAgg31 Tryd.sizeOf31 rfl (j := 1) rfl rfl rfl) rfl ?_
  refine pull fun t6 h_t6 => ?_
  refine s_st (s_call (ψ := fun (_ : Unit) => bv t6) (args := [.tmp 21, .tmp 22]) Tryd.call41 rfl (chance_fits_ok h_t6) ⟨arg rfl, arg rfl, trivial⟩ (fun _ _ _ _ h => h)) rfl (fun _ => ?_)
  refine s_rd (r_not rfl) rfl ?_
  refine l_nil (n_then ?_)
  refine ref_cond rfl (fun hb7 => ?_) (fun hb7 => ?_)
  · refine ref_seq (ref_region ?_)
    refine s_rd (r_build (ps := []) (rs := []) st_27 zs_27 trivial rfl rfl) rfl ?_
    refine s_st0 (s_cstore (out := [iv .i64 0, pv (.slice none 0 0)]) Tryd.sizeOf27 rfl (j := 2) rfl (part_agO (ψs := [iv .i64 0, pv (.slice none 0 0)]) rfl ⟨.inl iv_at, .inl (pv_at rfl), trivial⟩) rfl rfl rfl) (fun _ => ?_)
    refine as1 rfl rfl ?_
    refine as1 rfl rfl ?_
    refine l_nil (n_then (ref_ret (r_then ?_)))
    refine b_of (own_nil (rI .i64)) ?_
    refine b_of (ocW 2 [iv .i64 0, slv rT_api_Pair []] rfl ⟨imp_rfl, nil_sl, trivial⟩) ?_
    exact fin3 (.inl rfl) ((.slice none 0 0), []) [3] rfl ⟨rfl, trivial⟩ rfl (rv_cell rfl (j := 2) rfl Tryd.isAgg27 Tryd.sizeOf27 rfl rfl) (rv_tmp rfl) (rv_tmp rfl)
  refine ref_skip (n_then (ref_seq (ref_region ?_)))
  refine as1 rfl rfl ?_
  refine l_nil (n_then (ref_seq (ref_region ?_)))
  refine s_rd (r_faddr (fo := 0) Tryd.underlying27 rfl rfl Tryd.sizeOf3 rfl) rfl ?_
  refine s_rd (r_cload Tryd.isAgg3 rfl (j := 0) rfl rfl) rfl ?_
  refine s_rd (r_build (ps := [(0, .tmp 27)]) (rs := [(0, [iv .i64 g_0.N])]) st_27 zs_27 ⟨rfl, (part_at rfl iv_at), trivial⟩ rfl rfl) rfl ?_
  refine s_st (s_alloc zt_27) rfl (fun b8 => ?_)
  refine s_st0 (s_cstore (out := [iv .i64 g_0.N, pv (.slice none 0 0)]) Tryd.sizeOf27 rfl (j := 3) rfl (part_agO (ψs := [iv .i64 g_0.N, pv (.slice none 0 0)]) rfl ⟨.inl iv_at, .inl (pv_at rfl), trivial⟩) rfl rfl rfl) (fun _ => ?_)
  refine l_nil (n_then (ref_seq (ref_region ?_)))
  refine as1 rfl rfl ?_
  refine l_nil (n_then (ref_seq (ref_seq (ref_region ?_))))
  refine s_rd (r_faddr (fo := 0) Tryd.underlying31 rfl rfl Tryd.sizeOf29 rfl) rfl ?_
  refine s_rd (r_cload Tryd.isAgg29 rfl (j := 1) rfl rfl) rfl ?_
  refine s_rd (r_len Tryd.underlying29 rfl) rfl ?_
  refine mv1 rfl rfl ?_
  refine l_nil (n_then ?_)
  refine b_of (own_nil (rI .i64)) ?_
  refine ref_loopB (f := (chance_Certain_l1 o_1)) (Γl := (fun (s27 : Int × (List Int)) (x28 : (Value × List Nat)) => [(2, pv (ptr b1 0)), (3, pv (ptr b2 0)), (4, pv (ptr b3 0)), (8, pv (.func (.func 42) #[] #[])), (9, pv (ptr b8 0)), (10, pv x28.1), (30, slv rT_api_Fraction o_1.Nodes), (31, iv .i64 (o_1.Nodes.length : Int)), (32, iv .i64 s27.1)])) (Ωl := (fun (s27 : Int × (List Int)) (x28 : (Value × List Nat)) => [oc b1 [iv .i64 g_0.N, slv rT_api_Pair g_0.L], oc b2 [slv rT_api_Fraction o_1.Nodes, slv rT_api_Fraction o_1.Attacks], oc b3 [iv .i64 0, pv (.slice none 0 0)], oc b8 [iv .i64 g_0.N, pv (.slice none 0 0)], oa (rI .i64) x28.1 x28.2 s27.2])) (Γb := (fun (q36 : (List Int)) (y37 : (Value × List Nat)) => [(2, pv (ptr b1 0)), (3, pv (ptr b2 0)), (4, pv (ptr b3 0)), (8, pv (.func (.func 42) #[] #[])), (9, pv (ptr b8 0)), (10, pv y37.1)])) (Ωb := (fun (q36 : (List Int)) (y37 : (Value × List Nat)) => [oc b1 [iv .i64 g_0.N, slv rT_api_Pair g_0.L], oc b2 [slv rT_api_Fraction o_1.Nodes, slv rT_api_Fraction o_1.Attacks], oc b3 [iv .i64 0, pv (.slice none 0 0)], oc b8 [iv .i64 g_0.N, pv (.slice none 0 0)], oa (rI .i64) y37.1 y37.2 q36])) (0, []) ((.slice none 0 0), []) (weak [0, 1, 2, 3, 4] ⟨rfl, rfl, rfl, rfl, rfl, rfl, rfl, rfl, rfl, trivial⟩ ⟨rfl, rfl, rfl, rfl, rfl, trivial⟩) (fun s27 x28 => ?_) (fun q36 y37 => ?_)
  · unfold chance_Certain_l1
    refine ref_seq (ref_region ?_)
    refine s_rd (r_lss rfl rfl) rfl ?_
    refine l_nil (n_then (ref_seq ?_))
    refine ref_cond rfl (fun hb29 => ?_) (fun hb29 => ?_)
    · refine ref_skip (n_then (ref_seq (ref_block (ref_seq (ref_region ?_)))))
      refine mv1 rfl rfl ?_
      refine pull fun t30 h_t30 => ?_
      refine s_rd (r_index h_t30 Tryd.underlying29 el_36 rfl rfl) rfl ?_
      refine s_rd (r_load el_36 rfl) rfl ?_
      refine s_st (s_alloc zt_36) rfl (fun b31 => ?_)
      refine as1 rfl rfl ?_
      refine s_st0 (s_cstore (out := [iv .i64 t30.Num, iv .i64 t30.Den]) Tryd.sizeOf36 rfl (j := 5) rfl (part_agO (ψs := [iv .i64 t30.Num, iv .i64 t30.Den]) rfl ⟨.inl iv_at, .inl iv_at, trivial⟩) rfl rfl rfl) (fun _ => ?_)
      refine l_nil ?_
      refine b_of (nrm [oc b1 [iv .i64 g_0.N, slv rT_api_Pair g_0.L], oc b2 [slv rT_api_Fraction o_1.Nodes, slv rT_api_Fraction o_1.Attacks], oc b3 [iv .i64 0, pv (.slice none 0 0)], oc b8 [iv .i64 g_0.N, pv (.slice none 0 0)], oa (rI .i64) x28.1 x28.2 s27.2, oc b31 [iv .i64 t30.Num, iv .i64 t30.Den]] rfl) ?_
      refine n_then (ref_seq (ref_region ?_))
      refine mv1 rfl rfl ?_
      refine s_rd (r_cloadS Tryd.isAgg36 Tryd.sizeOf36 rfl (j := 5) rfl rfl rfl) rfl ?_
      refine pull fun t32 h_t32 => ?_
      refine s_st (s_call (ψ := fun (_ : Unit) => bv t32) (args := [.tmp 38]) Tryd.call42 rfl (chance_Certain_1_ok h_t32) ⟨arg rfl, trivial⟩ (fun _ _ _ _ h => h)) rfl (fun _ => ?_)
      refine l_nil (n_then ?_)
      refine ref_cond rfl (fun hb33 => ?_) (fun hb33 => ?_)
      · refine ref_region ?_
        refine mv1 rfl rfl ?_
        refine mv1 rfl rfl ?_
        refine s_st (s_bslice (xs := [.tmp 41]) (ds := [s27.1]) Tryd.underlying22 el_3 rfl (Nat.le_of_ble_eq_true rfl) ⟨(part_at rfl iv_at), trivial⟩) rfl (fun _ => ?_)
        refine pull fun nodes34 h_nodes34 => ?_
        refine s_st (s_append h_nodes34 Tryd.underlying22 el_3 rfl (j := 4) rfl rfl) rfl (fun o35 => ?_)
        refine as1 rfl rfl ?_
        refine l_nil (n_block (n_then (ref_region ?_)))
        refine s_rd (r_add rfl rfl) rfl ?_
        refine mv1 rfl rfl ?_
        refine l_nil ?_
        exact goB o35 (weak [0, 1, 2, 3, 4] ⟨rfl, rfl, rfl, rfl, rfl, rfl, rfl, rfl, rfl, trivial⟩ ⟨rfl, rfl, rfl, rfl, rfl, trivial⟩)
      refine ref_skip (n_block (n_then (ref_region ?_)))
      refine s_rd (r_add rfl rfl) rfl ?_
      refine mv1 rfl rfl ?_
      refine l_nil ?_
      exact goB x28 (weak [0, 1, 2, 3, 4] ⟨rfl, rfl, rfl, rfl, rfl, rfl, rfl, rfl, rfl, trivial⟩ ⟨rfl, rfl, rfl, rfl, rfl, trivial⟩)
    refine ref_exit (x_then ?_)
    exact brkB x28 (weak [0, 1, 2, 3, 4] ⟨rfl, rfl, rfl, rfl, rfl, rfl, trivial⟩ ⟨rfl, rfl, rfl, rfl, rfl, trivial⟩)
  refine n_then (ref_seq (ref_seq (ref_region ?_)))
  refine s_rd (r_faddr (fo := 1) Tryd.underlying27 rfl rfl Tryd.sizeOf25 rfl) rfl ?_
  refine s_rd (r_cload Tryd.isAgg25 rfl (j := 0) rfl rfl) rfl ?_
  refine s_rd (r_len Tryd.underlying25 rfl) rfl ?_
  refine mv1 rfl rfl ?_
  refine l_nil (n_then ?_)
  refine b_of (own_nil rT_api_Pair) ?_
  refine ref_loopB (f := (chance_Certain_l2 g_0 o_1)) (Γl := (fun (s89 : Int × (List T_api_Pair)) (x90 : (Value × List Nat)) => [(3, pv (ptr b2 0)), (4, pv (ptr b3 0)), (8, pv (.func (.func 42) #[] #[])), (9, pv (ptr b8 0)), (10, pv y37.1), (46, slv rT_api_Pair g_0.L), (47, iv .i64 (g_0.L.length : Int)), (48, iv .i64 s89.1)])) (Ωl := (fun (s89 : Int × (List T_api_Pair)) (x90 : (Value × List Nat)) => [oc b2 [slv rT_api_Fraction o_1.Nodes, slv rT_api_Fraction o_1.Attacks], oc b3 [iv .i64 0, pv (.slice none 0 0)], oc b8 [iv .i64 g_0.N, pv x90.1], oa rT_api_Pair x90.1 x90.2 s89.2, oa (rI .i64) y37.1 y37.2 q36])) (Γb := (fun (q106 : (List T_api_Pair)) (y107 : (Value × List Nat)) => [(4, pv (ptr b3 0)), (9, pv (ptr b8 0)), (10, pv y37.1)])) (Ωb := (fun (q106 : (List T_api_Pair)) (y107 : (Value × List Nat)) => [oc b3 [iv .i64 0, pv (.slice none 0 0)], oc b8 [iv .i64 g_0.N, pv y107.1], oa rT_api_Pair y107.1 y107.2 q106, oa (rI .i64) y37.1 y37.2 q36])) (0, []) ((.slice none 0 0), []) (weak [1, 2, 3, 5, 4] ⟨rfl, rfl, rfl, rfl, rfl, rfl, rfl, rfl, trivial⟩ ⟨rfl, rfl, rfl, rfl, rfl, trivial⟩) (fun s89 x90 => ?_) (fun q106 y107 => ?_)
  · unfold chance_Certain_l2
    refine ref_seq (ref_region ?_)
    refine s_rd (r_lss rfl rfl) rfl ?_
    refine l_nil (n_then (ref_seq ?_))
    refine ref_cond rfl (fun hb91 => ?_) (fun hb91 => ?_)
    · refine ref_skip (n_then (ref_seq (ref_block (ref_seq (ref_region ?_)))))
      refine mv1 rfl rfl ?_
      refine pull fun t92 h_t92 => ?_
      refine s_rd (r_index h_t92 Tryd.underlying25 el_63 rfl rfl) rfl ?_
      refine s_rd (r_load el_63 rfl) rfl ?_
      refine s_st (s_alloc zt_63) rfl (fun b93 => ?_)
      refine as1 rfl rfl ?_
      refine s_st0 (s_cstore (out := [iv .i64 t92.From, iv .i64 t92.To]) Tryd.sizeOf63 rfl (j := 5) rfl (part_agO (ψs := [iv .i64 t92.From, iv .i64 t92.To]) rfl ⟨.inl iv_at, .inl iv_at, trivial⟩) rfl rfl rfl) (fun _ => ?_)
      refine l_nil (n_then (ref_seq ?_))
      refine ref_join (fun (j100 : Bool) (x101 : Unit) => [(3, pv (ptr b2 0)), (4, pv (ptr b3 0)), (8, pv (.func (.func 42) #[] #[])), (9, pv (ptr b8 0)), (10, pv y37.1), (14, pv (ptr b93 0)), (46, slv rT_api_Pair g_0.L), (47, iv .i64 (g_0.L.length : Int)), (48, iv .i64 s89.1), (79, bv j100)]) (fun (j100 : Bool) (x101 : Unit) => [oc b2 [slv rT_api_Fraction o_1.Nodes, slv rT_api_Fraction o_1.Attacks], oc b3 [iv .i64 0, pv (.slice none 0 0)], oc b8 [iv .i64 g_0.N, pv x90.1], oa rT_api_Pair x90.1 x90.2 s89.2, oa (rI .i64) y37.1 y37.2 q36, oc b93 [iv .i64 t92.From, iv .i64 t92.To]]) (fun k102 hk102 => ?_) (fun j100 x101 => ?_)
      · refine ref_region ?_
        refine mv1 rfl rfl ?_
        refine s_rd (r_faddr (fo := 1) Tryd.underlying31 rfl rfl Tryd.sizeOf29 rfl) rfl ?_
        refine s_rd (r_cload Tryd.isAgg29 rfl (j := 0) rfl rfl) rfl ?_
        refine mv1 rfl rfl ?_
        refine pull fun t94 h_t94 => ?_
        refine s_rd (r_index h_t94 Tryd.underlying29 el_36 rfl rfl) rfl ?_
        refine s_rd (r_load el_36 rfl) rfl ?_
        refine pull fun t95 h_t95 => ?_
        refine s_st (s_call (ψ := fun (_ : Unit) => bv t95) (args := [.tmp 58]) Tryd.call42 rfl (chance_Certain_1_ok h_t95) ⟨arg rfl, trivial⟩ (fun _ _ _ _ h => h)) rfl (fun _ => ?_)
        refine mv1 rfl rfl ?_
        refine b_split (t := 60) rfl (fun _ => ?_) (fun _ => ?_)
        · refine s_on rfl rfl rfl ?_
          refine mv1 rfl rfl ?_
          refine s_on rfl rfl rfl ?_
          refine s_rd (r_faddr (fo := 0) Tryd.underlying31 rfl rfl Tryd.sizeOf29 rfl) rfl ?_
          refine s_on rfl rfl rfl ?_
          refine s_rd (r_cload Tryd.isAgg29 rfl (j := 0) rfl rfl) rfl ?_
          refine s_on rfl rfl rfl ?_
          refine s_rd (r_faddr (fo := 0) Tryd.underlying63 rfl rfl Tryd.sizeOf3 rfl) rfl ?_
          refine s_on rfl rfl rfl ?_
          refine s_rd (r_cload Tryd.isAgg3 rfl (j := 5) rfl rfl) rfl ?_
          refine s_on rfl rfl rfl ?_
          refine pull fun t96 h_t96 => ?_
          refine s_rd (r_index h_t96 Tryd.underlying29 el_36 rfl rfl) rfl ?_
          refine s_on rfl rfl rfl ?_
          refine s_rd (r_load el_36 rfl) rfl ?_
          refine s_on rfl rfl rfl ?_
          refine pull fun t97 h_t97 => ?_
          refine s_st (s_call (ψ := fun (_ : Unit) => bv t97) (args := [.tmp 67]) Tryd.call42 rfl (chance_Certain_1_ok h_t97) ⟨arg rfl, trivial⟩ (fun _ _ _ _ h => h)) rfl (fun _ => ?_)
          refine s_rd (r_pickT rfl rfl) rfl ?_
          refine mv1 rfl rfl ?_
          refine b_split (t := 70) rfl (fun _ => ?_) (fun _ => ?_)
          · refine s_on rfl rfl rfl ?_
            refine mv1 rfl rfl ?_
            refine s_on rfl rfl rfl ?_
            refine s_rd (r_faddr (fo := 0) Tryd.underlying31 rfl rfl Tryd.sizeOf29 rfl) rfl ?_
            refine s_on rfl rfl rfl ?_
            refine s_rd (r_cload Tryd.isAgg29 rfl (j := 0) rfl rfl) rfl ?_
            refine s_on rfl rfl rfl ?_
            refine s_rd (r_faddr (fo := 1) Tryd.underlying63 rfl rfl Tryd.sizeOf3 rfl) rfl ?_
            refine s_on rfl rfl rfl ?_
            refine s_rd (r_cload Tryd.isAgg3 rfl (j := 5) rfl rfl) rfl ?_
            refine s_on rfl rfl rfl ?_
            refine pull fun t98 h_t98 => ?_
            refine s_rd (r_index h_t98 Tryd.underlying29 el_36 rfl rfl) rfl ?_
            refine s_on rfl rfl rfl ?_
            refine s_rd (r_load el_36 rfl) rfl ?_
            refine s_on rfl rfl rfl ?_
            refine pull fun t99 h_t99 => ?_
            refine s_st (s_call (ψ := fun (_ : Unit) => bv t99) (args := [.tmp 77]) Tryd.call42 rfl (chance_Certain_1_ok h_t99) ⟨arg rfl, trivial⟩ (fun _ _ _ _ h => h)) rfl (fun _ => ?_)
            refine s_rd (r_pickT rfl rfl) rfl ?_
            refine l_nil ?_
            refine b_of (nrm [oc b2 [slv rT_api_Fraction o_1.Nodes, slv rT_api_Fraction o_1.Attacks], oc b3 [iv .i64 0, pv (.slice none 0 0)], oc b8 [iv .i64 g_0.N, pv x90.1], oa rT_api_Pair x90.1 x90.2 s89.2, oa (rI .i64) y37.1 y37.2 q36, oc b93 [iv .i64 t92.From, iv .i64 t92.To]] rfl) ?_
            exact b_to (hk102 t99 ()) (weak [0, 1, 2, 3, 4, 5] ⟨rfl, rfl, rfl, rfl, rfl, rfl, rfl, rfl, rfl, rfl, trivial⟩ ⟨rfl, rfl, rfl, rfl, rfl, rfl, trivial⟩)
          refine s_off rfl rfl rfl rfl rfl ?_
          refine s_off rfl rfl rfl rfl rfl ?_
          refine s_off rfl rfl rfl rfl rfl ?_
          refine s_off rfl rfl rfl rfl rfl ?_
          refine s_off rfl rfl rfl rfl rfl ?_
          refine s_off rfl rfl rfl rfl rfl ?_
          refine s_off rfl rfl rfl rfl rfl ?_
          refine s_off rfl rfl rfl rfl rfl ?_
          refine s_rd (r_pickF rfl rfl) rfl ?_
          refine l_nil ?_
          refine b_of (nrm [oc b2 [slv rT_api_Fraction o_1.Nodes, slv rT_api_Fraction o_1.Attacks], oc b3 [iv .i64 0, pv (.slice none 0 0)], oc b8 [iv .i64 g_0.N, pv x90.1], oa rT_api_Pair x90.1 x90.2 s89.2, oa (rI .i64) y37.1 y37.2 q36, oc b93 [iv .i64 t92.From, iv .i64 t92.To]] rfl) ?_
          exact b_to (hk102 false ()) (weak [0, 1, 2, 3, 4, 5] ⟨rfl, rfl, rfl, rfl, rfl, rfl, rfl, rfl, rfl, rfl, trivial⟩ ⟨rfl, rfl, rfl, rfl, rfl, rfl, trivial⟩)
        refine s_off rfl rfl rfl rfl rfl ?_
        refine s_off rfl rfl rfl rfl rfl ?_
        refine s_off rfl rfl rfl rfl rfl ?_
        refine s_off rfl rfl rfl rfl rfl ?_
        refine s_off rfl rfl rfl rfl rfl ?_
        refine s_off rfl rfl rfl rfl rfl ?_
        refine s_off rfl rfl rfl rfl rfl ?_
        refine s_off rfl rfl rfl rfl rfl ?_
        refine s_rd (r_pickF rfl rfl) rfl ?_
        refine mv1 rfl rfl ?_
        refine s_off rfl rfl rfl rfl rfl ?_
        refine s_off rfl rfl rfl rfl rfl ?_
        refine s_off rfl rfl rfl rfl rfl ?_
        refine s_off rfl rfl rfl rfl rfl ?_
        refine s_off rfl rfl rfl rfl rfl ?_
        refine s_off rfl rfl rfl rfl rfl ?_
        refine s_off rfl rfl rfl rfl rfl ?_
        refine s_off rfl rfl rfl rfl rfl ?_
        refine s_rd (r_pickF rfl rfl) rfl ?_
        refine l_nil ?_
        exact b_to (hk102 false ()) (weak [0, 1, 2, 3, 4, 5] ⟨rfl, rfl, rfl, rfl, rfl, rfl, rfl, rfl, rfl, rfl, trivial⟩ ⟨rfl, rfl, rfl, rfl, rfl, rfl, trivial⟩)
      refine n_then ?_
      refine ref_cond rfl (fun hb103 => ?_) (fun hb103 => ?_)
      · refine ref_region ?_
        refine s_rd (r_faddr (fo := 1) Tryd.underlying27 rfl rfl Tryd.sizeOf25 rfl) rfl ?_
        refine s_rd (r_cload Tryd.isAgg25 rfl (j := 2) rfl rfl) rfl ?_
        refine s_rd (r_cloadS Tryd.isAgg63 Tryd.sizeOf63 rfl (j := 5) rfl rfl rfl) rfl ?_
        refine s_st (s_bslice (xs := [.tmp 82]) (ds := [t92]) Tryd.underlying25 el_63 rfl (Nat.le_of_ble_eq_true rfl) ⟨(part_agO (ψs := [iv .i64 t92.From, iv .i64 t92.To]) rfl ⟨.inl iv_at, .inl iv_at, trivial⟩), trivial⟩) rfl (fun _ => ?_)
        refine pull fun t104 h_t104 => ?_
        refine s_st (s_append h_t104 Tryd.underlying25 el_63 rfl (j := 3) rfl rfl) rfl (fun o105 => ?_)
        refine s_rd (r_faddr (fo := 1) Tryd.underlying27 rfl rfl Tryd.sizeOf25 rfl) rfl ?_
        refine s_st0 (s_cstore (out := [iv .i64 g_0.N, pv o105.1]) Tryd.sizeOf25 rfl (j := 2) rfl (part_own rfl (j := 3) rfl) rfl rfl rfl) (fun _ => ?_)
        refine l_nil (n_block (n_then (ref_region ?_)))
        refine s_rd (r_add rfl rfl) rfl ?_
        refine mv1 rfl rfl ?_
        refine l_nil ?_
        exact goB o105 (weak [0, 1, 2, 3, 4] ⟨rfl, rfl, rfl, rfl, rfl, rfl, rfl, rfl, trivial⟩ ⟨rfl, rfl, rfl, rfl, rfl, trivial⟩)
      refine ref_skip (n_block (n_then (ref_region ?_)))
      refine s_rd (r_add rfl rfl) rfl ?_
      refine mv1 rfl rfl ?_
      refine l_nil ?_
      exact goB x90 (weak [0, 1, 2, 3, 4] ⟨rfl, rfl, rfl, rfl, rfl, rfl, rfl, rfl, trivial⟩ ⟨rfl, rfl, rfl, rfl, rfl, trivial⟩)
    refine ref_exit (x_then ?_)
    exact brkB x90 (weak [1, 2, 3, 4] ⟨rfl, rfl, rfl, trivial⟩ ⟨rfl, rfl, rfl, rfl, trivial⟩)
  refine n_then (ref_seq (ref_region ?_))
  refine s_rd (r_cloadS Tryd.isAgg27 Tryd.sizeOf27 rfl (j := 1) rfl rfl rfl) rfl ?_
  refine mv1 rfl rfl ?_
  refine s_st0 (s_cstore (out := [iv .i64 g_0.N, pv y107.1]) Tryd.sizeOf27 rfl (j := 0) rfl (part_agO (ψs := [iv .i64 g_0.N, pv y107.1]) rfl ⟨.inl iv_at, .inr ⟨_, _, _, _, _, 2, rfl, rfl⟩, trivial⟩) rfl rfl rfl) (fun _ => ?_)
  refine as1 rfl rfl ?_
  refine as1 rfl rfl ?_
  refine l_nil (n_then (ref_ret ?_))
  refine b_of (frzGL [(87, ag [iv .i64 g_0.N, slv rT_api_Pair q106])] [(0, b3, [iv .i64 g_0.N, slv rT_api_Pair q106]), (1, b8, [iv .i64 g_0.N, slv rT_api_Pair q106])] (j := 2) rfl ⟨⟨_, rfl, .inr ⟨_, _, rfl, rfl, ⟨.inl rfl, .inr ⟨rfl, rfl⟩, trivial⟩⟩⟩, trivial⟩ ⟨⟨_, rfl, ⟨.inl rfl, .inr ⟨rfl, rfl⟩, trivial⟩⟩, ⟨_, rfl, ⟨.inl rfl, .inr ⟨rfl, rfl⟩, trivial⟩⟩, trivial⟩) ?_
  refine b_of (nrm [oc b3 [iv .i64 g_0.N, slv rT_api_Pair q106], oc b8 [iv .i64 g_0.N, slv rT_api_Pair q106], dead, oa (rI .i64) y37.1 y37.2 q36] rfl) ?_
  exact fin3 (.inl rfl) y37 [3] rfl ⟨rfl, trivial⟩ rfl (rv_cell rfl (j := 0) rfl Tryd.isAgg27 Tryd.sizeOf27 rfl rfl) (rv_tmp rfl) (rv_tmp rfl)

/-! deliberation/deliberationref23.Certain -/
noncomputable def ref23_Certain_l1 (g_0 : T_api_Graph) (o_1 : T_api_Odds) (s26 : Int × (List Int)) : Option (Sum ((List Int)) (Int × (List Int))) :=
  bif decide (s26.1 < g_0.N) then
    Option.bind (idxM o_1.Nodes s26.1) fun t29 =>
    Option.bind (idxM o_1.Nodes s26.1) fun t30 =>
    bif t29.Num == t30.Den then
      Option.bind (appM 8 s26.2 [s26.1]) fun nodes32 =>
      letM (iadd .i64 s26.1 1) fun a_34 =>
      some (Sum.inr (a_34, nodes32))
    else
      letM (iadd .i64 s26.1 1) fun a_35 =>
      some (Sum.inr (a_35, s26.2))
  else
    some (Sum.inl s26.2)

noncomputable def ref23_Certain_l2 (g_0 : T_api_Graph) (o_1 : T_api_Odds) (q36 : (List Int)) (s91 : Int × (List T_api_Pair)) : Option (Sum ((List T_api_Pair)) (Int × (List T_api_Pair))) :=
  bif decide (s91.1 < (g_0.L.length : Int)) then
    joinM (fun j100 : Bool =>
        bif j100 then
          Option.bind (idxM g_0.L s91.1) fun t104 =>
          Option.bind (appM 16 s91.2 [t104]) fun t105 =>
          letM (iadd .i64 s91.1 1) fun i107 =>
          some (Sum.inr (i107, t105))
        else
          letM (iadd .i64 s91.1 1) fun i108 =>
          some (Sum.inr (i108, s91.2))) fun k102 =>
    Option.bind (idxM o_1.Attacks s91.1) fun t94 =>
    Option.bind (idxM o_1.Attacks s91.1) fun t95 =>
    bif t94.Num == t95.Den then
      Option.bind (idxM g_0.L s91.1) fun t96 =>
      Option.bind (net_In_m q36 t96.From) fun t97 =>
      bif t97 then
        Option.bind (idxM g_0.L s91.1) fun t98 =>
        Option.bind (net_In_m q36 t98.To) fun t99 =>
        k102 t99
      else
        k102 false
    else
      k102 false
  else
    some (Sum.inl s91.2)

noncomputable def ref23_Certain_m (g_0 : T_api_Graph) (o_1 : T_api_Odds) : Option (T_api_Graph × List Int × Int) :=
  Option.bind (ref10_Validate_m g_0) fun e4 =>
  bif e4 != 0 then
    some ((T_api_Graph.mk 0 []), [], e4)
  else
    Option.bind (ref23_Odds_m g_0 o_1) fun t6 =>
    bif !t6 then
      some ((T_api_Graph.mk 0 []), [], 1)
    else
      Option.bind (loopC (ref23_Certain_l1 g_0 o_1) (0, [])) fun q36 : (List Int) =>
      Option.bind (loopC (ref23_Certain_l2 g_0 o_1 q36) (0, [])) fun q109 : (List T_api_Pair) =>
      some ((T_api_Graph.mk g_0.N q109), q36, 0)

theorem ref23_Certain_ok {g_0 : T_api_Graph} {o_1 : T_api_Odds} {r : T_api_Graph × List Int × Int} (hm : ref23_Certain_m g_0 o_1 = some r) :
    FnOk prog 27 [ag [iv .i64 g_0.N, slv rT_api_Pair g_0.L], ag [slv rT_api_Fraction o_1.Nodes, slv rT_api_Fraction o_1.Attacks]] [] (fun (x : (Value × List Nat)) => [ag [iv .i64 r.1.N, slv rT_api_Pair r.1.L], pv x.1, iv .i64 r.2.2]) (fun (x : (Value × List Nat)) => [oa (rI .i64) x.1 x.2 r.2.1]) := by
  refine fn_ok (X := (Value × List Nat)) (fn := Tryd.f27) (N := 101) (res := fun r x => [ag [iv .i64 r.1.N, slv rT_api_Pair r.1.L], pv x.1, iv .i64 r.2.2]) (Ω1 := fun r x => [oa (rI .i64) x.1 x.2 r.2.1]) Tryd.func27 rfl rfl hm rfl (fun E hM => ?_)
  unfold ref23_Certain_m
  refine ref_seq (ref_region ?_)
  refine s_st (s_box (part_agO (ψs := [iv .i64 g_0.N, slv rT_api_Pair g_0.L]) rfl ⟨.inl iv_at, .inl slv_at, trivial⟩)) rfl (fun b1 => ?_)
  refine s_st (s_box (part_agO (ψs := [slv rT_api_Fraction o_1.Nodes, slv rT_api_Fraction o_1.Attacks]) rfl ⟨.inl slv_at, .inl slv_at, trivial⟩)) rfl (fun b2 => ?_)
  refine s_st (s_alloc zt_27) rfl (fun b3 => ?_)
  refine as1 rfl rfl ?_
  refine as1 rfl rfl ?_
  refine l_nil (n_then (ref_seq (ref_seq (ref_region ?_))))
  refine s_rd (r_cloadS Tryd.isAgg27 Tryd.sizeOf27 rfl (j := 0) rfl rfl rfl) rfl ?_
  refine pull fun e4 h_e4 => ?_
  refine s_st (s_call (ψ := fun (_ : Unit) => iv .i64 e4) (args := [.tmp 12]) Tryd.call51 rfl (ref10_Validate_ok h_e4) ⟨arg rfl, trivial⟩ (fun _ _ _ _ h => h)) rfl (fun _ => ?_)
  refine as1 rfl rfl ?_
  refine l_nil ?_
  refine b_of (nrm [oc b1 [iv .i64 g_0.N, slv rT_api_Pair g_0.L], oc b2 [slv rT_api_Fraction o_1.Nodes, slv rT_api_Fraction o_1.Attacks], oc b3 [iv .i64 0, pv (.slice none 0 0)]] rfl) ?_
  refine n_then (ref_seq (ref_region ?_))
  refine mv1 rfl rfl ?_
  refine s_rd (r_neq rfl rfl) rfl ?_
  refine l_nil (n_then ?_)
  refine ref_cond rfl (fun hb5 => ?_) (fun hb5 => ?_)
  · refine ref_seq (ref_region ?_)
    refine s_rd (r_build (ps := []) (rs := []) st_27 zs_27 trivial rfl rfl) rfl ?_
    refine mv1 rfl rfl ?_
    refine s_st0 (s_cstore (out := [iv .i64 0, pv (.slice none 0 0)]) Tryd.sizeOf27 rfl (j := 2) rfl (part_agO (ψs := [iv .i64 0, pv (.slice none 0 0)]) rfl ⟨.inl iv_at, .inl (pv_at rfl), trivial⟩) rfl rfl rfl) (fun _ => ?_)
    refine as1 rfl rfl ?_
    refine as1 rfl rfl ?_
    refine l_nil (n_then (ref_ret (r_then ?_)))
    refine b_of (own_nil (rI .i64)) ?_
    refine b_of (ocW 2 [iv .i64 0, slv rT_api_Pair []] rfl ⟨imp_rfl, nil_sl, trivial⟩) ?_
    exact fin3 (.inl rfl) ((.slice none 0 0), []) [3] rfl ⟨rfl, trivial⟩ rfl (rv_cell rfl (j := 2) rfl Tryd.isAgg27 Tryd.sizeOf27 rfl rfl) (rv_tmp rfl) (rv_tmp rfl)
  refine ref_skip (n_then (ref_seq (ref_seq (ref_region ?_))))
  refine s_rd (r_cloadS Tryd.isAgg27 Tryd.sizeOf27 rfl (j := 0) rfl rfl rfl) rfl ?_
  refine s_rd (r_cloadS Tryd.isAgg31 Tryd.sizeOf31 rfl (j := 1) rfl rfl rfl) rfl ?_
  refine pull fun t6 h_t6 => ?_
  refine s_st (s_call (ψ := fun (_ : Unit) => bv t6) (args := [.tmp 18, .tmp 19]) Tryd.call52 rfl (ref23_Odds_ok h_t6) ⟨arg rfl, arg rfl, trivial⟩ (fun _ _ _ _ h => h)) rfl (fun _ => ?_)
  refine s_rd (r_not rfl) rfl ?_
  refine l_nil (n_then ?_)
  refine ref_cond rfl (fun hb7 => ?_) (fun hb7 => ?_)
  · refine ref_seq (ref_region ?_)
    refine s_rd (r_build (ps := []) (rs := []) st_27 zs_27 trivial rfl rfl) rfl ?_
    refine s_st0 (s_cstore (out := [iv .i64 0, pv (.slice none 0 0)]) Tryd.sizeOf27 rfl (j := 2) rfl (part_agO (ψs := [iv .i64 0, pv (.slice none 0 0)]) rfl ⟨.inl iv_at, .inl (pv_at rfl), trivial⟩) rfl rfl rfl) (fun _ => ?_)
    refine as1 rfl rfl ?_
    refine as1 rfl rfl ?_
    refine l_nil (n_then (ref_ret (r_then ?_)))
    refine b_of (own_nil (rI .i64)) ?_
    refine b_of (ocW 2 [iv .i64 0, slv rT_api_Pair []] rfl ⟨imp_rfl, nil_sl, trivial⟩) ?_
    exact fin3 (.inl rfl) ((.slice none 0 0), []) [3] rfl ⟨rfl, trivial⟩ rfl (rv_cell rfl (j := 2) rfl Tryd.isAgg27 Tryd.sizeOf27 rfl rfl) (rv_tmp rfl) (rv_tmp rfl)
  refine ref_skip (n_then (ref_seq (ref_region ?_)))
  refine as1 rfl rfl ?_
  refine l_nil (n_then (ref_seq (ref_seq (ref_region ?_))))
  refine as1 rfl rfl ?_
  refine l_nil (n_then ?_)
  refine b_of (own_nil (rI .i64)) ?_
  refine ref_loopB (f := (ref23_Certain_l1 g_0 o_1)) (Γl := (fun (s26 : Int × (List Int)) (x27 : (Value × List Nat)) => [(2, pv (ptr b1 0)), (3, pv (ptr b2 0)), (4, pv (ptr b3 0)), (8, pv x27.1), (9, iv .i64 s26.1)])) (Ωl := (fun (s26 : Int × (List Int)) (x27 : (Value × List Nat)) => [oc b1 [iv .i64 g_0.N, slv rT_api_Pair g_0.L], oc b2 [slv rT_api_Fraction o_1.Nodes, slv rT_api_Fraction o_1.Attacks], oc b3 [iv .i64 0, pv (.slice none 0 0)], oa (rI .i64) x27.1 x27.2 s26.2])) (Γb := (fun (q36 : (List Int)) (y37 : (Value × List Nat)) => [(2, pv (ptr b1 0)), (3, pv (ptr b2 0)), (4, pv (ptr b3 0)), (8, pv y37.1)])) (Ωb := (fun (q36 : (List Int)) (y37 : (Value × List Nat)) => [oc b1 [iv .i64 g_0.N, slv rT_api_Pair g_0.L], oc b2 [slv rT_api_Fraction o_1.Nodes, slv rT_api_Fraction o_1.Attacks], oc b3 [iv .i64 0, pv (.slice none 0 0)], oa (rI .i64) y37.1 y37.2 q36])) (0, []) ((.slice none 0 0), []) (weak [0, 1, 2, 3] ⟨rfl, rfl, rfl, rfl, rfl, trivial⟩ ⟨rfl, rfl, rfl, rfl, trivial⟩) (fun s26 x27 => ?_) (fun q36 y37 => ?_)
  · unfold ref23_Certain_l1
    refine ref_seq (ref_seq (ref_region ?_))
    refine mv1 rfl rfl ?_
    refine s_rd (r_faddr (fo := 0) Tryd.underlying27 rfl rfl Tryd.sizeOf3 rfl) rfl ?_
    refine s_rd (r_cload Tryd.isAgg3 rfl (j := 0) rfl rfl) rfl ?_
    refine s_rd (r_lss rfl rfl) rfl ?_
    refine l_nil (n_then ?_)
    refine ref_cond rfl (fun hb28 => ?_) (fun hb28 => ?_)
    · refine ref_skip (n_then (ref_seq (ref_block (ref_seq ?_))))
      refine ref_draw [0, 1, 2, 3, 4, 5, 6, 7, 8, 9, 10, 11, 12] rfl (by kernel_rfl) (fun hok => ?_)
      refine a_rd (i := 0) hok rfl (by kernel_rfl) rfl (r_faddr (fo := 0) Tryd.underlying31 rfl rfl Tryd.sizeOf29 rfl) rfl ?_
      refine a_rd (i := 1) hok rfl (by kernel_rfl) rfl (r_cload Tryd.isAgg29 rfl (j := 1) rfl rfl) rfl ?_
      refine a_rd (i := 2) hok rfl (by kernel_rfl) rfl (r_move rfl) rfl ?_
      refine pull fun t29 h_t29 => ?_
      refine a_rd (i := 3) hok rfl (by kernel_rfl) rfl (r_index h_t29 Tryd.underlying29 el_36 rfl rfl) rfl ?_
      refine a_rd (i := 4) hok rfl (by kernel_rfl) rfl (r_fea (fo := 0) (ρ := rT_api_Fraction) (y := t29) (ρ' := (rI .i64)) (z := t29.Num) Tryd.underlying36 rfl rfl Tryd.sizeOf3 rfl rfl rfl) rfl ?_
      refine a_rd (i := 5) hok rfl (by kernel_rfl) rfl (r_load el_3 rfl) rfl ?_
      refine a_rd (i := 6) hok rfl (by kernel_rfl) rfl (r_faddr (fo := 0) Tryd.underlying31 rfl rfl Tryd.sizeOf29 rfl) rfl ?_
      refine a_rd (i := 7) hok rfl (by kernel_rfl) rfl (r_cload Tryd.isAgg29 rfl (j := 1) rfl rfl) rfl ?_
      refine a_rd (i := 8) hok rfl (by kernel_rfl) rfl (r_move rfl) rfl ?_
      refine pull fun t30 h_t30 => ?_
      refine a_rd (i := 9) hok rfl (by kernel_rfl) rfl (r_index h_t30 Tryd.underlying29 el_36 rfl rfl) rfl ?_
      refine a_rd (i := 10) hok rfl (by kernel_rfl) rfl (r_fea (fo := 1) (ρ := rT_api_Fraction) (y := t30) (ρ' := (rI .i64)) (z := t30.Den) Tryd.underlying36 rfl rfl Tryd.sizeOf3 rfl rfl rfl) rfl ?_
      refine a_rd (i := 11) hok rfl (by kernel_rfl) rfl (r_load el_3 rfl) rfl ?_
      refine a_rd (i := 12) hok rfl (by kernel_rfl) rfl (r_eql rfl rfl) rfl ?_
      refine a_fin hok (by kernel_rfl) ?_
      refine n_then ?_
      refine ref_cond rfl (fun hb31 => ?_) (fun hb31 => ?_)
      · refine ref_region ?_
        refine mv1 rfl rfl ?_
        refine mv1 rfl rfl ?_
        refine s_st (s_bslice (xs := [.tmp 43]) (ds := [s26.1]) Tryd.underlying22 el_3 rfl (Nat.le_of_ble_eq_true rfl) ⟨(part_at rfl iv_at), trivial⟩) rfl (fun _ => ?_)
        refine pull fun nodes32 h_nodes32 => ?_
        refine s_st (s_append h_nodes32 Tryd.underlying22 el_3 rfl (j := 3) rfl rfl) rfl (fun o33 => ?_)
        refine as1 rfl rfl ?_
        refine l_nil (n_block (n_then (ref_region ?_)))
        refine mv1 rfl rfl ?_
        refine s_rd (r_add rfl rfl) rfl ?_
        refine as1 rfl rfl ?_
        refine b_let (f := iv .i64) (t := 9) rfl fun a_34 => ?_
        refine l_nil ?_
        exact goB o33 (weak [0, 1, 2, 3] ⟨rfl, rfl, rfl, rfl, rfl, trivial⟩ ⟨rfl, rfl, rfl, rfl, trivial⟩)
      refine ref_skip (n_block (n_then (ref_region ?_)))
      refine mv1 rfl rfl ?_
      refine s_rd (r_add rfl rfl) rfl ?_
      refine as1 rfl rfl ?_
      refine b_let (f := iv .i64) (t := 9) rfl fun a_35 => ?_
      refine l_nil ?_
      exact goB x27 (weak [0, 1, 2, 3] ⟨rfl, rfl, rfl, rfl, rfl, trivial⟩ ⟨rfl, rfl, rfl, rfl, trivial⟩)
    refine ref_exit (x_then ?_)
    exact brkB x27 (weak [0, 1, 2, 3] ⟨rfl, rfl, rfl, rfl, trivial⟩ ⟨rfl, rfl, rfl, rfl, trivial⟩)
  refine n_then (ref_seq (ref_region ?_))
  refine s_rd (r_faddr (fo := 0) Tryd.underlying27 rfl rfl Tryd.sizeOf3 rfl) rfl ?_
  refine s_rd (r_cload Tryd.isAgg3 rfl (j := 0) rfl rfl) rfl ?_
  refine s_rd (r_build (ps := [(0, .tmp 47)]) (rs := [(0, [iv .i64 g_0.N])]) st_27 zs_27 ⟨rfl, (part_at rfl iv_at), trivial⟩ rfl rfl) rfl ?_
  refine s_st (s_alloc zt_27) rfl (fun b38 => ?_)
  refine s_st0 (s_cstore (out := [iv .i64 g_0.N, pv (.slice none 0 0)]) Tryd.sizeOf27 rfl (j := 4) rfl (part_agO (ψs := [iv .i64 g_0.N, pv (.slice none 0 0)]) rfl ⟨.inl iv_at, .inl (pv_at rfl), trivial⟩) rfl rfl rfl) (fun _ => ?_)
  refine l_nil (n_then (ref_seq (ref_seq (ref_region ?_))))
  refine as1 rfl rfl ?_
  refine l_nil (n_then ?_)
  refine b_of (own_nil rT_api_Pair) ?_
  refine ref_loopB (f := (ref23_Certain_l2 g_0 o_1 q36)) (Γl := (fun (s91 : Int × (List T_api_Pair)) (x92 : (Value × List Nat)) => [(2, pv (ptr b1 0)), (3, pv (ptr b2 0)), (4, pv (ptr b3 0)), (8, pv y37.1), (10, pv (ptr b38 0)), (11, iv .i64 s91.1)])) (Ωl := (fun (s91 : Int × (List T_api_Pair)) (x92 : (Value × List Nat)) => [oc b1 [iv .i64 g_0.N, slv rT_api_Pair g_0.L], oc b2 [slv rT_api_Fraction o_1.Nodes, slv rT_api_Fraction o_1.Attacks], oc b3 [iv .i64 0, pv (.slice none 0 0)], oa (rI .i64) y37.1 y37.2 q36, oc b38 [iv .i64 g_0.N, pv x92.1], oa rT_api_Pair x92.1 x92.2 s91.2])) (Γb := (fun (q109 : (List T_api_Pair)) (y110 : (Value × List Nat)) => [(4, pv (ptr b3 0)), (8, pv y37.1), (10, pv (ptr b38 0))])) (Ωb := (fun (q109 : (List T_api_Pair)) (y110 : (Value × List Nat)) => [oc b3 [iv .i64 0, pv (.slice none 0 0)], oa (rI .i64) y37.1 y37.2 q36, oc b38 [iv .i64 g_0.N, pv y110.1], oa rT_api_Pair y110.1 y110.2 q109])) (0, []) ((.slice none 0 0), []) (weak [0, 1, 2, 3, 4, 5] ⟨rfl, rfl, rfl, rfl, rfl, rfl, trivial⟩ ⟨rfl, rfl, rfl, rfl, rfl, rfl, trivial⟩) (fun s91 x92 => ?_) (fun q109 y110 => ?_)
  · unfold ref23_Certain_l2
    refine ref_seq (ref_seq (ref_region ?_))
    refine mv1 rfl rfl ?_
    refine s_rd (r_faddr (fo := 1) Tryd.underlying27 rfl rfl Tryd.sizeOf25 rfl) rfl ?_
    refine s_rd (r_cload Tryd.isAgg25 rfl (j := 0) rfl rfl) rfl ?_
    refine s_rd (r_len Tryd.underlying25 rfl) rfl ?_
    refine s_rd (r_lss rfl rfl) rfl ?_
    refine l_nil (n_then ?_)
    refine ref_cond rfl (fun hb93 => ?_) (fun hb93 => ?_)
    · refine ref_skip (n_then (ref_seq (ref_block (ref_seq ?_))))
      refine ref_join (fun (j100 : Bool) (x101 : Unit) => [(2, pv (ptr b1 0)), (3, pv (ptr b2 0)), (4, pv (ptr b3 0)), (8, pv y37.1), (10, pv (ptr b38 0)), (11, iv .i64 s91.1), (88, bv j100)]) (fun (j100 : Bool) (x101 : Unit) => [oc b1 [iv .i64 g_0.N, slv rT_api_Pair g_0.L], oc b2 [slv rT_api_Fraction o_1.Nodes, slv rT_api_Fraction o_1.Attacks], oc b3 [iv .i64 0, pv (.slice none 0 0)], oa (rI .i64) y37.1 y37.2 q36, oc b38 [iv .i64 g_0.N, pv x92.1], oa rT_api_Pair x92.1 x92.2 s91.2]) (fun k102 hk102 => ?_) (fun j100 x101 => ?_)
      · refine ref_draw [0, 1, 2, 3, 4, 5, 6, 7, 8, 9, 10, 11, 12, 13, 14, 15, 16, 17, 18, 19, 20, 22, 23, 24, 25, 26, 27, 28, 29, 30, 32] rfl (by kernel_rfl) (fun hok => ?_)
        refine a_rd (i := 0) hok rfl (by kernel_rfl) rfl (r_faddr (fo := 1) Tryd.underlying31 rfl rfl Tryd.sizeOf29 rfl) rfl ?_
        refine a_rd (i := 1) hok rfl (by kernel_rfl) rfl (r_cload Tryd.isAgg29 rfl (j := 1) rfl rfl) rfl ?_
        refine a_rd (i := 2) hok rfl (by kernel_rfl) rfl (r_move rfl) rfl ?_
        refine pull fun t94 h_t94 => ?_
        refine a_rd (i := 3) hok rfl (by kernel_rfl) rfl (r_index h_t94 Tryd.underlying29 el_36 rfl rfl) rfl ?_
        refine a_rd (i := 4) hok rfl (by kernel_rfl) rfl (r_fea (fo := 0) (ρ := rT_api_Fraction) (y := t94) (ρ' := (rI .i64)) (z := t94.Num) Tryd.underlying36 rfl rfl Tryd.sizeOf3 rfl rfl rfl) rfl ?_
        refine a_rd (i := 5) hok rfl (by kernel_rfl) rfl (r_load el_3 rfl) rfl ?_
        refine a_rd (i := 6) hok rfl (by kernel_rfl) rfl (r_faddr (fo := 1) Tryd.underlying31 rfl rfl Tryd.sizeOf29 rfl) rfl ?_
        refine a_rd (i := 7) hok rfl (by kernel_rfl) rfl (r_cload Tryd.isAgg29 rfl (j := 1) rfl rfl) rfl ?_
        refine a_rd (i := 8) hok rfl (by kernel_rfl) rfl (r_move rfl) rfl ?_
        refine pull fun t95 h_t95 => ?_
        refine a_rd (i := 9) hok rfl (by kernel_rfl) rfl (r_index h_t95 Tryd.underlying29 el_36 rfl rfl) rfl ?_
        refine a_rd (i := 10) hok rfl (by kernel_rfl) rfl (r_fea (fo := 1) (ρ := rT_api_Fraction) (y := t95) (ρ' := (rI .i64)) (z := t95.Den) Tryd.underlying36 rfl rfl Tryd.sizeOf3 rfl rfl rfl) rfl ?_
        refine a_rd (i := 11) hok rfl (by kernel_rfl) rfl (r_load el_3 rfl) rfl ?_
        refine a_rd (i := 12) hok rfl (by kernel_rfl) rfl (r_eql rfl rfl) rfl ?_
        refine a_rd (i := 13) hok rfl (by kernel_rfl) rfl (r_move rfl) rfl ?_
        refine b_split (t := 69) rfl (fun _ => ?_) (fun _ => ?_)
        · refine a_rdOn (i := 14) hok rfl rfl rfl rfl (by kernel_rfl) rfl (r_move rfl) rfl ?_
          refine a_rdOn (i := 15) hok rfl rfl rfl rfl (by kernel_rfl) rfl (r_faddr (fo := 1) Tryd.underlying27 rfl rfl Tryd.sizeOf25 rfl) rfl ?_
          refine a_rdOn (i := 16) hok rfl rfl rfl rfl (by kernel_rfl) rfl (r_cload Tryd.isAgg25 rfl (j := 0) rfl rfl) rfl ?_
          refine a_rdOn (i := 17) hok rfl rfl rfl rfl (by kernel_rfl) rfl (r_move rfl) rfl ?_
          refine pull fun t96 h_t96 => ?_
          refine a_rdOn (i := 18) hok rfl rfl rfl rfl (by kernel_rfl) rfl (r_index h_t96 Tryd.underlying25 el_63 rfl rfl) rfl ?_
          refine a_rdOn (i := 19) hok rfl rfl rfl rfl (by kernel_rfl) rfl (r_fea (fo := 0) (ρ := rT_api_Pair) (y := t96) (ρ' := (rI .i64)) (z := t96.From) Tryd.underlying63 rfl rfl Tryd.sizeOf3 rfl rfl rfl) rfl ?_
          refine a_rdOn (i := 20) hok rfl rfl rfl rfl (by kernel_rfl) rfl (r_load el_3 rfl) rfl ?_
          refine pull fun t97 h_t97 => ?_
          refine a_next hok 21 [] (by kernel_rfl) ?_ trivial
          refine a_stOn (i := 21) hok rfl rfl rfl rfl rfl (s_callB (ψ := fun (_ : Unit) => bv t97) (args := [.tmp 70, .tmp 76]) Tryd.call44 rfl (net_In_ok h_t97) ⟨argO rfl (j := 3) rfl, argB rfl, trivial⟩ (fun _ _ _ _ _ h => h)) (by intro _ h; cases h; rfl) (fun _ => ⟨trivial, ⟨trivial, ⟨trivial, ⟨trivial, ⟨⟨⟨rfl, rfl⟩, trivial⟩, ⟨trivial, ⟨trivial, ⟨trivial, ⟨trivial, ⟨trivial, ⟨trivial, ⟨trivial, ⟨trivial, ⟨⟨⟨rfl, rfl⟩, trivial⟩, ⟨trivial, ⟨trivial, ⟨trivial, ⟨trivial, ⟨trivial, ⟨⟨⟨rfl, rfl⟩, trivial⟩, ⟨trivial, trivial⟩⟩⟩⟩⟩⟩⟩⟩⟩⟩⟩⟩⟩⟩⟩⟩⟩⟩⟩⟩⟩) (fun _ => ?_)
          refine a_rd (i := 22) hok rfl (by kernel_rfl) rfl (r_pickT rfl rfl) rfl ?_
          refine a_rd (i := 23) hok rfl (by kernel_rfl) rfl (r_move rfl) rfl ?_
          refine b_split (t := 79) rfl (fun _ => ?_) (fun _ => ?_)
          · refine a_rdOn (i := 24) hok rfl rfl rfl rfl (by kernel_rfl) rfl (r_move rfl) rfl ?_
            refine a_rdOn (i := 25) hok rfl rfl rfl rfl (by kernel_rfl) rfl (r_faddr (fo := 1) Tryd.underlying27 rfl rfl Tryd.sizeOf25 rfl) rfl ?_
            refine a_rdOn (i := 26) hok rfl rfl rfl rfl (by kernel_rfl) rfl (r_cload Tryd.isAgg25 rfl (j := 0) rfl rfl) rfl ?_
            refine a_rdOn (i := 27) hok rfl rfl rfl rfl (by kernel_rfl) rfl (r_move rfl) rfl ?_
            refine pull fun t98 h_t98 => ?_
            refine a_rdOn (i := 28) hok rfl rfl rfl rfl (by kernel_rfl) rfl (r_index h_t98 Tryd.underlying25 el_63 rfl rfl) rfl ?_
            refine a_rdOn (i := 29) hok rfl rfl rfl rfl (by kernel_rfl) rfl (r_fea (fo := 1) (ρ := rT_api_Pair) (y := t98) (ρ' := (rI .i64)) (z := t98.To) Tryd.underlying63 rfl rfl Tryd.sizeOf3 rfl rfl rfl) rfl ?_
            refine a_rdOn (i := 30) hok rfl rfl rfl rfl (by kernel_rfl) rfl (r_load el_3 rfl) rfl ?_
            refine pull fun t99 h_t99 => ?_
            refine a_next hok 31 [] (by kernel_rfl) ?_ trivial
            refine a_stOn (i := 31) hok rfl rfl rfl rfl rfl (s_callB (ψ := fun (_ : Unit) => bv t99) (args := [.tmp 80, .tmp 86]) Tryd.call44 rfl (net_In_ok h_t99) ⟨argO rfl (j := 3) rfl, argB rfl, trivial⟩ (fun _ _ _ _ _ h => h)) (by intro _ h; cases h; rfl) (fun _ => ⟨trivial, ⟨trivial, ⟨trivial, ⟨trivial, ⟨⟨⟨rfl, rfl⟩, trivial⟩, ⟨trivial, ⟨trivial, ⟨trivial, ⟨trivial, ⟨trivial, ⟨trivial, ⟨trivial, ⟨trivial, ⟨⟨⟨rfl, rfl⟩, trivial⟩, ⟨trivial, ⟨trivial, ⟨trivial, ⟨trivial, ⟨trivial, ⟨trivial, ⟨trivial, ⟨trivial, ⟨⟨⟨rfl, rfl⟩, trivial⟩, ⟨trivial, ⟨trivial, ⟨trivial, ⟨trivial, ⟨trivial, ⟨⟨⟨rfl, rfl⟩, trivial⟩, ⟨trivial, trivial⟩⟩⟩⟩⟩⟩⟩⟩⟩⟩⟩⟩⟩⟩⟩⟩⟩⟩⟩⟩⟩⟩⟩⟩⟩⟩⟩⟩⟩⟩) (fun _ => ?_)
            refine a_rd (i := 32) hok rfl (by kernel_rfl) rfl (r_pickT rfl rfl) rfl ?_
            refine a_fin hok (by kernel_rfl) ?_
            refine b_of (nrm [oc b1 [iv .i64 g_0.N, slv rT_api_Pair g_0.L], oc b2 [slv rT_api_Fraction o_1.Nodes, slv rT_api_Fraction o_1.Attacks], oc b3 [iv .i64 0, pv (.slice none 0 0)], oa (rI .i64) y37.1 y37.2 q36, oc b38 [iv .i64 g_0.N, pv x92.1], oa rT_api_Pair x92.1 x92.2 s91.2] rfl) ?_
            exact b_to (hk102 t99 ()) (weak [0, 1, 2, 3, 4, 5] ⟨rfl, rfl, rfl, rfl, rfl, rfl, rfl, trivial⟩ ⟨rfl, rfl, rfl, rfl, rfl, rfl, trivial⟩)
          refine a_off (i := 24) hok rfl rfl rfl rfl rfl (by kernel_rfl) rfl rfl ?_
          refine a_off (i := 25) hok rfl rfl rfl rfl rfl (by kernel_rfl) rfl rfl ?_
          refine a_off (i := 26) hok rfl rfl rfl rfl rfl (by kernel_rfl) rfl rfl ?_
          refine a_off (i := 27) hok rfl rfl rfl rfl rfl (by kernel_rfl) rfl rfl ?_
          refine a_off (i := 28) hok rfl rfl rfl rfl rfl (by kernel_rfl) rfl rfl ?_
          refine a_off (i := 29) hok rfl rfl rfl rfl rfl (by kernel_rfl) rfl rfl ?_
          refine a_off (i := 30) hok rfl rfl rfl rfl rfl (by kernel_rfl) rfl rfl ?_
          refine a_next hok 31 [] (by kernel_rfl) ?_ trivial
          refine a_stOff (i := 31) hok rfl rfl rfl rfl rfl rfl (by intro _ h; cases h; rfl) ⟨trivial, ⟨trivial, ⟨trivial, ⟨trivial, ⟨trivial, ⟨trivial, ⟨trivial, ⟨trivial, ⟨trivial, ⟨trivial, ⟨trivial, ⟨trivial, ⟨trivial, ⟨⟨⟨rfl, rfl⟩, trivial⟩, ⟨trivial, ⟨trivial, ⟨trivial, ⟨trivial, ⟨trivial, ⟨trivial, ⟨trivial, ⟨trivial, ⟨⟨⟨rfl, rfl⟩, trivial⟩, ⟨trivial, ⟨trivial, ⟨trivial, ⟨trivial, ⟨trivial, ⟨⟨⟨rfl, rfl⟩, trivial⟩, ⟨trivial, trivial⟩⟩⟩⟩⟩⟩⟩⟩⟩⟩⟩⟩⟩⟩⟩⟩⟩⟩⟩⟩⟩⟩⟩⟩⟩⟩⟩⟩⟩⟩ ?_
          refine a_rd (i := 32) hok rfl (by kernel_rfl) rfl (r_pickF rfl rfl) rfl ?_
          refine a_fin hok (by kernel_rfl) ?_
          exact b_to (hk102 false ()) (weak [0, 1, 2, 3, 4, 5] ⟨rfl, rfl, rfl, rfl, rfl, rfl, rfl, trivial⟩ ⟨rfl, rfl, rfl, rfl, rfl, rfl, trivial⟩)
        refine a_off (i := 14) hok rfl rfl rfl rfl rfl (by kernel_rfl) rfl rfl ?_
        refine a_off (i := 15) hok rfl rfl rfl rfl rfl (by kernel_rfl) rfl rfl ?_
        refine a_off (i := 16) hok rfl rfl rfl rfl rfl (by kernel_rfl) rfl rfl ?_
        refine a_off (i := 17) hok rfl rfl rfl rfl rfl (by kernel_rfl) rfl rfl ?_
        refine a_off (i := 18) hok rfl rfl rfl rfl rfl (by kernel_rfl) rfl rfl ?_
        refine a_off (i := 19) hok rfl rfl rfl rfl rfl (by kernel_rfl) rfl rfl ?_
        refine a_off (i := 20) hok rfl rfl rfl rfl rfl (by kernel_rfl) rfl rfl ?_
        refine a_next hok 21 [] (by kernel_rfl) ?_ trivial
        refine a_stOff (i := 21) hok rfl rfl rfl rfl rfl rfl (by intro _ h; cases h; rfl) ⟨trivial, ⟨trivial, ⟨trivial, ⟨trivial, ⟨trivial, ⟨trivial, ⟨trivial, ⟨trivial, ⟨trivial, ⟨trivial, ⟨trivial, ⟨trivial, ⟨trivial, ⟨⟨⟨rfl, rfl⟩, trivial⟩, ⟨trivial, ⟨trivial, ⟨trivial, ⟨trivial, ⟨trivial, ⟨⟨⟨rfl, rfl⟩, trivial⟩, ⟨trivial, trivial⟩⟩⟩⟩⟩⟩⟩⟩⟩⟩⟩⟩⟩⟩⟩⟩⟩⟩⟩⟩⟩ ?_
        refine a_rd (i := 22) hok rfl (by kernel_rfl) rfl (r_pickF rfl rfl) rfl ?_
        refine a_rd (i := 23) hok rfl (by kernel_rfl) rfl (r_move rfl) rfl ?_
        refine a_off (i := 24) hok rfl rfl rfl rfl rfl (by kernel_rfl) rfl rfl ?_
        refine a_off (i := 25) hok rfl rfl rfl rfl rfl (by kernel_rfl) rfl rfl ?_
        refine a_off (i := 26) hok rfl rfl rfl rfl rfl (by kernel_rfl) rfl rfl ?_
        refine a_off (i := 27) hok rfl rfl rfl rfl rfl (by kernel_rfl) rfl rfl ?_
        refine a_off (i := 28) hok rfl rfl rfl rfl rfl (by kernel_rfl) rfl rfl ?_
        refine a_off (i := 29) hok rfl rfl rfl rfl rfl (by kernel_rfl) rfl rfl ?_
        refine a_off (i := 30) hok rfl rfl rfl rfl rfl (by kernel_rfl) rfl rfl ?_
        refine a_next hok 31 [] (by kernel_rfl) ?_ trivial
        refine a_stOff (i := 31) hok rfl rfl rfl rfl rfl rfl (by intro _ h; cases h; rfl) ⟨trivial, ⟨trivial, ⟨trivial, ⟨trivial, ⟨trivial, ⟨trivial, ⟨trivial, ⟨trivial, ⟨trivial, ⟨trivial, ⟨trivial, ⟨trivial, ⟨trivial, ⟨trivial, ⟨trivial, ⟨trivial, ⟨trivial, ⟨trivial, ⟨trivial, ⟨trivial, ⟨trivial, ⟨trivial, ⟨⟨⟨rfl, rfl⟩, trivial⟩, ⟨trivial, ⟨trivial, ⟨trivial, ⟨trivial, ⟨trivial, ⟨⟨⟨rfl, rfl⟩, trivial⟩, ⟨trivial, trivial⟩⟩⟩⟩⟩⟩⟩⟩⟩⟩⟩⟩⟩⟩⟩⟩⟩⟩⟩⟩⟩⟩⟩⟩⟩⟩⟩⟩⟩⟩ ?_
        refine a_rd (i := 32) hok rfl (by kernel_rfl) rfl (r_pickF rfl rfl) rfl ?_
        refine a_fin hok (by kernel_rfl) ?_
        exact b_to (hk102 false ()) (weak [0, 1, 2, 3, 4, 5] ⟨rfl, rfl, rfl, rfl, rfl, rfl, rfl, trivial⟩ ⟨rfl, rfl, rfl, rfl, rfl, rfl, trivial⟩)
      refine n_then ?_
      refine ref_cond rfl (fun hb103 => ?_) (fun hb103 => ?_)
      · refine ref_draw [0, 1, 2, 3, 4, 5, 6, 9] rfl (by kernel_rfl) (fun hok => ?_)
        refine a_rd (i := 0) hok rfl (by kernel_rfl) rfl (r_faddr (fo := 1) Tryd.underlying27 rfl rfl Tryd.sizeOf25 rfl) rfl ?_
        refine a_rd (i := 1) hok rfl (by kernel_rfl) rfl (r_cload Tryd.isAgg25 rfl (j := 4) rfl rfl) rfl ?_
        refine a_rd (i := 2) hok rfl (by kernel_rfl) rfl (r_faddr (fo := 1) Tryd.underlying27 rfl rfl Tryd.sizeOf25 rfl) rfl ?_
        refine a_rd (i := 3) hok rfl (by kernel_rfl) rfl (r_cload Tryd.isAgg25 rfl (j := 0) rfl rfl) rfl ?_
        refine a_rd (i := 4) hok rfl (by kernel_rfl) rfl (r_move rfl) rfl ?_
        refine pull fun t104 h_t104 => ?_
        refine a_rd (i := 5) hok rfl (by kernel_rfl) rfl (r_index h_t104 Tryd.underlying25 el_63 rfl rfl) rfl ?_
        refine a_rd (i := 6) hok rfl (by kernel_rfl) rfl (r_load el_63 rfl) rfl ?_
        refine a_next hok 7 [] (by kernel_rfl) ?_ trivial
        refine a_st (i := 7) hok rfl rfl (s_bslice (xs := [.tmp 95]) (ds := [t104]) Tryd.underlying25 el_63 rfl (Nat.le_of_ble_eq_true rfl) ⟨(part_agO (ψs := [iv .i64 t104.From, iv .i64 t104.To]) rfl ⟨.inl iv_at, .inl iv_at, trivial⟩), trivial⟩) (by intro _ h; cases h; rfl) (fun _ => ⟨trivial, ⟨trivial, ⟨trivial, ⟨⟨⟨rfl, rfl⟩, trivial⟩, ⟨trivial, ⟨⟨⟨rfl, rfl⟩, trivial⟩, ⟨trivial, trivial⟩⟩⟩⟩⟩⟩⟩) (fun _ => ?_)
        refine pull fun t105 h_t105 => ?_
        refine a_next hok 8 [] (by kernel_rfl) ?_ trivial
        refine a_st (i := 8) hok rfl rfl (s_append h_t105 Tryd.underlying25 el_63 rfl (j := 5) rfl rfl) (by intro _ h; cases h; rfl) (fun _ => ⟨trivial, ⟨trivial, ⟨trivial, ⟨⟨⟨rfl, rfl⟩, trivial⟩, ⟨trivial, ⟨trivial, ⟨trivial, trivial⟩⟩⟩⟩⟩⟩⟩) (fun o106 => ?_)
        refine a_rd (i := 9) hok rfl (by kernel_rfl) rfl (r_faddr (fo := 1) Tryd.underlying27 rfl rfl Tryd.sizeOf25 rfl) rfl ?_
        refine a_next hok 10 [] (by kernel_rfl) ?_ trivial
        refine a_st (i := 10) hok rfl rfl (s_cstore (out := [iv .i64 g_0.N, pv o106.1]) Tryd.sizeOf25 rfl (j := 4) rfl (part_own rfl (j := 5) rfl) rfl rfl rfl) (by intro _ h; cases h) (fun _ => ⟨trivial, ⟨trivial, ⟨trivial, ⟨trivial, ⟨trivial, ⟨trivial, ⟨trivial, ⟨trivial, trivial⟩⟩⟩⟩⟩⟩⟩⟩) (fun _ => ?_)
        refine a_fin hok (by kernel_rfl) ?_
        refine n_block (n_then (ref_region ?_))
        refine mv1 rfl rfl ?_
        refine s_rd (r_add rfl rfl) rfl ?_
        refine as1 rfl rfl ?_
        refine b_let (f := iv .i64) (t := 11) rfl fun i107 => ?_
        refine l_nil ?_
        exact goB o106 (weak [0, 1, 2, 3, 4, 5] ⟨rfl, rfl, rfl, rfl, rfl, rfl, trivial⟩ ⟨rfl, rfl, rfl, rfl, rfl, rfl, trivial⟩)
      refine ref_skip (n_block (n_then (ref_region ?_)))
      refine mv1 rfl rfl ?_
      refine s_rd (r_add rfl rfl) rfl ?_
      refine as1 rfl rfl ?_
      refine b_let (f := iv .i64) (t := 11) rfl fun i108 => ?_
      refine l_nil ?_
      exact goB x92 (weak [0, 1, 2, 3, 4, 5] ⟨rfl, rfl, rfl, rfl, rfl, rfl, trivial⟩ ⟨rfl, rfl, rfl, rfl, rfl, rfl, trivial⟩)
    refine ref_exit (x_then ?_)
    exact brkB x92 (weak [2, 3, 4, 5] ⟨rfl, rfl, rfl, trivial⟩ ⟨rfl, rfl, rfl, rfl, trivial⟩)
  refine n_then (ref_seq (ref_region ?_))
  refine s_rd (r_cloadS Tryd.isAgg27 Tryd.sizeOf27 rfl (j := 2) rfl rfl rfl) rfl ?_
  refine mv1 rfl rfl ?_
  refine s_st0 (s_cstore (out := [iv .i64 g_0.N, pv y110.1]) Tryd.sizeOf27 rfl (j := 0) rfl (part_agO (ψs := [iv .i64 g_0.N, pv y110.1]) rfl ⟨.inl iv_at, .inr ⟨_, _, _, _, _, 3, rfl, rfl⟩, trivial⟩) rfl rfl rfl) (fun _ => ?_)
  refine as1 rfl rfl ?_
  refine as1 rfl rfl ?_
  refine l_nil (n_then (ref_ret ?_))
  refine b_of (frzGL [(99, ag [iv .i64 g_0.N, slv rT_api_Pair q109])] [(0, b3, [iv .i64 g_0.N, slv rT_api_Pair q109]), (2, b38, [iv .i64 g_0.N, slv rT_api_Pair q109])] (j := 3) rfl ⟨⟨_, rfl, .inr ⟨_, _, rfl, rfl, ⟨.inl rfl, .inr ⟨rfl, rfl⟩, trivial⟩⟩⟩, trivial⟩ ⟨⟨_, rfl, ⟨.inl rfl, .inr ⟨rfl, rfl⟩, trivial⟩⟩, ⟨_, rfl, ⟨.inl rfl, .inr ⟨rfl, rfl⟩, trivial⟩⟩, trivial⟩) ?_
  refine b_of (nrm [oc b3 [iv .i64 g_0.N, slv rT_api_Pair q109], oa (rI .i64) y37.1 y37.2 q36, oc b38 [iv .i64 g_0.N, slv rT_api_Pair q109], dead] rfl) ?_
  exact fin3 (.inl rfl) y37 [1] rfl ⟨rfl, trivial⟩ rfl (rv_cell rfl (j := 0) rfl Tryd.isAgg27 Tryd.sizeOf27 rfl rfl) (rv_tmp rfl) (rv_tmp rfl)

/-! deliberation/deliberationnet.Pairs -/
noncomputable def net_Pairs_l1 (a__0 : (List T_api_Pair)) (b_1 : (List T_api_Pair)) (s8 : Int) : Option (Sum ((Sum (Bool) (Unit))) (Int)) :=
  bif decide (s8 < (a__0.length : Int)) then
    Option.bind (idxM a__0 s8) fun t11 =>
    Option.bind (idxM b_1 s8) fun t12 =>
    bif !decide (t11 = t12) then
      some (Sum.inl (Sum.inl false))
    else
      some (Sum.inr (iadd .i64 s8 1))
  else
    some (Sum.inl (Sum.inr ()))

noncomputable def net_Pairs_m (a__0 : (List T_api_Pair)) (b_1 : (List T_api_Pair)) : Option (Bool) :=
  bif (a__0.length : Int) != (b_1.length : Int) then
    some false
  else
    Option.bind (loopC (net_Pairs_l1 a__0 b_1) 0) (sumK (fun a : Bool => some a) fun q14 : Unit =>
      some true)

theorem net_Pairs_ok {a__0 : (List T_api_Pair)} {b_1 : (List T_api_Pair)} {r : Bool} (hm : net_Pairs_m a__0 b_1 = some r) :
    FnOk prog 53 [slv rT_api_Pair a__0, slv rT_api_Pair b_1] [] (fun (x : Unit) => [bv r]) (fun (x : Unit) => []) := by
  refine fn_ok (fn := Tryd.f53) (N := 26) (res := fun r x => [bv r]) (Ω1 := fun r x => []) Tryd.func53 rfl rfl hm rfl (fun E hM => ?_)
  unfold net_Pairs_m
  refine ref_seq (ref_region ?_)
  refine as1 rfl rfl ?_
  refine l_nil (n_then (ref_seq (ref_seq (ref_region ?_))))
  refine mv1 rfl rfl ?_
  refine s_rd (r_len Tryd.underlying25 rfl) rfl ?_
  refine mv1 rfl rfl ?_
  refine s_rd (r_len Tryd.underlying25 rfl) rfl ?_
  refine s_rd (r_neq rfl rfl) rfl ?_
  refine l_nil (n_then ?_)
  refine ref_cond rfl (fun hb1 => ?_) (fun hb1 => ?_)
  · refine ref_seq (ref_region ?_)
    refine as1 rfl rfl ?_
    refine l_nil (n_then (ref_ret (r_then ?_)))
    exact fin1 (.inl rfl) () [] rfl trivial rfl (rv_tmp rfl)
  refine ref_skip (n_then (ref_seq (ref_seq (ref_region ?_))))
  refine as1 rfl rfl ?_
  refine l_nil (n_then ?_)
  refine ref_loopX (f := (net_Pairs_l1 a__0 b_1)) (Γl := (fun (s8 : Int) (x9 : Unit) => [(0, slv rT_api_Pair a__0), (1, slv rT_api_Pair b_1), (5, iv .i64 s8)])) (Ωl := (fun (s8 : Int) (x9 : Unit) => [])) (Γb := (fun (q14 : Unit) (y15 : Unit) => [])) (Ωb := (fun (q14 : Unit) (y15 : Unit) => [])) (kr := (fun a : Bool => some a)) 0 () (weak [] ⟨rfl, rfl, rfl, trivial⟩ trivial) (fun s8 x9 => ?_) (fun q14 y15 => ?_)
  · unfold net_Pairs_l1
    refine ref_seq (ref_seq (ref_region ?_))
    refine mv1 rfl rfl ?_
    refine mv1 rfl rfl ?_
    refine s_rd (r_len Tryd.underlying25 rfl) rfl ?_
    refine s_rd (r_lss rfl rfl) rfl ?_
    refine l_nil (n_then ?_)
    refine ref_cond rfl (fun hb10 => ?_) (fun hb10 => ?_)
    · refine ref_skip (n_then (ref_seq (ref_block (ref_seq ?_))))
      refine ref_draw [0, 1, 2, 3, 4, 5, 6, 7, 8] rfl (by kernel_rfl) (fun hok => ?_)
      refine a_rd (i := 0) hok rfl (by kernel_rfl) rfl (r_move rfl) rfl ?_
      refine a_rd (i := 1) hok rfl (by kernel_rfl) rfl (r_move rfl) rfl ?_
      refine pull fun t11 h_t11 => ?_
      refine a_rd (i := 2) hok rfl (by kernel_rfl) rfl (r_index h_t11 Tryd.underlying25 el_63 rfl rfl) rfl ?_
      refine a_rd (i := 3) hok rfl (by kernel_rfl) rfl (r_load el_63 rfl) rfl ?_
      refine a_rd (i := 4) hok rfl (by kernel_rfl) rfl (r_move rfl) rfl ?_
      refine a_rd (i := 5) hok rfl (by kernel_rfl) rfl (r_move rfl) rfl ?_
      refine pull fun t12 h_t12 => ?_
      refine a_rd (i := 6) hok rfl (by kernel_rfl) rfl (r_index h_t12 Tryd.underlying25 el_63 rfl rfl) rfl ?_
      refine a_rd (i := 7) hok rfl (by kernel_rfl) rfl (r_load el_63 rfl) rfl ?_
      refine a_rd (i := 8) hok rfl (by kernel_rfl) rfl (r_stneq (u := t11) (v := t12) eq_63 rfl rfl rfl rfl) rfl ?_
      refine a_fin hok (by kernel_rfl) ?_
      refine n_then ?_
      refine ref_cond rfl (fun hb13 => ?_) (fun hb13 => ?_)
      · refine ref_seq (ref_region ?_)
        refine as1 rfl rfl ?_
        refine l_nil (n_then (ref_ret (r_block (r_then ?_))))
        refine retX ?_
        refine r_block (r_then ?_)
        exact fin1 (.inl rfl) () [] rfl trivial rfl (rv_tmp rfl)
      refine ref_skip (n_block (n_then (ref_region ?_)))
      refine mv1 rfl rfl ?_
      refine s_rd (r_add rfl rfl) rfl ?_
      refine as1 rfl rfl ?_
      refine l_nil ?_
      exact goX () (weak [] ⟨rfl, rfl, rfl, trivial⟩ trivial)
    refine ref_exit (x_then ?_)
    exact brkX () (weak [] trivial trivial)
  refine n_then (ref_seq (ref_region ?_))
  refine as1 rfl rfl ?_
  refine l_nil (n_then (ref_ret ?_))
  exact fin1 (.inl rfl) () [] rfl trivial rfl (rv_tmp rfl)

end Go.Dc
