/- Part LAW28C.A2 of a proof: lemmas. -/
import Derived.Test.YtodnndlcnignbaaLAW28CA1
import Derived.Test.YtodnndlcnignbaaProg
set_option linter.unusedVariables false
set_option maxRecDepth 100000
set_option maxHeartbeats 4000000
namespace Go.Dc
open Go.Proofs
open Go.Proofs.Try (prog)

/-! deliberation/deliberationref27.repeated -/
noncomputable def ref27_repeated_l1 (d_0 : T_api_Dialogue) (node_2 : Int) (s12 : Int) : Option (Sum ((Sum (Bool) (Unit))) (Int)) :=
  bif decide (s12 > 0) then
    joinM (fun j18 : Unit =>
        Option.bind (idxM d_0.Moves s12) fun t21 =>
        some (Sum.inr t21.Target)) fun k20 =>
    Option.bind (idxM d_0.Moves s12) fun t15 =>
    bif t15.By == 1 then
      Option.bind (idxM d_0.Moves s12) fun t16 =>
      bif t16.Node == node_2 then
        some (Sum.inl (Sum.inl true))
      else
        k20 ()
    else
      k20 ()
  else
    some (Sum.inl (Sum.inr ()))

noncomputable def ref27_repeated_m (d_0 : T_api_Dialogue) (at__1 : Int) (node_2 : Int) : Option (Bool) :=
  Option.bind (loopC (ref27_repeated_l1 d_0 node_2) at__1) (sumK (fun a : Bool => some a) fun q22 : Unit =>
    Option.bind (idxM d_0.Moves 0) fun t24 =>
    letM (t24.Node == node_2) fun t25 =>
    some t25)

theorem ref27_repeated_ok {d_0 : T_api_Dialogue} {at__1 : Int} {node_2 : Int} {r : Bool} (hm : ref27_repeated_m d_0 at__1 node_2 = some r) :
    FnOk prog 79 [ag [iv .i64 d_0.Graph.N, slv rT_api_Pair d_0.Graph.L, iv .i64 d_0.Root, iv .i64 d_0.Limits.i0, iv .i64 d_0.Limits.i1, slv rT_api_Move d_0.Moves], iv .i64 at__1, iv .i64 node_2] [] (fun (x : Unit) => [bv r]) (fun (x : Unit) => []) := by
  refine fn_ok (fn := Try.f79) (N := 39) (res := fun r x => [bv r]) (Ω1 := fun r x => []) Try.func79 rfl rfl hm rfl (fun E hM => ?_)
  unfold ref27_repeated_m
  refine ref_seq (ref_region ?_)
  refine s_st (s_box (part_agO (ψs := [iv .i64 d_0.Graph.N, slv rT_api_Pair d_0.Graph.L, iv .i64 d_0.Root, iv .i64 d_0.Limits.i0, iv .i64 d_0.Limits.i1, slv rT_api_Move d_0.Moves]) rfl ⟨.inl iv_at, .inl slv_at, .inl iv_at, .inl iv_at, .inl iv_at, .inl slv_at, trivial⟩)) rfl (fun b1 => ?_)
  refine as1 rfl rfl ?_
  refine l_nil (n_then (ref_seq ?_))
  refine ref_loopX (f := (ref27_repeated_l1 d_0 node_2)) (Γl := (fun (s12 : Int) (x13 : Unit) => [(1, iv .i64 s12), (2, iv .i64 node_2), (3, pv (ptr b1 0))])) (Ωl := (fun (s12 : Int) (x13 : Unit) => [oc b1 [iv .i64 d_0.Graph.N, slv rT_api_Pair d_0.Graph.L, iv .i64 d_0.Root, iv .i64 d_0.Limits.i0, iv .i64 d_0.Limits.i1, slv rT_api_Move d_0.Moves]])) (Γb := (fun (q22 : Unit) (y23 : Unit) => [(2, iv .i64 node_2), (3, pv (ptr b1 0))])) (Ωb := (fun (q22 : Unit) (y23 : Unit) => [oc b1 [iv .i64 d_0.Graph.N, slv rT_api_Pair d_0.Graph.L, iv .i64 d_0.Root, iv .i64 d_0.Limits.i0, iv .i64 d_0.Limits.i1, slv rT_api_Move d_0.Moves]])) (kr := (fun a : Bool => some a)) at__1 () (weak [0] ⟨rfl, rfl, rfl, trivial⟩ ⟨rfl, trivial⟩) (fun s12 x13 => ?_) (fun q22 y23 => ?_)
  · unfold ref27_repeated_l1
    refine ref_seq (ref_seq (ref_region ?_))
    refine mv1 rfl rfl ?_
    refine s_rd (r_gtr rfl rfl) rfl ?_
    refine l_nil (n_then ?_)
    refine ref_cond rfl (fun hb14 => ?_) (fun hb14 => ?_)
    · refine ref_skip (n_then (ref_block (ref_seq ?_)))
      refine ref_join (fun (j18 : Unit) (x19 : Unit) => [(1, iv .i64 s12), (2, iv .i64 node_2), (3, pv (ptr b1 0))]) (fun (j18 : Unit) (x19 : Unit) => [oc b1 [iv .i64 d_0.Graph.N, slv rT_api_Pair d_0.Graph.L, iv .i64 d_0.Root, iv .i64 d_0.Limits.i0, iv .i64 d_0.Limits.i1, slv rT_api_Move d_0.Moves]]) (fun k20 hk20 => ?_) (fun j18 x19 => ?_)
      · refine ref_seq (ref_region ?_)
        refine s_rd (r_faddr (fo := 5) Try.underlying35 rfl rfl Try.sizeOf23 rfl) rfl ?_
        refine s_rd (r_cload Try.isAgg23 rfl (j := 0) rfl rfl) rfl ?_
        refine mv1 rfl rfl ?_
        refine pull fun t15 h_t15 => ?_
        refine s_rd (r_index h_t15 Try.underlying23 el_40 rfl rfl) rfl ?_
        refine s_rd (r_fea (fo := 0) (ρ := rT_api_Move) (y := t15) (ρ' := (rI .i64)) (z := t15.By) Try.underlying40 rfl rfl Try.sizeOf3 rfl rfl rfl) rfl ?_
        refine s_rd (r_load el_3 rfl) rfl ?_
        refine s_rd (r_eql rfl rfl) rfl ?_
        refine mv1 rfl rfl ?_
        refine b_split (t := 16) rfl (fun _ => ?_) (fun _ => ?_)
        · refine s_on rfl rfl rfl ?_
          refine s_rd (r_faddr (fo := 5) Try.underlying35 rfl rfl Try.sizeOf23 rfl) rfl ?_
          refine s_on rfl rfl rfl ?_
          refine s_rd (r_cload Try.isAgg23 rfl (j := 0) rfl rfl) rfl ?_
          refine s_on rfl rfl rfl ?_
          refine mv1 rfl rfl ?_
          refine s_on rfl rfl rfl ?_
          refine pull fun t16 h_t16 => ?_
          refine s_rd (r_index h_t16 Try.underlying23 el_40 rfl rfl) rfl ?_
          refine s_on rfl rfl rfl ?_
          refine s_rd (r_fea (fo := 2) (ρ := rT_api_Move) (y := t16) (ρ' := (rI .i64)) (z := t16.Node) Try.underlying40 rfl rfl Try.sizeOf3 rfl rfl rfl) rfl ?_
          refine s_on rfl rfl rfl ?_
          refine s_rd (r_load el_3 rfl) rfl ?_
          refine s_on rfl rfl rfl ?_
          refine mv1 rfl rfl ?_
          refine s_on rfl rfl rfl ?_
          refine s_rd (r_eql rfl rfl) rfl ?_
          refine s_rd (r_pickT rfl rfl) rfl ?_
          refine l_nil (n_then ?_)
          refine ref_cond rfl (fun hb17 => ?_) (fun hb17 => ?_)
          · refine ref_seq (ref_region ?_)
            refine as1 rfl rfl ?_
            refine l_nil (n_then (ref_ret (r_then (r_block ?_))))
            refine retX ?_
            refine r_block (r_then ?_)
            exact fin1 (.inl rfl) () [] rfl trivial rfl (rv_tmp rfl)
          refine ref_skip ?_
          exact b_to (hk20 () ()) (weak [0] ⟨rfl, rfl, rfl, trivial⟩ ⟨rfl, trivial⟩)
        refine s_off rfl rfl rfl rfl rfl ?_
        refine s_off rfl rfl rfl rfl rfl ?_
        refine s_off rfl rfl rfl rfl rfl ?_
        refine s_off rfl rfl rfl rfl rfl ?_
        refine s_off rfl rfl rfl rfl rfl ?_
        refine s_off rfl rfl rfl rfl rfl ?_
        refine s_off rfl rfl rfl rfl rfl ?_
        refine s_off rfl rfl rfl rfl rfl ?_
        refine s_rd (r_pickF rfl rfl) rfl ?_
        refine l_nil (n_then ?_)
        refine ref_condF rfl rfl ?_
        refine ref_skip ?_
        exact b_to (hk20 () ()) (weak [0] ⟨rfl, rfl, rfl, trivial⟩ ⟨rfl, trivial⟩)
      refine n_then (ref_region ?_)
      refine s_rd (r_faddr (fo := 5) Try.underlying35 rfl rfl Try.sizeOf23 rfl) rfl ?_
      refine s_rd (r_cload Try.isAgg23 rfl (j := 0) rfl rfl) rfl ?_
      refine mv1 rfl rfl ?_
      refine pull fun t21 h_t21 => ?_
      refine s_rd (r_index h_t21 Try.underlying23 el_40 rfl rfl) rfl ?_
      refine s_rd (r_fea (fo := 3) (ρ := rT_api_Move) (y := t21) (ρ' := (rI .i64)) (z := t21.Target) Try.underlying40 rfl rfl Try.sizeOf3 rfl rfl rfl) rfl ?_
      refine s_rd (r_load el_3 rfl) rfl ?_
      refine as1 rfl rfl ?_
      refine l_nil (n_block ?_)
      exact goX () (weak [0] ⟨rfl, rfl, rfl, trivial⟩ ⟨rfl, trivial⟩)
    refine ref_exit (x_then ?_)
    exact brkX () (weak [0] ⟨rfl, rfl, trivial⟩ ⟨rfl, trivial⟩)
  refine n_then (ref_seq (ref_region ?_))
  refine s_rd (r_faddr (fo := 5) Try.underlying35 rfl rfl Try.sizeOf23 rfl) rfl ?_
  refine s_rd (r_cload Try.isAgg23 rfl (j := 0) rfl rfl) rfl ?_
  refine pull fun t24 h_t24 => ?_
  refine s_rd (r_index h_t24 Try.underlying23 el_40 rfl rfl) rfl ?_
  refine s_rd (r_fea (fo := 2) (ρ := rT_api_Move) (y := t24) (ρ' := (rI .i64)) (z := t24.Node) Try.underlying40 rfl rfl Try.sizeOf3 rfl rfl rfl) rfl ?_
  refine s_rd (r_load el_3 rfl) rfl ?_
  refine mv1 rfl rfl ?_
  refine s_rd (r_eql rfl rfl) rfl ?_
  refine as1 rfl rfl ?_
  refine b_let (f := bv) (t := 6) rfl fun t25 => ?_
  refine l_nil (n_then (ref_ret ?_))
  exact fin1 (.inl rfl) () [] rfl trivial rfl (rv_tmp rfl)

/-! deliberation/deliberationref27.attacks -/
noncomputable def ref27_attacks_l3 (d_0 : T_api_Dialogue) (t226 : Int) (s295 : Int × (List T_api_Move)) (s307 : Bool × Int) : Option (Sum (Bool) (Bool × Int)) :=
  bif decide (s307.2 < (d_0.Moves.length : Int)) then
    bif s307.1 then
      Option.bind (idxM d_0.Moves s307.2) fun t310 =>
      bif t310.Kind == 2 then
        Option.bind (idxM d_0.Moves s307.2) fun t311 =>
        bif t311.Target == t226 then
          Option.bind (idxM d_0.Moves s307.2) fun t312 =>
          letM (!(t312.Node == s295.1)) fun ok313 =>
          letM (iadd .i64 s307.2 1) fun k314 =>
          some (Sum.inr (ok313, k314))
        else
          letM (iadd .i64 s307.2 1) fun k315 =>
          some (Sum.inr (!false, k315))
      else
        letM (iadd .i64 s307.2 1) fun k316 =>
        some (Sum.inr (!false, k316))
    else
      letM (iadd .i64 s307.2 1) fun k317 =>
      some (Sum.inr (false, k317))
  else
    some (Sum.inl s307.1)

noncomputable def ref27_attacks_l2 (d_0 : T_api_Dialogue) (t4 : Int) (t226 : Int) (s295 : Int × (List T_api_Move)) : Option (Sum ((List T_api_Move)) (Int × (List T_api_Move))) :=
  bif decide (s295.1 < d_0.Graph.N) then
    Option.bind (idxM d_0.Moves t226) fun t298 =>
    Option.bind (net_Has_m d_0.Graph s295.1 t298.Node) fun ok299 =>
    Option.bind (loopC (ref27_attacks_l3 d_0 t226 s295) (ok299, 0)) fun q318 : Bool =>
    joinM (fun j321 : Bool =>
        bif j321 then
          Option.bind (appM 32 s295.2 [(T_api_Move.mk (isub .i64 3 t4) 2 s295.1 t226)]) fun out325 =>
          letM (iadd .i64 s295.1 1) fun a_327 =>
          some (Sum.inr (a_327, out325))
        else
          letM (iadd .i64 s295.1 1) fun a_328 =>
          some (Sum.inr (a_328, s295.2))) fun k323 =>
    bif q318 then
      bif (isub .i64 3 t4) == 2 then
        k323 true
      else
        Option.bind (ref27_repeated_m d_0 t226 s295.1) fun t320 =>
        k323 (!t320)
    else
      k323 false
  else
    some (Sum.inl s295.2)

noncomputable def ref27_attacks_l1 (d_0 : T_api_Dialogue) (t4 : Int) (t5 : List Int) (s223 : Int × (List T_api_Move)) : Option (Sum ((List T_api_Move)) (Int × (List T_api_Move))) :=
  bif decide (s223.1 < (t5.length : Int)) then
    Option.bind (idxM t5 s223.1) fun t226 =>
    Option.bind (idxM d_0.Moves t226) fun t227 =>
    bif t227.By == (isub .i64 3 t4) then
      some (Sum.inr (iadd .i64 s223.1 1, s223.2))
    else
      Option.bind (loopC (ref27_attacks_l2 d_0 t4 t226) (0, s223.2)) fun q329 : (List T_api_Move) =>
      some (Sum.inr (iadd .i64 s223.1 1, q329))
  else
    some (Sum.inl s223.2)

noncomputable def ref27_attacks_m (d_0 : T_api_Dialogue) : Option (List T_api_Move) :=
  Option.bind (ref27_Status_m d_0) fun status2 =>
  Option.bind (ref27_leader_m status2) fun t4 =>
  Option.bind (ref27_Leading_m d_0) fun t5 =>
  Option.bind (loopC (ref27_attacks_l1 d_0 t4 t5) (0, [])) fun q331 : (List T_api_Move) =>
  some q331

theorem ref27_attacks_ok {d_0 : T_api_Dialogue} {r : List T_api_Move} (hm : ref27_attacks_m d_0 = some r) :
    FnOk prog 56 [ag [iv .i64 d_0.Graph.N, slv rT_api_Pair d_0.Graph.L, iv .i64 d_0.Root, iv .i64 d_0.Limits.i0, iv .i64 d_0.Limits.i1, slv rT_api_Move d_0.Moves]] [] (fun (x : (Value × List Nat)) => [pv x.1]) (fun (x : (Value × List Nat)) => [oa rT_api_Move x.1 x.2 r]) := by
  refine fn_ok (X := (Value × List Nat)) (fn := Try.f56) (N := 107) (res := fun r x => [pv x.1]) (Ω1 := fun r x => [oa rT_api_Move x.1 x.2 r]) Try.func56 rfl rfl hm rfl (fun E hM => ?_)
  unfold ref27_attacks_m
  refine ref_seq (ref_region ?_)
  refine s_st (s_box (part_agO (ψs := [iv .i64 d_0.Graph.N, slv rT_api_Pair d_0.Graph.L, iv .i64 d_0.Root, iv .i64 d_0.Limits.i0, iv .i64 d_0.Limits.i1, slv rT_api_Move d_0.Moves]) rfl ⟨.inl iv_at, .inl slv_at, .inl iv_at, .inl iv_at, .inl iv_at, .inl slv_at, trivial⟩)) rfl (fun b1 => ?_)
  refine as1 rfl rfl ?_
  refine l_nil (n_then (ref_seq (ref_region ?_)))
  refine s_rd (r_cloadS Try.isAgg35 Try.sizeOf35 rfl (j := 0) rfl rfl rfl) rfl ?_
  refine pull fun status2 h_status2 => ?_
  refine s_st (s_call (ψ := fun (x3 : (Value × List Nat)) => pv x3.1) (args := [.tmp 11]) Try.call55 rfl (ref27_Status_ok h_status2) ⟨arg rfl, trivial⟩ (fun _ _ _ _ h => h)) rfl (fun x3 => ?_)
  refine as1 rfl rfl ?_
  refine l_nil (n_then (ref_seq (ref_region ?_)))
  refine mv1 rfl rfl ?_
  refine pull fun t4 h_t4 => ?_
  refine s_st (s_callB (ψ := fun (_ : Unit) => iv .i64 t4) (args := [.tmp 13]) Try.call54 rfl (ref27_leader_ok h_t4) ⟨argO rfl (j := 1) rfl, trivial⟩ (fun _ _ _ _ _ h => h)) rfl (fun _ => ?_)
  refine s_rd (r_sub rfl rfl) rfl ?_
  refine as1 rfl rfl ?_
  refine l_nil (n_then (ref_seq (ref_region ?_)))
  refine as1 rfl rfl ?_
  refine l_nil (n_then (ref_seq (ref_seq (ref_region ?_))))
  refine s_rd (r_cloadS Try.isAgg35 Try.sizeOf35 rfl (j := 0) rfl rfl rfl) rfl ?_
  refine pull fun t5 h_t5 => ?_
  refine s_st (s_call (ψ := fun (x6 : (Value × List Nat)) => pv x6.1) (args := [.tmp 16]) Try.call78 rfl (ref27_Leading_ok h_t5) ⟨arg rfl, trivial⟩ (fun _ _ _ _ h => h)) rfl (fun x6 => ?_)
  refine s_rd (r_olen Try.underlying22 rfl (j := 2) rfl) rfl ?_
  refine mv1 rfl rfl ?_
  refine l_nil ?_
  refine b_of (nrm [oc b1 [iv .i64 d_0.Graph.N, slv rT_api_Pair d_0.Graph.L, iv .i64 d_0.Root, iv .i64 d_0.Limits.i0, iv .i64 d_0.Limits.i1, slv rT_api_Move d_0.Moves], oa (rI .i64) x3.1 x3.2 status2, oa (rI .i64) x6.1 x6.2 t5] rfl) ?_
  refine n_then ?_
  refine b_of (own_nil rT_api_Move) ?_
  refine ref_loopB (f := (ref27_attacks_l1 d_0 t4 t5)) (Γl := (fun (s223 : Int × (List T_api_Move)) (x224 : (Value × List Nat)) => [(1, pv (ptr b1 0)), (4, iv .i64 (isub .i64 3 t4)), (5, pv x224.1), (17, pv x6.1), (18, iv .i64 (t5.length : Int)), (19, iv .i64 s223.1)])) (Ωl := (fun (s223 : Int × (List T_api_Move)) (x224 : (Value × List Nat)) => [oc b1 [iv .i64 d_0.Graph.N, slv rT_api_Pair d_0.Graph.L, iv .i64 d_0.Root, iv .i64 d_0.Limits.i0, iv .i64 d_0.Limits.i1, slv rT_api_Move d_0.Moves], oa rT_api_Move x224.1 x224.2 s223.2, oa (rI .i64) x6.1 x6.2 t5])) (Γb := (fun (q331 : (List T_api_Move)) (y332 : (Value × List Nat)) => [(5, pv y332.1)])) (Ωb := (fun (q331 : (List T_api_Move)) (y332 : (Value × List Nat)) => [oa rT_api_Move y332.1 y332.2 q331])) (0, []) ((.slice none 0 0), []) (weak [0, 3, 2] ⟨rfl, rfl, rfl, rfl, rfl, rfl, trivial⟩ ⟨rfl, rfl, rfl, trivial⟩) (fun s223 x224 => ?_) (fun q331 y332 => ?_)
  · unfold ref27_attacks_l1
    refine ref_seq (ref_region ?_)
    refine s_rd (r_lss rfl rfl) rfl ?_
    refine l_nil (n_then (ref_seq ?_))
    refine ref_cond rfl (fun hb225 => ?_) (fun hb225 => ?_)
    · refine ref_skip (n_then (ref_seq (ref_block (ref_seq (ref_region ?_)))))
      refine pull fun t226 h_t226 => ?_
      refine s_rd (r_oindex h_t226 Try.underlying22 el_3 rfl (j := 2) rfl rfl) rfl ?_
      refine s_rd (r_oload h_t226 el_3 rfl (j := 2) rfl) rfl ?_
      refine as1 rfl rfl ?_
      refine l_nil (n_then (ref_seq (ref_seq (ref_region ?_))))
      refine s_rd (r_faddr (fo := 5) Try.underlying35 rfl rfl Try.sizeOf23 rfl) rfl ?_
      refine s_rd (r_cload Try.isAgg23 rfl (j := 0) rfl rfl) rfl ?_
      refine mv1 rfl rfl ?_
      refine pull fun t227 h_t227 => ?_
      refine s_rd (r_index h_t227 Try.underlying23 el_40 rfl rfl) rfl ?_
      refine s_rd (r_fea (fo := 0) (ρ := rT_api_Move) (y := t227) (ρ' := (rI .i64)) (z := t227.By) Try.underlying40 rfl rfl Try.sizeOf3 rfl rfl rfl) rfl ?_
      refine s_rd (r_load el_3 rfl) rfl ?_
      refine mv1 rfl rfl ?_
      refine s_rd (r_eql rfl rfl) rfl ?_
      refine l_nil (n_then ?_)
      refine ref_cond rfl (fun hb228 => ?_) (fun hb228 => ?_)
      · refine ref_exit (x_then (x_eq (n_then (ref_region ?_))))
        refine s_rd (r_add rfl rfl) rfl ?_
        refine mv1 rfl rfl ?_
        refine l_nil ?_
        exact goB x224 (weak [0, 1, 2] ⟨rfl, rfl, rfl, rfl, rfl, rfl, trivial⟩ ⟨rfl, rfl, rfl, trivial⟩)
      refine ref_skip (n_then (ref_seq (ref_region ?_)))
      refine as1 rfl rfl ?_
      refine l_nil (n_then ?_)
      refine ref_loopB (f := (ref27_attacks_l2 d_0 t4 t226)) (Γl := (fun (s295 : Int × (List T_api_Move)) (x296 : (Value × List Nat)) => [(1, pv (ptr b1 0)), (4, iv .i64 (isub .i64 3 t4)), (5, pv x296.1), (7, iv .i64 t226), (8, iv .i64 s295.1), (17, pv x6.1), (18, iv .i64 (t5.length : Int)), (19, iv .i64 s223.1)])) (Ωl := (fun (s295 : Int × (List T_api_Move)) (x296 : (Value × List Nat)) => [oc b1 [iv .i64 d_0.Graph.N, slv rT_api_Pair d_0.Graph.L, iv .i64 d_0.Root, iv .i64 d_0.Limits.i0, iv .i64 d_0.Limits.i1, slv rT_api_Move d_0.Moves], oa rT_api_Move x296.1 x296.2 s295.2, oa (rI .i64) x6.1 x6.2 t5])) (Γb := (fun (q329 : (List T_api_Move)) (y330 : (Value × List Nat)) => [(1, pv (ptr b1 0)), (4, iv .i64 (isub .i64 3 t4)), (5, pv y330.1), (17, pv x6.1), (18, iv .i64 (t5.length : Int)), (19, iv .i64 s223.1)])) (Ωb := (fun (q329 : (List T_api_Move)) (y330 : (Value × List Nat)) => [oc b1 [iv .i64 d_0.Graph.N, slv rT_api_Pair d_0.Graph.L, iv .i64 d_0.Root, iv .i64 d_0.Limits.i0, iv .i64 d_0.Limits.i1, slv rT_api_Move d_0.Moves], oa rT_api_Move y330.1 y330.2 q329, oa (rI .i64) x6.1 x6.2 t5])) (0, s223.2) x224 (weak [0, 1, 2] ⟨rfl, rfl, rfl, rfl, rfl, rfl, rfl, rfl, trivial⟩ ⟨rfl, rfl, rfl, trivial⟩) (fun s295 x296 => ?_) (fun q329 y330 => ?_)
      · unfold ref27_attacks_l2
        refine ref_seq (ref_seq (ref_region ?_))
        refine mv1 rfl rfl ?_
        refine s_rd (r_faddr (fo := 0) Try.underlying35 rfl rfl Try.sizeOf28 rfl) rfl ?_
        refine s_rd (r_faddr (fo := 0) Try.underlying28 rfl rfl Try.sizeOf3 rfl) rfl ?_
        refine s_rd (r_cload Try.isAgg3 rfl (j := 0) rfl rfl) rfl ?_
        refine s_rd (r_lss rfl rfl) rfl ?_
        refine l_nil (n_then ?_)
        refine ref_cond rfl (fun hb297 => ?_) (fun hb297 => ?_)
        · refine ref_skip (n_then (ref_seq (ref_block (ref_seq ?_))))
          refine ref_draw [0, 1, 2, 3, 4, 5, 6, 7, 8] rfl (by kernel_rfl) (fun hok => ?_)
          refine a_rd (i := 0) hok rfl (by kernel_rfl) rfl (r_faddr (fo := 0) Try.underlying35 rfl rfl Try.sizeOf28 rfl) rfl ?_
          refine a_rd (i := 1) hok rfl (by kernel_rfl) rfl (r_cloadS Try.isAgg28 Try.sizeOf28 rfl (j := 0) rfl rfl rfl) rfl ?_
          refine a_rd (i := 2) hok rfl (by kernel_rfl) rfl (r_move rfl) rfl ?_
          refine a_rd (i := 3) hok rfl (by kernel_rfl) rfl (r_faddr (fo := 5) Try.underlying35 rfl rfl Try.sizeOf23 rfl) rfl ?_
          refine a_rd (i := 4) hok rfl (by kernel_rfl) rfl (r_cload Try.isAgg23 rfl (j := 0) rfl rfl) rfl ?_
          refine a_rd (i := 5) hok rfl (by kernel_rfl) rfl (r_move rfl) rfl ?_
          refine pull fun t298 h_t298 => ?_
          refine a_rd (i := 6) hok rfl (by kernel_rfl) rfl (r_index h_t298 Try.underlying23 el_40 rfl rfl) rfl ?_
          refine a_rd (i := 7) hok rfl (by kernel_rfl) rfl (r_fea (fo := 2) (ρ := rT_api_Move) (y := t298) (ρ' := (rI .i64)) (z := t298.Node) Try.underlying40 rfl rfl Try.sizeOf3 rfl rfl rfl) rfl ?_
          refine a_rd (i := 8) hok rfl (by kernel_rfl) rfl (r_load el_3 rfl) rfl ?_
          refine pull fun ok299 h_ok299 => ?_
          refine a_next hok 9 [] (by kernel_rfl) ?_ trivial
          refine a_st (i := 9) hok rfl rfl (s_call (ψ := fun (_ : Unit) => bv ok299) (args := [.tmp 39, .tmp 40, .tmp 46]) Try.call58 rfl (net_Has_ok h_ok299) ⟨arg rfl, arg rfl, arg rfl, trivial⟩ (fun _ _ _ _ h => h)) (by intro _ h; cases h; rfl) (fun _ => ⟨trivial, ⟨trivial, ⟨trivial, ⟨trivial, ⟨⟨⟨rfl, rfl⟩, trivial⟩, ⟨trivial, ⟨trivial, ⟨trivial, ⟨trivial, trivial⟩⟩⟩⟩⟩⟩⟩⟩⟩) (fun _ => ?_)
          refine a_next hok 10 [] (by kernel_rfl) ?_ trivial
          refine a_st (i := 10) hok rfl rfl (St.ofRd (r_assign rfl)) (by intro _ h; cases h; rfl) (fun _ => ⟨trivial, ⟨trivial, ⟨trivial, ⟨trivial, ⟨trivial, ⟨trivial, ⟨trivial, ⟨trivial, ⟨trivial, trivial⟩⟩⟩⟩⟩⟩⟩⟩⟩) (fun _ => ?_)
          refine a_fin hok (by kernel_rfl) ?_
          refine n_then (ref_seq (ref_seq (ref_region ?_)))
          refine as1 rfl rfl ?_
          refine l_nil (n_then ?_)
          refine ref_loopB (f := (ref27_attacks_l3 d_0 t226 s295)) (Γl := (fun (s307 : Bool × Int) (x308 : Unit) => [(1, pv (ptr b1 0)), (4, iv .i64 (isub .i64 3 t4)), (5, pv x296.1), (7, iv .i64 t226), (8, iv .i64 s295.1), (9, bv s307.1), (10, iv .i64 s307.2), (17, pv x6.1), (18, iv .i64 (t5.length : Int)), (19, iv .i64 s223.1)])) (Ωl := (fun (s307 : Bool × Int) (x308 : Unit) => [oc b1 [iv .i64 d_0.Graph.N, slv rT_api_Pair d_0.Graph.L, iv .i64 d_0.Root, iv .i64 d_0.Limits.i0, iv .i64 d_0.Limits.i1, slv rT_api_Move d_0.Moves], oa rT_api_Move x296.1 x296.2 s295.2, oa (rI .i64) x6.1 x6.2 t5])) (Γb := (fun (q318 : Bool) (y319 : Unit) => [(1, pv (ptr b1 0)), (4, iv .i64 (isub .i64 3 t4)), (5, pv x296.1), (7, iv .i64 t226), (8, iv .i64 s295.1), (9, bv q318), (17, pv x6.1), (18, iv .i64 (t5.length : Int)), (19, iv .i64 s223.1)])) (Ωb := (fun (q318 : Bool) (y319 : Unit) => [oc b1 [iv .i64 d_0.Graph.N, slv rT_api_Pair d_0.Graph.L, iv .i64 d_0.Root, iv .i64 d_0.Limits.i0, iv .i64 d_0.Limits.i1, slv rT_api_Move d_0.Moves], oa rT_api_Move x296.1 x296.2 s295.2, oa (rI .i64) x6.1 x6.2 t5])) (ok299, 0) () (weak [0, 1, 2] ⟨rfl, rfl, rfl, rfl, rfl, rfl, rfl, rfl, rfl, rfl, trivial⟩ ⟨rfl, rfl, rfl, trivial⟩) (fun s307 x308 => ?_) (fun q318 y319 => ?_)
          · unfold ref27_attacks_l3
            refine ref_seq (ref_seq (ref_region ?_))
            refine mv1 rfl rfl ?_
            refine s_rd (r_faddr (fo := 5) Try.underlying35 rfl rfl Try.sizeOf23 rfl) rfl ?_
            refine s_rd (r_cload Try.isAgg23 rfl (j := 0) rfl rfl) rfl ?_
            refine s_rd (r_len Try.underlying23 rfl) rfl ?_
            refine s_rd (r_lss rfl rfl) rfl ?_
            refine l_nil (n_then ?_)
            refine ref_cond rfl (fun hb309 => ?_) (fun hb309 => ?_)
            · refine ref_skip (n_then (ref_seq (ref_block (ref_region ?_))))
              refine mv1 rfl rfl ?_
              refine mv1 rfl rfl ?_
              refine b_split (t := 56) rfl (fun _ => ?_) (fun _ => ?_)
              · refine s_on rfl rfl rfl ?_
                refine s_rd (r_faddr (fo := 5) Try.underlying35 rfl rfl Try.sizeOf23 rfl) rfl ?_
                refine s_on rfl rfl rfl ?_
                refine s_rd (r_cload Try.isAgg23 rfl (j := 0) rfl rfl) rfl ?_
                refine s_on rfl rfl rfl ?_
                refine mv1 rfl rfl ?_
                refine s_on rfl rfl rfl ?_
                refine pull fun t310 h_t310 => ?_
                refine s_rd (r_index h_t310 Try.underlying23 el_40 rfl rfl) rfl ?_
                refine s_on rfl rfl rfl ?_
                refine s_rd (r_fea (fo := 1) (ρ := rT_api_Move) (y := t310) (ρ' := (rI .i64)) (z := t310.Kind) Try.underlying40 rfl rfl Try.sizeOf3 rfl rfl rfl) rfl ?_
                refine s_on rfl rfl rfl ?_
                refine s_rd (r_load el_3 rfl) rfl ?_
                refine s_on rfl rfl rfl ?_
                refine s_rd (r_eql rfl rfl) rfl ?_
                refine s_on rfl rfl rfl ?_
                refine mv1 rfl rfl ?_
                refine b_split (t := 64) rfl (fun _ => ?_) (fun _ => ?_)
                · refine s_on rfl rfl rfl ?_
                  refine s_rd (r_faddr (fo := 5) Try.underlying35 rfl rfl Try.sizeOf23 rfl) rfl ?_
                  refine s_on rfl rfl rfl ?_
                  refine s_rd (r_cload Try.isAgg23 rfl (j := 0) rfl rfl) rfl ?_
                  refine s_on rfl rfl rfl ?_
                  refine mv1 rfl rfl ?_
                  refine s_on rfl rfl rfl ?_
                  refine pull fun t311 h_t311 => ?_
                  refine s_rd (r_index h_t311 Try.underlying23 el_40 rfl rfl) rfl ?_
                  refine s_on rfl rfl rfl ?_
                  refine s_rd (r_fea (fo := 3) (ρ := rT_api_Move) (y := t311) (ρ' := (rI .i64)) (z := t311.Target) Try.underlying40 rfl rfl Try.sizeOf3 rfl rfl rfl) rfl ?_
                  refine s_on rfl rfl rfl ?_
                  refine s_rd (r_load el_3 rfl) rfl ?_
                  refine s_on rfl rfl rfl ?_
                  refine mv1 rfl rfl ?_
                  refine s_on rfl rfl rfl ?_
                  refine s_rd (r_eql rfl rfl) rfl ?_
                  refine s_on rfl rfl rfl ?_
                  refine s_rd (r_pickT rfl rfl) rfl ?_
                  refine s_on rfl rfl rfl ?_
                  refine mv1 rfl rfl ?_
                  refine b_split (t := 74) rfl (fun _ => ?_) (fun _ => ?_)
                  · refine s_on rfl rfl rfl ?_
                    refine s_rd (r_faddr (fo := 5) Try.underlying35 rfl rfl Try.sizeOf23 rfl) rfl ?_
                    refine s_on rfl rfl rfl ?_
                    refine s_rd (r_cload Try.isAgg23 rfl (j := 0) rfl rfl) rfl ?_
                    refine s_on rfl rfl rfl ?_
                    refine mv1 rfl rfl ?_
                    refine s_on rfl rfl rfl ?_
                    refine pull fun t312 h_t312 => ?_
                    refine s_rd (r_index h_t312 Try.underlying23 el_40 rfl rfl) rfl ?_
                    refine s_on rfl rfl rfl ?_
                    refine s_rd (r_fea (fo := 2) (ρ := rT_api_Move) (y := t312) (ρ' := (rI .i64)) (z := t312.Node) Try.underlying40 rfl rfl Try.sizeOf3 rfl rfl rfl) rfl ?_
                    refine s_on rfl rfl rfl ?_
                    refine s_rd (r_load el_3 rfl) rfl ?_
                    refine s_on rfl rfl rfl ?_
                    refine mv1 rfl rfl ?_
                    refine s_on rfl rfl rfl ?_
                    refine s_rd (r_eql rfl rfl) rfl ?_
                    refine s_on rfl rfl rfl ?_
                    refine s_rd (r_pickT rfl rfl) rfl ?_
                    refine s_on rfl rfl rfl ?_
                    refine s_rd (r_not rfl) rfl ?_
                    refine s_rd (r_pickT rfl rfl) rfl ?_
                    refine as1 rfl rfl ?_
                    refine b_let (f := bv) (t := 9) rfl fun ok313 => ?_
                    refine l_nil (n_block (n_then (ref_region ?_)))
                    refine mv1 rfl rfl ?_
                    refine s_rd (r_add rfl rfl) rfl ?_
                    refine as1 rfl rfl ?_
                    refine b_let (f := iv .i64) (t := 10) rfl fun k314 => ?_
                    refine l_nil ?_
                    exact goB () (weak [0, 1, 2] ⟨rfl, rfl, rfl, rfl, rfl, rfl, rfl, rfl, rfl, rfl, trivial⟩ ⟨rfl, rfl, rfl, trivial⟩)
                  refine s_off rfl rfl rfl rfl rfl ?_
                  refine s_off rfl rfl rfl rfl rfl ?_
                  refine s_off rfl rfl rfl rfl rfl ?_
                  refine s_off rfl rfl rfl rfl rfl ?_
                  refine s_off rfl rfl rfl rfl rfl ?_
                  refine s_off rfl rfl rfl rfl rfl ?_
                  refine s_off rfl rfl rfl rfl rfl ?_
                  refine s_off rfl rfl rfl rfl rfl ?_
                  refine s_on rfl rfl rfl ?_
                  refine s_rd (r_pickF rfl rfl) rfl ?_
                  refine s_on rfl rfl rfl ?_
                  refine s_rd (r_not rfl) rfl ?_
                  refine s_rd (r_pickT rfl rfl) rfl ?_
                  refine as1 rfl rfl ?_
                  refine l_nil (n_block (n_then (ref_region ?_)))
                  refine mv1 rfl rfl ?_
                  refine s_rd (r_add rfl rfl) rfl ?_
                  refine as1 rfl rfl ?_
                  refine b_let (f := iv .i64) (t := 10) rfl fun k315 => ?_
                  refine l_nil ?_
                  exact goB () (weak [0, 1, 2] ⟨rfl, rfl, rfl, rfl, rfl, rfl, rfl, rfl, rfl, rfl, trivial⟩ ⟨rfl, rfl, rfl, trivial⟩)
                refine s_off rfl rfl rfl rfl rfl ?_
                refine s_off rfl rfl rfl rfl rfl ?_
                refine s_off rfl rfl rfl rfl rfl ?_
                refine s_off rfl rfl rfl rfl rfl ?_
                refine s_off rfl rfl rfl rfl rfl ?_
                refine s_off rfl rfl rfl rfl rfl ?_
                refine s_off rfl rfl rfl rfl rfl ?_
                refine s_off rfl rfl rfl rfl rfl ?_
                refine s_on rfl rfl rfl ?_
                refine s_rd (r_pickF rfl rfl) rfl ?_
                refine s_on rfl rfl rfl ?_
                refine mv1 rfl rfl ?_
                refine s_off rfl rfl rfl rfl rfl ?_
                refine s_off rfl rfl rfl rfl rfl ?_
                refine s_off rfl rfl rfl rfl rfl ?_
                refine s_off rfl rfl rfl rfl rfl ?_
                refine s_off rfl rfl rfl rfl rfl ?_
                refine s_off rfl rfl rfl rfl rfl ?_
                refine s_off rfl rfl rfl rfl rfl ?_
                refine s_off rfl rfl rfl rfl rfl ?_
                refine s_on rfl rfl rfl ?_
                refine s_rd (r_pickF rfl rfl) rfl ?_
                refine s_on rfl rfl rfl ?_
                refine s_rd (r_not rfl) rfl ?_
                refine s_rd (r_pickT rfl rfl) rfl ?_
                refine as1 rfl rfl ?_
                refine l_nil (n_block (n_then (ref_region ?_)))
                refine mv1 rfl rfl ?_
                refine s_rd (r_add rfl rfl) rfl ?_
                refine as1 rfl rfl ?_
                refine b_let (f := iv .i64) (t := 10) rfl fun k316 => ?_
                refine l_nil ?_
                exact goB () (weak [0, 1, 2] ⟨rfl, rfl, rfl, rfl, rfl, rfl, rfl, rfl, rfl, rfl, trivial⟩ ⟨rfl, rfl, rfl, trivial⟩)
              refine s_off rfl rfl rfl rfl rfl ?_
              refine s_off rfl rfl rfl rfl rfl ?_
              refine s_off rfl rfl rfl rfl rfl ?_
              refine s_off rfl rfl rfl rfl rfl ?_
              refine s_off rfl rfl rfl rfl rfl ?_
              refine s_off rfl rfl rfl rfl rfl ?_
              refine s_off rfl rfl rfl rfl rfl ?_
              refine s_off rfl rfl rfl rfl rfl ?_
              refine s_offU rfl rfl rfl ?_
              refine s_offU rfl rfl rfl ?_
              refine s_offU rfl rfl rfl ?_
              refine s_offU rfl rfl rfl ?_
              refine s_offU rfl rfl rfl ?_
              refine s_offU rfl rfl rfl ?_
              refine s_offU rfl rfl rfl ?_
              refine s_offU rfl rfl rfl ?_
              refine s_off rfl rfl rfl rfl rfl ?_
              refine s_off rfl rfl rfl rfl rfl ?_
              refine s_offU rfl rfl rfl ?_
              refine s_offU rfl rfl rfl ?_
              refine s_offU rfl rfl rfl ?_
              refine s_offU rfl rfl rfl ?_
              refine s_offU rfl rfl rfl ?_
              refine s_offU rfl rfl rfl ?_
              refine s_offU rfl rfl rfl ?_
              refine s_offU rfl rfl rfl ?_
              refine s_off rfl rfl rfl rfl rfl ?_
              refine s_off rfl rfl rfl rfl rfl ?_
              refine s_rd (r_pickF rfl rfl) rfl ?_
              refine as1 rfl rfl ?_
              refine l_nil (n_block (n_then (ref_region ?_)))
              refine mv1 rfl rfl ?_
              refine s_rd (r_add rfl rfl) rfl ?_
              refine as1 rfl rfl ?_
              refine b_let (f := iv .i64) (t := 10) rfl fun k317 => ?_
              refine l_nil ?_
              exact goB () (weak [0, 1, 2] ⟨rfl, rfl, rfl, rfl, rfl, rfl, rfl, rfl, rfl, rfl, trivial⟩ ⟨rfl, rfl, rfl, trivial⟩)
            refine ref_exit (x_then ?_)
            exact brkB () (weak [0, 1, 2] ⟨rfl, rfl, rfl, rfl, rfl, rfl, rfl, rfl, rfl, trivial⟩ ⟨rfl, rfl, rfl, trivial⟩)
          refine n_then (ref_seq ?_)
          refine ref_join (fun (j321 : Bool) (x322 : Unit) => [(1, pv (ptr b1 0)), (4, iv .i64 (isub .i64 3 t4)), (5, pv x296.1), (7, iv .i64 t226), (8, iv .i64 s295.1), (17, pv x6.1), (18, iv .i64 (t5.length : Int)), (19, iv .i64 s223.1), (97, bv j321)]) (fun (j321 : Bool) (x322 : Unit) => [oc b1 [iv .i64 d_0.Graph.N, slv rT_api_Pair d_0.Graph.L, iv .i64 d_0.Root, iv .i64 d_0.Limits.i0, iv .i64 d_0.Limits.i1, slv rT_api_Move d_0.Moves], oa rT_api_Move x296.1 x296.2 s295.2, oa (rI .i64) x6.1 x6.2 t5]) (fun k323 hk323 => ?_) (fun j321 x322 => ?_)
          · refine ref_region ?_
            refine mv1 rfl rfl ?_
            refine mv1 rfl rfl ?_
            refine b_split (t := 87) rfl (fun _ => ?_) (fun _ => ?_)
            · refine s_on rfl rfl rfl ?_
              refine mv1 rfl rfl ?_
              refine s_on rfl rfl rfl ?_
              refine s_rd (r_eql rfl rfl) rfl ?_
              refine s_on rfl rfl rfl ?_
              refine mv1 rfl rfl ?_
              refine b_split (t := 90) rfl (fun _ => ?_) (fun _ => ?_)
              · refine s_off rfl rfl rfl rfl rfl ?_
                refine s_off rfl rfl rfl rfl rfl ?_
                refine s_off rfl rfl rfl rfl rfl ?_
                refine s_off rfl rfl rfl rfl rfl ?_
                refine s_off rfl rfl rfl rfl rfl ?_
                refine s_on rfl rfl rfl ?_
                refine s_rd (r_pickT rfl rfl) rfl ?_
                refine s_rd (r_pickT rfl rfl) rfl ?_
                refine l_nil ?_
                exact b_to (hk323 true ()) (weak [0, 1, 2] ⟨rfl, rfl, rfl, rfl, rfl, rfl, rfl, rfl, rfl, trivial⟩ ⟨rfl, rfl, rfl, trivial⟩)
              refine s_on rfl rfl rfl ?_
              refine s_rd (r_cloadS Try.isAgg35 Try.sizeOf35 rfl (j := 0) rfl rfl rfl) rfl ?_
              refine s_on rfl rfl rfl ?_
              refine mv1 rfl rfl ?_
              refine s_on rfl rfl rfl ?_
              refine mv1 rfl rfl ?_
              refine s_on rfl rfl rfl ?_
              refine pull fun t320 h_t320 => ?_
              refine s_st (s_call (ψ := fun (_ : Unit) => bv t320) (args := [.tmp 91, .tmp 92, .tmp 93]) Try.call79 rfl (ref27_repeated_ok h_t320) ⟨arg rfl, arg rfl, arg rfl, trivial⟩ (fun _ _ _ _ h => h)) rfl (fun _ => ?_)
              refine s_on rfl rfl rfl ?_
              refine s_rd (r_not rfl) rfl ?_
              refine s_on rfl rfl rfl ?_
              refine s_rd (r_pickF rfl rfl) rfl ?_
              refine s_rd (r_pickT rfl rfl) rfl ?_
              refine l_nil ?_
              exact b_to (hk323 (!t320) ()) (weak [0, 1, 2] ⟨rfl, rfl, rfl, rfl, rfl, rfl, rfl, rfl, rfl, trivial⟩ ⟨rfl, rfl, rfl, trivial⟩)
            refine s_off rfl rfl rfl rfl rfl ?_
            refine s_off rfl rfl rfl rfl rfl ?_
            refine s_off rfl rfl rfl rfl rfl ?_
            refine s_offU rfl rfl rfl ?_
            refine s_offU rfl rfl rfl ?_
            refine s_offU rfl rfl rfl ?_
            refine s_offU rfl rfl rfl ?_
            refine s_offU rfl rfl rfl ?_
            refine s_off rfl rfl rfl rfl rfl ?_
            refine s_rd (r_pickF rfl rfl) rfl ?_
            refine l_nil ?_
            exact b_to (hk323 false ()) (weak [0, 1, 2] ⟨rfl, rfl, rfl, rfl, rfl, rfl, rfl, rfl, rfl, trivial⟩ ⟨rfl, rfl, rfl, trivial⟩)
          refine n_then ?_
          refine ref_cond rfl (fun hb324 => ?_) (fun hb324 => ?_)
          · refine ref_region ?_
            refine mv1 rfl rfl ?_
            refine mv1 rfl rfl ?_
            refine mv1 rfl rfl ?_
            refine mv1 rfl rfl ?_
            refine s_rd (r_build (ps := [(0, .tmp 99), (1, .const (.int .i64 (2))), (2, .tmp 100), (3, .tmp 101)]) (rs := [(0, [iv .i64 (isub .i64 3 t4)]), (1, [iv .i64 2]), (2, [iv .i64 s295.1]), (3, [iv .i64 t226])]) st_40 zs_40 ⟨rfl, (part_at rfl iv_at), ⟨rfl, (part_at rfl iv_at), ⟨rfl, (part_at rfl iv_at), ⟨rfl, (part_at rfl iv_at), trivial⟩⟩⟩⟩ rfl rfl) rfl ?_
            refine s_st (s_bslice (xs := [.tmp 102]) (ds := [(T_api_Move.mk (isub .i64 3 t4) 2 s295.1 t226)]) Try.underlying23 el_40 rfl (Nat.le_of_ble_eq_true rfl) ⟨(part_agO (ψs := [iv .i64 (isub .i64 3 t4), iv .i64 2, iv .i64 s295.1, iv .i64 t226]) rfl ⟨.inl iv_at, .inl iv_at, .inl iv_at, .inl iv_at, trivial⟩), trivial⟩) rfl (fun _ => ?_)
            refine pull fun out325 h_out325 => ?_
            refine s_st (s_append h_out325 Try.underlying23 el_40 rfl (j := 1) rfl rfl) rfl (fun o326 => ?_)
            refine as1 rfl rfl ?_
            refine l_nil (n_block (n_then (ref_region ?_)))
            refine mv1 rfl rfl ?_
            refine s_rd (r_add rfl rfl) rfl ?_
            refine as1 rfl rfl ?_
            refine b_let (f := iv .i64) (t := 8) rfl fun a_327 => ?_
            refine l_nil ?_
            exact goB o326 (weak [0, 1, 2] ⟨rfl, rfl, rfl, rfl, rfl, rfl, rfl, rfl, trivial⟩ ⟨rfl, rfl, rfl, trivial⟩)
          refine ref_skip (n_block (n_then (ref_region ?_)))
          refine mv1 rfl rfl ?_
          refine s_rd (r_add rfl rfl) rfl ?_
          refine as1 rfl rfl ?_
          refine b_let (f := iv .i64) (t := 8) rfl fun a_328 => ?_
          refine l_nil ?_
          exact goB x296 (weak [0, 1, 2] ⟨rfl, rfl, rfl, rfl, rfl, rfl, rfl, rfl, trivial⟩ ⟨rfl, rfl, rfl, trivial⟩)
        refine ref_exit (x_then ?_)
        exact brkB x296 (weak [0, 1, 2] ⟨rfl, rfl, rfl, rfl, rfl, rfl, trivial⟩ ⟨rfl, rfl, rfl, trivial⟩)
      refine n_block (n_then (ref_region ?_))
      refine s_rd (r_add rfl rfl) rfl ?_
      refine mv1 rfl rfl ?_
      refine l_nil ?_
      exact goB y330 (weak [0, 1, 2] ⟨rfl, rfl, rfl, rfl, rfl, rfl, trivial⟩ ⟨rfl, rfl, rfl, trivial⟩)
    refine ref_exit (x_then ?_)
    exact brkB x224 (weak [1] ⟨rfl, trivial⟩ ⟨rfl, trivial⟩)
  refine n_then (ref_seq (ref_region ?_))
  refine mv1 rfl rfl ?_
  refine as1 rfl rfl ?_
  refine l_nil (n_then (ref_ret ?_))
  exact fin1 (.inl rfl) y332 [0] rfl ⟨rfl, trivial⟩ rfl (rv_tmp rfl)

/-! deliberation/deliberationref27.End -/
noncomputable def ref27_End_l1 (d_0 : T_api_Dialogue) (lead8 : Int) (s14 : Int × Int) : Option (Sum (Int) (Int × Int)) :=
  bif decide (s14.2 < (d_0.Moves.length : Int)) then
    Option.bind (idxM d_0.Moves s14.2) fun t17 =>
    bif t17.By != lead8 then
      letM (iadd .i64 s14.1 1) fun made19 =>
      letM (iadd .i64 s14.2 1) fun i20 =>
      some (Sum.inr (made19, i20))
    else
      letM (iadd .i64 s14.2 1) fun i21 =>
      some (Sum.inr (s14.1, i21))
  else
    some (Sum.inl s14.1)

noncomputable def ref27_End_m (d_0 : T_api_Dialogue) : Option (T_api_Outcome) :=
  Option.bind (idxM d_0.Moves (isub .i64 (d_0.Moves.length : Int) 1)) fun t3 =>
  bif t3.Kind == 4 then
    some (T_api_Outcome.mk (isub .i64 3 t3.By) 3)
  else
    Option.bind (ref27_Status_m d_0) fun t6 =>
    Option.bind (ref27_leader_m t6) fun lead8 =>
    Option.bind (loopC (ref27_End_l1 d_0 lead8) (0, 0)) fun q22 : Int =>
    letM (decide ((d_0.Moves.length : Int) ≥ 200)) fun t24 =>
    bif t24 then
      some (T_api_Outcome.mk lead8 4)
    else
      Option.bind (idxM [d_0.Limits.i0, d_0.Limits.i1] (isub .i64 2 lead8)) fun t26 =>
      letM (decide (q22 ≥ t26)) fun t27 =>
      bif t27 then
        some (T_api_Outcome.mk lead8 2)
      else
        Option.bind (ref27_attacks_m d_0) fun t29 =>
        letM ((t29.length : Int) == 0) fun t31 =>
        bif t31 then
          some (T_api_Outcome.mk lead8 1)
        else
          some (T_api_Outcome.mk 0 0)

theorem ref27_End_ok {d_0 : T_api_Dialogue} {r : T_api_Outcome} (hm : ref27_End_m d_0 = some r) :
    FnOk prog 23 [ag [iv .i64 d_0.Graph.N, slv rT_api_Pair d_0.Graph.L, iv .i64 d_0.Root, iv .i64 d_0.Limits.i0, iv .i64 d_0.Limits.i1, slv rT_api_Move d_0.Moves]] [] (fun (x : Unit) => [ag [iv .i64 r.Winner, iv .i64 r.Reason]]) (fun (x : Unit) => []) := by
  refine fn_ok (fn := Try.f23) (N := 67) (res := fun r x => [ag [iv .i64 r.Winner, iv .i64 r.Reason]]) (Ω1 := fun r x => []) Try.func23 rfl rfl hm rfl (fun E hM => ?_)
  unfold ref27_End_m
  refine ref_seq (ref_region ?_)
  refine s_st (s_box (part_agO (ψs := [iv .i64 d_0.Graph.N, slv rT_api_Pair d_0.Graph.L, iv .i64 d_0.Root, iv .i64 d_0.Limits.i0, iv .i64 d_0.Limits.i1, slv rT_api_Move d_0.Moves]) rfl ⟨.inl iv_at, .inl slv_at, .inl iv_at, .inl iv_at, .inl iv_at, .inl slv_at, trivial⟩)) rfl (fun b1 => ?_)
  refine s_st (s_alloc zt_57) rfl (fun b2 => ?_)
  refine l_nil (n_then (ref_seq (ref_region ?_)))
  refine s_rd (r_faddr (fo := 5) Try.underlying35 rfl rfl Try.sizeOf23 rfl) rfl ?_
  refine s_rd (r_cload Try.isAgg23 rfl (j := 0) rfl rfl) rfl ?_
  refine s_rd (r_faddr (fo := 5) Try.underlying35 rfl rfl Try.sizeOf23 rfl) rfl ?_
  refine s_rd (r_cload Try.isAgg23 rfl (j := 0) rfl rfl) rfl ?_
  refine s_rd (r_len Try.underlying23 rfl) rfl ?_
  refine s_rd (r_sub rfl rfl) rfl ?_
  refine pull fun t3 h_t3 => ?_
  refine s_rd (r_index h_t3 Try.underlying23 el_40 rfl rfl) rfl ?_
  refine s_rd (r_load el_40 rfl) rfl ?_
  refine s_st (s_alloc zt_40) rfl (fun b4 => ?_)
  refine s_st0 (s_cstore (out := [iv .i64 t3.By, iv .i64 t3.Kind, iv .i64 t3.Node, iv .i64 t3.Target]) Try.sizeOf40 rfl (j := 2) rfl (part_agO (ψs := [iv .i64 t3.By, iv .i64 t3.Kind, iv .i64 t3.Node, iv .i64 t3.Target]) rfl ⟨.inl iv_at, .inl iv_at, .inl iv_at, .inl iv_at, trivial⟩) rfl rfl rfl) (fun _ => ?_)
  refine l_nil ?_
  refine b_of (nrm [oc b1 [iv .i64 d_0.Graph.N, slv rT_api_Pair d_0.Graph.L, iv .i64 d_0.Root, iv .i64 d_0.Limits.i0, iv .i64 d_0.Limits.i1, slv rT_api_Move d_0.Moves], oc b2 [iv .i64 0, iv .i64 0], oc b4 [iv .i64 t3.By, iv .i64 t3.Kind, iv .i64 t3.Node, iv .i64 t3.Target]] rfl) ?_
  refine n_then (ref_seq (ref_seq (ref_region ?_)))
  refine s_rd (r_faddr (fo := 1) Try.underlying40 rfl rfl Try.sizeOf3 rfl) rfl ?_
  refine s_rd (r_cload Try.isAgg3 rfl (j := 2) rfl rfl) rfl ?_
  refine s_rd (r_eql rfl rfl) rfl ?_
  refine l_nil (n_then ?_)
  refine ref_cond rfl (fun hb5 => ?_) (fun hb5 => ?_)
  · refine ref_seq (ref_region ?_)
    refine s_rd (r_faddr (fo := 0) Try.underlying40 rfl rfl Try.sizeOf3 rfl) rfl ?_
    refine s_rd (r_cload Try.isAgg3 rfl (j := 2) rfl rfl) rfl ?_
    refine s_rd (r_sub rfl rfl) rfl ?_
    refine s_rd (r_build (ps := [(0, .tmp 20), (1, .const (.int .i64 (3)))]) (rs := [(0, [iv .i64 (isub .i64 3 t3.By)]), (1, [iv .i64 3])]) st_57 zs_57 ⟨rfl, (part_at rfl iv_at), ⟨rfl, (part_at rfl iv_at), trivial⟩⟩ rfl rfl) rfl ?_
    refine s_st0 (s_cstore (out := [iv .i64 (isub .i64 3 t3.By), iv .i64 3]) Try.sizeOf57 rfl (j := 1) rfl (part_agO (ψs := [iv .i64 (isub .i64 3 t3.By), iv .i64 3]) rfl ⟨.inl iv_at, .inl iv_at, trivial⟩) rfl rfl rfl) (fun _ => ?_)
    refine l_nil (n_then (ref_ret (r_then ?_)))
    exact fin1 (.inl rfl) () [] rfl trivial rfl (rv_cell rfl (j := 1) rfl Try.isAgg57 Try.sizeOf57 rfl rfl)
  refine ref_skip (n_then (ref_seq (ref_region ?_)))
  refine s_rd (r_cloadS Try.isAgg35 Try.sizeOf35 rfl (j := 0) rfl rfl rfl) rfl ?_
  refine pull fun t6 h_t6 => ?_
  refine s_st (s_call (ψ := fun (x7 : (Value × List Nat)) => pv x7.1) (args := [.tmp 22]) Try.call55 rfl (ref27_Status_ok h_t6) ⟨arg rfl, trivial⟩ (fun _ _ _ _ h => h)) rfl (fun x7 => ?_)
  refine pull fun lead8 h_lead8 => ?_
  refine s_st (s_callB (ψ := fun (_ : Unit) => iv .i64 lead8) (args := [.tmp 23]) Try.call54 rfl (ref27_leader_ok h_lead8) ⟨argO rfl (j := 3) rfl, trivial⟩ (fun _ _ _ _ _ h => h)) rfl (fun _ => ?_)
  refine as1 rfl rfl ?_
  refine l_nil (n_then (ref_seq (ref_region ?_)))
  refine as1 rfl rfl ?_
  refine l_nil (n_then (ref_seq (ref_seq (ref_region ?_))))
  refine as1 rfl rfl ?_
  refine l_nil (n_then ?_)
  refine ref_loopB (f := (ref27_End_l1 d_0 lead8)) (Γl := (fun (s14 : Int × Int) (x15 : Unit) => [(1, pv (ptr b1 0)), (2, pv (ptr b2 0)), (4, iv .i64 lead8), (5, iv .i64 s14.1), (6, iv .i64 s14.2)])) (Ωl := (fun (s14 : Int × Int) (x15 : Unit) => [oc b1 [iv .i64 d_0.Graph.N, slv rT_api_Pair d_0.Graph.L, iv .i64 d_0.Root, iv .i64 d_0.Limits.i0, iv .i64 d_0.Limits.i1, slv rT_api_Move d_0.Moves], oc b2 [iv .i64 0, iv .i64 0]])) (Γb := (fun (q22 : Int) (y23 : Unit) => [(1, pv (ptr b1 0)), (2, pv (ptr b2 0)), (4, iv .i64 lead8), (5, iv .i64 q22)])) (Ωb := (fun (q22 : Int) (y23 : Unit) => [oc b1 [iv .i64 d_0.Graph.N, slv rT_api_Pair d_0.Graph.L, iv .i64 d_0.Root, iv .i64 d_0.Limits.i0, iv .i64 d_0.Limits.i1, slv rT_api_Move d_0.Moves], oc b2 [iv .i64 0, iv .i64 0]])) (0, 0) () (weak [0, 1] ⟨rfl, rfl, rfl, rfl, rfl, trivial⟩ ⟨rfl, rfl, trivial⟩) (fun s14 x15 => ?_) (fun q22 y23 => ?_)
  · unfold ref27_End_l1
    refine ref_seq (ref_seq (ref_region ?_))
    refine mv1 rfl rfl ?_
    refine s_rd (r_faddr (fo := 5) Try.underlying35 rfl rfl Try.sizeOf23 rfl) rfl ?_
    refine s_rd (r_cload Try.isAgg23 rfl (j := 0) rfl rfl) rfl ?_
    refine s_rd (r_len Try.underlying23 rfl) rfl ?_
    refine s_rd (r_lss rfl rfl) rfl ?_
    refine l_nil (n_then ?_)
    refine ref_cond rfl (fun hb16 => ?_) (fun hb16 => ?_)
    · refine ref_skip (n_then (ref_seq (ref_block (ref_seq (ref_region ?_)))))
      refine s_rd (r_faddr (fo := 5) Try.underlying35 rfl rfl Try.sizeOf23 rfl) rfl ?_
      refine s_rd (r_cload Try.isAgg23 rfl (j := 0) rfl rfl) rfl ?_
      refine mv1 rfl rfl ?_
      refine pull fun t17 h_t17 => ?_
      refine s_rd (r_index h_t17 Try.underlying23 el_40 rfl rfl) rfl ?_
      refine s_rd (r_fea (fo := 0) (ρ := rT_api_Move) (y := t17) (ρ' := (rI .i64)) (z := t17.By) Try.underlying40 rfl rfl Try.sizeOf3 rfl rfl rfl) rfl ?_
      refine s_rd (r_load el_3 rfl) rfl ?_
      refine mv1 rfl rfl ?_
      refine s_rd (r_neq rfl rfl) rfl ?_
      refine l_nil (n_then ?_)
      refine ref_cond rfl (fun hb18 => ?_) (fun hb18 => ?_)
      · refine ref_region ?_
        refine mv1 rfl rfl ?_
        refine s_rd (r_add rfl rfl) rfl ?_
        refine as1 rfl rfl ?_
        refine b_let (f := iv .i64) (t := 5) rfl fun made19 => ?_
        refine l_nil (n_block (n_then (ref_region ?_)))
        refine mv1 rfl rfl ?_
        refine s_rd (r_add rfl rfl) rfl ?_
        refine as1 rfl rfl ?_
        refine b_let (f := iv .i64) (t := 6) rfl fun i20 => ?_
        refine l_nil ?_
        exact goB () (weak [0, 1] ⟨rfl, rfl, rfl, rfl, rfl, trivial⟩ ⟨rfl, rfl, trivial⟩)
      refine ref_skip (n_block (n_then (ref_region ?_)))
      refine mv1 rfl rfl ?_
      refine s_rd (r_add rfl rfl) rfl ?_
      refine as1 rfl rfl ?_
      refine b_let (f := iv .i64) (t := 6) rfl fun i21 => ?_
      refine l_nil ?_
      exact goB () (weak [0, 1] ⟨rfl, rfl, rfl, rfl, rfl, trivial⟩ ⟨rfl, rfl, trivial⟩)
    refine ref_exit (x_then ?_)
    exact brkB () (weak [0, 1] ⟨rfl, rfl, rfl, rfl, trivial⟩ ⟨rfl, rfl, trivial⟩)
  refine n_then (ref_seq (ref_block (ref_seq (ref_region ?_))))
  refine s_rd (r_faddr (fo := 5) Try.underlying35 rfl rfl Try.sizeOf23 rfl) rfl ?_
  refine s_rd (r_cload Try.isAgg23 rfl (j := 0) rfl rfl) rfl ?_
  refine s_rd (r_len Try.underlying23 rfl) rfl ?_
  refine s_rd (r_geq rfl rfl) rfl ?_
  refine as1 rfl rfl ?_
  refine b_let (f := bv) (t := 42) rfl fun t24 => ?_
  refine l_nil (n_then ?_)
  refine ref_cond rfl (fun hb25 => ?_) (fun hb25 => ?_)
  · refine ref_seq (ref_region ?_)
    refine mv1 rfl rfl ?_
    refine s_rd (r_build (ps := [(0, .tmp 47), (1, .const (.int .i64 (4)))]) (rs := [(0, [iv .i64 lead8]), (1, [iv .i64 4])]) st_57 zs_57 ⟨rfl, (part_at rfl iv_at), ⟨rfl, (part_at rfl iv_at), trivial⟩⟩ rfl rfl) rfl ?_
    refine s_st0 (s_cstore (out := [iv .i64 lead8, iv .i64 4]) Try.sizeOf57 rfl (j := 1) rfl (part_agO (ψs := [iv .i64 lead8, iv .i64 4]) rfl ⟨.inl iv_at, .inl iv_at, trivial⟩) rfl rfl rfl) (fun _ => ?_)
    refine l_nil (n_then (ref_ret (r_block (r_then ?_))))
    exact fin1 (.inl rfl) () [] rfl trivial rfl (rv_cell rfl (j := 1) rfl Try.isAgg57 Try.sizeOf57 rfl rfl)
  refine ref_seq (ref_region ?_)
  refine mv1 rfl rfl ?_
  refine mv1 rfl rfl ?_
  refine s_rd (r_sub rfl rfl) rfl ?_
  refine s_rd (r_faddr (fo := 3) Try.underlying35 rfl rfl Try.sizeOf33 rfl) rfl ?_
  refine pull fun t26 h_t26 => ?_
  refine s_rd (r_aaddrV h_t26 rfl Try.underlying33 Try.sizeOf3 rfl rfl) rfl ?_
  refine s_rd (r_acload (ρ := (rI .i64)) (off := 3) h_t26 Try.isAgg3 rfl (j := 0) rfl rfl rfl rfl) rfl ?_
  refine s_rd (r_geq rfl rfl) rfl ?_
  refine as1 rfl rfl ?_
  refine b_let (f := bv) (t := 49) rfl fun t27 => ?_
  refine l_nil (n_then ?_)
  refine ref_cond rfl (fun hb28 => ?_) (fun hb28 => ?_)
  · refine ref_seq (ref_region ?_)
    refine mv1 rfl rfl ?_
    refine s_rd (r_build (ps := [(0, .tmp 57), (1, .const (.int .i64 (2)))]) (rs := [(0, [iv .i64 lead8]), (1, [iv .i64 2])]) st_57 zs_57 ⟨rfl, (part_at rfl iv_at), ⟨rfl, (part_at rfl iv_at), trivial⟩⟩ rfl rfl) rfl ?_
    refine s_st0 (s_cstore (out := [iv .i64 lead8, iv .i64 2]) Try.sizeOf57 rfl (j := 1) rfl (part_agO (ψs := [iv .i64 lead8, iv .i64 2]) rfl ⟨.inl iv_at, .inl iv_at, trivial⟩) rfl rfl rfl) (fun _ => ?_)
    refine l_nil (n_then (ref_ret (r_block (r_then ?_))))
    exact fin1 (.inl rfl) () [] rfl trivial rfl (rv_cell rfl (j := 1) rfl Try.isAgg57 Try.sizeOf57 rfl rfl)
  refine ref_seq (ref_region ?_)
  refine s_rd (r_cloadS Try.isAgg35 Try.sizeOf35 rfl (j := 0) rfl rfl rfl) rfl ?_
  refine pull fun t29 h_t29 => ?_
  refine s_st (s_call (ψ := fun (x30 : (Value × List Nat)) => pv x30.1) (args := [.tmp 60]) Try.call56 rfl (ref27_attacks_ok h_t29) ⟨arg rfl, trivial⟩ (fun _ _ _ _ h => h)) rfl (fun x30 => ?_)
  refine s_rd (r_olen Try.underlying23 rfl (j := 2) rfl) rfl ?_
  refine s_rd (r_eql rfl rfl) rfl ?_
  refine as1 rfl rfl ?_
  refine b_let (f := bv) (t := 59) rfl fun t31 => ?_
  refine l_nil (n_then ?_)
  refine ref_cond rfl (fun hb32 => ?_) (fun hb32 => ?_)
  · refine ref_seq (ref_region ?_)
    refine mv1 rfl rfl ?_
    refine s_rd (r_build (ps := [(0, .tmp 64), (1, .const (.int .i64 (1)))]) (rs := [(0, [iv .i64 lead8]), (1, [iv .i64 1])]) st_57 zs_57 ⟨rfl, (part_at rfl iv_at), ⟨rfl, (part_at rfl iv_at), trivial⟩⟩ rfl rfl) rfl ?_
    refine s_st0 (s_cstore (out := [iv .i64 lead8, iv .i64 1]) Try.sizeOf57 rfl (j := 1) rfl (part_agO (ψs := [iv .i64 lead8, iv .i64 1]) rfl ⟨.inl iv_at, .inl iv_at, trivial⟩) rfl rfl rfl) (fun _ => ?_)
    refine l_nil (n_then (ref_ret (r_block (r_then ?_))))
    exact fin1 (.inl rfl) () [] rfl trivial rfl (rv_cell rfl (j := 1) rfl Try.isAgg57 Try.sizeOf57 rfl rfl)
  refine ref_skip (n_block (n_then (ref_seq (ref_region ?_))))
  refine s_rd (r_build (ps := []) (rs := []) st_57 zs_57 trivial rfl rfl) rfl ?_
  refine s_st0 (s_cstore (out := [iv .i64 0, iv .i64 0]) Try.sizeOf57 rfl (j := 1) rfl (part_agO (ψs := [iv .i64 0, iv .i64 0]) rfl ⟨.inl iv_at, .inl iv_at, trivial⟩) rfl rfl rfl) (fun _ => ?_)
  refine l_nil (n_then (ref_ret ?_))
  exact fin1 (.inl rfl) () [] rfl trivial rfl (rv_cell rfl (j := 1) rfl Try.isAgg57 Try.sizeOf57 rfl rfl)

/-! deliberation/deliberationlaw28.awake -/
noncomputable def law28_awake_m  : Option (Bool) :=
  Option.bind (ref27_New_m (T_api_Graph.mk 3 [(T_api_Pair.mk 0 1), (T_api_Pair.mk 1 2)]) 2 (T_arr2_3.mk 9 9)) fun t2 =>
  Option.bind (participant_Full_m (T_api_Graph.mk 3 [(T_api_Pair.mk 0 1), (T_api_Pair.mk 1 2)]) 1) fun t4 =>
  Option.bind (participant_Run_m t2.1 t4 t4) fun t6 =>
  bif t6.2 == 0 then
    bif (t6.1.Moves.length : Int) == 3 then
      Option.bind (ref27_End_m t6.1) fun t8 =>
      letM (decide (t8 = (T_api_Outcome.mk 1 1))) fun t9 =>
      some t9
    else
      some false
  else
    some false

theorem law28_awake_ok  {r : Bool} (hm : law28_awake_m  = some r) :
    FnOk prog 8 [] [] (fun (x : Unit) => [bv r]) (fun (x : Unit) => []) := by
  refine fn_ok (fn := Try.f8) (N := 40) (res := fun r x => [bv r]) (Ω1 := fun r x => []) Try.func8 rfl rfl hm rfl (fun E hM => ?_)
  unfold law28_awake_m
  refine ref_seq (ref_region ?_)
  refine as1 rfl rfl ?_
  refine l_nil (n_then (ref_seq (ref_region ?_)))
  refine s_rd (r_build (ps := [(0, .const (.int .i64 (0))), (1, .const (.int .i64 (1)))]) (rs := [(0, [iv .i64 0]), (1, [iv .i64 1])]) st_67 zs_67 ⟨rfl, (part_at rfl iv_at), ⟨rfl, (part_at rfl iv_at), trivial⟩⟩ rfl rfl) rfl ?_
  refine s_rd (r_build (ps := [(0, .const (.int .i64 (1))), (1, .const (.int .i64 (2)))]) (rs := [(0, [iv .i64 1]), (1, [iv .i64 2])]) st_67 zs_67 ⟨rfl, (part_at rfl iv_at), ⟨rfl, (part_at rfl iv_at), trivial⟩⟩ rfl rfl) rfl ?_
  refine s_st (s_bslice (xs := [.tmp 7, .tmp 8]) (ds := [(T_api_Pair.mk 0 1), (T_api_Pair.mk 1 2)]) Try.underlying26 el_67 rfl (Nat.le_of_ble_eq_true rfl) ⟨(part_agO (ψs := [iv .i64 0, iv .i64 1]) rfl ⟨.inl iv_at, .inl iv_at, trivial⟩), ⟨(part_agO (ψs := [iv .i64 1, iv .i64 2]) rfl ⟨.inl iv_at, .inl iv_at, trivial⟩), trivial⟩⟩) rfl (fun _ => ?_)
  refine s_rd (r_build (ps := [(0, .const (.int .i64 (3))), (1, .tmp 9)]) (rs := [(0, [iv .i64 3]), (1, [slv rT_api_Pair [(T_api_Pair.mk 0 1), (T_api_Pair.mk 1 2)]])]) st_28 zs_28 ⟨rfl, (part_at rfl iv_at), ⟨rfl, (part_at rfl slv_at), trivial⟩⟩ rfl rfl) rfl ?_
  refine s_st (s_alloc zt_28) rfl (fun b1 => ?_)
  refine s_st0 (s_cstore (out := [iv .i64 3, slv rT_api_Pair [(T_api_Pair.mk 0 1), (T_api_Pair.mk 1 2)]]) Try.sizeOf28 rfl (j := 0) rfl (part_agO (ψs := [iv .i64 3, slv rT_api_Pair [(T_api_Pair.mk 0 1), (T_api_Pair.mk 1 2)]]) rfl ⟨.inl iv_at, .inl slv_at, trivial⟩) rfl rfl rfl) (fun _ => ?_)
  refine l_nil (n_then (ref_seq (ref_region ?_)))
  refine s_rd (r_cloadS Try.isAgg28 Try.sizeOf28 rfl (j := 0) rfl rfl rfl) rfl ?_
  refine s_rd (r_buildA (ps := [(0, .const (.int .i64 (9))), (1, .const (.int .i64 (9)))]) (rs := [(0, [iv .i64 9]), (1, [iv .i64 9])]) (sz := 1) Try.underlying33 Try.sizeOf3 ⟨_, _, Try.type33, rfl⟩ zs_33 ⟨rfl, (part_at rfl iv_at), ⟨rfl, (part_at rfl iv_at), trivial⟩⟩ rfl rfl) rfl ?_
  refine pull fun t2 h_t2 => ?_
  refine s_st (s_call (ψ := fun (_ : Unit) => tup [ag [iv .i64 t2.1.Graph.N, slv rT_api_Pair t2.1.Graph.L, iv .i64 t2.1.Root, iv .i64 t2.1.Limits.i0, iv .i64 t2.1.Limits.i1, slv rT_api_Move t2.1.Moves], iv .i64 t2.2]) (args := [.tmp 12, .const (.int .i64 (2)), .tmp 13]) Try.call21 rfl (ref27_New_ok h_t2) ⟨arg rfl, arg rfl, arg rfl, trivial⟩ (fun _ _ _ _ h => h)) rfl (fun _ => ?_)
  refine mv1 rfl rfl ?_
  refine s_rd (r_extract rfl rfl) rfl ?_
  refine s_rd (r_extract rfl rfl) rfl ?_
  refine s_st (s_alloc zt_35) rfl (fun b3 => ?_)
  refine s_st0 (s_cstore (out := [iv .i64 t2.1.Graph.N, slv rT_api_Pair t2.1.Graph.L, iv .i64 t2.1.Root, iv .i64 t2.1.Limits.i0, iv .i64 t2.1.Limits.i1, slv rT_api_Move t2.1.Moves]) Try.sizeOf35 rfl (j := 1) rfl (part_agO (ψs := [iv .i64 t2.1.Graph.N, slv rT_api_Pair t2.1.Graph.L, iv .i64 t2.1.Root, iv .i64 t2.1.Limits.i0, iv .i64 t2.1.Limits.i1, slv rT_api_Move t2.1.Moves]) rfl ⟨.inl iv_at, .inl slv_at, .inl iv_at, .inl iv_at, .inl iv_at, .inl slv_at, trivial⟩) rfl rfl rfl) (fun _ => ?_)
  refine as1 rfl rfl ?_
  refine l_nil ?_
  refine b_of (nrm [oc b1 [iv .i64 3, slv rT_api_Pair [(T_api_Pair.mk 0 1), (T_api_Pair.mk 1 2)]], oc b3 [iv .i64 t2.1.Graph.N, slv rT_api_Pair t2.1.Graph.L, iv .i64 t2.1.Root, iv .i64 t2.1.Limits.i0, iv .i64 t2.1.Limits.i1, slv rT_api_Move t2.1.Moves]] rfl) ?_
  refine n_then (ref_seq (ref_region ?_))
  refine s_rd (r_cloadS Try.isAgg28 Try.sizeOf28 rfl (j := 0) rfl rfl rfl) rfl ?_
  refine pull fun t4 h_t4 => ?_
  refine s_st (s_call (ψ := fun (_ : Unit) => ag [slv (rI .i64) t4.Pool, slv (rI .i64) t4.Withheld, slv rT_api_Move t4.Script, iv .i64 t4.Style]) (args := [.tmp 17, .const (.int .i64 (1))]) Try.call17 rfl (participant_Full_ok h_t4) ⟨arg rfl, arg rfl, trivial⟩ (fun _ _ _ _ h => h)) rfl (fun _ => ?_)
  refine s_st (s_alloc zt_25) rfl (fun b5 => ?_)
  refine s_st0 (s_cstore (out := [slv (rI .i64) t4.Pool, slv (rI .i64) t4.Withheld, slv rT_api_Move t4.Script, iv .i64 t4.Style]) Try.sizeOf25 rfl (j := 2) rfl (part_agO (ψs := [slv (rI .i64) t4.Pool, slv (rI .i64) t4.Withheld, slv rT_api_Move t4.Script, iv .i64 t4.Style]) rfl ⟨.inl slv_at, .inl slv_at, .inl slv_at, .inl iv_at, trivial⟩) rfl rfl rfl) (fun _ => ?_)
  refine l_nil (n_then (ref_seq (ref_region ?_)))
  refine s_rd (r_cloadS Try.isAgg35 Try.sizeOf35 rfl (j := 1) rfl rfl rfl) rfl ?_
  refine s_rd (r_cloadS Try.isAgg25 Try.sizeOf25 rfl (j := 2) rfl rfl rfl) rfl ?_
  refine s_rd (r_cloadS Try.isAgg25 Try.sizeOf25 rfl (j := 2) rfl rfl rfl) rfl ?_
  refine pull fun t6 h_t6 => ?_
  refine s_st (s_call (ψ := fun (_ : Unit) => tup [ag [iv .i64 t6.1.Graph.N, slv rT_api_Pair t6.1.Graph.L, iv .i64 t6.1.Root, iv .i64 t6.1.Limits.i0, iv .i64 t6.1.Limits.i1, slv rT_api_Move t6.1.Moves], iv .i64 t6.2]) (args := [.tmp 20, .tmp 21, .tmp 22]) Try.call14 rfl (participant_Run_ok h_t6) ⟨arg rfl, arg rfl, arg rfl, trivial⟩ (fun _ _ _ _ h => h)) rfl (fun _ => ?_)
  refine mv1 rfl rfl ?_
  refine s_rd (r_extract rfl rfl) rfl ?_
  refine s_rd (r_extract rfl rfl) rfl ?_
  refine s_st (s_alloc zt_35) rfl (fun b7 => ?_)
  refine s_st0 (s_cstore (out := [iv .i64 t6.1.Graph.N, slv rT_api_Pair t6.1.Graph.L, iv .i64 t6.1.Root, iv .i64 t6.1.Limits.i0, iv .i64 t6.1.Limits.i1, slv rT_api_Move t6.1.Moves]) Try.sizeOf35 rfl (j := 3) rfl (part_agO (ψs := [iv .i64 t6.1.Graph.N, slv rT_api_Pair t6.1.Graph.L, iv .i64 t6.1.Root, iv .i64 t6.1.Limits.i0, iv .i64 t6.1.Limits.i1, slv rT_api_Move t6.1.Moves]) rfl ⟨.inl iv_at, .inl slv_at, .inl iv_at, .inl iv_at, .inl iv_at, .inl slv_at, trivial⟩) rfl rfl rfl) (fun _ => ?_)
  refine as1 rfl rfl ?_
  refine l_nil ?_
  refine b_of (nrm [oc b1 [iv .i64 3, slv rT_api_Pair [(T_api_Pair.mk 0 1), (T_api_Pair.mk 1 2)]], oc b3 [iv .i64 t2.1.Graph.N, slv rT_api_Pair t2.1.Graph.L, iv .i64 t2.1.Root, iv .i64 t2.1.Limits.i0, iv .i64 t2.1.Limits.i1, slv rT_api_Move t2.1.Moves], oc b5 [slv (rI .i64) t4.Pool, slv (rI .i64) t4.Withheld, slv rT_api_Move t4.Script, iv .i64 t4.Style], oc b7 [iv .i64 t6.1.Graph.N, slv rT_api_Pair t6.1.Graph.L, iv .i64 t6.1.Root, iv .i64 t6.1.Limits.i0, iv .i64 t6.1.Limits.i1, slv rT_api_Move t6.1.Moves]] rfl) ?_
  refine n_then (ref_seq (ref_region ?_))
  refine mv1 rfl rfl ?_
  refine s_rd (r_eql rfl rfl) rfl ?_
  refine mv1 rfl rfl ?_
  refine b_split (t := 28) rfl (fun _ => ?_) (fun _ => ?_)
  · refine s_on rfl rfl rfl ?_
    refine s_rd (r_faddr (fo := 5) Try.underlying35 rfl rfl Try.sizeOf23 rfl) rfl ?_
    refine s_on rfl rfl rfl ?_
    refine s_rd (r_cload Try.isAgg23 rfl (j := 3) rfl rfl) rfl ?_
    refine s_on rfl rfl rfl ?_
    refine s_rd (r_len Try.underlying23 rfl) rfl ?_
    refine s_on rfl rfl rfl ?_
    refine s_rd (r_eql rfl rfl) rfl ?_
    refine s_rd (r_pickT rfl rfl) rfl ?_
    refine mv1 rfl rfl ?_
    refine b_split (t := 34) rfl (fun _ => ?_) (fun _ => ?_)
    · refine s_on rfl rfl rfl ?_
      refine s_rd (r_cloadS Try.isAgg35 Try.sizeOf35 rfl (j := 3) rfl rfl rfl) rfl ?_
      refine s_on rfl rfl rfl ?_
      refine pull fun t8 h_t8 => ?_
      refine s_st (s_call (ψ := fun (_ : Unit) => ag [iv .i64 t8.Winner, iv .i64 t8.Reason]) (args := [.tmp 35]) Try.call23 rfl (ref27_End_ok h_t8) ⟨arg rfl, trivial⟩ (fun _ _ _ _ h => h)) rfl (fun _ => ?_)
      refine s_on rfl rfl rfl ?_
      refine s_rd (r_build (ps := [(0, .const (.int .i64 (1))), (1, .const (.int .i64 (1)))]) (rs := [(0, [iv .i64 1]), (1, [iv .i64 1])]) st_57 zs_57 ⟨rfl, (part_at rfl iv_at), ⟨rfl, (part_at rfl iv_at), trivial⟩⟩ rfl rfl) rfl ?_
      refine s_on rfl rfl rfl ?_
      refine s_rd (r_steql (u := t8) (v := (T_api_Outcome.mk 1 1)) eq_57 rfl rfl rfl rfl) rfl ?_
      refine s_rd (r_pickT rfl rfl) rfl ?_
      refine as1 rfl rfl ?_
      refine b_let (f := bv) (t := 0) rfl fun t9 => ?_
      refine l_nil (n_then (ref_ret ?_))
      exact fin1 (.inl rfl) () [] rfl trivial rfl (rv_tmp rfl)
    refine s_off rfl rfl rfl rfl rfl ?_
    refine s_off rfl rfl rfl rfl rfl ?_
    refine s_off rfl rfl rfl rfl rfl ?_
    refine s_off rfl rfl rfl rfl rfl ?_
    refine s_rd (r_pickF rfl rfl) rfl ?_
    refine as1 rfl rfl ?_
    refine l_nil (n_then (ref_ret ?_))
    exact fin1 (.inl rfl) () [] rfl trivial rfl (rv_tmp rfl)
  refine s_off rfl rfl rfl rfl rfl ?_
  refine s_off rfl rfl rfl rfl rfl ?_
  refine s_off rfl rfl rfl rfl rfl ?_
  refine s_off rfl rfl rfl rfl rfl ?_
  refine s_rd (r_pickF rfl rfl) rfl ?_
  refine mv1 rfl rfl ?_
  refine s_off rfl rfl rfl rfl rfl ?_
  refine s_off rfl rfl rfl rfl rfl ?_
  refine s_off rfl rfl rfl rfl rfl ?_
  refine s_off rfl rfl rfl rfl rfl ?_
  refine s_rd (r_pickF rfl rfl) rfl ?_
  refine as1 rfl rfl ?_
  refine l_nil (n_then (ref_ret ?_))
  exact fin1 (.inl rfl) () [] rfl trivial rfl (rv_tmp rfl)

/-! deliberation/deliberationkeep.New -/
noncomputable def keep_New_m (l_0 : (List Int)) : Option (T_deliberationkeep_Src) :=
  Option.bind (slM l_0 0 (imin (l_0.length : Int) 2000)) fun t1 =>
  some (T_deliberationkeep_Src.mk t1 0)

theorem keep_New_ok {l_0 : (List Int)} {r : T_deliberationkeep_Src} (hm : keep_New_m l_0 = some r) :
    FnOk prog 9 [slv (rI .i64) l_0] [] (fun (x : Nat) => [pv (ptr x 0)]) (fun (x : Nat) => [oc x [slv (rI .i64) r.L, iv .i64 r.At]]) := by
  refine fn_ok (X := Nat) (fn := Try.f9) (N := 10) (res := fun r x => [pv (ptr x 0)]) (Ω1 := fun r x => [oc x [slv (rI .i64) r.L, iv .i64 r.At]]) Try.func9 rfl rfl hm rfl (fun E hM => ?_)
  unfold keep_New_m
  refine ref_seq (ref_region ?_)
  refine as1 rfl rfl ?_
  refine l_nil (n_then (ref_seq (ref_region ?_)))
  refine mv1 rfl rfl ?_
  refine mv1 rfl rfl ?_
  refine s_rd (r_len Try.underlying22 rfl) rfl ?_
  refine s_rd (r_min rfl rfl) rfl ?_
  refine pull fun t1 h_t1 => ?_
  refine s_rd (r_slice h_t1 Try.underlying22 el_3 rfl .dft (.of rfl)) rfl ?_
  refine s_rd (r_build (ps := [(0, .tmp 7)]) (rs := [(0, [slv (rI .i64) t1])]) st_69 zs_69 ⟨rfl, (part_at rfl slv_at), trivial⟩ rfl rfl) rfl ?_
  refine s_st (s_box (part_agO (ψs := [slv (rI .i64) t1, iv .i64 0]) rfl ⟨.inl slv_at, .inl iv_at, trivial⟩)) rfl (fun b2 => ?_)
  refine as1 rfl rfl ?_
  refine l_nil (n_then (ref_ret ?_))
  exact fin1 (.inl rfl) b2 [0] rfl ⟨rfl, trivial⟩ rfl (rv_tmp rfl)

/-! (*deliberation/deliberationkeep.Src).Raw -/
noncomputable def keep_Src_Raw_m (s_0 : T_deliberationkeep_Src) : Option (Int × T_deliberationkeep_Src) :=
  bif decide (s_0.At ≥ (s_0.L.length : Int)) then
    some (0, s_0)
  else
    Option.bind (idxM s_0.L (isub .i64 (iadd .i64 s_0.At 1) 1)) fun t2 =>
    some (t2, (T_deliberationkeep_Src.mk s_0.L (iadd .i64 s_0.At 1)))

theorem keep_Src_Raw_ok {s_0 : T_deliberationkeep_Src} {b_0 : Nat} {r : Int × T_deliberationkeep_Src} (hm : keep_Src_Raw_m s_0 = some r) :
    FnOk prog 53 [pv (ptr b_0 0)] [oc b_0 [slv (rI .i64) s_0.L, iv .i64 s_0.At]] (fun (x : Unit) => [iv .i64 r.1]) (fun (x : Unit) => [oc b_0 [slv (rI .i64) r.2.L, iv .i64 r.2.At]]) := by
  refine fn_ok (fn := Try.f53) (N := 31) (res := fun r x => [iv .i64 r.1]) (Ω1 := fun r x => [oc b_0 [slv (rI .i64) r.2.L, iv .i64 r.2.At]]) Try.func53 rfl rfl hm rfl (fun E hM => ?_)
  unfold keep_Src_Raw_m
  refine ref_seq (ref_region ?_)
  refine as1 rfl rfl ?_
  refine l_nil (n_then (ref_seq (ref_seq ?_)))
  refine ref_draw [0, 1, 2, 3, 4, 5, 6, 7, 8, 9] rfl (by kernel_rfl) (fun hok => ?_)
  refine a_rd (i := 0) hok rfl (by kernel_rfl) rfl (r_move rfl) rfl ?_
  refine a_rd (i := 1) hok rfl (by kernel_rfl) rfl (r_nilc rfl) rfl ?_
  refine a_rd (i := 2) hok rfl (by kernel_rfl) rfl (r_faddr (fo := 1) Try.underlying69 rfl rfl Try.sizeOf3 rfl) rfl ?_
  refine a_rd (i := 3) hok rfl (by kernel_rfl) rfl (r_cload Try.isAgg3 rfl (j := 0) rfl rfl) rfl ?_
  refine a_rd (i := 4) hok rfl (by kernel_rfl) rfl (r_move rfl) rfl ?_
  refine a_rd (i := 5) hok rfl (by kernel_rfl) rfl (r_nilc rfl) rfl ?_
  refine a_rd (i := 6) hok rfl (by kernel_rfl) rfl (r_faddr (fo := 0) Try.underlying69 rfl rfl Try.sizeOf22 rfl) rfl ?_
  refine a_rd (i := 7) hok rfl (by kernel_rfl) rfl (r_cload Try.isAgg22 rfl (j := 0) rfl rfl) rfl ?_
  refine a_rd (i := 8) hok rfl (by kernel_rfl) rfl (r_len Try.underlying22 rfl) rfl ?_
  refine a_rd (i := 9) hok rfl (by kernel_rfl) rfl (r_geq rfl rfl) rfl ?_
  refine a_fin hok (by kernel_rfl) ?_
  refine n_then ?_
  refine ref_cond rfl (fun hb1 => ?_) (fun hb1 => ?_)
  · refine ref_seq (ref_region ?_)
    refine as1 rfl rfl ?_
    refine l_nil (n_then (ref_ret (r_then ?_)))
    exact fin1 (.inl rfl) () [0] rfl ⟨rfl, trivial⟩ rfl (rv_tmp rfl)
  refine ref_skip (n_then (ref_seq (ref_region ?_)))
  refine mv1 rfl rfl ?_
  refine s_rd (r_nilc rfl) rfl ?_
  refine s_rd (r_faddr (fo := 1) Try.underlying69 rfl rfl Try.sizeOf3 rfl) rfl ?_
  refine s_rd (r_cload Try.isAgg3 rfl (j := 0) rfl rfl) rfl ?_
  refine s_rd (r_add rfl rfl) rfl ?_
  refine s_rd (r_nilc rfl) rfl ?_
  refine s_rd (r_faddr (fo := 1) Try.underlying69 rfl rfl Try.sizeOf3 rfl) rfl ?_
  refine s_st0 (s_cstore (out := [slv (rI .i64) s_0.L, iv .i64 (iadd .i64 s_0.At 1)]) Try.sizeOf3 rfl (j := 0) rfl (part_at rfl iv_at) rfl rfl rfl) (fun _ => ?_)
  refine l_nil (n_then (ref_seq ?_))
  refine ref_draw [0, 1, 2, 3, 4, 5, 6, 7, 8, 9, 10] rfl (by kernel_rfl) (fun hok => ?_)
  refine a_rd (i := 0) hok rfl (by kernel_rfl) rfl (r_move rfl) rfl ?_
  refine a_rd (i := 1) hok rfl (by kernel_rfl) rfl (r_nilc rfl) rfl ?_
  refine a_rd (i := 2) hok rfl (by kernel_rfl) rfl (r_faddr (fo := 0) Try.underlying69 rfl rfl Try.sizeOf22 rfl) rfl ?_
  refine a_rd (i := 3) hok rfl (by kernel_rfl) rfl (r_cload Try.isAgg22 rfl (j := 0) rfl rfl) rfl ?_
  refine a_rd (i := 4) hok rfl (by kernel_rfl) rfl (r_move rfl) rfl ?_
  refine a_rd (i := 5) hok rfl (by kernel_rfl) rfl (r_nilc rfl) rfl ?_
  refine a_rd (i := 6) hok rfl (by kernel_rfl) rfl (r_faddr (fo := 1) Try.underlying69 rfl rfl Try.sizeOf3 rfl) rfl ?_
  refine a_rd (i := 7) hok rfl (by kernel_rfl) rfl (r_cload Try.isAgg3 rfl (j := 0) rfl rfl) rfl ?_
  refine a_rd (i := 8) hok rfl (by kernel_rfl) rfl (r_sub rfl rfl) rfl ?_
  refine pull fun t2 h_t2 => ?_
  refine a_rd (i := 9) hok rfl (by kernel_rfl) rfl (r_index h_t2 Try.underlying22 el_3 rfl rfl) rfl ?_
  refine a_rd (i := 10) hok rfl (by kernel_rfl) rfl (r_load el_3 rfl) rfl ?_
  refine a_next hok 11 [] (by kernel_rfl) ?_ trivial
  refine a_st (i := 11) hok rfl rfl (St.ofRd (r_assign rfl)) (by intro _ h; cases h; rfl) (fun _ => ⟨trivial, ⟨trivial, ⟨trivial, ⟨trivial, ⟨trivial, ⟨trivial, ⟨trivial, ⟨trivial, ⟨trivial, ⟨trivial, ⟨trivial, trivial⟩⟩⟩⟩⟩⟩⟩⟩⟩⟩⟩) (fun _ => ?_)
  refine a_fin hok (by kernel_rfl) ?_
  refine n_then (ref_ret ?_)
  exact fin1 (.inl rfl) () [0] rfl ⟨rfl, trivial⟩ rfl (rv_tmp rfl)

/-! deliberation/deliberationkeep.Mod -/
noncomputable def keep_Mod_m (x_0 : Int) (n_1 : Int) : Option (Int) :=
  bif decide (n_1 < 1) then
    some 0
  else
    Option.bind (iremM .i64 x_0 n_1) fun x2 =>
    bif decide (x2 < 0) then
      letM (iadd .i64 x2 n_1) fun x4 =>
      some x4
    else
      some x2

theorem keep_Mod_ok {x_0 : Int} {n_1 : Int} {r : Int} (hm : keep_Mod_m x_0 n_1 = some r) :
    FnOk prog 52 [iv .i64 x_0, iv .i64 n_1] [] (fun (x : Unit) => [iv .i64 r]) (fun (x : Unit) => []) := by
  refine fn_ok (fn := Try.f52) (N := 16) (res := fun r x => [iv .i64 r]) (Ω1 := fun r x => []) Try.func52 rfl rfl hm rfl (fun E hM => ?_)
  unfold keep_Mod_m
  refine ref_seq (ref_region ?_)
  refine as1 rfl rfl ?_
  refine l_nil (n_then (ref_seq (ref_seq (ref_region ?_))))
  refine mv1 rfl rfl ?_
  refine s_rd (r_lss rfl rfl) rfl ?_
  refine l_nil (n_then ?_)
  refine ref_cond rfl (fun hb1 => ?_) (fun hb1 => ?_)
  · refine ref_seq (ref_region ?_)
    refine as1 rfl rfl ?_
    refine l_nil (n_then (ref_ret (r_then ?_)))
    exact fin1 (.inl rfl) () [] rfl trivial rfl (rv_tmp rfl)
  refine ref_skip (n_then (ref_seq (ref_region ?_)))
  refine mv1 rfl rfl ?_
  refine mv1 rfl rfl ?_
  refine pull fun x2 h_x2 => ?_
  refine s_rd (r_remM h_x2 rfl rfl) rfl ?_
  refine as1 rfl rfl ?_
  refine l_nil (n_then (ref_seq (ref_seq (ref_region ?_))))
  refine mv1 rfl rfl ?_
  refine s_rd (r_lss rfl rfl) rfl ?_
  refine l_nil (n_then ?_)
  refine ref_cond rfl (fun hb3 => ?_) (fun hb3 => ?_)
  · refine ref_region ?_
    refine mv1 rfl rfl ?_
    refine mv1 rfl rfl ?_
    refine s_rd (r_add rfl rfl) rfl ?_
    refine as1 rfl rfl ?_
    refine b_let (f := iv .i64) (t := 0) rfl fun x4 => ?_
    refine l_nil (n_then (ref_seq (ref_region ?_)))
    refine mv1 rfl rfl ?_
    refine as1 rfl rfl ?_
    refine l_nil (n_then (ref_ret ?_))
    exact fin1 (.inl rfl) () [] rfl trivial rfl (rv_tmp rfl)
  refine ref_skip (n_then (ref_seq (ref_region ?_)))
  refine mv1 rfl rfl ?_
  refine as1 rfl rfl ?_
  refine l_nil (n_then (ref_ret ?_))
  exact fin1 (.inl rfl) () [] rfl trivial rfl (rv_tmp rfl)

/-! (*deliberation/deliberationkeep.Src).N -/
noncomputable def keep_Src_N_m (s_0 : T_deliberationkeep_Src) (n_1 : Int) : Option (Int × T_deliberationkeep_Src) :=
  Option.bind (keep_Src_Raw_m s_0) fun t1 =>
  Option.bind (keep_Mod_m t1.1 n_1) fun t2 =>
  some (t2, t1.2)

theorem keep_Src_N_ok {s_0 : T_deliberationkeep_Src} {n_1 : Int} {b_0 : Nat} {r : Int × T_deliberationkeep_Src} (hm : keep_Src_N_m s_0 n_1 = some r) :
    FnOk prog 22 [pv (ptr b_0 0), iv .i64 n_1] [oc b_0 [slv (rI .i64) s_0.L, iv .i64 s_0.At]] (fun (x : Unit) => [iv .i64 r.1]) (fun (x : Unit) => [oc b_0 [slv (rI .i64) r.2.L, iv .i64 r.2.At]]) := by
  refine fn_ok (fn := Try.f22) (N := 9) (res := fun r x => [iv .i64 r.1]) (Ω1 := fun r x => [oc b_0 [slv (rI .i64) r.2.L, iv .i64 r.2.At]]) Try.func22 rfl rfl hm rfl (fun E hM => ?_)
  unfold keep_Src_N_m
  refine ref_seq (ref_region ?_)
  refine as1 rfl rfl ?_
  refine l_nil (n_then (ref_seq (ref_region ?_)))
  refine mv1 rfl rfl ?_
  refine pull fun t1 h_t1 => ?_
  refine s_st (s_callC [0] [true] (fun (_ : Unit) => [oc b_0 [slv (rI .i64) t1.2.L, iv .i64 t1.2.At]]) (fun (_ : Unit) => []) (fun (_ : Unit) => iv .i64 t1.1) (args := [.tmp 5]) (caps := []) Try.call53 rfl (keep_Src_Raw_ok h_t1) ⟨rfl, rfl, trivial⟩ (fun _ => rfl) (fun _ => trivial) (fun _ => rfl) ⟨arg rfl, trivial⟩ (fun _ _ _ _ h => h)) rfl (fun _ => ?_)
  refine mv1 rfl rfl ?_
  refine pull fun t2 h_t2 => ?_
  refine s_st (s_call (ψ := fun (_ : Unit) => iv .i64 t2) (args := [.tmp 6, .tmp 7]) Try.call52 rfl (keep_Mod_ok h_t2) ⟨arg rfl, arg rfl, trivial⟩ (fun _ _ _ _ h => h)) rfl (fun _ => ?_)
  refine as1 rfl rfl ?_
  refine l_nil (n_then (ref_ret ?_))
  exact fin1 (.inl rfl) () [0] rfl ⟨rfl, trivial⟩ rfl (rv_tmp rfl)

/-! (*deliberation/deliberationkeep.Src).Range -/
noncomputable def keep_Src_Range_m (s_0 : T_deliberationkeep_Src) (lo_1 : Int) (hi_2 : Int) : Option (Int × T_deliberationkeep_Src) :=
  Option.bind (keep_Src_N_m s_0 (iadd .i64 (isub .i64 hi_2 lo_1) 1)) fun t1 =>
  letM (iadd .i64 lo_1 t1.1) fun t2 =>
  some (t2, t1.2)

theorem keep_Src_Range_ok {s_0 : T_deliberationkeep_Src} {lo_1 : Int} {hi_2 : Int} {b_0 : Nat} {r : Int × T_deliberationkeep_Src} (hm : keep_Src_Range_m s_0 lo_1 hi_2 = some r) :
    FnOk prog 27 [pv (ptr b_0 0), iv .i64 lo_1, iv .i64 hi_2] [oc b_0 [slv (rI .i64) s_0.L, iv .i64 s_0.At]] (fun (x : Unit) => [iv .i64 r.1]) (fun (x : Unit) => [oc b_0 [slv (rI .i64) r.2.L, iv .i64 r.2.At]]) := by
  refine fn_ok (fn := Try.f27) (N := 15) (res := fun r x => [iv .i64 r.1]) (Ω1 := fun r x => [oc b_0 [slv (rI .i64) r.2.L, iv .i64 r.2.At]]) Try.func27 rfl rfl hm rfl (fun E hM => ?_)
  unfold keep_Src_Range_m
  refine ref_seq (ref_region ?_)
  refine as1 rfl rfl ?_
  refine l_nil (n_then (ref_seq (ref_region ?_)))
  refine mv1 rfl rfl ?_
  refine mv1 rfl rfl ?_
  refine mv1 rfl rfl ?_
  refine mv1 rfl rfl ?_
  refine s_rd (r_sub rfl rfl) rfl ?_
  refine s_rd (r_add rfl rfl) rfl ?_
  refine pull fun t1 h_t1 => ?_
  refine s_st (s_callC [0] [true] (fun (_ : Unit) => [oc b_0 [slv (rI .i64) t1.2.L, iv .i64 t1.2.At]]) (fun (_ : Unit) => []) (fun (_ : Unit) => iv .i64 t1.1) (args := [.tmp 8, .tmp 12]) (caps := []) Try.call22 rfl (keep_Src_N_ok h_t1) ⟨rfl, rfl, trivial⟩ (fun _ => rfl) (fun _ => trivial) (fun _ => rfl) ⟨arg rfl, arg rfl, trivial⟩ (fun _ _ _ _ h => h)) rfl (fun _ => ?_)
  refine s_rd (r_add rfl rfl) rfl ?_
  refine as1 rfl rfl ?_
  refine b_let (f := iv .i64) (t := 6) rfl fun t2 => ?_
  refine l_nil (n_then (ref_ret ?_))
  exact fin1 (.inl rfl) () [0] rfl ⟨rfl, trivial⟩ rfl (rv_tmp rfl)

/-! deliberation/deliberationnet.Graph -/
noncomputable def net_Graph_l2 (t2 : Int × T_deliberationkeep_Src) (dense4 : Int × T_deliberationkeep_Src) (s159 : Int × T_deliberationkeep_Src × (List T_api_Pair)) (s186 : Int × T_deliberationkeep_Src × (List T_api_Pair)) : Option (Sum (T_deliberationkeep_Src × (List T_api_Pair)) (Int × T_deliberationkeep_Src × (List T_api_Pair))) :=
  bif decide (s186.1 < t2.1) then
    joinM (fun j190 : Int =>
        Option.bind (keep_Src_N_m s186.2.1 j190) fun t193 =>
        bif t193.1 == 1 then
          Option.bind (appM 16 s186.2.2 [(T_api_Pair.mk s159.1 s186.1)]) fun t195 =>
          letM (iadd .i64 s186.1 1) fun b197 =>
          some (Sum.inr (b197, t193.2, t195))
        else
          letM (iadd .i64 s186.1 1) fun b198 =>
          some (Sum.inr (b198, t193.2, s186.2.2))) fun k192 =>
    bif s159.1 == s186.1 then
      k192 9
    else
      k192 dense4.1
  else
    some (Sum.inl (s186.2.1, s186.2.2))

noncomputable def net_Graph_l1 (t2 : Int × T_deliberationkeep_Src) (dense4 : Int × T_deliberationkeep_Src) (s159 : Int × T_deliberationkeep_Src × (List T_api_Pair)) : Option (Sum (T_deliberationkeep_Src × (List T_api_Pair)) (Int × T_deliberationkeep_Src × (List T_api_Pair))) :=
  bif decide (s159.1 < t2.1) then
    Option.bind (loopC (net_Graph_l2 t2 dense4 s159) (0, s159.2.1, s159.2.2)) fun q199 : T_deliberationkeep_Src × (List T_api_Pair) =>
    letM (iadd .i64 s159.1 1) fun a_201 =>
    some (Sum.inr (a_201, q199.1, q199.2))
  else
    some (Sum.inl (s159.2.1, s159.2.2))

noncomputable def net_Graph_m (s_0 : T_deliberationkeep_Src) (n_1 : Int) : Option (T_api_Graph × T_deliberationkeep_Src) :=
  Option.bind (keep_Src_Range_m s_0 1 n_1) fun t2 =>
  Option.bind (keep_Src_Range_m t2.2 2 5) fun dense4 =>
  Option.bind (loopC (net_Graph_l1 t2 dense4) (0, dense4.2, [])) fun q202 : T_deliberationkeep_Src × (List T_api_Pair) =>
  some ((T_api_Graph.mk t2.1 q202.2), q202.1)

theorem net_Graph_ok {s_0 : T_deliberationkeep_Src} {n_1 : Int} {b_0 : Nat} {r : T_api_Graph × T_deliberationkeep_Src} (hm : net_Graph_m s_0 n_1 = some r) :
    FnOk prog 20 [pv (ptr b_0 0), iv .i64 n_1] [oc b_0 [slv (rI .i64) s_0.L, iv .i64 s_0.At]] (fun (x : Unit) => [ag [iv .i64 r.1.N, slv rT_api_Pair r.1.L]]) (fun (x : Unit) => [oc b_0 [slv (rI .i64) r.2.L, iv .i64 r.2.At]]) := by
  refine fn_ok (fn := Try.f20) (N := 45) (res := fun r x => [ag [iv .i64 r.1.N, slv rT_api_Pair r.1.L]]) (Ω1 := fun r x => [oc b_0 [slv (rI .i64) r.2.L, iv .i64 r.2.At]]) Try.func20 rfl rfl hm rfl (fun E hM => ?_)
  unfold net_Graph_m
  refine ref_seq (ref_region ?_)
  refine s_st (s_alloc zt_28) rfl (fun b1 => ?_)
  refine l_nil (n_then (ref_seq (ref_region ?_)))
  refine mv1 rfl rfl ?_
  refine mv1 rfl rfl ?_
  refine pull fun t2 h_t2 => ?_
  refine s_st (s_callC [0] [true] (fun (_ : Unit) => [oc b_0 [slv (rI .i64) t2.2.L, iv .i64 t2.2.At]]) (fun (_ : Unit) => []) (fun (_ : Unit) => iv .i64 t2.1) (args := [.tmp 10, .const (.int .i64 (1)), .tmp 11]) (caps := []) Try.call27 rfl (keep_Src_Range_ok h_t2) ⟨rfl, rfl, trivial⟩ (fun _ => rfl) (fun _ => trivial) (fun _ => rfl) ⟨arg rfl, arg rfl, arg rfl, trivial⟩ (fun _ _ _ _ h => h)) rfl (fun _ => ?_)
  refine s_rd (r_build (ps := [(0, .tmp 12)]) (rs := [(0, [iv .i64 t2.1])]) st_28 zs_28 ⟨rfl, (part_at rfl iv_at), trivial⟩ rfl rfl) rfl ?_
  refine s_st (s_alloc zt_28) rfl (fun b3 => ?_)
  refine s_st0 (s_cstore (out := [iv .i64 t2.1, pv (.slice none 0 0)]) Try.sizeOf28 rfl (j := 2) rfl (part_agO (ψs := [iv .i64 t2.1, pv (.slice none 0 0)]) rfl ⟨.inl iv_at, .inl (pv_at rfl), trivial⟩) rfl rfl rfl) (fun _ => ?_)
  refine l_nil ?_
  refine b_of (nrm [oc b_0 [slv (rI .i64) t2.2.L, iv .i64 t2.2.At], oc b1 [iv .i64 0, pv (.slice none 0 0)], oc b3 [iv .i64 t2.1, pv (.slice none 0 0)]] rfl) ?_
  refine n_then (ref_seq (ref_region ?_))
  refine mv1 rfl rfl ?_
  refine pull fun dense4 h_dense4 => ?_
  refine s_st (s_callC [0] [true] (fun (_ : Unit) => [oc b_0 [slv (rI .i64) dense4.2.L, iv .i64 dense4.2.At]]) (fun (_ : Unit) => []) (fun (_ : Unit) => iv .i64 dense4.1) (args := [.tmp 14, .const (.int .i64 (2)), .const (.int .i64 (5))]) (caps := []) Try.call27 rfl (keep_Src_Range_ok h_dense4) ⟨rfl, rfl, trivial⟩ (fun _ => rfl) (fun _ => trivial) (fun _ => rfl) ⟨arg rfl, arg rfl, arg rfl, trivial⟩ (fun _ _ _ _ h => h)) rfl (fun _ => ?_)
  refine as1 rfl rfl ?_
  refine l_nil (n_then (ref_seq (ref_seq (ref_region ?_))))
  refine as1 rfl rfl ?_
  refine l_nil (n_then ?_)
  refine b_of (own_nil rT_api_Pair) ?_
  refine ref_loopB (f := (net_Graph_l1 t2 dense4)) (Γl := (fun (s159 : Int × T_deliberationkeep_Src × (List T_api_Pair)) (x160 : (Value × List Nat)) => [(0, pv (ptr b_0 0)), (4, pv (ptr b1 0)), (5, pv (ptr b3 0)), (6, iv .i64 dense4.1), (7, iv .i64 s159.1)])) (Ωl := (fun (s159 : Int × T_deliberationkeep_Src × (List T_api_Pair)) (x160 : (Value × List Nat)) => [oc b_0 [slv (rI .i64) s159.2.1.L, iv .i64 s159.2.1.At], oc b1 [iv .i64 0, pv (.slice none 0 0)], oc b3 [iv .i64 t2.1, pv x160.1], oa rT_api_Pair x160.1 x160.2 s159.2.2])) (Γb := (fun (q202 : T_deliberationkeep_Src × (List T_api_Pair)) (y203 : (Value × List Nat)) => [(0, pv (ptr b_0 0)), (4, pv (ptr b1 0)), (5, pv (ptr b3 0))])) (Ωb := (fun (q202 : T_deliberationkeep_Src × (List T_api_Pair)) (y203 : (Value × List Nat)) => [oc b_0 [slv (rI .i64) q202.1.L, iv .i64 q202.1.At], oc b1 [iv .i64 0, pv (.slice none 0 0)], oc b3 [iv .i64 t2.1, pv y203.1], oa rT_api_Pair y203.1 y203.2 q202.2])) (0, dense4.2, []) ((.slice none 0 0), []) (weak [0, 1, 2, 3] ⟨rfl, rfl, rfl, rfl, rfl, trivial⟩ ⟨rfl, rfl, rfl, rfl, trivial⟩) (fun s159 x160 => ?_) (fun q202 y203 => ?_)
  · unfold net_Graph_l1
    refine ref_seq (ref_seq (ref_region ?_))
    refine mv1 rfl rfl ?_
    refine s_rd (r_faddr (fo := 0) Try.underlying28 rfl rfl Try.sizeOf3 rfl) rfl ?_
    refine s_rd (r_cload Try.isAgg3 rfl (j := 2) rfl rfl) rfl ?_
    refine s_rd (r_lss rfl rfl) rfl ?_
    refine l_nil (n_then ?_)
    refine ref_cond rfl (fun hb161 => ?_) (fun hb161 => ?_)
    · refine ref_skip (n_then (ref_seq (ref_block (ref_seq (ref_region ?_)))))
      refine as1 rfl rfl ?_
      refine l_nil (n_then ?_)
      refine ref_loopB (f := (net_Graph_l2 t2 dense4 s159)) (Γl := (fun (s186 : Int × T_deliberationkeep_Src × (List T_api_Pair)) (x187 : (Value × List Nat)) => [(0, pv (ptr b_0 0)), (4, pv (ptr b1 0)), (5, pv (ptr b3 0)), (6, iv .i64 dense4.1), (7, iv .i64 s159.1), (8, iv .i64 s186.1)])) (Ωl := (fun (s186 : Int × T_deliberationkeep_Src × (List T_api_Pair)) (x187 : (Value × List Nat)) => [oc b_0 [slv (rI .i64) s186.2.1.L, iv .i64 s186.2.1.At], oc b1 [iv .i64 0, pv (.slice none 0 0)], oc b3 [iv .i64 t2.1, pv x187.1], oa rT_api_Pair x187.1 x187.2 s186.2.2])) (Γb := (fun (q199 : T_deliberationkeep_Src × (List T_api_Pair)) (y200 : (Value × List Nat)) => [(0, pv (ptr b_0 0)), (4, pv (ptr b1 0)), (5, pv (ptr b3 0)), (6, iv .i64 dense4.1), (7, iv .i64 s159.1)])) (Ωb := (fun (q199 : T_deliberationkeep_Src × (List T_api_Pair)) (y200 : (Value × List Nat)) => [oc b_0 [slv (rI .i64) q199.1.L, iv .i64 q199.1.At], oc b1 [iv .i64 0, pv (.slice none 0 0)], oc b3 [iv .i64 t2.1, pv y200.1], oa rT_api_Pair y200.1 y200.2 q199.2])) (0, s159.2.1, s159.2.2) x160 (weak [0, 1, 2, 3] ⟨rfl, rfl, rfl, rfl, rfl, rfl, trivial⟩ ⟨rfl, rfl, rfl, rfl, trivial⟩) (fun s186 x187 => ?_) (fun q199 y200 => ?_)
      · unfold net_Graph_l2
        refine ref_seq (ref_seq (ref_region ?_))
        refine mv1 rfl rfl ?_
        refine s_rd (r_faddr (fo := 0) Try.underlying28 rfl rfl Try.sizeOf3 rfl) rfl ?_
        refine s_rd (r_cload Try.isAgg3 rfl (j := 2) rfl rfl) rfl ?_
        refine s_rd (r_lss rfl rfl) rfl ?_
        refine l_nil (n_then ?_)
        refine ref_cond rfl (fun hb188 => ?_) (fun hb188 => ?_)
        · refine ref_skip (n_then (ref_seq (ref_block (ref_seq (ref_region ?_)))))
          refine mv1 rfl rfl ?_
          refine as1 rfl rfl ?_
          refine l_nil (n_then (ref_seq ?_))
          refine ref_join (fun (j190 : Int) (x191 : Unit) => [(0, pv (ptr b_0 0)), (4, pv (ptr b1 0)), (5, pv (ptr b3 0)), (6, iv .i64 dense4.1), (7, iv .i64 s159.1), (8, iv .i64 s186.1), (9, iv .i64 j190)]) (fun (j190 : Int) (x191 : Unit) => [oc b_0 [slv (rI .i64) s186.2.1.L, iv .i64 s186.2.1.At], oc b1 [iv .i64 0, pv (.slice none 0 0)], oc b3 [iv .i64 t2.1, pv x187.1], oa rT_api_Pair x187.1 x187.2 s186.2.2]) (fun k192 hk192 => ?_) (fun j190 x191 => ?_)
          · refine ref_seq (ref_region ?_)
            refine mv1 rfl rfl ?_
            refine mv1 rfl rfl ?_
            refine s_rd (r_eql rfl rfl) rfl ?_
            refine l_nil (n_then ?_)
            refine ref_cond rfl (fun hb189 => ?_) (fun hb189 => ?_)
            · refine ref_region ?_
              refine as1 rfl rfl ?_
              refine l_nil ?_
              exact b_to (hk192 9 ()) (weak [0, 1, 2, 3] ⟨rfl, rfl, rfl, rfl, rfl, rfl, rfl, trivial⟩ ⟨rfl, rfl, rfl, rfl, trivial⟩)
            refine ref_skip ?_
            exact b_to (hk192 dense4.1 ()) (weak [0, 1, 2, 3] ⟨rfl, rfl, rfl, rfl, rfl, rfl, rfl, trivial⟩ ⟨rfl, rfl, rfl, rfl, trivial⟩)
          refine n_then (ref_seq (ref_region ?_))
          refine mv1 rfl rfl ?_
          refine mv1 rfl rfl ?_
          refine pull fun t193 h_t193 => ?_
          refine s_st (s_callC [0] [true] (fun (_ : Unit) => [oc b_0 [slv (rI .i64) t193.2.L, iv .i64 t193.2.At]]) (fun (_ : Unit) => []) (fun (_ : Unit) => iv .i64 t193.1) (args := [.tmp 32, .tmp 33]) (caps := []) Try.call22 rfl (keep_Src_N_ok h_t193) ⟨rfl, rfl, trivial⟩ (fun _ => rfl) (fun _ => trivial) (fun _ => rfl) ⟨arg rfl, arg rfl, trivial⟩ (fun _ _ _ _ h => h)) rfl (fun _ => ?_)
          refine s_rd (r_eql rfl rfl) rfl ?_
          refine l_nil (n_then ?_)
          refine ref_cond rfl (fun hb194 => ?_) (fun hb194 => ?_)
          · refine ref_region ?_
            refine s_rd (r_faddr (fo := 1) Try.underlying28 rfl rfl Try.sizeOf26 rfl) rfl ?_
            refine s_rd (r_cload Try.isAgg26 rfl (j := 2) rfl rfl) rfl ?_
            refine mv1 rfl rfl ?_
            refine mv1 rfl rfl ?_
            refine s_rd (r_build (ps := [(0, .tmp 38), (1, .tmp 39)]) (rs := [(0, [iv .i64 s159.1]), (1, [iv .i64 s186.1])]) st_67 zs_67 ⟨rfl, (part_at rfl iv_at), ⟨rfl, (part_at rfl iv_at), trivial⟩⟩ rfl rfl) rfl ?_
            refine s_st (s_bslice (xs := [.tmp 40]) (ds := [(T_api_Pair.mk s159.1 s186.1)]) Try.underlying26 el_67 rfl (Nat.le_of_ble_eq_true rfl) ⟨(part_agO (ψs := [iv .i64 s159.1, iv .i64 s186.1]) rfl ⟨.inl iv_at, .inl iv_at, trivial⟩), trivial⟩) rfl (fun _ => ?_)
            refine pull fun t195 h_t195 => ?_
            refine s_st (s_append h_t195 Try.underlying26 el_67 rfl (j := 3) rfl rfl) rfl (fun o196 => ?_)
            refine s_rd (r_faddr (fo := 1) Try.underlying28 rfl rfl Try.sizeOf26 rfl) rfl ?_
            refine s_st0 (s_cstore (out := [iv .i64 t2.1, pv o196.1]) Try.sizeOf26 rfl (j := 2) rfl (part_own rfl (j := 3) rfl) rfl rfl rfl) (fun _ => ?_)
            refine l_nil ?_
            refine b_of (nrm [oc b_0 [slv (rI .i64) t193.2.L, iv .i64 t193.2.At], oc b1 [iv .i64 0, pv (.slice none 0 0)], oc b3 [iv .i64 t2.1, pv o196.1], oa rT_api_Pair o196.1 o196.2 t195] rfl) ?_
            refine n_block (n_then (ref_region ?_))
            refine mv1 rfl rfl ?_
            refine s_rd (r_add rfl rfl) rfl ?_
            refine as1 rfl rfl ?_
            refine b_let (f := iv .i64) (t := 8) rfl fun b197 => ?_
            refine l_nil ?_
            exact goB o196 (weak [0, 1, 2, 3] ⟨rfl, rfl, rfl, rfl, rfl, rfl, trivial⟩ ⟨rfl, rfl, rfl, rfl, trivial⟩)
          refine ref_skip (n_block (n_then (ref_region ?_)))
          refine mv1 rfl rfl ?_
          refine s_rd (r_add rfl rfl) rfl ?_
          refine as1 rfl rfl ?_
          refine b_let (f := iv .i64) (t := 8) rfl fun b198 => ?_
          refine l_nil ?_
          exact goB x187 (weak [0, 1, 2, 3] ⟨rfl, rfl, rfl, rfl, rfl, rfl, trivial⟩ ⟨rfl, rfl, rfl, rfl, trivial⟩)
        refine ref_exit (x_then ?_)
        exact brkB x187 (weak [0, 1, 2, 3] ⟨rfl, rfl, rfl, rfl, rfl, trivial⟩ ⟨rfl, rfl, rfl, rfl, trivial⟩)
      refine n_block (n_then (ref_region ?_))
      refine mv1 rfl rfl ?_
      refine s_rd (r_add rfl rfl) rfl ?_
      refine as1 rfl rfl ?_
      refine b_let (f := iv .i64) (t := 7) rfl fun a_201 => ?_
      refine l_nil ?_
      exact goB y200 (weak [0, 1, 2, 3] ⟨rfl, rfl, rfl, rfl, rfl, trivial⟩ ⟨rfl, rfl, rfl, rfl, trivial⟩)
    refine ref_exit (x_then ?_)
    exact brkB x160 (weak [0, 1, 2, 3] ⟨rfl, rfl, rfl, trivial⟩ ⟨rfl, rfl, rfl, rfl, trivial⟩)
  refine n_then (ref_seq (ref_region ?_))
  refine s_rd (r_cloadS Try.isAgg28 Try.sizeOf28 rfl (j := 2) rfl rfl rfl) rfl ?_
  refine s_st0 (s_cstore (out := [iv .i64 t2.1, pv y203.1]) Try.sizeOf28 rfl (j := 1) rfl (part_agO (ψs := [iv .i64 t2.1, pv y203.1]) rfl ⟨.inl iv_at, .inr ⟨_, _, _, _, _, 3, rfl, rfl⟩, trivial⟩) rfl rfl rfl) (fun _ => ?_)
  refine l_nil (n_then (ref_ret ?_))
  refine b_of (frzGL [(44, ag [iv .i64 t2.1, slv rT_api_Pair q202.2])] [(1, b1, [iv .i64 t2.1, slv rT_api_Pair q202.2]), (2, b3, [iv .i64 t2.1, slv rT_api_Pair q202.2])] (j := 3) rfl ⟨⟨_, rfl, .inr ⟨_, _, rfl, rfl, ⟨.inl rfl, .inr ⟨rfl, rfl⟩, trivial⟩⟩⟩, trivial⟩ ⟨⟨_, rfl, ⟨.inl rfl, .inr ⟨rfl, rfl⟩, trivial⟩⟩, ⟨_, rfl, ⟨.inl rfl, .inr ⟨rfl, rfl⟩, trivial⟩⟩, trivial⟩) ?_
  exact fin1 (.inl rfl) () [0] rfl ⟨rfl, trivial⟩ rfl (rv_cell rfl (j := 1) rfl Try.isAgg28 Try.sizeOf28 rfl rfl)

/-! (*deliberation/deliberationkeep.Src).Pick -/
noncomputable def keep_Src_Pick_m (s_0 : T_deliberationkeep_Src) (l_1 : (List Int)) : Option (Int × T_deliberationkeep_Src) :=
  Option.bind (keep_Src_N_m s_0 (l_1.length : Int)) fun t1 =>
  Option.bind (idxM l_1 t1.1) fun t2 =>
  some (t2, t1.2)

theorem keep_Src_Pick_ok {s_0 : T_deliberationkeep_Src} {l_1 : (List Int)} {b_0 : Nat} {r : Int × T_deliberationkeep_Src} (hm : keep_Src_Pick_m s_0 l_1 = some r) :
    FnOk prog 29 [pv (ptr b_0 0), slv (rI .i64) l_1] [oc b_0 [slv (rI .i64) s_0.L, iv .i64 s_0.At]] (fun (x : Unit) => [iv .i64 r.1]) (fun (x : Unit) => [oc b_0 [slv (rI .i64) r.2.L, iv .i64 r.2.At]]) := by
  refine fn_ok (fn := Try.f29) (N := 12) (res := fun r x => [iv .i64 r.1]) (Ω1 := fun r x => [oc b_0 [slv (rI .i64) r.2.L, iv .i64 r.2.At]]) Try.func29 rfl rfl hm rfl (fun E hM => ?_)
  unfold keep_Src_Pick_m
  refine ref_seq (ref_region ?_)
  refine as1 rfl rfl ?_
  refine l_nil (n_then (ref_seq (ref_region ?_)))
  refine mv1 rfl rfl ?_
  refine mv1 rfl rfl ?_
  refine mv1 rfl rfl ?_
  refine s_rd (r_len Try.underlying22 rfl) rfl ?_
  refine pull fun t1 h_t1 => ?_
  refine s_st (s_callC [0] [true] (fun (_ : Unit) => [oc b_0 [slv (rI .i64) t1.2.L, iv .i64 t1.2.At]]) (fun (_ : Unit) => []) (fun (_ : Unit) => iv .i64 t1.1) (args := [.tmp 6, .tmp 8]) (caps := []) Try.call22 rfl (keep_Src_N_ok h_t1) ⟨rfl, rfl, trivial⟩ (fun _ => rfl) (fun _ => trivial) (fun _ => rfl) ⟨arg rfl, arg rfl, trivial⟩ (fun _ _ _ _ h => h)) rfl (fun _ => ?_)
  refine pull fun t2 h_t2 => ?_
  refine s_rd (r_index h_t2 Try.underlying22 el_3 rfl rfl) rfl ?_
  refine s_rd (r_load el_3 rfl) rfl ?_
  refine as1 rfl rfl ?_
  refine l_nil (n_then (ref_ret ?_))
  exact fin1 (.inl rfl) () [0] rfl ⟨rfl, trivial⟩ rfl (rv_tmp rfl)

/-! deliberation/deliberationref27.Turn -/
noncomputable def ref27_Turn_m (d_0 : T_api_Dialogue) : Option (Int) :=
  Option.bind (ref27_End_m d_0) fun t2 =>
  bif !decide (t2 = (T_api_Outcome.mk 0 0)) then
    some 0
  else
    Option.bind (ref27_Status_m d_0) fun t4 =>
    Option.bind (ref27_leader_m t4) fun t6 =>
    some (isub .i64 3 t6)

theorem ref27_Turn_ok {d_0 : T_api_Dialogue} {r : Int} (hm : ref27_Turn_m d_0 = some r) :
    FnOk prog 41 [ag [iv .i64 d_0.Graph.N, slv rT_api_Pair d_0.Graph.L, iv .i64 d_0.Root, iv .i64 d_0.Limits.i0, iv .i64 d_0.Limits.i1, slv rT_api_Move d_0.Moves]] [] (fun (x : Unit) => [iv .i64 r]) (fun (x : Unit) => []) := by
  refine fn_ok (fn := Try.f41) (N := 11) (res := fun r x => [iv .i64 r]) (Ω1 := fun r x => []) Try.func41 rfl rfl hm rfl (fun E hM => ?_)
  unfold ref27_Turn_m
  refine ref_seq (ref_region ?_)
  refine s_st (s_box (part_agO (ψs := [iv .i64 d_0.Graph.N, slv rT_api_Pair d_0.Graph.L, iv .i64 d_0.Root, iv .i64 d_0.Limits.i0, iv .i64 d_0.Limits.i1, slv rT_api_Move d_0.Moves]) rfl ⟨.inl iv_at, .inl slv_at, .inl iv_at, .inl iv_at, .inl iv_at, .inl slv_at, trivial⟩)) rfl (fun b1 => ?_)
  refine as1 rfl rfl ?_
  refine l_nil (n_then (ref_seq (ref_seq (ref_region ?_))))
  refine s_rd (r_cloadS Try.isAgg35 Try.sizeOf35 rfl (j := 0) rfl rfl rfl) rfl ?_
  refine pull fun t2 h_t2 => ?_
  refine s_st (s_call (ψ := fun (_ : Unit) => ag [iv .i64 t2.Winner, iv .i64 t2.Reason]) (args := [.tmp 3]) Try.call23 rfl (ref27_End_ok h_t2) ⟨arg rfl, trivial⟩ (fun _ _ _ _ h => h)) rfl (fun _ => ?_)
  refine s_rd (r_build (ps := []) (rs := []) st_57 zs_57 trivial rfl rfl) rfl ?_
  refine s_rd (r_stneq (u := t2) (v := (T_api_Outcome.mk 0 0)) eq_57 rfl rfl rfl rfl) rfl ?_
  refine l_nil (n_then ?_)
  refine ref_cond rfl (fun hb3 => ?_) (fun hb3 => ?_)
  · refine ref_seq (ref_region ?_)
    refine as1 rfl rfl ?_
    refine l_nil (n_then (ref_ret (r_then ?_)))
    exact fin1 (.inl rfl) () [] rfl trivial rfl (rv_tmp rfl)
  refine ref_skip (n_then (ref_seq (ref_region ?_)))
  refine s_rd (r_cloadS Try.isAgg35 Try.sizeOf35 rfl (j := 0) rfl rfl rfl) rfl ?_
  refine pull fun t4 h_t4 => ?_
  refine s_st (s_call (ψ := fun (x5 : (Value × List Nat)) => pv x5.1) (args := [.tmp 7]) Try.call55 rfl (ref27_Status_ok h_t4) ⟨arg rfl, trivial⟩ (fun _ _ _ _ h => h)) rfl (fun x5 => ?_)
  refine pull fun t6 h_t6 => ?_
  refine s_st (s_callB (ψ := fun (_ : Unit) => iv .i64 t6) (args := [.tmp 8]) Try.call54 rfl (ref27_leader_ok h_t6) ⟨argO rfl (j := 1) rfl, trivial⟩ (fun _ _ _ _ _ h => h)) rfl (fun _ => ?_)
  refine s_rd (r_sub rfl rfl) rfl ?_
  refine as1 rfl rfl ?_
  refine l_nil ?_
  refine b_of (nrm [oc b1 [iv .i64 d_0.Graph.N, slv rT_api_Pair d_0.Graph.L, iv .i64 d_0.Root, iv .i64 d_0.Limits.i0, iv .i64 d_0.Limits.i1, slv rT_api_Move d_0.Moves], oa (rI .i64) x5.1 x5.2 t4] rfl) ?_
  refine n_then (ref_ret ?_)
  exact fin1 (.inl rfl) () [] rfl trivial rfl (rv_tmp rfl)

/-! deliberation/deliberationref27.Legal -/
noncomputable def ref27_Legal_m (d_0 : T_api_Dialogue) : Option (List T_api_Move) :=
  Option.bind (ref27_Turn_m d_0) fun t2 =>
  bif t2 == 0 then
    some []
  else
    Option.bind (ref27_attacks_m d_0) fun t4 =>
    some t4

theorem ref27_Legal_ok {d_0 : T_api_Dialogue} {r : List T_api_Move} (hm : ref27_Legal_m d_0 = some r) :
    FnOk prog 30 [ag [iv .i64 d_0.Graph.N, slv rT_api_Pair d_0.Graph.L, iv .i64 d_0.Root, iv .i64 d_0.Limits.i0, iv .i64 d_0.Limits.i1, slv rT_api_Move d_0.Moves]] [] (fun (x : (Value × List Nat)) => [pv x.1]) (fun (x : (Value × List Nat)) => [oa rT_api_Move x.1 x.2 r]) := by
  refine fn_ok (X := (Value × List Nat)) (fn := Try.f30) (N := 8) (res := fun r x => [pv x.1]) (Ω1 := fun r x => [oa rT_api_Move x.1 x.2 r]) Try.func30 rfl rfl hm rfl (fun E hM => ?_)
  unfold ref27_Legal_m
  refine ref_seq (ref_region ?_)
  refine s_st (s_box (part_agO (ψs := [iv .i64 d_0.Graph.N, slv rT_api_Pair d_0.Graph.L, iv .i64 d_0.Root, iv .i64 d_0.Limits.i0, iv .i64 d_0.Limits.i1, slv rT_api_Move d_0.Moves]) rfl ⟨.inl iv_at, .inl slv_at, .inl iv_at, .inl iv_at, .inl iv_at, .inl slv_at, trivial⟩)) rfl (fun b1 => ?_)
  refine as1 rfl rfl ?_
  refine l_nil (n_then (ref_seq (ref_seq (ref_region ?_))))
  refine s_rd (r_cloadS Try.isAgg35 Try.sizeOf35 rfl (j := 0) rfl rfl rfl) rfl ?_
  refine pull fun t2 h_t2 => ?_
  refine s_st (s_call (ψ := fun (_ : Unit) => iv .i64 t2) (args := [.tmp 3]) Try.call41 rfl (ref27_Turn_ok h_t2) ⟨arg rfl, trivial⟩ (fun _ _ _ _ h => h)) rfl (fun _ => ?_)
  refine s_rd (r_eql rfl rfl) rfl ?_
  refine l_nil (n_then ?_)
  refine ref_cond rfl (fun hb3 => ?_) (fun hb3 => ?_)
  · refine ref_seq (ref_region ?_)
    refine as1 rfl rfl ?_
    refine l_nil (n_then (ref_ret (r_then ?_)))
    refine b_of (own_nil rT_api_Move) ?_
    exact fin1 (.inl rfl) ((.slice none 0 0), []) [1] rfl ⟨rfl, trivial⟩ rfl (rv_tmp rfl)
  refine ref_skip (n_then (ref_seq (ref_region ?_)))
  refine s_rd (r_cloadS Try.isAgg35 Try.sizeOf35 rfl (j := 0) rfl rfl rfl) rfl ?_
  refine pull fun t4 h_t4 => ?_
  refine s_st (s_call (ψ := fun (x5 : (Value × List Nat)) => pv x5.1) (args := [.tmp 6]) Try.call56 rfl (ref27_attacks_ok h_t4) ⟨arg rfl, trivial⟩ (fun _ _ _ _ h => h)) rfl (fun x5 => ?_)
  refine as1 rfl rfl ?_
  refine l_nil (n_then (ref_ret ?_))
  exact fin1 (.inl rfl) x5 [1] rfl ⟨rfl, trivial⟩ rfl (rv_tmp rfl)

/-! deliberation/deliberationref27.Apply -/
noncomputable def ref27_Apply_l1 (m_1 : T_api_Move) (t18 : List T_api_Move) (s26 : Bool × Int) : Option (Sum (Bool) (Bool × Int)) :=
  bif decide (s26.2 < (t18.length : Int)) then
    Option.bind (idxM t18 s26.2) fun t29 =>
    bif s26.1 then
      some (Sum.inr (true, iadd .i64 s26.2 1))
    else
      letM (decide (t29 = m_1)) fun legal31 =>
      some (Sum.inr (legal31, iadd .i64 s26.2 1))
  else
    some (Sum.inl s26.1)

noncomputable def ref27_Apply_m (d_0 : T_api_Dialogue) (m_1 : T_api_Move) : Option (T_api_Dialogue × Int) :=
  Option.bind (ref27_Turn_m d_0) fun t4 =>
  bif t4 == 0 then
    some ((T_api_Dialogue.mk (T_api_Graph.mk 0 []) 0 (T_arr2_3.mk 0 0) []), 7)
  else
    joinM (fun j7 : Unit =>
        Option.bind (ref27_Turn_m d_0) fun t10 =>
        bif m_1.By != t10 then
          some ((T_api_Dialogue.mk (T_api_Graph.mk 0 []) 0 (T_arr2_3.mk 0 0) []), 8)
        else
          joinM (fun j13 : Bool =>
              joinM (fun j43 : T_api_Move =>
                  Option.bind (appM 32 [] d_0.Moves) fun t48 =>
                  Option.bind (appM 32 t48 [j43]) fun t50 =>
                  some ((T_api_Dialogue.mk d_0.Graph d_0.Root d_0.Limits t50), 0)) fun k45 =>
              bif m_1.Kind == 2 then
                bif !j13 then
                  some ((T_api_Dialogue.mk (T_api_Graph.mk 0 []) 0 (T_arr2_3.mk 0 0) []), 1)
                else
                  bif decide (m_1.Node < 0) then
                    some ((T_api_Dialogue.mk (T_api_Graph.mk 0 []) 0 (T_arr2_3.mk 0 0) []), 1)
                  else
                    bif decide (m_1.Node ≥ d_0.Graph.N) then
                      some ((T_api_Dialogue.mk (T_api_Graph.mk 0 []) 0 (T_arr2_3.mk 0 0) []), 1)
                    else
                      Option.bind (ref27_attacks_m d_0) fun t18 =>
                      Option.bind (loopC (ref27_Apply_l1 m_1 t18) (false, 0)) fun q32 : Bool =>
                      bif !q32 then
                        some ((T_api_Dialogue.mk (T_api_Graph.mk 0 []) 0 (T_arr2_3.mk 0 0) []), 9)
                      else
                        k45 m_1
              else
                bif m_1.Kind == 3 then
                  bif !j13 then
                    some ((T_api_Dialogue.mk (T_api_Graph.mk 0 []) 0 (T_arr2_3.mk 0 0) []), 1)
                  else
                    Option.bind (idxM d_0.Moves m_1.Target) fun t37 =>
                    bif t37.Kind != 2 then
                      some ((T_api_Dialogue.mk (T_api_Graph.mk 0 []) 0 (T_arr2_3.mk 0 0) []), 6)
                    else
                      bif t37.By != m_1.By then
                        some ((T_api_Dialogue.mk (T_api_Graph.mk 0 []) 0 (T_arr2_3.mk 0 0) []), 6)
                      else
                        Option.bind (ref27_Status_m d_0) fun t39 =>
                        Option.bind (idxM t39 m_1.Target) fun t41 =>
                        bif t41 == 0 then
                          some ((T_api_Dialogue.mk (T_api_Graph.mk 0 []) 0 (T_arr2_3.mk 0 0) []), 6)
                        else
                          k45 (T_api_Move.mk m_1.By m_1.Kind 0 m_1.Target)
                else
                  k45 (T_api_Move.mk m_1.By m_1.Kind 0 0)) fun k15 =>
          bif decide (m_1.Target ≥ 0) then
            letM (decide (m_1.Target < (d_0.Moves.length : Int))) fun there12 =>
            k15 there12
          else
            k15 false) fun k9 =>
    bif m_1.Kind != 2 then
      bif m_1.Kind != 3 then
        bif m_1.Kind != 4 then
          some ((T_api_Dialogue.mk (T_api_Graph.mk 0 []) 0 (T_arr2_3.mk 0 0) []), 4)
        else
          k9 ()
      else
        k9 ()
    else
      k9 ()

theorem ref27_Apply_ok {d_0 : T_api_Dialogue} {m_1 : T_api_Move} {r : T_api_Dialogue × Int} (hm : ref27_Apply_m d_0 m_1 = some r) :
    FnOk prog 26 [ag [iv .i64 d_0.Graph.N, slv rT_api_Pair d_0.Graph.L, iv .i64 d_0.Root, iv .i64 d_0.Limits.i0, iv .i64 d_0.Limits.i1, slv rT_api_Move d_0.Moves], ag [iv .i64 m_1.By, iv .i64 m_1.Kind, iv .i64 m_1.Node, iv .i64 m_1.Target]] [] (fun (x : Unit) => [ag [iv .i64 r.1.Graph.N, slv rT_api_Pair r.1.Graph.L, iv .i64 r.1.Root, iv .i64 r.1.Limits.i0, iv .i64 r.1.Limits.i1, slv rT_api_Move r.1.Moves], iv .i64 r.2]) (fun (x : Unit) => []) := by
  refine fn_ok (fn := Try.f26) (N := 126) (res := fun r x => [ag [iv .i64 r.1.Graph.N, slv rT_api_Pair r.1.Graph.L, iv .i64 r.1.Root, iv .i64 r.1.Limits.i0, iv .i64 r.1.Limits.i1, slv rT_api_Move r.1.Moves], iv .i64 r.2]) (Ω1 := fun r x => []) Try.func26 rfl rfl hm rfl (fun E hM => ?_)
  unfold ref27_Apply_m
  refine ref_seq (ref_region ?_)
  refine s_st (s_box (part_agO (ψs := [iv .i64 d_0.Graph.N, slv rT_api_Pair d_0.Graph.L, iv .i64 d_0.Root, iv .i64 d_0.Limits.i0, iv .i64 d_0.Limits.i1, slv rT_api_Move d_0.Moves]) rfl ⟨.inl iv_at, .inl slv_at, .inl iv_at, .inl iv_at, .inl iv_at, .inl slv_at, trivial⟩)) rfl (fun b1 => ?_)
  refine s_st (s_box (part_agO (ψs := [iv .i64 m_1.By, iv .i64 m_1.Kind, iv .i64 m_1.Node, iv .i64 m_1.Target]) rfl ⟨.inl iv_at, .inl iv_at, .inl iv_at, .inl iv_at, trivial⟩)) rfl (fun b2 => ?_)
  refine s_st (s_alloc zt_35) rfl (fun b3 => ?_)
  refine as1 rfl rfl ?_
  refine l_nil (n_then (ref_seq (ref_seq (ref_region ?_))))
  refine s_rd (r_cloadS Try.isAgg35 Try.sizeOf35 rfl (j := 0) rfl rfl rfl) rfl ?_
  refine pull fun t4 h_t4 => ?_
  refine s_st (s_call (ψ := fun (_ : Unit) => iv .i64 t4) (args := [.tmp 11]) Try.call41 rfl (ref27_Turn_ok h_t4) ⟨arg rfl, trivial⟩ (fun _ _ _ _ h => h)) rfl (fun _ => ?_)
  refine s_rd (r_eql rfl rfl) rfl ?_
  refine l_nil ?_
  refine b_of (nrm [oc b1 [iv .i64 d_0.Graph.N, slv rT_api_Pair d_0.Graph.L, iv .i64 d_0.Root, iv .i64 d_0.Limits.i0, iv .i64 d_0.Limits.i1, slv rT_api_Move d_0.Moves], oc b2 [iv .i64 m_1.By, iv .i64 m_1.Kind, iv .i64 m_1.Node, iv .i64 m_1.Target], oc b3 [iv .i64 0, pv (.slice none 0 0), iv .i64 0, iv .i64 0, iv .i64 0, pv (.slice none 0 0)]] rfl) ?_
  refine n_then ?_
  refine ref_cond rfl (fun hb5 => ?_) (fun hb5 => ?_)
  · refine ref_seq (ref_region ?_)
    refine s_rd (r_build (ps := []) (rs := []) st_35 zs_35 trivial rfl rfl) rfl ?_
    refine s_st0 (s_cstore (out := [iv .i64 0, pv (.slice none 0 0), iv .i64 0, iv .i64 0, iv .i64 0, pv (.slice none 0 0)]) Try.sizeOf35 rfl (j := 2) rfl (part_agO (ψs := [iv .i64 0, pv (.slice none 0 0), iv .i64 0, iv .i64 0, iv .i64 0, pv (.slice none 0 0)]) rfl ⟨.inl iv_at, .inl (pv_at rfl), .inl iv_at, .inl iv_at, .inl iv_at, .inl (pv_at rfl), trivial⟩) rfl rfl rfl) (fun _ => ?_)
    refine as1 rfl rfl ?_
    refine l_nil (n_then (ref_ret (r_then ?_)))
    refine b_of (ocW 2 [iv .i64 0, slv rT_api_Pair [], iv .i64 0, iv .i64 0, iv .i64 0, slv rT_api_Move []] rfl ⟨imp_rfl, nil_sl, imp_rfl, imp_rfl, imp_rfl, nil_sl, trivial⟩) ?_
    exact fin2 (.inl rfl) () [] rfl trivial rfl (rv_cell rfl (j := 2) rfl Try.isAgg35 Try.sizeOf35 rfl rfl) (rv_tmp rfl)
  refine ref_skip (n_then (ref_seq ?_))
  refine ref_join (fun (j7 : Unit) (x8 : Unit) => [(2, pv (ptr b1 0)), (3, pv (ptr b2 0)), (4, pv (ptr b3 0))]) (fun (j7 : Unit) (x8 : Unit) => [oc b1 [iv .i64 d_0.Graph.N, slv rT_api_Pair d_0.Graph.L, iv .i64 d_0.Root, iv .i64 d_0.Limits.i0, iv .i64 d_0.Limits.i1, slv rT_api_Move d_0.Moves], oc b2 [iv .i64 m_1.By, iv .i64 m_1.Kind, iv .i64 m_1.Node, iv .i64 m_1.Target], oc b3 [iv .i64 0, pv (.slice none 0 0), iv .i64 0, iv .i64 0, iv .i64 0, pv (.slice none 0 0)]]) (fun k9 hk9 => ?_) (fun j7 x8 => ?_)
  · refine ref_seq (ref_region ?_)
    refine s_rd (r_faddr (fo := 1) Try.underlying40 rfl rfl Try.sizeOf3 rfl) rfl ?_
    refine s_rd (r_cload Try.isAgg3 rfl (j := 1) rfl rfl) rfl ?_
    refine s_rd (r_neq rfl rfl) rfl ?_
    refine mv1 rfl rfl ?_
    refine b_split (t := 18) rfl (fun _ => ?_) (fun _ => ?_)
    · refine s_on rfl rfl rfl ?_
      refine s_rd (r_faddr (fo := 1) Try.underlying40 rfl rfl Try.sizeOf3 rfl) rfl ?_
      refine s_on rfl rfl rfl ?_
      refine s_rd (r_cload Try.isAgg3 rfl (j := 1) rfl rfl) rfl ?_
      refine s_on rfl rfl rfl ?_
      refine s_rd (r_neq rfl rfl) rfl ?_
      refine s_rd (r_pickT rfl rfl) rfl ?_
      refine mv1 rfl rfl ?_
      refine b_split (t := 23) rfl (fun _ => ?_) (fun _ => ?_)
      · refine s_on rfl rfl rfl ?_
        refine s_rd (r_faddr (fo := 1) Try.underlying40 rfl rfl Try.sizeOf3 rfl) rfl ?_
        refine s_on rfl rfl rfl ?_
        refine s_rd (r_cload Try.isAgg3 rfl (j := 1) rfl rfl) rfl ?_
        refine s_on rfl rfl rfl ?_
        refine s_rd (r_neq rfl rfl) rfl ?_
        refine s_rd (r_pickT rfl rfl) rfl ?_
        refine l_nil (n_then ?_)
        refine ref_cond rfl (fun hb6 => ?_) (fun hb6 => ?_)
        · refine ref_seq (ref_region ?_)
          refine s_rd (r_build (ps := []) (rs := []) st_35 zs_35 trivial rfl rfl) rfl ?_
          refine s_st0 (s_cstore (out := [iv .i64 0, pv (.slice none 0 0), iv .i64 0, iv .i64 0, iv .i64 0, pv (.slice none 0 0)]) Try.sizeOf35 rfl (j := 2) rfl (part_agO (ψs := [iv .i64 0, pv (.slice none 0 0), iv .i64 0, iv .i64 0, iv .i64 0, pv (.slice none 0 0)]) rfl ⟨.inl iv_at, .inl (pv_at rfl), .inl iv_at, .inl iv_at, .inl iv_at, .inl (pv_at rfl), trivial⟩) rfl rfl rfl) (fun _ => ?_)
          refine as1 rfl rfl ?_
          refine l_nil (n_then (ref_ret (r_then ?_)))
          refine b_of (ocW 2 [iv .i64 0, slv rT_api_Pair [], iv .i64 0, iv .i64 0, iv .i64 0, slv rT_api_Move []] rfl ⟨imp_rfl, nil_sl, imp_rfl, imp_rfl, imp_rfl, nil_sl, trivial⟩) ?_
          exact fin2 (.inl rfl) () [] rfl trivial rfl (rv_cell rfl (j := 2) rfl Try.isAgg35 Try.sizeOf35 rfl rfl) (rv_tmp rfl)
        refine ref_skip ?_
        exact b_to (hk9 () ()) (weak [0, 1, 2] ⟨rfl, rfl, rfl, trivial⟩ ⟨rfl, rfl, rfl, trivial⟩)
      refine s_off rfl rfl rfl rfl rfl ?_
      refine s_off rfl rfl rfl rfl rfl ?_
      refine s_off rfl rfl rfl rfl rfl ?_
      refine s_rd (r_pickF rfl rfl) rfl ?_
      refine l_nil (n_then ?_)
      refine ref_condF rfl rfl ?_
      refine ref_skip ?_
      exact b_to (hk9 () ()) (weak [0, 1, 2] ⟨rfl, rfl, rfl, trivial⟩ ⟨rfl, rfl, rfl, trivial⟩)
    refine s_off rfl rfl rfl rfl rfl ?_
    refine s_off rfl rfl rfl rfl rfl ?_
    refine s_off rfl rfl rfl rfl rfl ?_
    refine s_rd (r_pickF rfl rfl) rfl ?_
    refine mv1 rfl rfl ?_
    refine s_off rfl rfl rfl rfl rfl ?_
    refine s_off rfl rfl rfl rfl rfl ?_
    refine s_off rfl rfl rfl rfl rfl ?_
    refine s_rd (r_pickF rfl rfl) rfl ?_
    refine l_nil (n_then ?_)
    refine ref_condF rfl rfl ?_
    refine ref_skip ?_
    exact b_to (hk9 () ()) (weak [0, 1, 2] ⟨rfl, rfl, rfl, trivial⟩ ⟨rfl, rfl, rfl, trivial⟩)
  refine n_then (ref_seq (ref_seq ?_))
  refine ref_draw [0, 1, 2, 4] rfl (by kernel_rfl) (fun hok => ?_)
  refine a_rd (i := 0) hok rfl (by kernel_rfl) rfl (r_faddr (fo := 0) Try.underlying40 rfl rfl Try.sizeOf3 rfl) rfl ?_
  refine a_rd (i := 1) hok rfl (by kernel_rfl) rfl (r_cload Try.isAgg3 rfl (j := 1) rfl rfl) rfl ?_
  refine a_rd (i := 2) hok rfl (by kernel_rfl) rfl (r_cloadS Try.isAgg35 Try.sizeOf35 rfl (j := 0) rfl rfl rfl) rfl ?_
  refine pull fun t10 h_t10 => ?_
  refine a_next hok 3 [] (by kernel_rfl) ?_ trivial
  refine a_st (i := 3) hok rfl rfl (s_call (ψ := fun (_ : Unit) => iv .i64 t10) (args := [.tmp 31]) Try.call41 rfl (ref27_Turn_ok h_t10) ⟨arg rfl, trivial⟩ (fun _ _ _ _ h => h)) (by intro _ h; cases h; rfl) (fun _ => ⟨trivial, ⟨⟨⟨rfl, rfl⟩, trivial⟩, ⟨trivial, trivial⟩⟩⟩) (fun _ => ?_)
  refine a_rd (i := 4) hok rfl (by kernel_rfl) rfl (r_neq rfl rfl) rfl ?_
  refine a_fin hok (by kernel_rfl) ?_
  refine n_then ?_
  refine ref_cond rfl (fun hb11 => ?_) (fun hb11 => ?_)
  · refine ref_seq (ref_region ?_)
    refine s_rd (r_build (ps := []) (rs := []) st_35 zs_35 trivial rfl rfl) rfl ?_
    refine s_st0 (s_cstore (out := [iv .i64 0, pv (.slice none 0 0), iv .i64 0, iv .i64 0, iv .i64 0, pv (.slice none 0 0)]) Try.sizeOf35 rfl (j := 2) rfl (part_agO (ψs := [iv .i64 0, pv (.slice none 0 0), iv .i64 0, iv .i64 0, iv .i64 0, pv (.slice none 0 0)]) rfl ⟨.inl iv_at, .inl (pv_at rfl), .inl iv_at, .inl iv_at, .inl iv_at, .inl (pv_at rfl), trivial⟩) rfl rfl rfl) (fun _ => ?_)
    refine as1 rfl rfl ?_
    refine l_nil (n_then (ref_ret (r_then ?_)))
    refine b_of (ocW 2 [iv .i64 0, slv rT_api_Pair [], iv .i64 0, iv .i64 0, iv .i64 0, slv rT_api_Move []] rfl ⟨imp_rfl, nil_sl, imp_rfl, imp_rfl, imp_rfl, nil_sl, trivial⟩) ?_
    exact fin2 (.inl rfl) () [] rfl trivial rfl (rv_cell rfl (j := 2) rfl Try.isAgg35 Try.sizeOf35 rfl rfl) (rv_tmp rfl)
  refine ref_skip (n_then (ref_seq ?_))
  refine ref_join (fun (j13 : Bool) (x14 : Unit) => [(2, pv (ptr b1 0)), (3, pv (ptr b2 0)), (4, pv (ptr b3 0)), (6, bv j13)]) (fun (j13 : Bool) (x14 : Unit) => [oc b1 [iv .i64 d_0.Graph.N, slv rT_api_Pair d_0.Graph.L, iv .i64 d_0.Root, iv .i64 d_0.Limits.i0, iv .i64 d_0.Limits.i1, slv rT_api_Move d_0.Moves], oc b2 [iv .i64 m_1.By, iv .i64 m_1.Kind, iv .i64 m_1.Node, iv .i64 m_1.Target], oc b3 [iv .i64 0, pv (.slice none 0 0), iv .i64 0, iv .i64 0, iv .i64 0, pv (.slice none 0 0)]]) (fun k15 hk15 => ?_) (fun j13 x14 => ?_)
  · refine ref_region ?_
    refine s_rd (r_faddr (fo := 3) Try.underlying40 rfl rfl Try.sizeOf3 rfl) rfl ?_
    refine s_rd (r_cload Try.isAgg3 rfl (j := 1) rfl rfl) rfl ?_
    refine s_rd (r_geq rfl rfl) rfl ?_
    refine mv1 rfl rfl ?_
    refine b_split (t := 38) rfl (fun _ => ?_) (fun _ => ?_)
    · refine s_on rfl rfl rfl ?_
      refine s_rd (r_faddr (fo := 3) Try.underlying40 rfl rfl Try.sizeOf3 rfl) rfl ?_
      refine s_on rfl rfl rfl ?_
      refine s_rd (r_cload Try.isAgg3 rfl (j := 1) rfl rfl) rfl ?_
      refine s_on rfl rfl rfl ?_
      refine s_rd (r_faddr (fo := 5) Try.underlying35 rfl rfl Try.sizeOf23 rfl) rfl ?_
      refine s_on rfl rfl rfl ?_
      refine s_rd (r_cload Try.isAgg23 rfl (j := 0) rfl rfl) rfl ?_
      refine s_on rfl rfl rfl ?_
      refine s_rd (r_len Try.underlying23 rfl) rfl ?_
      refine s_on rfl rfl rfl ?_
      refine s_rd (r_lss rfl rfl) rfl ?_
      refine s_rd (r_pickT rfl rfl) rfl ?_
      refine as1 rfl rfl ?_
      refine b_let (f := bv) (t := 6) rfl fun there12 => ?_
      refine l_nil ?_
      exact b_to (hk15 there12 ()) (weak [0, 1, 2] ⟨rfl, rfl, rfl, rfl, trivial⟩ ⟨rfl, rfl, rfl, trivial⟩)
    refine s_off rfl rfl rfl rfl rfl ?_
    refine s_off rfl rfl rfl rfl rfl ?_
    refine s_off rfl rfl rfl rfl rfl ?_
    refine s_off rfl rfl rfl rfl rfl ?_
    refine s_off rfl rfl rfl rfl rfl ?_
    refine s_off rfl rfl rfl rfl rfl ?_
    refine s_rd (r_pickF rfl rfl) rfl ?_
    refine as1 rfl rfl ?_
    refine l_nil ?_
    exact b_to (hk15 false ()) (weak [0, 1, 2] ⟨rfl, rfl, rfl, rfl, trivial⟩ ⟨rfl, rfl, rfl, trivial⟩)
  refine n_then (ref_seq ?_)
  refine ref_join (fun (j43 : T_api_Move) (x44 : Unit) => [(2, pv (ptr b1 0)), (3, pv (ptr b2 0)), (4, pv (ptr b3 0))]) (fun (j43 : T_api_Move) (x44 : Unit) => [oc b1 [iv .i64 d_0.Graph.N, slv rT_api_Pair d_0.Graph.L, iv .i64 d_0.Root, iv .i64 d_0.Limits.i0, iv .i64 d_0.Limits.i1, slv rT_api_Move d_0.Moves], oc b2 [iv .i64 j43.By, iv .i64 j43.Kind, iv .i64 j43.Node, iv .i64 j43.Target], oc b3 [iv .i64 0, pv (.slice none 0 0), iv .i64 0, iv .i64 0, iv .i64 0, pv (.slice none 0 0)]]) (fun k45 hk45 => ?_) (fun j43 x44 => ?_)
  · refine ref_seq (ref_region ?_)
    refine s_rd (r_faddr (fo := 1) Try.underlying40 rfl rfl Try.sizeOf3 rfl) rfl ?_
    refine s_rd (r_cload Try.isAgg3 rfl (j := 1) rfl rfl) rfl ?_
    refine l_nil (n_then (ref_block (ref_seq (ref_region ?_))))
    refine s_rd (r_eql rfl rfl) rfl ?_
    refine as1 rfl rfl ?_
    refine l_nil (n_then ?_)
    refine ref_cond rfl (fun hb16 => ?_) (fun hb16 => ?_)
    · refine ref_seq (ref_seq (ref_region ?_))
      refine mv1 rfl rfl ?_
      refine s_rd (r_not rfl) rfl ?_
      refine mv1 rfl rfl ?_
      refine b_split (t := 54) rfl (fun _ => ?_) (fun _ => ?_)
      · refine s_off rfl rfl rfl rfl rfl ?_
        refine s_off rfl rfl rfl rfl rfl ?_
        refine s_off rfl rfl rfl rfl rfl ?_
        refine s_rd (r_pickT rfl rfl) rfl ?_
        refine mv1 rfl rfl ?_
        refine s_off rfl rfl rfl rfl rfl ?_
        refine s_off rfl rfl rfl rfl rfl ?_
        refine s_off rfl rfl rfl rfl rfl ?_
        refine s_off rfl rfl rfl rfl rfl ?_
        refine s_off rfl rfl rfl rfl rfl ?_
        refine s_off rfl rfl rfl rfl rfl ?_
        refine s_rd (r_pickT rfl rfl) rfl ?_
        refine l_nil (n_then ?_)
        refine ref_condT rfl rfl ?_
        refine ref_seq (ref_region ?_)
        refine s_rd (r_build (ps := []) (rs := []) st_35 zs_35 trivial rfl rfl) rfl ?_
        refine s_st0 (s_cstore (out := [iv .i64 0, pv (.slice none 0 0), iv .i64 0, iv .i64 0, iv .i64 0, pv (.slice none 0 0)]) Try.sizeOf35 rfl (j := 2) rfl (part_agO (ψs := [iv .i64 0, pv (.slice none 0 0), iv .i64 0, iv .i64 0, iv .i64 0, pv (.slice none 0 0)]) rfl ⟨.inl iv_at, .inl (pv_at rfl), .inl iv_at, .inl iv_at, .inl iv_at, .inl (pv_at rfl), trivial⟩) rfl rfl rfl) (fun _ => ?_)
        refine as1 rfl rfl ?_
        refine l_nil (n_then (ref_ret (r_then (r_block (r_then ?_)))))
        refine b_of (ocW 2 [iv .i64 0, slv rT_api_Pair [], iv .i64 0, iv .i64 0, iv .i64 0, slv rT_api_Move []] rfl ⟨imp_rfl, nil_sl, imp_rfl, imp_rfl, imp_rfl, nil_sl, trivial⟩) ?_
        exact fin2 (.inl rfl) () [] rfl trivial rfl (rv_cell rfl (j := 2) rfl Try.isAgg35 Try.sizeOf35 rfl rfl) (rv_tmp rfl)
      refine s_on rfl rfl rfl ?_
      refine s_rd (r_faddr (fo := 2) Try.underlying40 rfl rfl Try.sizeOf3 rfl) rfl ?_
      refine s_on rfl rfl rfl ?_
      refine s_rd (r_cload Try.isAgg3 rfl (j := 1) rfl rfl) rfl ?_
      refine s_on rfl rfl rfl ?_
      refine s_rd (r_lss rfl rfl) rfl ?_
      refine s_rd (r_pickF rfl rfl) rfl ?_
      refine mv1 rfl rfl ?_
      refine b_split (t := 59) rfl (fun _ => ?_) (fun _ => ?_)
      · refine s_off rfl rfl rfl rfl rfl ?_
        refine s_off rfl rfl rfl rfl rfl ?_
        refine s_off rfl rfl rfl rfl rfl ?_
        refine s_off rfl rfl rfl rfl rfl ?_
        refine s_off rfl rfl rfl rfl rfl ?_
        refine s_off rfl rfl rfl rfl rfl ?_
        refine s_rd (r_pickT rfl rfl) rfl ?_
        refine l_nil (n_then ?_)
        refine ref_condT rfl rfl ?_
        refine ref_seq (ref_region ?_)
        refine s_rd (r_build (ps := []) (rs := []) st_35 zs_35 trivial rfl rfl) rfl ?_
        refine s_st0 (s_cstore (out := [iv .i64 0, pv (.slice none 0 0), iv .i64 0, iv .i64 0, iv .i64 0, pv (.slice none 0 0)]) Try.sizeOf35 rfl (j := 2) rfl (part_agO (ψs := [iv .i64 0, pv (.slice none 0 0), iv .i64 0, iv .i64 0, iv .i64 0, pv (.slice none 0 0)]) rfl ⟨.inl iv_at, .inl (pv_at rfl), .inl iv_at, .inl iv_at, .inl iv_at, .inl (pv_at rfl), trivial⟩) rfl rfl rfl) (fun _ => ?_)
        refine as1 rfl rfl ?_
        refine l_nil (n_then (ref_ret (r_then (r_block (r_then ?_)))))
        refine b_of (ocW 2 [iv .i64 0, slv rT_api_Pair [], iv .i64 0, iv .i64 0, iv .i64 0, slv rT_api_Move []] rfl ⟨imp_rfl, nil_sl, imp_rfl, imp_rfl, imp_rfl, nil_sl, trivial⟩) ?_
        exact fin2 (.inl rfl) () [] rfl trivial rfl (rv_cell rfl (j := 2) rfl Try.isAgg35 Try.sizeOf35 rfl rfl) (rv_tmp rfl)
      refine s_on rfl rfl rfl ?_
      refine s_rd (r_faddr (fo := 2) Try.underlying40 rfl rfl Try.sizeOf3 rfl) rfl ?_
      refine s_on rfl rfl rfl ?_
      refine s_rd (r_cload Try.isAgg3 rfl (j := 1) rfl rfl) rfl ?_
      refine s_on rfl rfl rfl ?_
      refine s_rd (r_faddr (fo := 0) Try.underlying35 rfl rfl Try.sizeOf28 rfl) rfl ?_
      refine s_on rfl rfl rfl ?_
      refine s_rd (r_faddr (fo := 0) Try.underlying28 rfl rfl Try.sizeOf3 rfl) rfl ?_
      refine s_on rfl rfl rfl ?_
      refine s_rd (r_cload Try.isAgg3 rfl (j := 0) rfl rfl) rfl ?_
      refine s_on rfl rfl rfl ?_
      refine s_rd (r_geq rfl rfl) rfl ?_
      refine s_rd (r_pickF rfl rfl) rfl ?_
      refine l_nil (n_then ?_)
      refine ref_cond rfl (fun hb17 => ?_) (fun hb17 => ?_)
      · refine ref_seq (ref_region ?_)
        refine s_rd (r_build (ps := []) (rs := []) st_35 zs_35 trivial rfl rfl) rfl ?_
        refine s_st0 (s_cstore (out := [iv .i64 0, pv (.slice none 0 0), iv .i64 0, iv .i64 0, iv .i64 0, pv (.slice none 0 0)]) Try.sizeOf35 rfl (j := 2) rfl (part_agO (ψs := [iv .i64 0, pv (.slice none 0 0), iv .i64 0, iv .i64 0, iv .i64 0, pv (.slice none 0 0)]) rfl ⟨.inl iv_at, .inl (pv_at rfl), .inl iv_at, .inl iv_at, .inl iv_at, .inl (pv_at rfl), trivial⟩) rfl rfl rfl) (fun _ => ?_)
        refine as1 rfl rfl ?_
        refine l_nil (n_then (ref_ret (r_then (r_block (r_then ?_)))))
        refine b_of (ocW 2 [iv .i64 0, slv rT_api_Pair [], iv .i64 0, iv .i64 0, iv .i64 0, slv rT_api_Move []] rfl ⟨imp_rfl, nil_sl, imp_rfl, imp_rfl, imp_rfl, nil_sl, trivial⟩) ?_
        exact fin2 (.inl rfl) () [] rfl trivial rfl (rv_cell rfl (j := 2) rfl Try.isAgg35 Try.sizeOf35 rfl rfl) (rv_tmp rfl)
      refine ref_skip (n_then (ref_seq (ref_region ?_)))
      refine as1 rfl rfl ?_
      refine l_nil (n_then (ref_seq (ref_seq (ref_region ?_))))
      refine s_rd (r_cloadS Try.isAgg35 Try.sizeOf35 rfl (j := 0) rfl rfl rfl) rfl ?_
      refine pull fun t18 h_t18 => ?_
      refine s_st (s_call (ψ := fun (x19 : (Value × List Nat)) => pv x19.1) (args := [.tmp 68]) Try.call56 rfl (ref27_attacks_ok h_t18) ⟨arg rfl, trivial⟩ (fun _ _ _ _ h => h)) rfl (fun x19 => ?_)
      refine s_rd (r_olen Try.underlying23 rfl (j := 3) rfl) rfl ?_
      refine mv1 rfl rfl ?_
      refine l_nil (n_then ?_)
      refine ref_loopB (f := (ref27_Apply_l1 m_1 t18)) (Γl := (fun (s26 : Bool × Int) (x27 : Unit) => [(2, pv (ptr b1 0)), (3, pv (ptr b2 0)), (4, pv (ptr b3 0)), (7, bv s26.1), (69, pv x19.1), (70, iv .i64 (t18.length : Int)), (71, iv .i64 s26.2)])) (Ωl := (fun (s26 : Bool × Int) (x27 : Unit) => [oc b1 [iv .i64 d_0.Graph.N, slv rT_api_Pair d_0.Graph.L, iv .i64 d_0.Root, iv .i64 d_0.Limits.i0, iv .i64 d_0.Limits.i1, slv rT_api_Move d_0.Moves], oc b2 [iv .i64 m_1.By, iv .i64 m_1.Kind, iv .i64 m_1.Node, iv .i64 m_1.Target], oc b3 [iv .i64 0, pv (.slice none 0 0), iv .i64 0, iv .i64 0, iv .i64 0, pv (.slice none 0 0)], oa rT_api_Move x19.1 x19.2 t18])) (Γb := (fun (q32 : Bool) (y33 : Unit) => [(2, pv (ptr b1 0)), (3, pv (ptr b2 0)), (4, pv (ptr b3 0)), (7, bv q32)])) (Ωb := (fun (q32 : Bool) (y33 : Unit) => [oc b1 [iv .i64 d_0.Graph.N, slv rT_api_Pair d_0.Graph.L, iv .i64 d_0.Root, iv .i64 d_0.Limits.i0, iv .i64 d_0.Limits.i1, slv rT_api_Move d_0.Moves], oc b2 [iv .i64 m_1.By, iv .i64 m_1.Kind, iv .i64 m_1.Node, iv .i64 m_1.Target], oc b3 [iv .i64 0, pv (.slice none 0 0), iv .i64 0, iv .i64 0, iv .i64 0, pv (.slice none 0 0)]])) (false, 0) () (weak [0, 1, 2, 3] ⟨rfl, rfl, rfl, rfl, rfl, rfl, rfl, trivial⟩ ⟨rfl, rfl, rfl, rfl, trivial⟩) (fun s26 x27 => ?_) (fun q32 y33 => ?_)
      · unfold ref27_Apply_l1
        refine ref_seq (ref_region ?_)
        refine s_rd (r_lss rfl rfl) rfl ?_
        refine l_nil (n_then (ref_seq ?_))
        refine ref_cond rfl (fun hb28 => ?_) (fun hb28 => ?_)
        · refine ref_skip (n_then (ref_seq (ref_block (ref_seq (ref_region ?_)))))
          refine pull fun t29 h_t29 => ?_
          refine s_rd (r_oindex h_t29 Try.underlying23 el_40 rfl (j := 3) rfl rfl) rfl ?_
          refine s_rd (r_oload h_t29 el_40 rfl (j := 3) rfl) rfl ?_
          refine s_st (s_alloc zt_40) rfl (fun b30 => ?_)
          refine s_st0 (s_cstore (out := [iv .i64 t29.By, iv .i64 t29.Kind, iv .i64 t29.Node, iv .i64 t29.Target]) Try.sizeOf40 rfl (j := 4) rfl (part_agO (ψs := [iv .i64 t29.By, iv .i64 t29.Kind, iv .i64 t29.Node, iv .i64 t29.Target]) rfl ⟨.inl iv_at, .inl iv_at, .inl iv_at, .inl iv_at, trivial⟩) rfl rfl rfl) (fun _ => ?_)
          refine l_nil (n_then (ref_region ?_))
          refine mv1 rfl rfl ?_
          refine mv1 rfl rfl ?_
          refine b_split (t := 76) rfl (fun _ => ?_) (fun _ => ?_)
          · refine s_off rfl rfl rfl rfl rfl ?_
            refine s_off rfl rfl rfl rfl rfl ?_
            refine s_off rfl rfl rfl rfl rfl ?_
            refine s_rd (r_pickT rfl rfl) rfl ?_
            refine as1 rfl rfl ?_
            refine l_nil (n_block (n_then (ref_region ?_)))
            refine s_rd (r_add rfl rfl) rfl ?_
            refine mv1 rfl rfl ?_
            refine l_nil ?_
            exact goB () (weak [0, 1, 2, 3] ⟨rfl, rfl, rfl, rfl, rfl, rfl, rfl, trivial⟩ ⟨rfl, rfl, rfl, rfl, trivial⟩)
          refine s_on rfl rfl rfl ?_
          refine s_rd (r_cloadS Try.isAgg40 Try.sizeOf40 rfl (j := 4) rfl rfl rfl) rfl ?_
          refine s_on rfl rfl rfl ?_
          refine s_rd (r_cloadS Try.isAgg40 Try.sizeOf40 rfl (j := 1) rfl rfl rfl) rfl ?_
          refine s_on rfl rfl rfl ?_
          refine s_rd (r_steql (u := t29) (v := m_1) eq_40 rfl rfl rfl rfl) rfl ?_
          refine s_rd (r_pickF rfl rfl) rfl ?_
          refine as1 rfl rfl ?_
          refine b_let (f := bv) (t := 7) rfl fun legal31 => ?_
          refine l_nil (n_block (n_then (ref_region ?_)))
          refine s_rd (r_add rfl rfl) rfl ?_
          refine mv1 rfl rfl ?_
          refine l_nil ?_
          exact goB () (weak [0, 1, 2, 3] ⟨rfl, rfl, rfl, rfl, rfl, rfl, rfl, trivial⟩ ⟨rfl, rfl, rfl, rfl, trivial⟩)
        refine ref_exit (x_then ?_)
        exact brkB () (weak [0, 1, 2] ⟨rfl, rfl, rfl, rfl, trivial⟩ ⟨rfl, rfl, rfl, trivial⟩)
      refine n_then (ref_seq (ref_region ?_))
      refine mv1 rfl rfl ?_
      refine s_rd (r_not rfl) rfl ?_
      refine l_nil (n_then ?_)
      refine ref_cond rfl (fun hb34 => ?_) (fun hb34 => ?_)
      · refine ref_seq (ref_region ?_)
        refine s_rd (r_build (ps := []) (rs := []) st_35 zs_35 trivial rfl rfl) rfl ?_
        refine s_st0 (s_cstore (out := [iv .i64 0, pv (.slice none 0 0), iv .i64 0, iv .i64 0, iv .i64 0, pv (.slice none 0 0)]) Try.sizeOf35 rfl (j := 2) rfl (part_agO (ψs := [iv .i64 0, pv (.slice none 0 0), iv .i64 0, iv .i64 0, iv .i64 0, pv (.slice none 0 0)]) rfl ⟨.inl iv_at, .inl (pv_at rfl), .inl iv_at, .inl iv_at, .inl iv_at, .inl (pv_at rfl), trivial⟩) rfl rfl rfl) (fun _ => ?_)
        refine as1 rfl rfl ?_
        refine l_nil (n_then (ref_ret (r_block (r_then ?_))))
        refine b_of (ocW 2 [iv .i64 0, slv rT_api_Pair [], iv .i64 0, iv .i64 0, iv .i64 0, slv rT_api_Move []] rfl ⟨imp_rfl, nil_sl, imp_rfl, imp_rfl, imp_rfl, nil_sl, trivial⟩) ?_
        exact fin2 (.inl rfl) () [] rfl trivial rfl (rv_cell rfl (j := 2) rfl Try.isAgg35 Try.sizeOf35 rfl rfl) (rv_tmp rfl)
      refine ref_skip (n_block ?_)
      exact b_to (hk45 m_1 ()) (weak [0, 1, 2] ⟨rfl, rfl, rfl, trivial⟩ ⟨rfl, rfl, rfl, trivial⟩)
    refine ref_seq (ref_region ?_)
    refine s_rd (r_eql rfl rfl) rfl ?_
    refine as1 rfl rfl ?_
    refine l_nil (n_then ?_)
    refine ref_cond rfl (fun hb35 => ?_) (fun hb35 => ?_)
    · refine ref_seq (ref_seq (ref_region ?_))
      refine mv1 rfl rfl ?_
      refine s_rd (r_not rfl) rfl ?_
      refine l_nil (n_then ?_)
      refine ref_cond rfl (fun hb36 => ?_) (fun hb36 => ?_)
      · refine ref_seq (ref_region ?_)
        refine s_rd (r_build (ps := []) (rs := []) st_35 zs_35 trivial rfl rfl) rfl ?_
        refine s_st0 (s_cstore (out := [iv .i64 0, pv (.slice none 0 0), iv .i64 0, iv .i64 0, iv .i64 0, pv (.slice none 0 0)]) Try.sizeOf35 rfl (j := 2) rfl (part_agO (ψs := [iv .i64 0, pv (.slice none 0 0), iv .i64 0, iv .i64 0, iv .i64 0, pv (.slice none 0 0)]) rfl ⟨.inl iv_at, .inl (pv_at rfl), .inl iv_at, .inl iv_at, .inl iv_at, .inl (pv_at rfl), trivial⟩) rfl rfl rfl) (fun _ => ?_)
        refine as1 rfl rfl ?_
        refine l_nil (n_then (ref_ret (r_then (r_block (r_then ?_)))))
        refine b_of (ocW 2 [iv .i64 0, slv rT_api_Pair [], iv .i64 0, iv .i64 0, iv .i64 0, slv rT_api_Move []] rfl ⟨imp_rfl, nil_sl, imp_rfl, imp_rfl, imp_rfl, nil_sl, trivial⟩) ?_
        exact fin2 (.inl rfl) () [] rfl trivial rfl (rv_cell rfl (j := 2) rfl Try.isAgg35 Try.sizeOf35 rfl rfl) (rv_tmp rfl)
      refine ref_skip (n_then (ref_seq (ref_seq (ref_region ?_))))
      refine s_rd (r_faddr (fo := 5) Try.underlying35 rfl rfl Try.sizeOf23 rfl) rfl ?_
      refine s_rd (r_cload Try.isAgg23 rfl (j := 0) rfl rfl) rfl ?_
      refine s_rd (r_faddr (fo := 3) Try.underlying40 rfl rfl Try.sizeOf3 rfl) rfl ?_
      refine s_rd (r_cload Try.isAgg3 rfl (j := 1) rfl rfl) rfl ?_
      refine pull fun t37 h_t37 => ?_
      refine s_rd (r_index h_t37 Try.underlying23 el_40 rfl rfl) rfl ?_
      refine s_rd (r_load el_40 rfl) rfl ?_
      refine s_st (s_alloc zt_40) rfl (fun b38 => ?_)
      refine s_st0 (s_cstore (out := [iv .i64 t37.By, iv .i64 t37.Kind, iv .i64 t37.Node, iv .i64 t37.Target]) Try.sizeOf40 rfl (j := 3) rfl (part_agO (ψs := [iv .i64 t37.By, iv .i64 t37.Kind, iv .i64 t37.Node, iv .i64 t37.Target]) rfl ⟨.inl iv_at, .inl iv_at, .inl iv_at, .inl iv_at, trivial⟩) rfl rfl rfl) (fun _ => ?_)
      refine l_nil (n_then (ref_seq ?_))
      refine ref_draw [0, 1, 2, 3, 4, 5, 6, 7, 8, 9, 10, 11, 13, 14, 15, 16, 17, 18] rfl (by kernel_rfl) (fun hok => ?_)
      refine a_rd (i := 0) hok rfl (by kernel_rfl) rfl (r_faddr (fo := 1) Try.underlying40 rfl rfl Try.sizeOf3 rfl) rfl ?_
      refine a_rd (i := 1) hok rfl (by kernel_rfl) rfl (r_cload Try.isAgg3 rfl (j := 3) rfl rfl) rfl ?_
      refine a_rd (i := 2) hok rfl (by kernel_rfl) rfl (r_neq rfl rfl) rfl ?_
      refine a_rd (i := 3) hok rfl (by kernel_rfl) rfl (r_move rfl) rfl ?_
      refine b_split (t := 99) rfl (fun _ => ?_) (fun _ => ?_)
      · refine a_off (i := 4) hok rfl rfl rfl rfl rfl (by kernel_rfl) rfl rfl ?_
        refine a_off (i := 5) hok rfl rfl rfl rfl rfl (by kernel_rfl) rfl rfl ?_
        refine a_off (i := 6) hok rfl rfl rfl rfl rfl (by kernel_rfl) rfl rfl ?_
        refine a_off (i := 7) hok rfl rfl rfl rfl rfl (by kernel_rfl) rfl rfl ?_
        refine a_off (i := 8) hok rfl rfl rfl rfl rfl (by kernel_rfl) rfl rfl ?_
        refine a_rd (i := 9) hok rfl (by kernel_rfl) rfl (r_pickT rfl rfl) rfl ?_
        refine a_rd (i := 10) hok rfl (by kernel_rfl) rfl (r_move rfl) rfl ?_
        refine a_off (i := 11) hok rfl rfl rfl rfl rfl (by kernel_rfl) rfl rfl ?_
        refine a_off (i := 13) hok rfl rfl rfl rfl rfl (by kernel_rfl) rfl rfl ?_
        refine a_off (i := 14) hok rfl rfl rfl rfl rfl (by kernel_rfl) rfl rfl ?_
        refine a_next hok 12 [] (by kernel_rfl) ?_ trivial
        refine a_stOff (i := 12) hok rfl rfl rfl rfl rfl rfl (by intro _ h; cases h; rfl) ⟨trivial, ⟨trivial, ⟨trivial, ⟨trivial, ⟨trivial, ⟨trivial, ⟨trivial, ⟨trivial, ⟨trivial, ⟨trivial, ⟨trivial, ⟨trivial, ⟨⟨⟨rfl, rfl⟩, trivial⟩, ⟨trivial, trivial⟩⟩⟩⟩⟩⟩⟩⟩⟩⟩⟩⟩⟩⟩ ?_
        refine a_off (i := 15) hok rfl rfl rfl rfl rfl (by kernel_rfl) rfl rfl ?_
        refine a_off (i := 16) hok rfl rfl rfl rfl rfl (by kernel_rfl) rfl rfl ?_
        refine a_off (i := 17) hok rfl rfl rfl rfl rfl (by kernel_rfl) rfl rfl ?_
        refine a_rd (i := 18) hok rfl (by kernel_rfl) rfl (r_pickT rfl rfl) rfl ?_
        refine a_fin hok (by kernel_rfl) ?_
        refine n_then ?_
        refine ref_condT rfl rfl ?_
        refine ref_seq (ref_region ?_)
        refine s_rd (r_build (ps := []) (rs := []) st_35 zs_35 trivial rfl rfl) rfl ?_
        refine s_st0 (s_cstore (out := [iv .i64 0, pv (.slice none 0 0), iv .i64 0, iv .i64 0, iv .i64 0, pv (.slice none 0 0)]) Try.sizeOf35 rfl (j := 2) rfl (part_agO (ψs := [iv .i64 0, pv (.slice none 0 0), iv .i64 0, iv .i64 0, iv .i64 0, pv (.slice none 0 0)]) rfl ⟨.inl iv_at, .inl (pv_at rfl), .inl iv_at, .inl iv_at, .inl iv_at, .inl (pv_at rfl), trivial⟩) rfl rfl rfl) (fun _ => ?_)
        refine as1 rfl rfl ?_
        refine l_nil (n_then (ref_ret (r_then (r_block (r_then ?_)))))
        refine b_of (ocW 2 [iv .i64 0, slv rT_api_Pair [], iv .i64 0, iv .i64 0, iv .i64 0, slv rT_api_Move []] rfl ⟨imp_rfl, nil_sl, imp_rfl, imp_rfl, imp_rfl, nil_sl, trivial⟩) ?_
        exact fin2 (.inl rfl) () [] rfl trivial rfl (rv_cell rfl (j := 2) rfl Try.isAgg35 Try.sizeOf35 rfl rfl) (rv_tmp rfl)
      refine a_rdOn (i := 4) hok rfl rfl rfl rfl (by kernel_rfl) rfl (r_faddr (fo := 0) Try.underlying40 rfl rfl Try.sizeOf3 rfl) rfl ?_
      refine a_rdOn (i := 5) hok rfl rfl rfl rfl (by kernel_rfl) rfl (r_cload Try.isAgg3 rfl (j := 3) rfl rfl) rfl ?_
      refine a_rdOn (i := 6) hok rfl rfl rfl rfl (by kernel_rfl) rfl (r_faddr (fo := 0) Try.underlying40 rfl rfl Try.sizeOf3 rfl) rfl ?_
      refine a_rdOn (i := 7) hok rfl rfl rfl rfl (by kernel_rfl) rfl (r_cload Try.isAgg3 rfl (j := 1) rfl rfl) rfl ?_
      refine a_rdOn (i := 8) hok rfl rfl rfl rfl (by kernel_rfl) rfl (r_neq rfl rfl) rfl ?_
      refine a_rd (i := 9) hok rfl (by kernel_rfl) rfl (r_pickF rfl rfl) rfl ?_
      refine a_rd (i := 10) hok rfl (by kernel_rfl) rfl (r_move rfl) rfl ?_
      refine b_split (t := 106) rfl (fun _ => ?_) (fun _ => ?_)
      · refine a_off (i := 11) hok rfl rfl rfl rfl rfl (by kernel_rfl) rfl rfl ?_
        refine a_off (i := 13) hok rfl rfl rfl rfl rfl (by kernel_rfl) rfl rfl ?_
        refine a_off (i := 14) hok rfl rfl rfl rfl rfl (by kernel_rfl) rfl rfl ?_
        refine a_next hok 12 [] (by kernel_rfl) ?_ trivial
        refine a_stOff (i := 12) hok rfl rfl rfl rfl rfl rfl (by intro _ h; cases h; rfl) ⟨trivial, ⟨trivial, ⟨trivial, ⟨trivial, ⟨trivial, ⟨trivial, ⟨⟨⟨rfl, rfl⟩, trivial⟩, ⟨trivial, ⟨⟨⟨rfl, rfl⟩, trivial⟩, ⟨trivial, ⟨trivial, ⟨trivial, ⟨⟨⟨rfl, rfl⟩, trivial⟩, ⟨trivial, trivial⟩⟩⟩⟩⟩⟩⟩⟩⟩⟩⟩⟩⟩⟩ ?_
        refine a_off (i := 15) hok rfl rfl rfl rfl rfl (by kernel_rfl) rfl rfl ?_
        refine a_off (i := 16) hok rfl rfl rfl rfl rfl (by kernel_rfl) rfl rfl ?_
        refine a_off (i := 17) hok rfl rfl rfl rfl rfl (by kernel_rfl) rfl rfl ?_
        refine a_rd (i := 18) hok rfl (by kernel_rfl) rfl (r_pickT rfl rfl) rfl ?_
        refine a_fin hok (by kernel_rfl) ?_
        refine n_then ?_
        refine ref_condT rfl rfl ?_
        refine ref_seq (ref_region ?_)
        refine s_rd (r_build (ps := []) (rs := []) st_35 zs_35 trivial rfl rfl) rfl ?_
        refine s_st0 (s_cstore (out := [iv .i64 0, pv (.slice none 0 0), iv .i64 0, iv .i64 0, iv .i64 0, pv (.slice none 0 0)]) Try.sizeOf35 rfl (j := 2) rfl (part_agO (ψs := [iv .i64 0, pv (.slice none 0 0), iv .i64 0, iv .i64 0, iv .i64 0, pv (.slice none 0 0)]) rfl ⟨.inl iv_at, .inl (pv_at rfl), .inl iv_at, .inl iv_at, .inl iv_at, .inl (pv_at rfl), trivial⟩) rfl rfl rfl) (fun _ => ?_)
        refine as1 rfl rfl ?_
        refine l_nil (n_then (ref_ret (r_then (r_block (r_then ?_)))))
        refine b_of (ocW 2 [iv .i64 0, slv rT_api_Pair [], iv .i64 0, iv .i64 0, iv .i64 0, slv rT_api_Move []] rfl ⟨imp_rfl, nil_sl, imp_rfl, imp_rfl, imp_rfl, nil_sl, trivial⟩) ?_
        exact fin2 (.inl rfl) () [] rfl trivial rfl (rv_cell rfl (j := 2) rfl Try.isAgg35 Try.sizeOf35 rfl rfl) (rv_tmp rfl)
      refine a_rdOn (i := 11) hok rfl rfl rfl rfl (by kernel_rfl) rfl (r_cloadS Try.isAgg35 Try.sizeOf35 rfl (j := 0) rfl rfl rfl) rfl ?_
      refine a_rdOn (i := 13) hok rfl rfl rfl rfl (by kernel_rfl) rfl (r_faddr (fo := 3) Try.underlying40 rfl rfl Try.sizeOf3 rfl) rfl ?_
      refine a_rdOn (i := 14) hok rfl rfl rfl rfl (by kernel_rfl) rfl (r_cload Try.isAgg3 rfl (j := 1) rfl rfl) rfl ?_
      refine pull fun t39 h_t39 => ?_
      refine a_next hok 12 [] (by kernel_rfl) ?_ trivial
      refine a_stOn (i := 12) hok rfl rfl rfl rfl rfl (s_call (ψ := fun (x40 : (Value × List Nat)) => pv x40.1) (args := [.tmp 107]) Try.call55 rfl (ref27_Status_ok h_t39) ⟨arg rfl, trivial⟩ (fun _ _ _ _ h => h)) (by intro _ h; cases h; rfl) (fun _ => ⟨⟨⟨rfl, rfl⟩, trivial⟩, ⟨trivial, ⟨trivial, ⟨trivial, ⟨trivial, ⟨trivial, ⟨⟨⟨rfl, rfl⟩, trivial⟩, ⟨trivial, ⟨⟨⟨rfl, rfl⟩, trivial⟩, ⟨trivial, ⟨trivial, ⟨trivial, ⟨⟨⟨rfl, rfl⟩, trivial⟩, ⟨trivial, trivial⟩⟩⟩⟩⟩⟩⟩⟩⟩⟩⟩⟩⟩⟩) (fun x40 => ?_)
      refine pull fun t41 h_t41 => ?_
      refine a_rdOn (i := 15) hok rfl rfl rfl rfl (by kernel_rfl) rfl (r_oindex h_t41 Try.underlying22 el_3 rfl (j := 4) rfl rfl) rfl ?_
      refine a_rdOn (i := 16) hok rfl rfl rfl rfl (by kernel_rfl) rfl (r_oload h_t41 el_3 rfl (j := 4) rfl) rfl ?_
      refine a_rdOn (i := 17) hok rfl rfl rfl rfl (by kernel_rfl) rfl (r_eql rfl rfl) rfl ?_
      refine a_rd (i := 18) hok rfl (by kernel_rfl) rfl (r_pickF rfl rfl) rfl ?_
      refine a_fin hok (by kernel_rfl) ?_
      refine n_then ?_
      refine ref_cond rfl (fun hb42 => ?_) (fun hb42 => ?_)
      · refine ref_seq (ref_region ?_)
        refine s_rd (r_build (ps := []) (rs := []) st_35 zs_35 trivial rfl rfl) rfl ?_
        refine s_st0 (s_cstore (out := [iv .i64 0, pv (.slice none 0 0), iv .i64 0, iv .i64 0, iv .i64 0, pv (.slice none 0 0)]) Try.sizeOf35 rfl (j := 2) rfl (part_agO (ψs := [iv .i64 0, pv (.slice none 0 0), iv .i64 0, iv .i64 0, iv .i64 0, pv (.slice none 0 0)]) rfl ⟨.inl iv_at, .inl (pv_at rfl), .inl iv_at, .inl iv_at, .inl iv_at, .inl (pv_at rfl), trivial⟩) rfl rfl rfl) (fun _ => ?_)
        refine as1 rfl rfl ?_
        refine l_nil ?_
        refine b_of (nrm [oc b1 [iv .i64 d_0.Graph.N, slv rT_api_Pair d_0.Graph.L, iv .i64 d_0.Root, iv .i64 d_0.Limits.i0, iv .i64 d_0.Limits.i1, slv rT_api_Move d_0.Moves], oc b2 [iv .i64 m_1.By, iv .i64 m_1.Kind, iv .i64 m_1.Node, iv .i64 m_1.Target], oc b3 [iv .i64 0, pv (.slice none 0 0), iv .i64 0, iv .i64 0, iv .i64 0, pv (.slice none 0 0)], oc b38 [iv .i64 t37.By, iv .i64 t37.Kind, iv .i64 t37.Node, iv .i64 t37.Target], oa (rI .i64) x40.1 x40.2 t39] rfl) ?_
        refine n_then (ref_ret (r_then (r_block (r_then ?_))))
        refine b_of (ocW 2 [iv .i64 0, slv rT_api_Pair [], iv .i64 0, iv .i64 0, iv .i64 0, slv rT_api_Move []] rfl ⟨imp_rfl, nil_sl, imp_rfl, imp_rfl, imp_rfl, nil_sl, trivial⟩) ?_
        exact fin2 (.inl rfl) () [] rfl trivial rfl (rv_cell rfl (j := 2) rfl Try.isAgg35 Try.sizeOf35 rfl rfl) (rv_tmp rfl)
      refine ref_skip (n_then (ref_region ?_))
      refine s_rd (r_faddr (fo := 2) Try.underlying40 rfl rfl Try.sizeOf3 rfl) rfl ?_
      refine s_st0 (s_cstore (out := [iv .i64 m_1.By, iv .i64 m_1.Kind, iv .i64 0, iv .i64 m_1.Target]) Try.sizeOf3 rfl (j := 1) rfl (part_at rfl iv_at) rfl rfl rfl) (fun _ => ?_)
      refine l_nil ?_
      refine b_of (nrm [oc b1 [iv .i64 d_0.Graph.N, slv rT_api_Pair d_0.Graph.L, iv .i64 d_0.Root, iv .i64 d_0.Limits.i0, iv .i64 d_0.Limits.i1, slv rT_api_Move d_0.Moves], oc b2 [iv .i64 m_1.By, iv .i64 m_1.Kind, iv .i64 0, iv .i64 m_1.Target], oc b3 [iv .i64 0, pv (.slice none 0 0), iv .i64 0, iv .i64 0, iv .i64 0, pv (.slice none 0 0)], oc b38 [iv .i64 t37.By, iv .i64 t37.Kind, iv .i64 t37.Node, iv .i64 t37.Target], oa (rI .i64) x40.1 x40.2 t39] rfl) ?_
      refine n_block ?_
      exact b_to (hk45 (T_api_Move.mk m_1.By m_1.Kind 0 m_1.Target) ()) (weak [0, 1, 2] ⟨rfl, rfl, rfl, trivial⟩ ⟨rfl, rfl, rfl, trivial⟩)
    refine ref_region ?_
    refine s_rd (r_faddr (fo := 2) Try.underlying40 rfl rfl Try.sizeOf3 rfl) rfl ?_
    refine s_st0 (s_cstore (out := [iv .i64 m_1.By, iv .i64 m_1.Kind, iv .i64 0, iv .i64 m_1.Target]) Try.sizeOf3 rfl (j := 1) rfl (part_at rfl iv_at) rfl rfl rfl) (fun _ => ?_)
    refine s_rd (r_faddr (fo := 3) Try.underlying40 rfl rfl Try.sizeOf3 rfl) rfl ?_
    refine s_st0 (s_cstore (out := [iv .i64 m_1.By, iv .i64 m_1.Kind, iv .i64 0, iv .i64 0]) Try.sizeOf3 rfl (j := 1) rfl (part_at rfl iv_at) rfl rfl rfl) (fun _ => ?_)
    refine l_nil (n_block ?_)
    exact b_to (hk45 (T_api_Move.mk m_1.By m_1.Kind 0 0) ()) (weak [0, 1, 2] ⟨rfl, rfl, rfl, trivial⟩ ⟨rfl, rfl, rfl, trivial⟩)
  refine n_then (ref_seq ?_)
  refine pull fun t48 h_t48 => ?_
  refine pull fun t50 h_t50 => ?_
  refine ref_drawI 1 [⟨[], [], [3], [3], [], fun us u => pv u.V.1, fun us u => [oa rT_api_Move u.V.1 u.V.2 []]⟩, ⟨[], [], [], [], [], fun us u => pv (ptr b1 5), fun us u => []⟩, ⟨[1], [], [], [0], [], fun us u => slv rT_api_Move d_0.Moves, fun us u => []⟩, ⟨[0, 1, 2], [], [3], [3], [3], fun us u => pv u.V.1, fun us u => [oa rT_api_Move u.V.1 u.V.2 t48]⟩, ⟨[], [], [], [1], [], fun us u => ag [iv .i64 j43.By, iv .i64 j43.Kind, iv .i64 j43.Node, iv .i64 j43.Target], fun us u => []⟩, ⟨[4], [], [], [], [], fun us u => slv rT_api_Move [j43], fun us u => []⟩, ⟨[0, 1, 2, 3, 4, 5], [], [3], [3], [3], fun us u => pv u.V.1, fun us u => [oa rT_api_Move u.V.1 u.V.2 t50]⟩, ⟨[0, 1, 2, 3, 4, 5, 6], [], [], [], [], fun us u => pv (ptr b1 5), fun us u => []⟩, ⟨[0, 1, 2, 3, 4, 5, 6, 7], [6], [0], [0, 3], [0], fun us u => pv undef, fun us u => [oc b1 [iv .i64 d_0.Graph.N, slv rT_api_Pair d_0.Graph.L, iv .i64 d_0.Root, iv .i64 d_0.Limits.i0, iv .i64 d_0.Limits.i1, pv (us.getD 0 .none).V.1]]⟩] (fun χ46 => [(2, pv (ptr b1 0)), (4, pv (ptr b3 0))]) (fun χ46 => [oc b1 [iv .i64 d_0.Graph.N, slv rT_api_Pair d_0.Graph.L, iv .i64 d_0.Root, iv .i64 d_0.Limits.i0, iv .i64 d_0.Limits.i1, pv (χ46 6).V.1], oc b2 [iv .i64 j43.By, iv .i64 j43.Kind, iv .i64 j43.Node, iv .i64 j43.Target], oc b3 [iv .i64 0, pv (.slice none 0 0), iv .i64 0, iv .i64 0, iv .i64 0, pv (.slice none 0 0)], oa rT_api_Move (χ46 6).V.1 (χ46 6).V.2 t50]) rfl (by kernel_rfl) ⟨fun χ46 Ω ⟨h3, _⟩ => St.to XU.V XU.hV (St.placeL (os := fun _ => [_]) [3] (s_bsliceO (xs := []) (ds := []) Try.underlying23 el_40 rfl (Nat.le_of_ble_eq_true rfl) trivial) (fun _ => rfl) (fun _ => ⟨h3, rfl, trivial⟩)) (fun _ => rfl) (fun _ => rfl), (by intro _ h; cases h; rfl), ⟨fun χ46 Ω _ => St.toR (r_faddr (fo := 5) Try.underlying35 rfl rfl Try.sizeOf23 rfl) (fun _ => rfl) (fun _ => rfl), (by intro _ h; cases h; rfl), ⟨fun χ46 Ω ⟨h0, _⟩ => St.toR (r_cload Try.isAgg23 rfl (j := 0) h0 rfl) (fun _ => rfl) (fun _ => rfl), (by intro _ h; cases h; rfl), ⟨fun χ46 Ω ⟨h3, _⟩ => St.to XU.V XU.hV (s_append h_t48 Try.underlying23 el_40 rfl (j := 3) h3 rfl) (fun _ => rfl) (fun _ => rfl), (by intro _ h; cases h; rfl), ⟨fun χ46 Ω ⟨h1, _⟩ => St.toR (r_cloadS Try.isAgg40 Try.sizeOf40 rfl (j := 1) h1 rfl rfl) (fun _ => rfl) (fun _ => rfl), (by intro _ h; cases h; rfl), ⟨fun χ46 Ω _ => St.to XU.U XU.hU (s_bslice (xs := [.tmp 121]) (ds := [j43]) Try.underlying23 el_40 rfl (Nat.le_of_ble_eq_true rfl) ⟨(part_agO (ψs := [iv .i64 j43.By, iv .i64 j43.Kind, iv .i64 j43.Node, iv .i64 j43.Target]) rfl ⟨.inl iv_at, .inl iv_at, .inl iv_at, .inl iv_at, trivial⟩), trivial⟩) (fun _ => rfl) (fun _ => rfl), (by intro _ h; cases h; rfl), ⟨fun χ46 Ω ⟨h3, _⟩ => St.to XU.V XU.hV (s_append h_t50 Try.underlying23 el_40 rfl (j := 3) h3 rfl) (fun _ => rfl) (fun _ => rfl), (by intro _ h; cases h; rfl), ⟨fun χ46 Ω _ => St.toR (r_faddr (fo := 5) Try.underlying35 rfl rfl Try.sizeOf23 rfl) (fun _ => rfl) (fun _ => rfl), (by intro _ h; cases h; rfl), ⟨fun χ46 Ω ⟨h0, h3, _⟩ => St.to XU.U XU.hU (s_cstore (out := [iv .i64 d_0.Graph.N, slv rT_api_Pair d_0.Graph.L, iv .i64 d_0.Root, iv .i64 d_0.Limits.i0, iv .i64 d_0.Limits.i1, pv (χ46 6).V.1]) Try.sizeOf23 rfl (j := 0) h0 (part_own rfl (j := 3) h3) rfl rfl rfl) (fun _ => rfl) (fun _ => rfl), (by intro _ h; cases h), trivial⟩⟩⟩⟩⟩⟩⟩⟩⟩ (fun _ => ⟨rfl, rfl, trivial⟩) (fun _ => rfl) (fun χ46 => ?_)
  refine n_then (ref_seq (ref_region ?_))
  refine s_rd (r_cloadS Try.isAgg35 Try.sizeOf35 rfl (j := 0) rfl rfl rfl) rfl ?_
  refine s_st0 (s_cstore (out := [iv .i64 d_0.Graph.N, slv rT_api_Pair d_0.Graph.L, iv .i64 d_0.Root, iv .i64 d_0.Limits.i0, iv .i64 d_0.Limits.i1, pv (χ46 6).V.1]) Try.sizeOf35 rfl (j := 2) rfl (part_agO (ψs := [iv .i64 d_0.Graph.N, slv rT_api_Pair d_0.Graph.L, iv .i64 d_0.Root, iv .i64 d_0.Limits.i0, iv .i64 d_0.Limits.i1, pv (χ46 6).V.1]) rfl ⟨.inl iv_at, .inl slv_at, .inl iv_at, .inl iv_at, .inl iv_at, .inr ⟨_, _, _, _, _, 3, rfl, rfl⟩, trivial⟩) rfl rfl rfl) (fun _ => ?_)
  refine as1 rfl rfl ?_
  refine l_nil (n_then (ref_ret ?_))
  refine b_of (frzGL [(125, ag [iv .i64 d_0.Graph.N, slv rT_api_Pair d_0.Graph.L, iv .i64 d_0.Root, iv .i64 d_0.Limits.i0, iv .i64 d_0.Limits.i1, slv rT_api_Move t50])] [(0, b1, [iv .i64 d_0.Graph.N, slv rT_api_Pair d_0.Graph.L, iv .i64 d_0.Root, iv .i64 d_0.Limits.i0, iv .i64 d_0.Limits.i1, slv rT_api_Move t50]), (2, b3, [iv .i64 d_0.Graph.N, slv rT_api_Pair d_0.Graph.L, iv .i64 d_0.Root, iv .i64 d_0.Limits.i0, iv .i64 d_0.Limits.i1, slv rT_api_Move t50])] (j := 3) rfl ⟨⟨_, rfl, .inr ⟨_, _, rfl, rfl, ⟨.inl rfl, .inl rfl, .inl rfl, .inl rfl, .inl rfl, .inr ⟨rfl, rfl⟩, trivial⟩⟩⟩, trivial⟩ ⟨⟨_, rfl, ⟨.inl rfl, .inl rfl, .inl rfl, .inl rfl, .inl rfl, .inr ⟨rfl, rfl⟩, trivial⟩⟩, ⟨_, rfl, ⟨.inl rfl, .inl rfl, .inl rfl, .inl rfl, .inl rfl, .inr ⟨rfl, rfl⟩, trivial⟩⟩, trivial⟩) ?_
  exact fin2 (.inl rfl) () [] rfl trivial rfl (rv_cell rfl (j := 2) rfl Try.isAgg35 Try.sizeOf35 rfl rfl) (rv_tmp rfl)

/-! deliberation/deliberationlaw28.started -/
noncomputable def law28_started_l1  (s31 : Int × T_deliberationkeep_Src × T_api_Dialogue) : Option (Sum (T_deliberationkeep_Src × T_api_Dialogue) (Int × T_deliberationkeep_Src × T_api_Dialogue)) :=
  bif decide (s31.1 > 0) then
    Option.bind (ref27_Legal_m s31.2.2) fun l34 =>
    bif (l34.length : Int) == 0 then
      some (Sum.inl (s31.2.1, s31.2.2))
    else
      Option.bind (keep_Src_N_m s31.2.1 (l34.length : Int)) fun t37 =>
      Option.bind (idxM l34 t37.1) fun t38 =>
      Option.bind (ref27_Apply_m s31.2.2 t38) fun t39 =>
      letM (isub .i64 s31.1 1) fun i40 =>
      some (Sum.inr (i40, t37.2, t39.1))
  else
    some (Sum.inl (s31.2.1, s31.2.2))

noncomputable def law28_started_m (s_0 : T_deliberationkeep_Src) (n_1 : Int) : Option (T_api_Dialogue × T_deliberationkeep_Src) :=
  Option.bind (net_Graph_m s_0 n_1) fun t2 =>
  Option.bind (keep_Src_N_m t2.2 t2.1.N) fun t5 =>
  Option.bind (keep_Src_Pick_m t5.2 [30, 4]) fun t6 =>
  Option.bind (keep_Src_Pick_m t6.2 [30, 30, 3]) fun t7 =>
  Option.bind (ref27_New_m t2.1 t5.1 (T_arr2_3.mk t6.1 t7.1)) fun t8 =>
  Option.bind (keep_Src_N_m t7.2 6) fun i10 =>
  Option.bind (loopC (law28_started_l1) (i10.1, i10.2, t8.1)) fun q41 : T_deliberationkeep_Src × T_api_Dialogue =>
  some (q41.2, q41.1)

theorem law28_started_ok {s_0 : T_deliberationkeep_Src} {n_1 : Int} {b_0 : Nat} {r : T_api_Dialogue × T_deliberationkeep_Src} (hm : law28_started_m s_0 n_1 = some r) :
    FnOk prog 10 [pv (ptr b_0 0), iv .i64 n_1] [oc b_0 [slv (rI .i64) s_0.L, iv .i64 s_0.At]] (fun (x : Unit) => [ag [iv .i64 r.1.Graph.N, slv rT_api_Pair r.1.Graph.L, iv .i64 r.1.Root, iv .i64 r.1.Limits.i0, iv .i64 r.1.Limits.i1, slv rT_api_Move r.1.Moves]]) (fun (x : Unit) => [oc b_0 [slv (rI .i64) r.2.L, iv .i64 r.2.At]]) := by
  refine fn_ok (fn := Try.f10) (N := 53) (res := fun r x => [ag [iv .i64 r.1.Graph.N, slv rT_api_Pair r.1.Graph.L, iv .i64 r.1.Root, iv .i64 r.1.Limits.i0, iv .i64 r.1.Limits.i1, slv rT_api_Move r.1.Moves]]) (Ω1 := fun r x => [oc b_0 [slv (rI .i64) r.2.L, iv .i64 r.2.At]]) Try.func10 rfl rfl hm rfl (fun E hM => ?_)
  unfold law28_started_m
  refine ref_seq (ref_region ?_)
  refine s_st (s_alloc zt_35) rfl (fun b1 => ?_)
  refine l_nil (n_then (ref_seq (ref_region ?_)))
  refine mv1 rfl rfl ?_
  refine mv1 rfl rfl ?_
  refine pull fun t2 h_t2 => ?_
  refine s_st (s_callC [0] [true] (fun (_ : Unit) => [oc b_0 [slv (rI .i64) t2.2.L, iv .i64 t2.2.At]]) (fun (_ : Unit) => []) (fun (_ : Unit) => ag [iv .i64 t2.1.N, slv rT_api_Pair t2.1.L]) (args := [.tmp 10, .tmp 11]) (caps := []) Try.call20 rfl (net_Graph_ok h_t2) ⟨rfl, rfl, trivial⟩ (fun _ => rfl) (fun _ => trivial) (fun _ => rfl) ⟨arg rfl, arg rfl, trivial⟩ (fun _ _ _ _ h => h)) rfl (fun _ => ?_)
  refine s_st (s_alloc zt_28) rfl (fun b3 => ?_)
  refine s_st0 (s_cstore (out := [iv .i64 t2.1.N, slv rT_api_Pair t2.1.L]) Try.sizeOf28 rfl (j := 2) rfl (part_agO (ψs := [iv .i64 t2.1.N, slv rT_api_Pair t2.1.L]) rfl ⟨.inl iv_at, .inl slv_at, trivial⟩) rfl rfl rfl) (fun _ => ?_)
  refine l_nil ?_
  refine b_of (nrm [oc b_0 [slv (rI .i64) t2.2.L, iv .i64 t2.2.At], oc b1 [iv .i64 0, pv (.slice none 0 0), iv .i64 0, iv .i64 0, iv .i64 0, pv (.slice none 0 0)], oc b3 [iv .i64 t2.1.N, slv rT_api_Pair t2.1.L]] rfl) ?_
  refine n_then (ref_seq ?_)
  refine pull fun t5 h_t5 => ?_
  refine pull fun t6 h_t6 => ?_
  refine pull fun t7 h_t7 => ?_
  refine pull fun t8 h_t8 => ?_
  refine ref_drawI 1 [⟨[], [], [], [2], [], fun us u => ag [iv .i64 t2.1.N, slv rT_api_Pair t2.1.L], fun us u => []⟩, ⟨[], [], [], [], [], fun us u => pv (ptr b_0 0), fun us u => []⟩, ⟨[], [], [], [], [], fun us u => pv (ptr b3 0), fun us u => []⟩, ⟨[2], [], [], [2], [], fun us u => iv .i64 t2.1.N, fun us u => []⟩, ⟨[1, 2, 3], [], [0], [0], [0], fun us u => iv .i64 t5.1, fun us u => [oc b_0 [slv (rI .i64) t5.2.L, iv .i64 t5.2.At]]⟩, ⟨[], [], [], [], [], fun us u => pv (ptr b_0 0), fun us u => []⟩, ⟨[], [], [], [], [], fun us u => slv (rI .i64) [30, 4], fun us u => []⟩, ⟨[1, 2, 3, 4, 5, 6], [], [0], [0], [0], fun us u => iv .i64 t6.1, fun us u => [oc b_0 [slv (rI .i64) t6.2.L, iv .i64 t6.2.At]]⟩, ⟨[], [], [], [], [], fun us u => pv (ptr b_0 0), fun us u => []⟩, ⟨[], [], [], [], [], fun us u => slv (rI .i64) [30, 30, 3], fun us u => []⟩, ⟨[1, 2, 3, 4, 5, 6, 7, 8, 9], [], [0], [0], [0], fun us u => iv .i64 t7.1, fun us u => [oc b_0 [slv (rI .i64) t7.2.L, iv .i64 t7.2.At]]⟩, ⟨[1, 2, 3, 4, 5, 6, 7, 8, 9, 10], [], [], [], [], fun us u => ag [iv .i64 t6.1, iv .i64 t7.1], fun us u => []⟩, ⟨[0, 1, 2, 3, 4, 5, 6, 7, 8, 9, 10, 11], [], [], [], [], fun us u => tup [ag [iv .i64 t8.1.Graph.N, slv rT_api_Pair t8.1.Graph.L, iv .i64 t8.1.Root, iv .i64 t8.1.Limits.i0, iv .i64 t8.1.Limits.i1, slv rT_api_Move t8.1.Moves], iv .i64 t8.2], fun us u => []⟩, ⟨[0, 1, 2, 3, 4, 5, 6, 7, 8, 9, 10, 11, 12], [], [], [], [], fun us u => tup [ag [iv .i64 t8.1.Graph.N, slv rT_api_Pair t8.1.Graph.L, iv .i64 t8.1.Root, iv .i64 t8.1.Limits.i0, iv .i64 t8.1.Limits.i1, slv rT_api_Move t8.1.Moves], iv .i64 t8.2], fun us u => []⟩, ⟨[0, 1, 2, 3, 4, 5, 6, 7, 8, 9, 10, 11, 12, 13], [], [], [], [], fun us u => ag [iv .i64 t8.1.Graph.N, slv rT_api_Pair t8.1.Graph.L, iv .i64 t8.1.Root, iv .i64 t8.1.Limits.i0, iv .i64 t8.1.Limits.i1, slv rT_api_Move t8.1.Moves], fun us u => []⟩, ⟨[0, 1, 2, 3, 4, 5, 6, 7, 8, 9, 10, 11, 12, 13], [], [], [], [], fun us u => iv .i64 t8.2, fun us u => []⟩, ⟨[], [], [3], [3], [], fun us u => pv (ptr u.Nn 0), fun us u => [oc u.Nn [iv .i64 0, pv (.slice none 0 0), iv .i64 0, iv .i64 0, iv .i64 0, pv (.slice none 0 0)]]⟩, ⟨[0, 1, 2, 3, 4, 5, 6, 7, 8, 9, 10, 11, 12, 13, 14, 16], [16], [3], [3], [3], fun us u => pv undef, fun us u => [oc (us.getD 0 .none).Nn [iv .i64 t8.1.Graph.N, slv rT_api_Pair t8.1.Graph.L, iv .i64 t8.1.Root, iv .i64 t8.1.Limits.i0, iv .i64 t8.1.Limits.i1, slv rT_api_Move t8.1.Moves]]⟩, ⟨[0, 1, 2, 3, 4, 5, 6, 7, 8, 9, 10, 11, 12, 13, 14, 15, 16, 17], [], [], [], [], fun us u => iv .i64 t8.2, fun us u => []⟩] (fun χ4 => [(0, pv (ptr b_0 0)), (4, pv (ptr b1 0)), (6, pv (ptr (χ4 16).Nn 0))]) (fun χ4 => [oc b_0 [slv (rI .i64) t7.2.L, iv .i64 t7.2.At], oc b1 [iv .i64 0, pv (.slice none 0 0), iv .i64 0, iv .i64 0, iv .i64 0, pv (.slice none 0 0)], oc b3 [iv .i64 t2.1.N, slv rT_api_Pair t2.1.L], oc (χ4 16).Nn [iv .i64 t8.1.Graph.N, slv rT_api_Pair t8.1.Graph.L, iv .i64 t8.1.Root, iv .i64 t8.1.Limits.i0, iv .i64 t8.1.Limits.i1, slv rT_api_Move t8.1.Moves]]) rfl (by kernel_rfl) ⟨fun χ4 Ω ⟨h2, _⟩ => St.toR (r_cloadS Try.isAgg28 Try.sizeOf28 rfl (j := 2) h2 rfl rfl) (fun _ => rfl) (fun _ => rfl), (by intro _ h; cases h; rfl), ⟨fun χ4 Ω _ => St.toR (r_move rfl) (fun _ => rfl) (fun _ => rfl), (by intro _ h; cases h; rfl), ⟨fun χ4 Ω _ => St.toR (r_faddr (fo := 0) Try.underlying28 rfl rfl Try.sizeOf3 rfl) (fun _ => rfl) (fun _ => rfl), (by intro _ h; cases h; rfl), ⟨fun χ4 Ω ⟨h2, _⟩ => St.toR (r_cload Try.isAgg3 rfl (j := 2) h2 rfl) (fun _ => rfl) (fun _ => rfl), (by intro _ h; cases h; rfl), ⟨fun χ4 Ω ⟨h0, _⟩ => St.to XU.U XU.hU (St.placeL [] (s_callC [0] [true] (fun (_ : Unit) => [oc b_0 [slv (rI .i64) t5.2.L, iv .i64 t5.2.At]]) (fun (_ : Unit) => []) (fun (_ : Unit) => iv .i64 t5.1) (args := [.tmp 15, .tmp 17]) (caps := []) Try.call22 rfl (keep_Src_N_ok h_t5) ⟨h0, rfl, trivial⟩ (fun _ => rfl) (fun _ => trivial) (fun _ => rfl) ⟨arg rfl, arg rfl, trivial⟩ (fun _ _ _ _ h => h)) (fun _ => rfl) (fun _ => trivial)) (fun _ => rfl) (fun _ => rfl), (by intro _ h; cases h; rfl), ⟨fun χ4 Ω _ => St.toR (r_move rfl) (fun _ => rfl) (fun _ => rfl), (by intro _ h; cases h; rfl), ⟨fun χ4 Ω _ => St.to XU.U XU.hU (s_bslice (xs := [.const (.int .i64 (30)), .const (.int .i64 (4))]) (ds := [30, 4]) Try.underlying22 el_3 rfl (Nat.le_of_ble_eq_true rfl) ⟨(part_at rfl iv_at), ⟨(part_at rfl iv_at), trivial⟩⟩) (fun _ => rfl) (fun _ => rfl), (by intro _ h; cases h; rfl), ⟨fun χ4 Ω ⟨h0, _⟩ => St.to XU.U XU.hU (St.placeL [] (s_callC [0] [true] (fun (_ : Unit) => [oc b_0 [slv (rI .i64) t6.2.L, iv .i64 t6.2.At]]) (fun (_ : Unit) => []) (fun (_ : Unit) => iv .i64 t6.1) (args := [.tmp 19, .tmp 20]) (caps := []) Try.call29 rfl (keep_Src_Pick_ok h_t6) ⟨h0, rfl, trivial⟩ (fun _ => rfl) (fun _ => trivial) (fun _ => rfl) ⟨arg rfl, arg rfl, trivial⟩ (fun _ _ _ _ h => h)) (fun _ => rfl) (fun _ => trivial)) (fun _ => rfl) (fun _ => rfl), (by intro _ h; cases h; rfl), ⟨fun χ4 Ω _ => St.toR (r_move rfl) (fun _ => rfl) (fun _ => rfl), (by intro _ h; cases h; rfl), ⟨fun χ4 Ω _ => St.to XU.U XU.hU (s_bslice (xs := [.const (.int .i64 (30)), .const (.int .i64 (30)), .const (.int .i64 (3))]) (ds := [30, 30, 3]) Try.underlying22 el_3 rfl (Nat.le_of_ble_eq_true rfl) ⟨(part_at rfl iv_at), ⟨(part_at rfl iv_at), ⟨(part_at rfl iv_at), trivial⟩⟩⟩) (fun _ => rfl) (fun _ => rfl), (by intro _ h; cases h; rfl), ⟨fun χ4 Ω ⟨h0, _⟩ => St.to XU.U XU.hU (St.placeL [] (s_callC [0] [true] (fun (_ : Unit) => [oc b_0 [slv (rI .i64) t7.2.L, iv .i64 t7.2.At]]) (fun (_ : Unit) => []) (fun (_ : Unit) => iv .i64 t7.1) (args := [.tmp 22, .tmp 23]) (caps := []) Try.call29 rfl (keep_Src_Pick_ok h_t7) ⟨h0, rfl, trivial⟩ (fun _ => rfl) (fun _ => trivial) (fun _ => rfl) ⟨arg rfl, arg rfl, trivial⟩ (fun _ _ _ _ h => h)) (fun _ => rfl) (fun _ => trivial)) (fun _ => rfl) (fun _ => rfl), (by intro _ h; cases h; rfl), ⟨fun χ4 Ω _ => St.toR (r_buildA (ps := [(0, .tmp 21), (1, .tmp 24)]) (rs := [(0, [iv .i64 t6.1]), (1, [iv .i64 t7.1])]) (sz := 1) Try.underlying33 Try.sizeOf3 ⟨_, _, Try.type33, rfl⟩ zs_33 ⟨rfl, (part_at rfl iv_at), ⟨rfl, (part_at rfl iv_at), trivial⟩⟩ rfl rfl) (fun _ => rfl) (fun _ => rfl), (by intro _ h; cases h; rfl), ⟨fun χ4 Ω _ => St.to XU.U XU.hU (St.placeL [] (s_call (ψ := fun (_ : Unit) => tup [ag [iv .i64 t8.1.Graph.N, slv rT_api_Pair t8.1.Graph.L, iv .i64 t8.1.Root, iv .i64 t8.1.Limits.i0, iv .i64 t8.1.Limits.i1, slv rT_api_Move t8.1.Moves], iv .i64 t8.2]) (args := [.tmp 14, .tmp 18, .tmp 25]) Try.call21 rfl (ref27_New_ok h_t8) ⟨arg rfl, arg rfl, arg rfl, trivial⟩ (fun _ _ _ _ h => h)) (fun _ => rfl) (fun _ => trivial)) (fun _ => rfl) (fun _ => rfl), (by intro _ h; cases h; rfl), ⟨fun χ4 Ω _ => St.toR (r_move rfl) (fun _ => rfl) (fun _ => rfl), (by intro _ h; cases h; rfl), ⟨fun χ4 Ω _ => St.toR (r_extract rfl rfl) (fun _ => rfl) (fun _ => rfl), (by intro _ h; cases h; rfl), ⟨fun χ4 Ω _ => St.toR (r_extract rfl rfl) (fun _ => rfl) (fun _ => rfl), (by intro _ h; cases h; rfl), ⟨fun χ4 Ω ⟨h3, _⟩ => St.to XU.Nn XU.hN (St.placeL (os := fun _ => [_]) [3] (s_alloc zt_35) (fun _ => rfl) (fun _ => ⟨h3, rfl, trivial⟩)) (fun _ => rfl) (fun _ => rfl), (by intro _ h; cases h; rfl), ⟨fun χ4 Ω ⟨h3, _⟩ => St.to XU.U XU.hU (s_cstore (out := [iv .i64 t8.1.Graph.N, slv rT_api_Pair t8.1.Graph.L, iv .i64 t8.1.Root, iv .i64 t8.1.Limits.i0, iv .i64 t8.1.Limits.i1, slv rT_api_Move t8.1.Moves]) Try.sizeOf35 rfl (j := 3) h3 (part_agO (ψs := [iv .i64 t8.1.Graph.N, slv rT_api_Pair t8.1.Graph.L, iv .i64 t8.1.Root, iv .i64 t8.1.Limits.i0, iv .i64 t8.1.Limits.i1, slv rT_api_Move t8.1.Moves]) rfl ⟨.inl iv_at, .inl slv_at, .inl iv_at, .inl iv_at, .inl iv_at, .inl slv_at, trivial⟩) rfl rfl rfl) (fun _ => rfl) (fun _ => rfl), (by intro _ h; cases h), ⟨fun χ4 Ω _ => St.toR (r_assign rfl) (fun _ => rfl) (fun _ => rfl), (by intro _ h; cases h; rfl), trivial⟩⟩⟩⟩⟩⟩⟩⟩⟩⟩⟩⟩⟩⟩⟩⟩⟩⟩⟩ (fun _ => ⟨rfl, rfl, rfl, trivial⟩) (fun _ => rfl) (fun χ4 => ?_)
  refine n_then (ref_seq (ref_seq (ref_region ?_)))
  refine mv1 rfl rfl ?_
  refine pull fun i10 h_i10 => ?_
  refine s_st (s_callC [0] [true] (fun (_ : Unit) => [oc b_0 [slv (rI .i64) i10.2.L, iv .i64 i10.2.At]]) (fun (_ : Unit) => []) (fun (_ : Unit) => iv .i64 i10.1) (args := [.tmp 29, .const (.int .i64 (6))]) (caps := []) Try.call22 rfl (keep_Src_N_ok h_i10) ⟨rfl, rfl, trivial⟩ (fun _ => rfl) (fun _ => trivial) (fun _ => rfl) ⟨arg rfl, arg rfl, trivial⟩ (fun _ _ _ _ h => h)) rfl (fun _ => ?_)
  refine as1 rfl rfl ?_
  refine l_nil (n_then ?_)
  refine ref_loopB (f := (law28_started_l1)) (Γl := (fun (s31 : Int × T_deliberationkeep_Src × T_api_Dialogue) (x32 : Unit) => [(0, pv (ptr b_0 0)), (4, pv (ptr b1 0)), (6, pv (ptr (χ4 16).Nn 0)), (8, iv .i64 s31.1)])) (Ωl := (fun (s31 : Int × T_deliberationkeep_Src × T_api_Dialogue) (x32 : Unit) => [oc b_0 [slv (rI .i64) s31.2.1.L, iv .i64 s31.2.1.At], oc b1 [iv .i64 0, pv (.slice none 0 0), iv .i64 0, iv .i64 0, iv .i64 0, pv (.slice none 0 0)], oc (χ4 16).Nn [iv .i64 s31.2.2.Graph.N, slv rT_api_Pair s31.2.2.Graph.L, iv .i64 s31.2.2.Root, iv .i64 s31.2.2.Limits.i0, iv .i64 s31.2.2.Limits.i1, slv rT_api_Move s31.2.2.Moves]])) (Γb := (fun (q41 : T_deliberationkeep_Src × T_api_Dialogue) (y42 : Unit) => [(0, pv (ptr b_0 0)), (4, pv (ptr b1 0)), (6, pv (ptr (χ4 16).Nn 0))])) (Ωb := (fun (q41 : T_deliberationkeep_Src × T_api_Dialogue) (y42 : Unit) => [oc b_0 [slv (rI .i64) q41.1.L, iv .i64 q41.1.At], oc b1 [iv .i64 0, pv (.slice none 0 0), iv .i64 0, iv .i64 0, iv .i64 0, pv (.slice none 0 0)], oc (χ4 16).Nn [iv .i64 q41.2.Graph.N, slv rT_api_Pair q41.2.Graph.L, iv .i64 q41.2.Root, iv .i64 q41.2.Limits.i0, iv .i64 q41.2.Limits.i1, slv rT_api_Move q41.2.Moves]])) (i10.1, i10.2, t8.1) () (weak [0, 1, 3] ⟨rfl, rfl, rfl, rfl, trivial⟩ ⟨rfl, rfl, rfl, trivial⟩) (fun s31 x32 => ?_) (fun q41 y42 => ?_)
  · unfold law28_started_l1
    refine ref_seq (ref_seq (ref_region ?_))
    refine mv1 rfl rfl ?_
    refine s_rd (r_gtr rfl rfl) rfl ?_
    refine l_nil (n_then ?_)
    refine ref_cond rfl (fun hb33 => ?_) (fun hb33 => ?_)
    · refine ref_skip (n_then (ref_seq (ref_block (ref_seq (ref_region ?_)))))
      refine s_rd (r_cloadS Try.isAgg35 Try.sizeOf35 rfl (j := 2) rfl rfl rfl) rfl ?_
      refine pull fun l34 h_l34 => ?_
      refine s_st (s_call (ψ := fun (x35 : (Value × List Nat)) => pv x35.1) (args := [.tmp 35]) Try.call30 rfl (ref27_Legal_ok h_l34) ⟨arg rfl, trivial⟩ (fun _ _ _ _ h => h)) rfl (fun x35 => ?_)
      refine as1 rfl rfl ?_
      refine l_nil (n_then (ref_seq (ref_seq (ref_region ?_))))
      refine mv1 rfl rfl ?_
      refine s_rd (r_olen Try.underlying23 rfl (j := 3) rfl) rfl ?_
      refine s_rd (r_eql rfl rfl) rfl ?_
      refine l_nil (n_then ?_)
      refine ref_cond rfl (fun hb36 => ?_) (fun hb36 => ?_)
      · refine ref_exit (x_then ?_)
        refine x_ne rfl ?_
        refine x_then ?_
        exact brkB () (weak [0, 1, 2] ⟨rfl, rfl, rfl, trivial⟩ ⟨rfl, rfl, rfl, trivial⟩)
      refine ref_skip (n_then ?_)
      refine ref_draw [0, 1, 2, 3, 4, 6, 7, 9, 10, 11] rfl (by kernel_rfl) (fun hok => ?_)
      refine a_rd (i := 0) hok rfl (by kernel_rfl) rfl (r_cloadS Try.isAgg35 Try.sizeOf35 rfl (j := 2) rfl rfl rfl) rfl ?_
      refine a_rd (i := 1) hok rfl (by kernel_rfl) rfl (r_move rfl) rfl ?_
      refine a_rd (i := 2) hok rfl (by kernel_rfl) rfl (r_move rfl) rfl ?_
      refine a_rd (i := 3) hok rfl (by kernel_rfl) rfl (r_move rfl) rfl ?_
      refine a_rd (i := 4) hok rfl (by kernel_rfl) rfl (r_olen Try.underlying23 rfl (j := 3) rfl) rfl ?_
      refine pull fun t37 h_t37 => ?_
      refine a_next hok 5 [] (by kernel_rfl) ?_ trivial
      refine a_st (i := 5) hok rfl rfl (s_callC [0] [true] (fun (_ : Unit) => [oc b_0 [slv (rI .i64) t37.2.L, iv .i64 t37.2.At]]) (fun (_ : Unit) => []) (fun (_ : Unit) => iv .i64 t37.1) (args := [.tmp 43, .tmp 45]) (caps := []) Try.call22 rfl (keep_Src_N_ok h_t37) ⟨rfl, rfl, trivial⟩ (fun _ => rfl) (fun _ => trivial) (fun _ => rfl) ⟨arg rfl, arg rfl, trivial⟩ (fun _ _ _ _ h => h)) (by intro _ h; cases h; rfl) (fun _ => ⟨trivial, ⟨trivial, ⟨trivial, ⟨trivial, ⟨⟨⟨rfl, rfl⟩, trivial⟩, trivial⟩⟩⟩⟩⟩) (fun _ => ?_)
      refine pull fun t38 h_t38 => ?_
      refine a_rd (i := 6) hok rfl (by kernel_rfl) rfl (r_oindex h_t38 Try.underlying23 el_40 rfl (j := 3) rfl rfl) rfl ?_
      refine a_rd (i := 7) hok rfl (by kernel_rfl) rfl (r_oload h_t38 el_40 rfl (j := 3) rfl) rfl ?_
      refine pull fun t39 h_t39 => ?_
      refine a_next hok 8 [] (by kernel_rfl) ?_ trivial
      refine a_st (i := 8) hok rfl rfl (s_call (ψ := fun (_ : Unit) => tup [ag [iv .i64 t39.1.Graph.N, slv rT_api_Pair t39.1.Graph.L, iv .i64 t39.1.Root, iv .i64 t39.1.Limits.i0, iv .i64 t39.1.Limits.i1, slv rT_api_Move t39.1.Moves], iv .i64 t39.2]) (args := [.tmp 41, .tmp 48]) Try.call26 rfl (ref27_Apply_ok h_t39) ⟨arg rfl, arg rfl, trivial⟩ (fun _ _ _ _ h => h)) (by intro _ h; cases h; rfl) (fun _ => ⟨trivial, ⟨trivial, ⟨trivial, ⟨trivial, ⟨trivial, ⟨trivial, ⟨trivial, trivial⟩⟩⟩⟩⟩⟩⟩) (fun _ => ?_)
      refine a_rd (i := 9) hok rfl (by kernel_rfl) rfl (r_move rfl) rfl ?_
      refine a_rd (i := 10) hok rfl (by kernel_rfl) rfl (r_extract rfl rfl) rfl ?_
      refine a_rd (i := 11) hok rfl (by kernel_rfl) rfl (r_extract rfl rfl) rfl ?_
      refine a_next hok 12 [] (by kernel_rfl) ?_ trivial
      refine a_st (i := 12) hok rfl rfl (s_cstore (out := [iv .i64 t39.1.Graph.N, slv rT_api_Pair t39.1.Graph.L, iv .i64 t39.1.Root, iv .i64 t39.1.Limits.i0, iv .i64 t39.1.Limits.i1, slv rT_api_Move t39.1.Moves]) Try.sizeOf35 rfl (j := 2) rfl (part_agO (ψs := [iv .i64 t39.1.Graph.N, slv rT_api_Pair t39.1.Graph.L, iv .i64 t39.1.Root, iv .i64 t39.1.Limits.i0, iv .i64 t39.1.Limits.i1, slv rT_api_Move t39.1.Moves]) rfl ⟨.inl iv_at, .inl slv_at, .inl iv_at, .inl iv_at, .inl iv_at, .inl slv_at, trivial⟩) rfl rfl rfl) (by intro _ h; cases h) (fun _ => ⟨trivial, ⟨trivial, ⟨trivial, ⟨trivial, ⟨trivial, ⟨trivial, ⟨trivial, ⟨trivial, ⟨trivial, ⟨trivial, trivial⟩⟩⟩⟩⟩⟩⟩⟩⟩⟩) (fun _ => ?_)
      refine a_fin hok (by kernel_rfl) ?_
      refine b_of (nrm [oc b_0 [slv (rI .i64) t37.2.L, iv .i64 t37.2.At], oc b1 [iv .i64 0, pv (.slice none 0 0), iv .i64 0, iv .i64 0, iv .i64 0, pv (.slice none 0 0)], oc (χ4 16).Nn [iv .i64 t39.1.Graph.N, slv rT_api_Pair t39.1.Graph.L, iv .i64 t39.1.Root, iv .i64 t39.1.Limits.i0, iv .i64 t39.1.Limits.i1, slv rT_api_Move t39.1.Moves], oa rT_api_Move x35.1 x35.2 l34] rfl) ?_
      refine n_block (n_then (ref_region ?_))
      refine mv1 rfl rfl ?_
      refine s_rd (r_sub rfl rfl) rfl ?_
      refine as1 rfl rfl ?_
      refine b_let (f := iv .i64) (t := 8) rfl fun i40 => ?_
      refine l_nil ?_
      exact goB () (weak [0, 1, 2] ⟨rfl, rfl, rfl, rfl, trivial⟩ ⟨rfl, rfl, rfl, trivial⟩)
    refine ref_exit (x_then ?_)
    exact brkB () (weak [0, 1, 2] ⟨rfl, rfl, rfl, trivial⟩ ⟨rfl, rfl, rfl, trivial⟩)
  refine n_then (ref_seq (ref_region ?_))
  refine s_rd (r_cloadS Try.isAgg35 Try.sizeOf35 rfl (j := 2) rfl rfl rfl) rfl ?_
  refine s_st0 (s_cstore (out := [iv .i64 q41.2.Graph.N, slv rT_api_Pair q41.2.Graph.L, iv .i64 q41.2.Root, iv .i64 q41.2.Limits.i0, iv .i64 q41.2.Limits.i1, slv rT_api_Move q41.2.Moves]) Try.sizeOf35 rfl (j := 1) rfl (part_agO (ψs := [iv .i64 q41.2.Graph.N, slv rT_api_Pair q41.2.Graph.L, iv .i64 q41.2.Root, iv .i64 q41.2.Limits.i0, iv .i64 q41.2.Limits.i1, slv rT_api_Move q41.2.Moves]) rfl ⟨.inl iv_at, .inl slv_at, .inl iv_at, .inl iv_at, .inl iv_at, .inl slv_at, trivial⟩) rfl rfl rfl) (fun _ => ?_)
  refine l_nil (n_then (ref_ret ?_))
  exact fin1 (.inl rfl) () [0] rfl ⟨rfl, trivial⟩ rfl (rv_cell rfl (j := 1) rfl Try.isAgg35 Try.sizeOf35 rfl rfl)

/-! deliberation/deliberationref28.Full -/
noncomputable def ref28_Full_l1 (g_0 : T_api_Graph) (s23 : Int × (List Int)) : Option (Sum ((List Int)) (Int × (List Int))) :=
  bif decide (s23.1 < g_0.N) then
    Option.bind (appM 8 s23.2 [s23.1]) fun t26 =>
    letM (iadd .i64 s23.1 1) fun a_28 =>
    some (Sum.inr (a_28, t26))
  else
    some (Sum.inl s23.2)

noncomputable def ref28_Full_m (g_0 : T_api_Graph) (style_1 : Int) : Option (T_api_Player) :=
  Option.bind (ref10_Validate_m g_0) fun t3 =>
  bif t3 != 0 then
    some (T_api_Player.mk [] [] [] 0)
  else
    Option.bind (loopC (ref28_Full_l1 g_0) (0, [])) fun q29 : (List Int) =>
    some (T_api_Player.mk q29 [] [] style_1)

theorem ref28_Full_ok {g_0 : T_api_Graph} {style_1 : Int} {r : T_api_Player} (hm : ref28_Full_m g_0 style_1 = some r) :
    FnOk prog 18 [ag [iv .i64 g_0.N, slv rT_api_Pair g_0.L], iv .i64 style_1] [] (fun (x : Unit) => [ag [slv (rI .i64) r.Pool, pv (.slice none 0 0), pv (.slice none 0 0), iv .i64 r.Style]]) (fun (x : Unit) => []) := by
  refine fn_ok (fn := Try.f18) (N := 26) (res := fun r x => [ag [slv (rI .i64) r.Pool, pv (.slice none 0 0), pv (.slice none 0 0), iv .i64 r.Style]]) (Ω1 := fun r x => []) Try.func18 rfl rfl hm rfl (fun E hM => ?_)
  unfold ref28_Full_m
  refine ref_seq (ref_region ?_)
  refine s_st (s_box (part_agO (ψs := [iv .i64 g_0.N, slv rT_api_Pair g_0.L]) rfl ⟨.inl iv_at, .inl slv_at, trivial⟩)) rfl (fun b1 => ?_)
  refine s_st (s_alloc zt_25) rfl (fun b2 => ?_)
  refine l_nil (n_then (ref_seq (ref_seq (ref_region ?_))))
  refine s_rd (r_cloadS Try.isAgg28 Try.sizeOf28 rfl (j := 0) rfl rfl rfl) rfl ?_
  refine pull fun t3 h_t3 => ?_
  refine s_st (s_call (ψ := fun (_ : Unit) => iv .i64 t3) (args := [.tmp 7]) Try.call51 rfl (ref10_Validate_ok h_t3) ⟨arg rfl, trivial⟩ (fun _ _ _ _ h => h)) rfl (fun _ => ?_)
  refine s_rd (r_neq rfl rfl) rfl ?_
  refine l_nil (n_then ?_)
  refine ref_cond rfl (fun hb4 => ?_) (fun hb4 => ?_)
  · refine ref_seq (ref_region ?_)
    refine s_rd (r_build (ps := []) (rs := []) st_25 zs_25 trivial rfl rfl) rfl ?_
    refine s_st0 (s_cstore (out := [pv (.slice none 0 0), pv (.slice none 0 0), pv (.slice none 0 0), iv .i64 0]) Try.sizeOf25 rfl (j := 1) rfl (part_agO (ψs := [pv (.slice none 0 0), pv (.slice none 0 0), pv (.slice none 0 0), iv .i64 0]) rfl ⟨.inl (pv_at rfl), .inl (pv_at rfl), .inl (pv_at rfl), .inl iv_at, trivial⟩) rfl rfl rfl) (fun _ => ?_)
    refine l_nil ?_
    refine b_of (nrm [oc b1 [iv .i64 g_0.N, slv rT_api_Pair g_0.L], oc b2 [pv (.slice none 0 0), pv (.slice none 0 0), pv (.slice none 0 0), iv .i64 0]] rfl) ?_
    refine n_then (ref_ret (r_then ?_))
    refine b_of (ocW 1 [slv (rI .i64) [], pv (.slice none 0 0), pv (.slice none 0 0), iv .i64 0] rfl ⟨nil_sl, imp_rfl, imp_rfl, imp_rfl, trivial⟩) ?_
    exact fin1 (.inl rfl) () [] rfl trivial rfl (rv_cell rfl (j := 1) rfl Try.isAgg25 Try.sizeOf25 rfl rfl)
  refine ref_skip (n_then (ref_seq (ref_region ?_)))
  refine mv1 rfl rfl ?_
  refine s_rd (r_build (ps := [(3, .tmp 11)]) (rs := [(3, [iv .i64 style_1])]) st_25 zs_25 ⟨rfl, (part_at rfl iv_at), trivial⟩ rfl rfl) rfl ?_
  refine s_st (s_alloc zt_25) rfl (fun b5 => ?_)
  refine s_st0 (s_cstore (out := [pv (.slice none 0 0), pv (.slice none 0 0), pv (.slice none 0 0), iv .i64 style_1]) Try.sizeOf25 rfl (j := 2) rfl (part_agO (ψs := [pv (.slice none 0 0), pv (.slice none 0 0), pv (.slice none 0 0), iv .i64 style_1]) rfl ⟨.inl (pv_at rfl), .inl (pv_at rfl), .inl (pv_at rfl), .inl iv_at, trivial⟩) rfl rfl rfl) (fun _ => ?_)
  refine l_nil ?_
  refine b_of (nrm [oc b1 [iv .i64 g_0.N, slv rT_api_Pair g_0.L], oc b2 [pv (.slice none 0 0), pv (.slice none 0 0), pv (.slice none 0 0), iv .i64 0], oc b5 [pv (.slice none 0 0), pv (.slice none 0 0), pv (.slice none 0 0), iv .i64 style_1]] rfl) ?_
  refine n_then (ref_seq (ref_seq (ref_region ?_)))
  refine as1 rfl rfl ?_
  refine l_nil (n_then ?_)
  refine b_of (own_nil (rI .i64)) ?_
  refine ref_loopB (f := (ref28_Full_l1 g_0)) (Γl := (fun (s23 : Int × (List Int)) (x24 : (Value × List Nat)) => [(2, pv (ptr b1 0)), (4, pv (ptr b2 0)), (5, pv (ptr b5 0)), (6, iv .i64 s23.1)])) (Ωl := (fun (s23 : Int × (List Int)) (x24 : (Value × List Nat)) => [oc b1 [iv .i64 g_0.N, slv rT_api_Pair g_0.L], oc b2 [pv (.slice none 0 0), pv (.slice none 0 0), pv (.slice none 0 0), iv .i64 0], oc b5 [pv x24.1, pv (.slice none 0 0), pv (.slice none 0 0), iv .i64 style_1], oa (rI .i64) x24.1 x24.2 s23.2])) (Γb := (fun (q29 : (List Int)) (y30 : (Value × List Nat)) => [(4, pv (ptr b2 0)), (5, pv (ptr b5 0))])) (Ωb := (fun (q29 : (List Int)) (y30 : (Value × List Nat)) => [oc b2 [pv (.slice none 0 0), pv (.slice none 0 0), pv (.slice none 0 0), iv .i64 0], oc b5 [pv y30.1, pv (.slice none 0 0), pv (.slice none 0 0), iv .i64 style_1], oa (rI .i64) y30.1 y30.2 q29])) (0, []) ((.slice none 0 0), []) (weak [0, 1, 2, 3] ⟨rfl, rfl, rfl, rfl, trivial⟩ ⟨rfl, rfl, rfl, rfl, trivial⟩) (fun s23 x24 => ?_) (fun q29 y30 => ?_)
  · unfold ref28_Full_l1
    refine ref_seq (ref_seq (ref_region ?_))
    refine mv1 rfl rfl ?_
    refine s_rd (r_faddr (fo := 0) Try.underlying28 rfl rfl Try.sizeOf3 rfl) rfl ?_
    refine s_rd (r_cload Try.isAgg3 rfl (j := 0) rfl rfl) rfl ?_
    refine s_rd (r_lss rfl rfl) rfl ?_
    refine l_nil (n_then ?_)
    refine ref_cond rfl (fun hb25 => ?_) (fun hb25 => ?_)
    · refine ref_skip (n_then (ref_seq (ref_block (ref_region ?_))))
      refine s_rd (r_faddr (fo := 0) Try.underlying25 rfl rfl Try.sizeOf22 rfl) rfl ?_
      refine s_rd (r_cload Try.isAgg22 rfl (j := 2) rfl rfl) rfl ?_
      refine mv1 rfl rfl ?_
      refine s_st (s_bslice (xs := [.tmp 21]) (ds := [s23.1]) Try.underlying22 el_3 rfl (Nat.le_of_ble_eq_true rfl) ⟨(part_at rfl iv_at), trivial⟩) rfl (fun _ => ?_)
      refine pull fun t26 h_t26 => ?_
      refine s_st (s_append h_t26 Try.underlying22 el_3 rfl (j := 3) rfl rfl) rfl (fun o27 => ?_)
      refine s_rd (r_faddr (fo := 0) Try.underlying25 rfl rfl Try.sizeOf22 rfl) rfl ?_
      refine s_st0 (s_cstore (out := [pv o27.1, pv (.slice none 0 0), pv (.slice none 0 0), iv .i64 style_1]) Try.sizeOf22 rfl (j := 2) rfl (part_own rfl (j := 3) rfl) rfl rfl rfl) (fun _ => ?_)
      refine l_nil (n_block (n_then (ref_region ?_)))
      refine mv1 rfl rfl ?_
      refine s_rd (r_add rfl rfl) rfl ?_
      refine as1 rfl rfl ?_
      refine b_let (f := iv .i64) (t := 6) rfl fun a_28 => ?_
      refine l_nil ?_
      exact goB o27 (weak [0, 1, 2, 3] ⟨rfl, rfl, rfl, rfl, trivial⟩ ⟨rfl, rfl, rfl, rfl, trivial⟩)
    refine ref_exit (x_then ?_)
    exact brkB x24 (weak [1, 2, 3] ⟨rfl, rfl, trivial⟩ ⟨rfl, rfl, rfl, trivial⟩)
  refine n_then (ref_seq (ref_region ?_))
  refine s_rd (r_cloadS Try.isAgg25 Try.sizeOf25 rfl (j := 1) rfl rfl rfl) rfl ?_
  refine s_st0 (s_cstore (out := [pv y30.1, pv (.slice none 0 0), pv (.slice none 0 0), iv .i64 style_1]) Try.sizeOf25 rfl (j := 0) rfl (part_agO (ψs := [pv y30.1, pv (.slice none 0 0), pv (.slice none 0 0), iv .i64 style_1]) rfl ⟨.inr ⟨_, _, _, _, _, 2, rfl, rfl⟩, .inl (pv_at rfl), .inl (pv_at rfl), .inl iv_at, trivial⟩) rfl rfl rfl) (fun _ => ?_)
  refine l_nil (n_then (ref_ret ?_))
  refine b_of (frzGL [(25, ag [slv (rI .i64) q29, pv (.slice none 0 0), pv (.slice none 0 0), iv .i64 style_1])] [(0, b2, [slv (rI .i64) q29, pv (.slice none 0 0), pv (.slice none 0 0), iv .i64 style_1]), (1, b5, [slv (rI .i64) q29, pv (.slice none 0 0), pv (.slice none 0 0), iv .i64 style_1])] (j := 2) rfl ⟨⟨_, rfl, .inr ⟨_, _, rfl, rfl, ⟨.inr ⟨rfl, rfl⟩, .inl rfl, .inl rfl, .inl rfl, trivial⟩⟩⟩, trivial⟩ ⟨⟨_, rfl, ⟨.inr ⟨rfl, rfl⟩, .inl rfl, .inl rfl, .inl rfl, trivial⟩⟩, ⟨_, rfl, ⟨.inr ⟨rfl, rfl⟩, .inl rfl, .inl rfl, .inl rfl, trivial⟩⟩, trivial⟩) ?_
  exact fin1 (.inl rfl) () [] rfl trivial rfl (rv_cell rfl (j := 0) rfl Try.isAgg25 Try.sizeOf25 rfl rfl)

/-! deliberation/deliberationnet.Some -/
noncomputable def net_Some_l1 (n_1 : Int) (s17 : Int × T_deliberationkeep_Src × (List Int)) : Option (Sum (T_deliberationkeep_Src × (List Int)) (Int × T_deliberationkeep_Src × (List Int))) :=
  bif decide (s17.1 < n_1) then
    Option.bind (keep_Src_N_m s17.2.1 3) fun t20 =>
    bif t20.1 == 0 then
      Option.bind (appM 8 s17.2.2 [s17.1]) fun out22 =>
      letM (iadd .i64 s17.1 1) fun i24 =>
      some (Sum.inr (i24, t20.2, out22))
    else
      letM (iadd .i64 s17.1 1) fun i25 =>
      some (Sum.inr (i25, t20.2, s17.2.2))
  else
    some (Sum.inl (s17.2.1, s17.2.2))

noncomputable def net_Some_m (s_0 : T_deliberationkeep_Src) (n_1 : Int) : Option (List Int × T_deliberationkeep_Src) :=
  Option.bind (loopC (net_Some_l1 n_1) (0, s_0, [])) fun q26 : T_deliberationkeep_Src × (List Int) =>
  some (q26.2, q26.1)

theorem net_Some_ok {s_0 : T_deliberationkeep_Src} {n_1 : Int} {b_0 : Nat} {r : List Int × T_deliberationkeep_Src} (hm : net_Some_m s_0 n_1 = some r) :
    FnOk prog 31 [pv (ptr b_0 0), iv .i64 n_1] [oc b_0 [slv (rI .i64) s_0.L, iv .i64 s_0.At]] (fun (x : (Value × List Nat)) => [pv x.1]) (fun (x : (Value × List Nat)) => [oc b_0 [slv (rI .i64) r.2.L, iv .i64 r.2.At], oa (rI .i64) x.1 x.2 r.1]) := by
  refine fn_ok (X := (Value × List Nat)) (fn := Try.f31) (N := 20) (res := fun r x => [pv x.1]) (Ω1 := fun r x => [oc b_0 [slv (rI .i64) r.2.L, iv .i64 r.2.At], oa (rI .i64) x.1 x.2 r.1]) Try.func31 rfl rfl hm rfl (fun E hM => ?_)
  unfold net_Some_m
  refine ref_seq (ref_region ?_)
  refine as1 rfl rfl ?_
  refine l_nil (n_then (ref_seq (ref_region ?_)))
  refine as1 rfl rfl ?_
  refine l_nil (n_then (ref_seq (ref_seq (ref_region ?_))))
  refine as1 rfl rfl ?_
  refine l_nil (n_then ?_)
  refine b_of (own_nil (rI .i64)) ?_
  refine ref_loopB (f := (net_Some_l1 n_1)) (Γl := (fun (s17 : Int × T_deliberationkeep_Src × (List Int)) (x18 : (Value × List Nat)) => [(0, pv (ptr b_0 0)), (1, iv .i64 n_1), (5, pv x18.1), (6, iv .i64 s17.1)])) (Ωl := (fun (s17 : Int × T_deliberationkeep_Src × (List Int)) (x18 : (Value × List Nat)) => [oc b_0 [slv (rI .i64) s17.2.1.L, iv .i64 s17.2.1.At], oa (rI .i64) x18.1 x18.2 s17.2.2])) (Γb := (fun (q26 : T_deliberationkeep_Src × (List Int)) (y27 : (Value × List Nat)) => [(0, pv (ptr b_0 0)), (5, pv y27.1)])) (Ωb := (fun (q26 : T_deliberationkeep_Src × (List Int)) (y27 : (Value × List Nat)) => [oc b_0 [slv (rI .i64) q26.1.L, iv .i64 q26.1.At], oa (rI .i64) y27.1 y27.2 q26.2])) (0, s_0, []) ((.slice none 0 0), []) (weak [0, 1] ⟨rfl, rfl, rfl, rfl, trivial⟩ ⟨rfl, rfl, trivial⟩) (fun s17 x18 => ?_) (fun q26 y27 => ?_)
  · unfold net_Some_l1
    refine ref_seq (ref_seq (ref_region ?_))
    refine mv1 rfl rfl ?_
    refine mv1 rfl rfl ?_
    refine s_rd (r_lss rfl rfl) rfl ?_
    refine l_nil (n_then ?_)
    refine ref_cond rfl (fun hb19 => ?_) (fun hb19 => ?_)
    · refine ref_skip (n_then (ref_seq (ref_block (ref_seq (ref_region ?_)))))
      refine mv1 rfl rfl ?_
      refine pull fun t20 h_t20 => ?_
      refine s_st (s_callC [0] [true] (fun (_ : Unit) => [oc b_0 [slv (rI .i64) t20.2.L, iv .i64 t20.2.At]]) (fun (_ : Unit) => []) (fun (_ : Unit) => iv .i64 t20.1) (args := [.tmp 12, .const (.int .i64 (3))]) (caps := []) Try.call22 rfl (keep_Src_N_ok h_t20) ⟨rfl, rfl, trivial⟩ (fun _ => rfl) (fun _ => trivial) (fun _ => rfl) ⟨arg rfl, arg rfl, trivial⟩ (fun _ _ _ _ h => h)) rfl (fun _ => ?_)
      refine s_rd (r_eql rfl rfl) rfl ?_
      refine l_nil (n_then ?_)
      refine ref_cond rfl (fun hb21 => ?_) (fun hb21 => ?_)
      · refine ref_region ?_
        refine mv1 rfl rfl ?_
        refine mv1 rfl rfl ?_
        refine s_st (s_bslice (xs := [.tmp 16]) (ds := [s17.1]) Try.underlying22 el_3 rfl (Nat.le_of_ble_eq_true rfl) ⟨(part_at rfl iv_at), trivial⟩) rfl (fun _ => ?_)
        refine pull fun out22 h_out22 => ?_
        refine s_st (s_append h_out22 Try.underlying22 el_3 rfl (j := 1) rfl rfl) rfl (fun o23 => ?_)
        refine as1 rfl rfl ?_
        refine l_nil (n_block (n_then (ref_region ?_)))
        refine mv1 rfl rfl ?_
        refine s_rd (r_add rfl rfl) rfl ?_
        refine as1 rfl rfl ?_
        refine b_let (f := iv .i64) (t := 6) rfl fun i24 => ?_
        refine l_nil ?_
        exact goB o23 (weak [0, 1] ⟨rfl, rfl, rfl, rfl, trivial⟩ ⟨rfl, rfl, trivial⟩)
      refine ref_skip (n_block (n_then (ref_region ?_)))
      refine mv1 rfl rfl ?_
      refine s_rd (r_add rfl rfl) rfl ?_
      refine as1 rfl rfl ?_
      refine b_let (f := iv .i64) (t := 6) rfl fun i25 => ?_
      refine l_nil ?_
      exact goB x18 (weak [0, 1] ⟨rfl, rfl, rfl, rfl, trivial⟩ ⟨rfl, rfl, trivial⟩)
    refine ref_exit (x_then ?_)
    exact brkB x18 (weak [0, 1] ⟨rfl, rfl, trivial⟩ ⟨rfl, rfl, trivial⟩)
  refine n_then (ref_seq (ref_region ?_))
  refine mv1 rfl rfl ?_
  refine as1 rfl rfl ?_
  refine l_nil (n_then (ref_ret ?_))
  exact fin1 (.inl rfl) y27 [0, 1] rfl ⟨rfl, rfl, trivial⟩ rfl (rv_tmp rfl)

/-! deliberation/deliberationlaw28.player -/
noncomputable def law28_player_l1 (g_1 : T_api_Graph) (s55 : Int × T_deliberationkeep_Src × (List T_api_Move)) : Option (Sum (T_deliberationkeep_Src × (List T_api_Move)) (Int × T_deliberationkeep_Src × (List T_api_Move))) :=
  bif decide (s55.1 > 0) then
    Option.bind (keep_Src_N_m s55.2.1 3) fun t59 =>
    Option.bind (keep_Src_Pick_m t59.2 [2, 2, 3, 4, 0]) fun t60 =>
    Option.bind (keep_Src_N_m t60.2 g_1.N) fun t61 =>
    Option.bind (keep_Src_N_m t61.2 5) fun t62 =>
    Option.bind (appM 32 s55.2.2 [(T_api_Move.mk t59.1 t60.1 t61.1 t62.1)]) fun t63 =>
    letM (isub .i64 s55.1 1) fun i65 =>
    some (Sum.inr (i65, t62.2, t63))
  else
    some (Sum.inl (s55.2.1, s55.2.2))

noncomputable def law28_player_m (s_0 : T_deliberationkeep_Src) (g_1 : T_api_Graph) : Option (T_api_Player × T_deliberationkeep_Src) :=
  Option.bind (keep_Src_Range_m s_0 1 3) fun t4 =>
  Option.bind (ref28_Full_m g_1 t4.1) fun t5 =>
  joinM (fun j11 : T_deliberationkeep_Src × (List Int) =>
      joinM (fun j18 : T_deliberationkeep_Src × (List Int) =>
          Option.bind (keep_Src_N_m j18.1 4) fun i21 =>
          Option.bind (loopC (law28_player_l1 g_1) (i21.1, i21.2, [])) fun q66 : T_deliberationkeep_Src × (List T_api_Move) =>
          some ((T_api_Player.mk j18.2 j11.2 q66.2 t5.Style), q66.1)) fun k20 =>
      Option.bind (keep_Src_N_m j11.1 3) fun t14 =>
      bif t14.1 == 0 then
        Option.bind (net_Some_m t14.2 g_1.N) fun t16 =>
        k20 (t16.2, t16.1)
      else
        k20 (t14.2, t5.Pool)) fun k13 =>
  Option.bind (keep_Src_N_m t4.2 2) fun t7 =>
  bif t7.1 == 0 then
    Option.bind (net_Some_m t7.2 g_1.N) fun t9 =>
    k13 (t9.2, t9.1)
  else
    k13 (t7.2, [])

theorem law28_player_ok {s_0 : T_deliberationkeep_Src} {g_1 : T_api_Graph} {b_0 : Nat} {r : T_api_Player × T_deliberationkeep_Src} (hm : law28_player_m s_0 g_1 = some r) :
    FnOk prog 11 [pv (ptr b_0 0), ag [iv .i64 g_1.N, slv rT_api_Pair g_1.L]] [oc b_0 [slv (rI .i64) s_0.L, iv .i64 s_0.At]] (fun (x : Unit) => [ag [slv (rI .i64) r.1.Pool, slv (rI .i64) r.1.Withheld, slv rT_api_Move r.1.Script, iv .i64 r.1.Style]]) (fun (x : Unit) => [oc b_0 [slv (rI .i64) r.2.L, iv .i64 r.2.At]]) := by
  refine fn_ok (fn := Try.f11) (N := 51) (res := fun r x => [ag [slv (rI .i64) r.1.Pool, slv (rI .i64) r.1.Withheld, slv rT_api_Move r.1.Script, iv .i64 r.1.Style]]) (Ω1 := fun r x => [oc b_0 [slv (rI .i64) r.2.L, iv .i64 r.2.At]]) Try.func11 rfl rfl hm rfl (fun E hM => ?_)
  unfold law28_player_m
  refine ref_seq (ref_region ?_)
  refine s_st (s_box (part_agO (ψs := [iv .i64 g_1.N, slv rT_api_Pair g_1.L]) rfl ⟨.inl iv_at, .inl slv_at, trivial⟩)) rfl (fun b1 => ?_)
  refine s_st (s_alloc zt_25) rfl (fun b2 => ?_)
  refine l_nil (n_then (ref_seq ?_))
  refine pull fun t4 h_t4 => ?_
  refine pull fun t5 h_t5 => ?_
  refine ref_drawI 1 [⟨[], [], [], [1], [], fun us u => ag [iv .i64 g_1.N, slv rT_api_Pair g_1.L], fun us u => []⟩, ⟨[], [], [], [], [], fun us u => pv (ptr b_0 0), fun us u => []⟩, ⟨[1], [], [0], [0], [0], fun us u => iv .i64 t4.1, fun us u => [oc b_0 [slv (rI .i64) t4.2.L, iv .i64 t4.2.At]]⟩, ⟨[0, 1, 2], [], [], [], [], fun us u => ag [slv (rI .i64) t5.Pool, pv (.slice none 0 0), pv (.slice none 0 0), iv .i64 t5.Style], fun us u => []⟩, ⟨[], [], [3], [3], [], fun us u => pv (ptr u.Nn 0), fun us u => [oc u.Nn [pv (.slice none 0 0), pv (.slice none 0 0), pv (.slice none 0 0), iv .i64 0]]⟩, ⟨[0, 1, 2, 3, 4], [4], [3], [3], [3], fun us u => pv undef, fun us u => [oc (us.getD 0 .none).Nn [slv (rI .i64) t5.Pool, pv (.slice none 0 0), pv (.slice none 0 0), iv .i64 t5.Style]]⟩] (fun χ3 => [(0, pv (ptr b_0 0)), (3, pv (ptr b1 0)), (4, pv (ptr b2 0)), (5, pv (ptr (χ3 4).Nn 0))]) (fun χ3 => [oc b_0 [slv (rI .i64) t4.2.L, iv .i64 t4.2.At], oc b1 [iv .i64 g_1.N, slv rT_api_Pair g_1.L], oc b2 [pv (.slice none 0 0), pv (.slice none 0 0), pv (.slice none 0 0), iv .i64 0], oc (χ3 4).Nn [slv (rI .i64) t5.Pool, pv (.slice none 0 0), pv (.slice none 0 0), iv .i64 t5.Style]]) rfl (by kernel_rfl) ⟨fun χ3 Ω ⟨h1, _⟩ => St.toR (r_cloadS Try.isAgg28 Try.sizeOf28 rfl (j := 1) h1 rfl rfl) (fun _ => rfl) (fun _ => rfl), (by intro _ h; cases h; rfl), ⟨fun χ3 Ω _ => St.toR (r_move rfl) (fun _ => rfl) (fun _ => rfl), (by intro _ h; cases h; rfl), ⟨fun χ3 Ω ⟨h0, _⟩ => St.to XU.U XU.hU (St.placeL [] (s_callC [0] [true] (fun (_ : Unit) => [oc b_0 [slv (rI .i64) t4.2.L, iv .i64 t4.2.At]]) (fun (_ : Unit) => []) (fun (_ : Unit) => iv .i64 t4.1) (args := [.tmp 8, .const (.int .i64 (1)), .const (.int .i64 (3))]) (caps := []) Try.call27 rfl (keep_Src_Range_ok h_t4) ⟨h0, rfl, trivial⟩ (fun _ => rfl) (fun _ => trivial) (fun _ => rfl) ⟨arg rfl, arg rfl, arg rfl, trivial⟩ (fun _ _ _ _ h => h)) (fun _ => rfl) (fun _ => trivial)) (fun _ => rfl) (fun _ => rfl), (by intro _ h; cases h; rfl), ⟨fun χ3 Ω _ => St.to XU.U XU.hU (St.placeL [] (s_call (ψ := fun (_ : Unit) => ag [slv (rI .i64) t5.Pool, pv (.slice none 0 0), pv (.slice none 0 0), iv .i64 t5.Style]) (args := [.tmp 7, .tmp 9]) Try.call18 rfl (ref28_Full_ok h_t5) ⟨arg rfl, arg rfl, trivial⟩ (fun _ _ _ _ h => h)) (fun _ => rfl) (fun _ => trivial)) (fun _ => rfl) (fun _ => rfl), (by intro _ h; cases h; rfl), ⟨fun χ3 Ω ⟨h3, _⟩ => St.to XU.Nn XU.hN (St.placeL (os := fun _ => [_]) [3] (s_alloc zt_25) (fun _ => rfl) (fun _ => ⟨h3, rfl, trivial⟩)) (fun _ => rfl) (fun _ => rfl), (by intro _ h; cases h; rfl), ⟨fun χ3 Ω ⟨h3, _⟩ => St.to XU.U XU.hU (s_cstore (out := [slv (rI .i64) t5.Pool, pv (.slice none 0 0), pv (.slice none 0 0), iv .i64 t5.Style]) Try.sizeOf25 rfl (j := 3) h3 (part_agO (ψs := [slv (rI .i64) t5.Pool, pv (.slice none 0 0), pv (.slice none 0 0), iv .i64 t5.Style]) rfl ⟨.inl slv_at, .inl (pv_at rfl), .inl (pv_at rfl), .inl iv_at, trivial⟩) rfl rfl rfl) (fun _ => rfl) (fun _ => rfl), (by intro _ h; cases h), trivial⟩⟩⟩⟩⟩⟩ (fun _ => ⟨rfl, rfl, rfl, rfl, trivial⟩) (fun _ => rfl) (fun χ3 => ?_)
  refine n_then (ref_seq ?_)
  refine ref_join (fun (j11 : T_deliberationkeep_Src × (List Int)) (x12 : (Value × List Nat)) => [(0, pv (ptr b_0 0)), (3, pv (ptr b1 0)), (4, pv (ptr b2 0)), (5, pv (ptr (χ3 4).Nn 0))]) (fun (j11 : T_deliberationkeep_Src × (List Int)) (x12 : (Value × List Nat)) => [oc b_0 [slv (rI .i64) j11.1.L, iv .i64 j11.1.At], oc b1 [iv .i64 g_1.N, slv rT_api_Pair g_1.L], oc b2 [pv (.slice none 0 0), pv (.slice none 0 0), pv (.slice none 0 0), iv .i64 0], oc (χ3 4).Nn [slv (rI .i64) t5.Pool, pv x12.1, pv (.slice none 0 0), iv .i64 t5.Style], oa (rI .i64) x12.1 x12.2 j11.2]) (fun k13 hk13 => ?_) (fun j11 x12 => ?_)
  · refine ref_seq (ref_region ?_)
    refine mv1 rfl rfl ?_
    refine pull fun t7 h_t7 => ?_
    refine s_st (s_callC [0] [true] (fun (_ : Unit) => [oc b_0 [slv (rI .i64) t7.2.L, iv .i64 t7.2.At]]) (fun (_ : Unit) => []) (fun (_ : Unit) => iv .i64 t7.1) (args := [.tmp 11, .const (.int .i64 (2))]) (caps := []) Try.call22 rfl (keep_Src_N_ok h_t7) ⟨rfl, rfl, trivial⟩ (fun _ => rfl) (fun _ => trivial) (fun _ => rfl) ⟨arg rfl, arg rfl, trivial⟩ (fun _ _ _ _ h => h)) rfl (fun _ => ?_)
    refine s_rd (r_eql rfl rfl) rfl ?_
    refine l_nil (n_then ?_)
    refine ref_cond rfl (fun hb8 => ?_) (fun hb8 => ?_)
    · refine ref_region ?_
      refine mv1 rfl rfl ?_
      refine s_rd (r_faddr (fo := 0) Try.underlying28 rfl rfl Try.sizeOf3 rfl) rfl ?_
      refine s_rd (r_cload Try.isAgg3 rfl (j := 1) rfl rfl) rfl ?_
      refine pull fun t9 h_t9 => ?_
      refine s_st (s_callC [0] [true] (fun (x10 : (Value × List Nat)) => [oc b_0 [slv (rI .i64) t9.2.L, iv .i64 t9.2.At]]) (fun (x10 : (Value × List Nat)) => [oa (rI .i64) x10.1 x10.2 t9.1]) (fun (x10 : (Value × List Nat)) => pv x10.1) (args := [.tmp 14, .tmp 16]) (caps := []) Try.call31 rfl (net_Some_ok h_t9) ⟨rfl, rfl, trivial⟩ (fun _ => rfl) (fun _ => trivial) (fun _ => rfl) ⟨arg rfl, arg rfl, trivial⟩ (fun _ _ _ _ h => h)) rfl (fun x10 => ?_)
      refine s_rd (r_faddr (fo := 1) Try.underlying25 rfl rfl Try.sizeOf22 rfl) rfl ?_
      refine s_st0 (s_cstore (out := [slv (rI .i64) t5.Pool, pv x10.1, pv (.slice none 0 0), iv .i64 t5.Style]) Try.sizeOf22 rfl (j := 3) rfl (part_own rfl (j := 4) rfl) rfl rfl rfl) (fun _ => ?_)
      refine l_nil ?_
      exact b_to (hk13 (t9.2, t9.1) x10) (weak [0, 1, 2, 3, 4] ⟨rfl, rfl, rfl, rfl, trivial⟩ ⟨rfl, rfl, rfl, rfl, rfl, trivial⟩)
    refine ref_skip ?_
    refine b_of (own_nil (rI .i64)) ?_
    exact b_to (hk13 (t7.2, []) ((.slice none 0 0), [])) (weak [0, 1, 2, 3, 4] ⟨rfl, rfl, rfl, rfl, trivial⟩ ⟨rfl, rfl, rfl, rfl, rfl, trivial⟩)
  refine n_then (ref_seq ?_)
  refine ref_join (fun (j18 : T_deliberationkeep_Src × (List Int)) (x19 : Unit) => [(0, pv (ptr b_0 0)), (3, pv (ptr b1 0)), (4, pv (ptr b2 0)), (5, pv (ptr (χ3 4).Nn 0))]) (fun (j18 : T_deliberationkeep_Src × (List Int)) (x19 : Unit) => [oc b_0 [slv (rI .i64) j18.1.L, iv .i64 j18.1.At], oc b1 [iv .i64 g_1.N, slv rT_api_Pair g_1.L], oc b2 [pv (.slice none 0 0), pv (.slice none 0 0), pv (.slice none 0 0), iv .i64 0], oc (χ3 4).Nn [slv (rI .i64) j18.2, pv x12.1, pv (.slice none 0 0), iv .i64 t5.Style], oa (rI .i64) x12.1 x12.2 j11.2]) (fun k20 hk20 => ?_) (fun j18 x19 => ?_)
  · refine ref_seq (ref_region ?_)
    refine mv1 rfl rfl ?_
    refine pull fun t14 h_t14 => ?_
    refine s_st (s_callC [0] [true] (fun (_ : Unit) => [oc b_0 [slv (rI .i64) t14.2.L, iv .i64 t14.2.At]]) (fun (_ : Unit) => []) (fun (_ : Unit) => iv .i64 t14.1) (args := [.tmp 19, .const (.int .i64 (3))]) (caps := []) Try.call22 rfl (keep_Src_N_ok h_t14) ⟨rfl, rfl, trivial⟩ (fun _ => rfl) (fun _ => trivial) (fun _ => rfl) ⟨arg rfl, arg rfl, trivial⟩ (fun _ _ _ _ h => h)) rfl (fun _ => ?_)
    refine s_rd (r_eql rfl rfl) rfl ?_
    refine l_nil (n_then ?_)
    refine ref_cond rfl (fun hb15 => ?_) (fun hb15 => ?_)
    · refine ref_region ?_
      refine mv1 rfl rfl ?_
      refine s_rd (r_faddr (fo := 0) Try.underlying28 rfl rfl Try.sizeOf3 rfl) rfl ?_
      refine s_rd (r_cload Try.isAgg3 rfl (j := 1) rfl rfl) rfl ?_
      refine pull fun t16 h_t16 => ?_
      refine s_st (s_callC [0] [true] (fun (x17 : (Value × List Nat)) => [oc b_0 [slv (rI .i64) t16.2.L, iv .i64 t16.2.At]]) (fun (x17 : (Value × List Nat)) => [oa (rI .i64) x17.1 x17.2 t16.1]) (fun (x17 : (Value × List Nat)) => pv x17.1) (args := [.tmp 22, .tmp 24]) (caps := []) Try.call31 rfl (net_Some_ok h_t16) ⟨rfl, rfl, trivial⟩ (fun _ => rfl) (fun _ => trivial) (fun _ => rfl) ⟨arg rfl, arg rfl, trivial⟩ (fun _ _ _ _ h => h)) rfl (fun x17 => ?_)
      refine s_rd (r_faddr (fo := 0) Try.underlying25 rfl rfl Try.sizeOf22 rfl) rfl ?_
      refine s_st0 (s_cstore (out := [pv x17.1, pv x12.1, pv (.slice none 0 0), iv .i64 t5.Style]) Try.sizeOf22 rfl (j := 3) rfl (part_own rfl (j := 5) rfl) rfl rfl rfl) (fun _ => ?_)
      refine l_nil ?_
      refine b_of (frzGL [(25, slv (rI .i64) t16.1)] [(3, (χ3 4).Nn, [slv (rI .i64) t16.1, pv x12.1, pv (.slice none 0 0), iv .i64 t5.Style])] (j := 5) rfl ⟨⟨_, rfl, .inl ⟨rfl, rfl⟩⟩, trivial⟩ ⟨⟨_, rfl, ⟨.inr ⟨rfl, rfl⟩, .inl rfl, .inl rfl, .inl rfl, trivial⟩⟩, trivial⟩) ?_
      exact b_to (hk20 (t16.2, t16.1) ()) (weak [0, 1, 2, 3, 4] ⟨rfl, rfl, rfl, rfl, trivial⟩ ⟨rfl, rfl, rfl, rfl, rfl, trivial⟩)
    refine ref_skip ?_
    exact b_to (hk20 (t14.2, t5.Pool) ()) (weak [0, 1, 2, 3, 4] ⟨rfl, rfl, rfl, rfl, trivial⟩ ⟨rfl, rfl, rfl, rfl, rfl, trivial⟩)
  refine n_then (ref_seq (ref_seq (ref_region ?_)))
  refine mv1 rfl rfl ?_
  refine pull fun i21 h_i21 => ?_
  refine s_st (s_callC [0] [true] (fun (_ : Unit) => [oc b_0 [slv (rI .i64) i21.2.L, iv .i64 i21.2.At]]) (fun (_ : Unit) => []) (fun (_ : Unit) => iv .i64 i21.1) (args := [.tmp 27, .const (.int .i64 (4))]) (caps := []) Try.call22 rfl (keep_Src_N_ok h_i21) ⟨rfl, rfl, trivial⟩ (fun _ => rfl) (fun _ => trivial) (fun _ => rfl) ⟨arg rfl, arg rfl, trivial⟩ (fun _ _ _ _ h => h)) rfl (fun _ => ?_)
  refine as1 rfl rfl ?_
  refine l_nil (n_then ?_)
  refine b_of (own_nil rT_api_Move) ?_
  refine ref_loopB (f := (law28_player_l1 g_1)) (Γl := (fun (s55 : Int × T_deliberationkeep_Src × (List T_api_Move)) (x56 : (Value × List Nat)) => [(0, pv (ptr b_0 0)), (3, pv (ptr b1 0)), (4, pv (ptr b2 0)), (5, pv (ptr (χ3 4).Nn 0)), (6, iv .i64 s55.1)])) (Ωl := (fun (s55 : Int × T_deliberationkeep_Src × (List T_api_Move)) (x56 : (Value × List Nat)) => [oc b_0 [slv (rI .i64) s55.2.1.L, iv .i64 s55.2.1.At], oc b1 [iv .i64 g_1.N, slv rT_api_Pair g_1.L], oc b2 [pv (.slice none 0 0), pv (.slice none 0 0), pv (.slice none 0 0), iv .i64 0], oc (χ3 4).Nn [slv (rI .i64) j18.2, pv x12.1, pv x56.1, iv .i64 t5.Style], oa (rI .i64) x12.1 x12.2 j11.2, oa rT_api_Move x56.1 x56.2 s55.2.2])) (Γb := (fun (q66 : T_deliberationkeep_Src × (List T_api_Move)) (y67 : (Value × List Nat)) => [(0, pv (ptr b_0 0)), (4, pv (ptr b2 0)), (5, pv (ptr (χ3 4).Nn 0))])) (Ωb := (fun (q66 : T_deliberationkeep_Src × (List T_api_Move)) (y67 : (Value × List Nat)) => [oc b_0 [slv (rI .i64) q66.1.L, iv .i64 q66.1.At], oc b2 [pv (.slice none 0 0), pv (.slice none 0 0), pv (.slice none 0 0), iv .i64 0], oc (χ3 4).Nn [slv (rI .i64) j18.2, pv x12.1, pv y67.1, iv .i64 t5.Style], oa (rI .i64) x12.1 x12.2 j11.2, oa rT_api_Move y67.1 y67.2 q66.2])) (i21.1, i21.2, []) ((.slice none 0 0), []) (weak [0, 1, 2, 3, 4, 5] ⟨rfl, rfl, rfl, rfl, rfl, trivial⟩ ⟨rfl, rfl, rfl, rfl, rfl, rfl, trivial⟩) (fun s55 x56 => ?_) (fun q66 y67 => ?_)
  · unfold law28_player_l1
    refine ref_seq (ref_seq (ref_region ?_))
    refine mv1 rfl rfl ?_
    refine s_rd (r_gtr rfl rfl) rfl ?_
    refine l_nil (n_then ?_)
    refine ref_cond rfl (fun hb57 => ?_) (fun hb57 => ?_)
    · refine ref_skip (n_then (ref_seq (ref_block ?_)))
      refine pull fun t59 h_t59 => ?_
      refine pull fun t60 h_t60 => ?_
      refine pull fun t61 h_t61 => ?_
      refine pull fun t62 h_t62 => ?_
      refine pull fun t63 h_t63 => ?_
      refine ref_drawI 0 [⟨[], [], [], [], [], fun us u => pv (ptr (χ3 4).Nn 2), fun us u => []⟩, ⟨[0], [], [], [3], [], fun us u => pv x56.1, fun us u => []⟩, ⟨[], [], [], [], [], fun us u => pv (ptr b_0 0), fun us u => []⟩, ⟨[2], [], [0], [0], [0], fun us u => iv .i64 t59.1, fun us u => [oc b_0 [slv (rI .i64) t59.2.L, iv .i64 t59.2.At]]⟩, ⟨[], [], [], [], [], fun us u => pv (ptr b_0 0), fun us u => []⟩, ⟨[], [], [], [], [], fun us u => slv (rI .i64) [2, 2, 3, 4, 0], fun us u => []⟩, ⟨[2, 3, 4, 5], [], [0], [0], [0], fun us u => iv .i64 t60.1, fun us u => [oc b_0 [slv (rI .i64) t60.2.L, iv .i64 t60.2.At]]⟩, ⟨[], [], [], [], [], fun us u => pv (ptr b_0 0), fun us u => []⟩, ⟨[], [], [], [], [], fun us u => pv (ptr b1 0), fun us u => []⟩, ⟨[8], [], [], [1], [], fun us u => iv .i64 g_1.N, fun us u => []⟩, ⟨[2, 3, 4, 5, 6, 7, 8, 9], [], [0], [0], [0], fun us u => iv .i64 t61.1, fun us u => [oc b_0 [slv (rI .i64) t61.2.L, iv .i64 t61.2.At]]⟩, ⟨[], [], [], [], [], fun us u => pv (ptr b_0 0), fun us u => []⟩, ⟨[2, 3, 4, 5, 6, 7, 8, 9, 10, 11], [], [0], [0], [0], fun us u => iv .i64 t62.1, fun us u => [oc b_0 [slv (rI .i64) t62.2.L, iv .i64 t62.2.At]]⟩, ⟨[2, 3, 4, 5, 6, 7, 8, 9, 10, 11, 12], [], [], [], [], fun us u => ag [iv .i64 t59.1, iv .i64 t60.1, iv .i64 t61.1, iv .i64 t62.1], fun us u => []⟩, ⟨[2, 3, 4, 5, 6, 7, 8, 9, 10, 11, 12, 13], [], [], [], [], fun us u => slv rT_api_Move [(T_api_Move.mk t59.1 t60.1 t61.1 t62.1)], fun us u => []⟩, ⟨[0, 1, 2, 3, 4, 5, 6, 7, 8, 9, 10, 11, 12, 13, 14], [], [5], [5], [5], fun us u => pv u.V.1, fun us u => [oa rT_api_Move u.V.1 u.V.2 t63]⟩, ⟨[0, 1, 2, 3, 4, 5, 6, 7, 8, 9, 10, 11, 12, 13, 14, 15], [], [], [], [], fun us u => pv (ptr (χ3 4).Nn 2), fun us u => []⟩, ⟨[0, 1, 2, 3, 4, 5, 6, 7, 8, 9, 10, 11, 12, 13, 14, 15, 16], [15], [3], [3, 5], [3], fun us u => pv undef, fun us u => [oc (χ3 4).Nn [slv (rI .i64) j18.2, pv x12.1, pv (us.getD 0 .none).V.1, iv .i64 t5.Style]]⟩] (fun χ58 => [(0, pv (ptr b_0 0)), (3, pv (ptr b1 0)), (4, pv (ptr b2 0)), (5, pv (ptr (χ3 4).Nn 0)), (6, iv .i64 s55.1)]) (fun χ58 => [oc b_0 [slv (rI .i64) t62.2.L, iv .i64 t62.2.At], oc b1 [iv .i64 g_1.N, slv rT_api_Pair g_1.L], oc b2 [pv (.slice none 0 0), pv (.slice none 0 0), pv (.slice none 0 0), iv .i64 0], oc (χ3 4).Nn [slv (rI .i64) j18.2, pv x12.1, pv (χ58 15).V.1, iv .i64 t5.Style], oa (rI .i64) x12.1 x12.2 j11.2, oa rT_api_Move (χ58 15).V.1 (χ58 15).V.2 t63]) rfl (by kernel_rfl) ⟨fun χ58 Ω _ => St.toR (r_faddr (fo := 2) Try.underlying25 rfl rfl Try.sizeOf23 rfl) (fun _ => rfl) (fun _ => rfl), (by intro _ h; cases h; rfl), ⟨fun χ58 Ω ⟨h3, _⟩ => St.toR (r_cload Try.isAgg23 rfl (j := 3) h3 rfl) (fun _ => rfl) (fun _ => rfl), (by intro _ h; cases h; rfl), ⟨fun χ58 Ω _ => St.toR (r_move rfl) (fun _ => rfl) (fun _ => rfl), (by intro _ h; cases h; rfl), ⟨fun χ58 Ω ⟨h0, _⟩ => St.to XU.U XU.hU (St.placeL [] (s_callC [0] [true] (fun (_ : Unit) => [oc b_0 [slv (rI .i64) t59.2.L, iv .i64 t59.2.At]]) (fun (_ : Unit) => []) (fun (_ : Unit) => iv .i64 t59.1) (args := [.tmp 35, .const (.int .i64 (3))]) (caps := []) Try.call22 rfl (keep_Src_N_ok h_t59) ⟨h0, rfl, trivial⟩ (fun _ => rfl) (fun _ => trivial) (fun _ => rfl) ⟨arg rfl, arg rfl, trivial⟩ (fun _ _ _ _ h => h)) (fun _ => rfl) (fun _ => trivial)) (fun _ => rfl) (fun _ => rfl), (by intro _ h; cases h; rfl), ⟨fun χ58 Ω _ => St.toR (r_move rfl) (fun _ => rfl) (fun _ => rfl), (by intro _ h; cases h; rfl), ⟨fun χ58 Ω _ => St.to XU.U XU.hU (s_bslice (xs := [.const (.int .i64 (2)), .const (.int .i64 (2)), .const (.int .i64 (3)), .const (.int .i64 (4)), .const (.int .i64 (0))]) (ds := [2, 2, 3, 4, 0]) Try.underlying22 el_3 rfl (Nat.le_of_ble_eq_true rfl) ⟨(part_at rfl iv_at), ⟨(part_at rfl iv_at), ⟨(part_at rfl iv_at), ⟨(part_at rfl iv_at), ⟨(part_at rfl iv_at), trivial⟩⟩⟩⟩⟩) (fun _ => rfl) (fun _ => rfl), (by intro _ h; cases h; rfl), ⟨fun χ58 Ω ⟨h0, _⟩ => St.to XU.U XU.hU (St.placeL [] (s_callC [0] [true] (fun (_ : Unit) => [oc b_0 [slv (rI .i64) t60.2.L, iv .i64 t60.2.At]]) (fun (_ : Unit) => []) (fun (_ : Unit) => iv .i64 t60.1) (args := [.tmp 37, .tmp 38]) (caps := []) Try.call29 rfl (keep_Src_Pick_ok h_t60) ⟨h0, rfl, trivial⟩ (fun _ => rfl) (fun _ => trivial) (fun _ => rfl) ⟨arg rfl, arg rfl, trivial⟩ (fun _ _ _ _ h => h)) (fun _ => rfl) (fun _ => trivial)) (fun _ => rfl) (fun _ => rfl), (by intro _ h; cases h; rfl), ⟨fun χ58 Ω _ => St.toR (r_move rfl) (fun _ => rfl) (fun _ => rfl), (by intro _ h; cases h; rfl), ⟨fun χ58 Ω _ => St.toR (r_faddr (fo := 0) Try.underlying28 rfl rfl Try.sizeOf3 rfl) (fun _ => rfl) (fun _ => rfl), (by intro _ h; cases h; rfl), ⟨fun χ58 Ω ⟨h1, _⟩ => St.toR (r_cload Try.isAgg3 rfl (j := 1) h1 rfl) (fun _ => rfl) (fun _ => rfl), (by intro _ h; cases h; rfl), ⟨fun χ58 Ω ⟨h0, _⟩ => St.to XU.U XU.hU (St.placeL [] (s_callC [0] [true] (fun (_ : Unit) => [oc b_0 [slv (rI .i64) t61.2.L, iv .i64 t61.2.At]]) (fun (_ : Unit) => []) (fun (_ : Unit) => iv .i64 t61.1) (args := [.tmp 40, .tmp 42]) (caps := []) Try.call22 rfl (keep_Src_N_ok h_t61) ⟨h0, rfl, trivial⟩ (fun _ => rfl) (fun _ => trivial) (fun _ => rfl) ⟨arg rfl, arg rfl, trivial⟩ (fun _ _ _ _ h => h)) (fun _ => rfl) (fun _ => trivial)) (fun _ => rfl) (fun _ => rfl), (by intro _ h; cases h; rfl), ⟨fun χ58 Ω _ => St.toR (r_move rfl) (fun _ => rfl) (fun _ => rfl), (by intro _ h; cases h; rfl), ⟨fun χ58 Ω ⟨h0, _⟩ => St.to XU.U XU.hU (St.placeL [] (s_callC [0] [true] (fun (_ : Unit) => [oc b_0 [slv (rI .i64) t62.2.L, iv .i64 t62.2.At]]) (fun (_ : Unit) => []) (fun (_ : Unit) => iv .i64 t62.1) (args := [.tmp 44, .const (.int .i64 (5))]) (caps := []) Try.call22 rfl (keep_Src_N_ok h_t62) ⟨h0, rfl, trivial⟩ (fun _ => rfl) (fun _ => trivial) (fun _ => rfl) ⟨arg rfl, arg rfl, trivial⟩ (fun _ _ _ _ h => h)) (fun _ => rfl) (fun _ => trivial)) (fun _ => rfl) (fun _ => rfl), (by intro _ h; cases h; rfl), ⟨fun χ58 Ω _ => St.toR (r_build (ps := [(0, .tmp 36), (1, .tmp 39), (2, .tmp 43), (3, .tmp 45)]) (rs := [(0, [iv .i64 t59.1]), (1, [iv .i64 t60.1]), (2, [iv .i64 t61.1]), (3, [iv .i64 t62.1])]) st_40 zs_40 ⟨rfl, (part_at rfl iv_at), ⟨rfl, (part_at rfl iv_at), ⟨rfl, (part_at rfl iv_at), ⟨rfl, (part_at rfl iv_at), trivial⟩⟩⟩⟩ rfl rfl) (fun _ => rfl) (fun _ => rfl), (by intro _ h; cases h; rfl), ⟨fun χ58 Ω _ => St.to XU.U XU.hU (s_bslice (xs := [.tmp 46]) (ds := [(T_api_Move.mk t59.1 t60.1 t61.1 t62.1)]) Try.underlying23 el_40 rfl (Nat.le_of_ble_eq_true rfl) ⟨(part_agO (ψs := [iv .i64 t59.1, iv .i64 t60.1, iv .i64 t61.1, iv .i64 t62.1]) rfl ⟨.inl iv_at, .inl iv_at, .inl iv_at, .inl iv_at, trivial⟩), trivial⟩) (fun _ => rfl) (fun _ => rfl), (by intro _ h; cases h; rfl), ⟨fun χ58 Ω ⟨h5, _⟩ => St.to XU.V XU.hV (s_append h_t63 Try.underlying23 el_40 rfl (j := 5) h5 rfl) (fun _ => rfl) (fun _ => rfl), (by intro _ h; cases h; rfl), ⟨fun χ58 Ω _ => St.toR (r_faddr (fo := 2) Try.underlying25 rfl rfl Try.sizeOf23 rfl) (fun _ => rfl) (fun _ => rfl), (by intro _ h; cases h; rfl), ⟨fun χ58 Ω ⟨h3, h5, _⟩ => St.to XU.U XU.hU (s_cstore (out := [slv (rI .i64) j18.2, pv x12.1, pv (χ58 15).V.1, iv .i64 t5.Style]) Try.sizeOf23 rfl (j := 3) h3 (part_own rfl (j := 5) h5) rfl rfl rfl) (fun _ => rfl) (fun _ => rfl), (by intro _ h; cases h), trivial⟩⟩⟩⟩⟩⟩⟩⟩⟩⟩⟩⟩⟩⟩⟩⟩⟩⟩ (fun _ => ⟨rfl, rfl, rfl, rfl, rfl, trivial⟩) (fun _ => rfl) (fun χ58 => ?_)
      refine n_block (n_then (ref_region ?_))
      refine mv1 rfl rfl ?_
      refine s_rd (r_sub rfl rfl) rfl ?_
      refine as1 rfl rfl ?_
      refine b_let (f := iv .i64) (t := 6) rfl fun i65 => ?_
      refine l_nil ?_
      exact goB (χ58 15).V (weak [0, 1, 2, 3, 4, 5] ⟨rfl, rfl, rfl, rfl, rfl, trivial⟩ ⟨rfl, rfl, rfl, rfl, rfl, rfl, trivial⟩)
    refine ref_exit (x_then ?_)
    exact brkB x56 (weak [0, 2, 3, 4, 5] ⟨rfl, rfl, rfl, trivial⟩ ⟨rfl, rfl, rfl, rfl, rfl, trivial⟩)
  refine n_then (ref_seq (ref_region ?_))
  refine s_rd (r_cloadS Try.isAgg25 Try.sizeOf25 rfl (j := 2) rfl rfl rfl) rfl ?_
  refine s_st0 (s_cstore (out := [slv (rI .i64) j18.2, pv x12.1, pv y67.1, iv .i64 t5.Style]) Try.sizeOf25 rfl (j := 1) rfl (part_agO (ψs := [slv (rI .i64) j18.2, pv x12.1, pv y67.1, iv .i64 t5.Style]) rfl ⟨.inl slv_at, .inr ⟨_, _, _, _, _, 3, rfl, rfl⟩, .inr ⟨_, _, _, _, _, 4, rfl, rfl⟩, .inl iv_at, trivial⟩) rfl rfl rfl) (fun _ => ?_)
  refine l_nil (n_then (ref_ret ?_))
  refine b_of (frzGL [(50, ag [slv (rI .i64) j18.2, slv (rI .i64) j11.2, pv y67.1, iv .i64 t5.Style])] [(1, b2, [slv (rI .i64) j18.2, slv (rI .i64) j11.2, pv y67.1, iv .i64 t5.Style]), (2, (χ3 4).Nn, [slv (rI .i64) j18.2, slv (rI .i64) j11.2, pv y67.1, iv .i64 t5.Style])] (j := 3) rfl ⟨⟨_, rfl, .inr ⟨_, _, rfl, rfl, ⟨.inl rfl, .inr ⟨rfl, rfl⟩, .inl rfl, .inl rfl, trivial⟩⟩⟩, trivial⟩ ⟨⟨_, rfl, ⟨.inl rfl, .inr ⟨rfl, rfl⟩, .inl rfl, .inl rfl, trivial⟩⟩, ⟨_, rfl, ⟨.inl rfl, .inr ⟨rfl, rfl⟩, .inl rfl, .inl rfl, trivial⟩⟩, trivial⟩) ?_
  refine b_of (frzGL [(50, ag [slv (rI .i64) j18.2, slv (rI .i64) j11.2, slv rT_api_Move q66.2, iv .i64 t5.Style])] [(1, b2, [slv (rI .i64) j18.2, slv (rI .i64) j11.2, slv rT_api_Move q66.2, iv .i64 t5.Style]), (2, (χ3 4).Nn, [slv (rI .i64) j18.2, slv (rI .i64) j11.2, slv rT_api_Move q66.2, iv .i64 t5.Style])] (j := 4) rfl ⟨⟨_, rfl, .inr ⟨_, _, rfl, rfl, ⟨.inl rfl, .inl rfl, .inr ⟨rfl, rfl⟩, .inl rfl, trivial⟩⟩⟩, trivial⟩ ⟨⟨_, rfl, ⟨.inl rfl, .inl rfl, .inr ⟨rfl, rfl⟩, .inl rfl, trivial⟩⟩, ⟨_, rfl, ⟨.inl rfl, .inl rfl, .inr ⟨rfl, rfl⟩, .inl rfl, trivial⟩⟩, trivial⟩) ?_
  exact fin1 (.inl rfl) () [0] rfl ⟨rfl, trivial⟩ rfl (rv_cell rfl (j := 1) rfl Try.isAgg25 Try.sizeOf25 rfl rfl)

/-! deliberation/deliberationnet.Set -/
noncomputable def net_Set_l1 (g_0 : T_api_Graph) (s_1 : (List Int)) (s10 : Int) : Option (Sum ((Sum (Bool) (Unit))) (Int)) :=
  bif decide (s10 < (s_1.length : Int)) then
    Option.bind (idxM s_1 s10) fun t13 =>
    bif decide (t13 < 0) then
      some (Sum.inl (Sum.inl false))
    else
      Option.bind (idxM s_1 s10) fun t14 =>
      bif decide (t14 ≥ g_0.N) then
        some (Sum.inl (Sum.inl false))
      else
        bif decide (s10 > 0) then
          Option.bind (idxM s_1 s10) fun t15 =>
          Option.bind (idxM s_1 (isub .i64 s10 1)) fun t16 =>
          bif decide (t15 ≤ t16) then
            some (Sum.inl (Sum.inl false))
          else
            letM (iadd .i64 s10 1) fun i18 =>
            some (Sum.inr i18)
        else
          letM (iadd .i64 s10 1) fun i19 =>
          some (Sum.inr i19)
  else
    some (Sum.inl (Sum.inr ()))

noncomputable def net_Set_m (g_0 : T_api_Graph) (s_1 : (List Int)) : Option (Bool) :=
  Option.bind (loopC (net_Set_l1 g_0 s_1) 0) (sumK (fun a : Bool => some a) fun q20 : Unit =>
    some true)

theorem net_Set_ok {g_0 : T_api_Graph} {s_1 : (List Int)} {r : Bool} (hm : net_Set_m g_0 s_1 = some r) :
    FnOk prog 73 [ag [iv .i64 g_0.N, slv rT_api_Pair g_0.L], slv (rI .i64) s_1] [] (fun (x : Unit) => [bv r]) (fun (x : Unit) => []) := by
  refine fn_ok (fn := Try.f73) (N := 42) (res := fun r x => [bv r]) (Ω1 := fun r x => []) Try.func73 rfl rfl hm rfl (fun E hM => ?_)
  unfold net_Set_m
  refine ref_seq (ref_region ?_)
  refine s_st (s_box (part_agO (ψs := [iv .i64 g_0.N, slv rT_api_Pair g_0.L]) rfl ⟨.inl iv_at, .inl slv_at, trivial⟩)) rfl (fun b1 => ?_)
  refine as1 rfl rfl ?_
  refine l_nil (n_then (ref_seq (ref_seq (ref_region ?_))))
  refine as1 rfl rfl ?_
  refine l_nil (n_then ?_)
  refine ref_loopX (f := (net_Set_l1 g_0 s_1)) (Γl := (fun (s10 : Int) (x11 : Unit) => [(1, slv (rI .i64) s_1), (2, pv (ptr b1 0)), (5, iv .i64 s10)])) (Ωl := (fun (s10 : Int) (x11 : Unit) => [oc b1 [iv .i64 g_0.N, slv rT_api_Pair g_0.L]])) (Γb := (fun (q20 : Unit) (y21 : Unit) => [])) (Ωb := (fun (q20 : Unit) (y21 : Unit) => [])) (kr := (fun a : Bool => some a)) 0 () (weak [0] ⟨rfl, rfl, rfl, trivial⟩ ⟨rfl, trivial⟩) (fun s10 x11 => ?_) (fun q20 y21 => ?_)
  · unfold net_Set_l1
    refine ref_seq (ref_seq (ref_region ?_))
    refine mv1 rfl rfl ?_
    refine mv1 rfl rfl ?_
    refine s_rd (r_len Try.underlying22 rfl) rfl ?_
    refine s_rd (r_lss rfl rfl) rfl ?_
    refine l_nil (n_then ?_)
    refine ref_cond rfl (fun hb12 => ?_) (fun hb12 => ?_)
    · refine ref_skip (n_then (ref_seq (ref_block (ref_seq ?_))))
      refine ref_draw [0, 1, 2, 3, 4, 5, 6, 7, 8, 9, 10, 11, 12, 13, 14, 15, 16, 17, 18, 19, 20, 21, 22, 23, 24, 25, 26, 27, 28, 29] rfl (by kernel_rfl) (fun hok => ?_)
      refine a_rd (i := 0) hok rfl (by kernel_rfl) rfl (r_move rfl) rfl ?_
      refine a_rd (i := 1) hok rfl (by kernel_rfl) rfl (r_move rfl) rfl ?_
      refine pull fun t13 h_t13 => ?_
      refine a_rd (i := 2) hok rfl (by kernel_rfl) rfl (r_index h_t13 Try.underlying22 el_3 rfl rfl) rfl ?_
      refine a_rd (i := 3) hok rfl (by kernel_rfl) rfl (r_load el_3 rfl) rfl ?_
      refine a_rd (i := 4) hok rfl (by kernel_rfl) rfl (r_lss rfl rfl) rfl ?_
      refine a_rd (i := 5) hok rfl (by kernel_rfl) rfl (r_move rfl) rfl ?_
      refine b_split (t := 17) rfl (fun _ => ?_) (fun _ => ?_)
      · refine a_off (i := 6) hok rfl rfl rfl rfl rfl (by kernel_rfl) rfl rfl ?_
        refine a_off (i := 7) hok rfl rfl rfl rfl rfl (by kernel_rfl) rfl rfl ?_
        refine a_off (i := 8) hok rfl rfl rfl rfl rfl (by kernel_rfl) rfl rfl ?_
        refine a_off (i := 9) hok rfl rfl rfl rfl rfl (by kernel_rfl) rfl rfl ?_
        refine a_off (i := 10) hok rfl rfl rfl rfl rfl (by kernel_rfl) rfl rfl ?_
        refine a_off (i := 11) hok rfl rfl rfl rfl rfl (by kernel_rfl) rfl rfl ?_
        refine a_off (i := 12) hok rfl rfl rfl rfl rfl (by kernel_rfl) rfl rfl ?_
        refine a_rd (i := 13) hok rfl (by kernel_rfl) rfl (r_pickT rfl rfl) rfl ?_
        refine a_rd (i := 14) hok rfl (by kernel_rfl) rfl (r_move rfl) rfl ?_
        refine a_off (i := 15) hok rfl rfl rfl rfl rfl (by kernel_rfl) rfl rfl ?_
        refine a_off (i := 16) hok rfl rfl rfl rfl rfl (by kernel_rfl) rfl rfl ?_
        refine a_off (i := 17) hok rfl rfl rfl rfl rfl (by kernel_rfl) rfl rfl ?_
        refine a_offU (i := 18) hok rfl rfl rfl (by kernel_rfl) rfl rfl ?_
        refine a_offU (i := 19) hok rfl rfl rfl (by kernel_rfl) rfl rfl ?_
        refine a_offU (i := 20) hok rfl rfl rfl (by kernel_rfl) rfl rfl ?_
        refine a_offU (i := 21) hok rfl rfl rfl (by kernel_rfl) rfl rfl ?_
        refine a_offU (i := 22) hok rfl rfl rfl (by kernel_rfl) rfl rfl ?_
        refine a_offU (i := 23) hok rfl rfl rfl (by kernel_rfl) rfl rfl ?_
        refine a_offU (i := 24) hok rfl rfl rfl (by kernel_rfl) rfl rfl ?_
        refine a_offU (i := 25) hok rfl rfl rfl (by kernel_rfl) rfl rfl ?_
        refine a_offU (i := 26) hok rfl rfl rfl (by kernel_rfl) rfl rfl ?_
        refine a_offU (i := 27) hok rfl rfl rfl (by kernel_rfl) rfl rfl ?_
        refine a_off (i := 28) hok rfl rfl rfl rfl rfl (by kernel_rfl) rfl rfl ?_
        refine a_rd (i := 29) hok rfl (by kernel_rfl) rfl (r_pickT rfl rfl) rfl ?_
        refine a_fin hok (by kernel_rfl) ?_
        refine n_then ?_
        refine ref_condT rfl rfl ?_
        refine ref_seq (ref_region ?_)
        refine as1 rfl rfl ?_
        refine l_nil (n_then (ref_ret (r_block (r_then ?_))))
        refine retX ?_
        refine r_block (r_then ?_)
        exact fin1 (.inl rfl) () [] rfl trivial rfl (rv_tmp rfl)
      refine a_rdOn (i := 6) hok rfl rfl rfl rfl (by kernel_rfl) rfl (r_move rfl) rfl ?_
      refine a_rdOn (i := 7) hok rfl rfl rfl rfl (by kernel_rfl) rfl (r_move rfl) rfl ?_
      refine pull fun t14 h_t14 => ?_
      refine a_rdOn (i := 8) hok rfl rfl rfl rfl (by kernel_rfl) rfl (r_index h_t14 Try.underlying22 el_3 rfl rfl) rfl ?_
      refine a_rdOn (i := 9) hok rfl rfl rfl rfl (by kernel_rfl) rfl (r_load el_3 rfl) rfl ?_
      refine a_rdOn (i := 10) hok rfl rfl rfl rfl (by kernel_rfl) rfl (r_faddr (fo := 0) Try.underlying28 rfl rfl Try.sizeOf3 rfl) rfl ?_
      refine a_rdOn (i := 11) hok rfl rfl rfl rfl (by kernel_rfl) rfl (r_cload Try.isAgg3 rfl (j := 0) rfl rfl) rfl ?_
      refine a_rdOn (i := 12) hok rfl rfl rfl rfl (by kernel_rfl) rfl (r_geq rfl rfl) rfl ?_
      refine a_rd (i := 13) hok rfl (by kernel_rfl) rfl (r_pickF rfl rfl) rfl ?_
      refine a_rd (i := 14) hok rfl (by kernel_rfl) rfl (r_move rfl) rfl ?_
      refine b_split (t := 26) rfl (fun _ => ?_) (fun _ => ?_)
      · refine a_off (i := 15) hok rfl rfl rfl rfl rfl (by kernel_rfl) rfl rfl ?_
        refine a_off (i := 16) hok rfl rfl rfl rfl rfl (by kernel_rfl) rfl rfl ?_
        refine a_off (i := 17) hok rfl rfl rfl rfl rfl (by kernel_rfl) rfl rfl ?_
        refine a_offU (i := 18) hok rfl rfl rfl (by kernel_rfl) rfl rfl ?_
        refine a_offU (i := 19) hok rfl rfl rfl (by kernel_rfl) rfl rfl ?_
        refine a_offU (i := 20) hok rfl rfl rfl (by kernel_rfl) rfl rfl ?_
        refine a_offU (i := 21) hok rfl rfl rfl (by kernel_rfl) rfl rfl ?_
        refine a_offU (i := 22) hok rfl rfl rfl (by kernel_rfl) rfl rfl ?_
        refine a_offU (i := 23) hok rfl rfl rfl (by kernel_rfl) rfl rfl ?_
        refine a_offU (i := 24) hok rfl rfl rfl (by kernel_rfl) rfl rfl ?_
        refine a_offU (i := 25) hok rfl rfl rfl (by kernel_rfl) rfl rfl ?_
        refine a_offU (i := 26) hok rfl rfl rfl (by kernel_rfl) rfl rfl ?_
        refine a_offU (i := 27) hok rfl rfl rfl (by kernel_rfl) rfl rfl ?_
        refine a_off (i := 28) hok rfl rfl rfl rfl rfl (by kernel_rfl) rfl rfl ?_
        refine a_rd (i := 29) hok rfl (by kernel_rfl) rfl (r_pickT rfl rfl) rfl ?_
        refine a_fin hok (by kernel_rfl) ?_
        refine n_then ?_
        refine ref_condT rfl rfl ?_
        refine ref_seq (ref_region ?_)
        refine as1 rfl rfl ?_
        refine l_nil (n_then (ref_ret (r_block (r_then ?_))))
        refine retX ?_
        refine r_block (r_then ?_)
        exact fin1 (.inl rfl) () [] rfl trivial rfl (rv_tmp rfl)
      refine a_rdOn (i := 15) hok rfl rfl rfl rfl (by kernel_rfl) rfl (r_move rfl) rfl ?_
      refine a_rdOn (i := 16) hok rfl rfl rfl rfl (by kernel_rfl) rfl (r_gtr rfl rfl) rfl ?_
      refine a_rdOn (i := 17) hok rfl rfl rfl rfl (by kernel_rfl) rfl (r_move rfl) rfl ?_
      refine b_split (t := 29) rfl (fun _ => ?_) (fun _ => ?_)
      · refine a_rdOn (i := 18) hok rfl rfl rfl rfl (by kernel_rfl) rfl (r_move rfl) rfl ?_
        refine a_rdOn (i := 19) hok rfl rfl rfl rfl (by kernel_rfl) rfl (r_move rfl) rfl ?_
        refine pull fun t15 h_t15 => ?_
        refine a_rdOn (i := 20) hok rfl rfl rfl rfl (by kernel_rfl) rfl (r_index h_t15 Try.underlying22 el_3 rfl rfl) rfl ?_
        refine a_rdOn (i := 21) hok rfl rfl rfl rfl (by kernel_rfl) rfl (r_load el_3 rfl) rfl ?_
        refine a_rdOn (i := 22) hok rfl rfl rfl rfl (by kernel_rfl) rfl (r_move rfl) rfl ?_
        refine a_rdOn (i := 23) hok rfl rfl rfl rfl (by kernel_rfl) rfl (r_move rfl) rfl ?_
        refine a_rdOn (i := 24) hok rfl rfl rfl rfl (by kernel_rfl) rfl (r_sub rfl rfl) rfl ?_
        refine pull fun t16 h_t16 => ?_
        refine a_rdOn (i := 25) hok rfl rfl rfl rfl (by kernel_rfl) rfl (r_index h_t16 Try.underlying22 el_3 rfl rfl) rfl ?_
        refine a_rdOn (i := 26) hok rfl rfl rfl rfl (by kernel_rfl) rfl (r_load el_3 rfl) rfl ?_
        refine a_rdOn (i := 27) hok rfl rfl rfl rfl (by kernel_rfl) rfl (r_leq rfl rfl) rfl ?_
        refine a_rdOn (i := 28) hok rfl rfl rfl rfl (by kernel_rfl) rfl (r_pickT rfl rfl) rfl ?_
        refine a_rd (i := 29) hok rfl (by kernel_rfl) rfl (r_pickF rfl rfl) rfl ?_
        refine a_fin hok (by kernel_rfl) ?_
        refine n_then ?_
        refine ref_cond rfl (fun hb17 => ?_) (fun hb17 => ?_)
        · refine ref_seq (ref_region ?_)
          refine as1 rfl rfl ?_
          refine l_nil (n_then (ref_ret (r_block (r_then ?_))))
          refine retX ?_
          refine r_block (r_then ?_)
          exact fin1 (.inl rfl) () [] rfl trivial rfl (rv_tmp rfl)
        refine ref_skip (n_block (n_then (ref_region ?_)))
        refine mv1 rfl rfl ?_
        refine s_rd (r_add rfl rfl) rfl ?_
        refine as1 rfl rfl ?_
        refine b_let (f := iv .i64) (t := 5) rfl fun i18 => ?_
        refine l_nil ?_
        exact goX () (weak [0] ⟨rfl, rfl, rfl, trivial⟩ ⟨rfl, trivial⟩)
      refine a_off (i := 18) hok rfl rfl rfl rfl rfl (by kernel_rfl) rfl rfl ?_
      refine a_off (i := 19) hok rfl rfl rfl rfl rfl (by kernel_rfl) rfl rfl ?_
      refine a_off (i := 20) hok rfl rfl rfl rfl rfl (by kernel_rfl) rfl rfl ?_
      refine a_off (i := 21) hok rfl rfl rfl rfl rfl (by kernel_rfl) rfl rfl ?_
      refine a_off (i := 22) hok rfl rfl rfl rfl rfl (by kernel_rfl) rfl rfl ?_
      refine a_off (i := 23) hok rfl rfl rfl rfl rfl (by kernel_rfl) rfl rfl ?_
      refine a_off (i := 24) hok rfl rfl rfl rfl rfl (by kernel_rfl) rfl rfl ?_
      refine a_off (i := 25) hok rfl rfl rfl rfl rfl (by kernel_rfl) rfl rfl ?_
      refine a_off (i := 26) hok rfl rfl rfl rfl rfl (by kernel_rfl) rfl rfl ?_
      refine a_off (i := 27) hok rfl rfl rfl rfl rfl (by kernel_rfl) rfl rfl ?_
      refine a_rdOn (i := 28) hok rfl rfl rfl rfl (by kernel_rfl) rfl (r_pickF rfl rfl) rfl ?_
      refine a_rd (i := 29) hok rfl (by kernel_rfl) rfl (r_pickF rfl rfl) rfl ?_
      refine a_fin hok (by kernel_rfl) ?_
      refine n_then ?_
      refine ref_condF rfl rfl ?_
      refine ref_skip (n_block (n_then (ref_region ?_)))
      refine mv1 rfl rfl ?_
      refine s_rd (r_add rfl rfl) rfl ?_
      refine as1 rfl rfl ?_
      refine b_let (f := iv .i64) (t := 5) rfl fun i19 => ?_
      refine l_nil ?_
      exact goX () (weak [0] ⟨rfl, rfl, rfl, trivial⟩ ⟨rfl, trivial⟩)
    refine ref_exit (x_then ?_)
    exact brkX () (weak [] trivial trivial)
  refine n_then (ref_seq (ref_region ?_))
  refine as1 rfl rfl ?_
  refine l_nil (n_then (ref_ret ?_))
  exact fin1 (.inl rfl) () [] rfl trivial rfl (rv_tmp rfl)

/-! deliberation/deliberationref28.valid -/
noncomputable def ref28_valid_m (g_0 : T_api_Graph) (p_1 : T_api_Player) : Option (Int) :=
  Option.bind (net_Set_m g_0 p_1.Pool) fun t3 =>
  bif !t3 then
    some 1
  else
    Option.bind (net_Set_m g_0 p_1.Withheld) fun t4 =>
    bif !t4 then
      some 1
    else
      bif decide (p_1.Style < 1) then
        some 4
      else
        bif decide (p_1.Style > 3) then
          some 4
        else
          some 0

theorem ref28_valid_ok {g_0 : T_api_Graph} {p_1 : T_api_Player} {r : Int} (hm : ref28_valid_m g_0 p_1 = some r) :
    FnOk prog 42 [ag [iv .i64 g_0.N, slv rT_api_Pair g_0.L], ag [slv (rI .i64) p_1.Pool, slv (rI .i64) p_1.Withheld, slv rT_api_Move p_1.Script, iv .i64 p_1.Style]] [] (fun (x : Unit) => [iv .i64 r]) (fun (x : Unit) => []) := by
  refine fn_ok (fn := Try.f42) (N := 25) (res := fun r x => [iv .i64 r]) (Ω1 := fun r x => []) Try.func42 rfl rfl hm rfl (fun E hM => ?_)
  unfold ref28_valid_m
  refine ref_seq (ref_region ?_)
  refine s_st (s_box (part_agO (ψs := [iv .i64 g_0.N, slv rT_api_Pair g_0.L]) rfl ⟨.inl iv_at, .inl slv_at, trivial⟩)) rfl (fun b1 => ?_)
  refine s_st (s_box (part_agO (ψs := [slv (rI .i64) p_1.Pool, slv (rI .i64) p_1.Withheld, slv rT_api_Move p_1.Script, iv .i64 p_1.Style]) rfl ⟨.inl slv_at, .inl slv_at, .inl slv_at, .inl iv_at, trivial⟩)) rfl (fun b2 => ?_)
  refine as1 rfl rfl ?_
  refine l_nil (n_then (ref_seq (ref_seq (ref_region ?_))))
  refine s_rd (r_cloadS Try.isAgg28 Try.sizeOf28 rfl (j := 0) rfl rfl rfl) rfl ?_
  refine s_rd (r_faddr (fo := 0) Try.underlying25 rfl rfl Try.sizeOf22 rfl) rfl ?_
  refine s_rd (r_cload Try.isAgg22 rfl (j := 1) rfl rfl) rfl ?_
  refine pull fun t3 h_t3 => ?_
  refine s_st (s_call (ψ := fun (_ : Unit) => bv t3) (args := [.tmp 5, .tmp 7]) Try.call73 rfl (net_Set_ok h_t3) ⟨arg rfl, arg rfl, trivial⟩ (fun _ _ _ _ h => h)) rfl (fun _ => ?_)
  refine s_rd (r_not rfl) rfl ?_
  refine mv1 rfl rfl ?_
  refine b_split (t := 10) rfl (fun _ => ?_) (fun _ => ?_)
  · refine s_off rfl rfl rfl rfl rfl ?_
    refine s_off rfl rfl rfl rfl rfl ?_
    refine s_off rfl rfl rfl rfl rfl ?_
    refine s_off rfl rfl rfl rfl rfl ?_
    refine s_off rfl rfl rfl rfl rfl ?_
    refine s_rd (r_pickT rfl rfl) rfl ?_
    refine l_nil (n_then ?_)
    refine ref_condT rfl rfl ?_
    refine ref_seq (ref_region ?_)
    refine as1 rfl rfl ?_
    refine l_nil (n_then (ref_ret (r_then ?_)))
    exact fin1 (.inl rfl) () [] rfl trivial rfl (rv_tmp rfl)
  refine s_on rfl rfl rfl ?_
  refine s_rd (r_cloadS Try.isAgg28 Try.sizeOf28 rfl (j := 0) rfl rfl rfl) rfl ?_
  refine s_on rfl rfl rfl ?_
  refine s_rd (r_faddr (fo := 1) Try.underlying25 rfl rfl Try.sizeOf22 rfl) rfl ?_
  refine s_on rfl rfl rfl ?_
  refine s_rd (r_cload Try.isAgg22 rfl (j := 1) rfl rfl) rfl ?_
  refine s_on rfl rfl rfl ?_
  refine pull fun t4 h_t4 => ?_
  refine s_st (s_call (ψ := fun (_ : Unit) => bv t4) (args := [.tmp 11, .tmp 13]) Try.call73 rfl (net_Set_ok h_t4) ⟨arg rfl, arg rfl, trivial⟩ (fun _ _ _ _ h => h)) rfl (fun _ => ?_)
  refine s_on rfl rfl rfl ?_
  refine s_rd (r_not rfl) rfl ?_
  refine s_rd (r_pickF rfl rfl) rfl ?_
  refine l_nil ?_
  refine b_of (nrm [oc b1 [iv .i64 g_0.N, slv rT_api_Pair g_0.L], oc b2 [slv (rI .i64) p_1.Pool, slv (rI .i64) p_1.Withheld, slv rT_api_Move p_1.Script, iv .i64 p_1.Style]] rfl) ?_
  refine n_then ?_
  refine ref_cond rfl (fun hb5 => ?_) (fun hb5 => ?_)
  · refine ref_seq (ref_region ?_)
    refine as1 rfl rfl ?_
    refine l_nil (n_then (ref_ret (r_then ?_)))
    exact fin1 (.inl rfl) () [] rfl trivial rfl (rv_tmp rfl)
  refine ref_skip (n_then (ref_seq (ref_seq (ref_region ?_))))
  refine s_rd (r_faddr (fo := 3) Try.underlying25 rfl rfl Try.sizeOf3 rfl) rfl ?_
  refine s_rd (r_cload Try.isAgg3 rfl (j := 1) rfl rfl) rfl ?_
  refine s_rd (r_lss rfl rfl) rfl ?_
  refine mv1 rfl rfl ?_
  refine b_split (t := 20) rfl (fun _ => ?_) (fun _ => ?_)
  · refine s_off rfl rfl rfl rfl rfl ?_
    refine s_off rfl rfl rfl rfl rfl ?_
    refine s_off rfl rfl rfl rfl rfl ?_
    refine s_rd (r_pickT rfl rfl) rfl ?_
    refine l_nil (n_then ?_)
    refine ref_condT rfl rfl ?_
    refine ref_seq (ref_region ?_)
    refine as1 rfl rfl ?_
    refine l_nil (n_then (ref_ret (r_then ?_)))
    exact fin1 (.inl rfl) () [] rfl trivial rfl (rv_tmp rfl)
  refine s_on rfl rfl rfl ?_
  refine s_rd (r_faddr (fo := 3) Try.underlying25 rfl rfl Try.sizeOf3 rfl) rfl ?_
  refine s_on rfl rfl rfl ?_
  refine s_rd (r_cload Try.isAgg3 rfl (j := 1) rfl rfl) rfl ?_
  refine s_on rfl rfl rfl ?_
  refine s_rd (r_gtr rfl rfl) rfl ?_
  refine s_rd (r_pickF rfl rfl) rfl ?_
  refine l_nil (n_then ?_)
  refine ref_cond rfl (fun hb6 => ?_) (fun hb6 => ?_)
  · refine ref_seq (ref_region ?_)
    refine as1 rfl rfl ?_
    refine l_nil (n_then (ref_ret (r_then ?_)))
    exact fin1 (.inl rfl) () [] rfl trivial rfl (rv_tmp rfl)
  refine ref_skip (n_then (ref_seq (ref_region ?_)))
  refine as1 rfl rfl ?_
  refine l_nil (n_then (ref_ret ?_))
  exact fin1 (.inl rfl) () [] rfl trivial rfl (rv_tmp rfl)

/-! deliberation/deliberationref28.Attacks -/
noncomputable def ref28_Attacks_l1 (p_1 : T_api_Player) (t3 : List T_api_Move) (s31 : Int × (List T_api_Move)) : Option (Sum ((List T_api_Move)) (Int × (List T_api_Move))) :=
  bif decide (s31.1 < (t3.length : Int)) then
    Option.bind (idxM t3 s31.1) fun t34 =>
    joinM (fun j38 : Bool =>
        bif j38 then
          Option.bind (appM 32 s31.2 [t34]) fun out42 =>
          some (Sum.inr (iadd .i64 s31.1 1, out42))
        else
          some (Sum.inr (iadd .i64 s31.1 1, s31.2))) fun k40 =>
    Option.bind (net_In_m p_1.Pool t34.Node) fun t36 =>
    bif t36 then
      Option.bind (net_In_m p_1.Withheld t34.Node) fun t37 =>
      k40 (!t37)
    else
      k40 false
  else
    some (Sum.inl s31.2)

noncomputable def ref28_Attacks_m (d_0 : T_api_Dialogue) (p_1 : T_api_Player) : Option (List T_api_Move) :=
  Option.bind (ref27_Legal_m d_0) fun t3 =>
  Option.bind (loopC (ref28_Attacks_l1 p_1 t3) (0, [])) fun q44 : (List T_api_Move) =>
  some q44

theorem ref28_Attacks_ok {d_0 : T_api_Dialogue} {p_1 : T_api_Player} {r : List T_api_Move} (hm : ref28_Attacks_m d_0 p_1 = some r) :
    FnOk prog 25 [ag [iv .i64 d_0.Graph.N, slv rT_api_Pair d_0.Graph.L, iv .i64 d_0.Root, iv .i64 d_0.Limits.i0, iv .i64 d_0.Limits.i1, slv rT_api_Move d_0.Moves], ag [slv (rI .i64) p_1.Pool, slv (rI .i64) p_1.Withheld, slv rT_api_Move p_1.Script, iv .i64 p_1.Style]] [] (fun (x : (Value × List Nat)) => [pv x.1]) (fun (x : (Value × List Nat)) => [oa rT_api_Move x.1 x.2 r]) := by
  refine fn_ok (X := (Value × List Nat)) (fn := Try.f25) (N := 34) (res := fun r x => [pv x.1]) (Ω1 := fun r x => [oa rT_api_Move x.1 x.2 r]) Try.func25 rfl rfl hm rfl (fun E hM => ?_)
  unfold ref28_Attacks_m
  refine ref_seq (ref_region ?_)
  refine s_st (s_box (part_agO (ψs := [iv .i64 d_0.Graph.N, slv rT_api_Pair d_0.Graph.L, iv .i64 d_0.Root, iv .i64 d_0.Limits.i0, iv .i64 d_0.Limits.i1, slv rT_api_Move d_0.Moves]) rfl ⟨.inl iv_at, .inl slv_at, .inl iv_at, .inl iv_at, .inl iv_at, .inl slv_at, trivial⟩)) rfl (fun b1 => ?_)
  refine s_st (s_box (part_agO (ψs := [slv (rI .i64) p_1.Pool, slv (rI .i64) p_1.Withheld, slv rT_api_Move p_1.Script, iv .i64 p_1.Style]) rfl ⟨.inl slv_at, .inl slv_at, .inl slv_at, .inl iv_at, trivial⟩)) rfl (fun b2 => ?_)
  refine as1 rfl rfl ?_
  refine l_nil (n_then (ref_seq (ref_region ?_)))
  refine as1 rfl rfl ?_
  refine l_nil (n_then (ref_seq (ref_seq (ref_region ?_))))
  refine s_rd (r_cloadS Try.isAgg35 Try.sizeOf35 rfl (j := 0) rfl rfl rfl) rfl ?_
  refine pull fun t3 h_t3 => ?_
  refine s_st (s_call (ψ := fun (x4 : (Value × List Nat)) => pv x4.1) (args := [.tmp 8]) Try.call30 rfl (ref27_Legal_ok h_t3) ⟨arg rfl, trivial⟩ (fun _ _ _ _ h => h)) rfl (fun x4 => ?_)
  refine s_rd (r_olen Try.underlying23 rfl (j := 2) rfl) rfl ?_
  refine mv1 rfl rfl ?_
  refine l_nil (n_then ?_)
  refine b_of (own_nil rT_api_Move) ?_
  refine ref_loopB (f := (ref28_Attacks_l1 p_1 t3)) (Γl := (fun (s31 : Int × (List T_api_Move)) (x32 : (Value × List Nat)) => [(3, pv (ptr b2 0)), (5, pv x32.1), (9, pv x4.1), (10, iv .i64 (t3.length : Int)), (11, iv .i64 s31.1)])) (Ωl := (fun (s31 : Int × (List T_api_Move)) (x32 : (Value × List Nat)) => [oc b2 [slv (rI .i64) p_1.Pool, slv (rI .i64) p_1.Withheld, slv rT_api_Move p_1.Script, iv .i64 p_1.Style], oa rT_api_Move x32.1 x32.2 s31.2, oa rT_api_Move x4.1 x4.2 t3])) (Γb := (fun (q44 : (List T_api_Move)) (y45 : (Value × List Nat)) => [(5, pv y45.1)])) (Ωb := (fun (q44 : (List T_api_Move)) (y45 : (Value × List Nat)) => [oa rT_api_Move y45.1 y45.2 q44])) (0, []) ((.slice none 0 0), []) (weak [1, 3, 2] ⟨rfl, rfl, rfl, rfl, rfl, trivial⟩ ⟨rfl, rfl, rfl, trivial⟩) (fun s31 x32 => ?_) (fun q44 y45 => ?_)
  · unfold ref28_Attacks_l1
    refine ref_seq (ref_region ?_)
    refine s_rd (r_lss rfl rfl) rfl ?_
    refine l_nil (n_then (ref_seq ?_))
    refine ref_cond rfl (fun hb33 => ?_) (fun hb33 => ?_)
    · refine ref_skip (n_then (ref_seq (ref_block (ref_seq (ref_region ?_)))))
      refine pull fun t34 h_t34 => ?_
      refine s_rd (r_oindex h_t34 Try.underlying23 el_40 rfl (j := 2) rfl rfl) rfl ?_
      refine s_rd (r_oload h_t34 el_40 rfl (j := 2) rfl) rfl ?_
      refine s_st (s_alloc zt_40) rfl (fun b35 => ?_)
      refine s_st0 (s_cstore (out := [iv .i64 t34.By, iv .i64 t34.Kind, iv .i64 t34.Node, iv .i64 t34.Target]) Try.sizeOf40 rfl (j := 3) rfl (part_agO (ψs := [iv .i64 t34.By, iv .i64 t34.Kind, iv .i64 t34.Node, iv .i64 t34.Target]) rfl ⟨.inl iv_at, .inl iv_at, .inl iv_at, .inl iv_at, trivial⟩) rfl rfl rfl) (fun _ => ?_)
      refine l_nil ?_
      refine b_of (nrm [oc b2 [slv (rI .i64) p_1.Pool, slv (rI .i64) p_1.Withheld, slv rT_api_Move p_1.Script, iv .i64 p_1.Style], oa rT_api_Move x32.1 x32.2 s31.2, oa rT_api_Move x4.1 x4.2 t3, oc b35 [iv .i64 t34.By, iv .i64 t34.Kind, iv .i64 t34.Node, iv .i64 t34.Target]] rfl) ?_
      refine n_then (ref_seq ?_)
      refine ref_join (fun (j38 : Bool) (x39 : Unit) => [(3, pv (ptr b2 0)), (5, pv x32.1), (7, pv (ptr b35 0)), (9, pv x4.1), (10, iv .i64 (t3.length : Int)), (11, iv .i64 s31.1), (27, bv j38)]) (fun (j38 : Bool) (x39 : Unit) => [oc b2 [slv (rI .i64) p_1.Pool, slv (rI .i64) p_1.Withheld, slv rT_api_Move p_1.Script, iv .i64 p_1.Style], oa rT_api_Move x32.1 x32.2 s31.2, oc b35 [iv .i64 t34.By, iv .i64 t34.Kind, iv .i64 t34.Node, iv .i64 t34.Target], oa rT_api_Move x4.1 x4.2 t3]) (fun k40 hk40 => ?_) (fun j38 x39 => ?_)
      · refine ref_region ?_
        refine s_rd (r_faddr (fo := 0) Try.underlying25 rfl rfl Try.sizeOf22 rfl) rfl ?_
        refine s_rd (r_cload Try.isAgg22 rfl (j := 0) rfl rfl) rfl ?_
        refine s_rd (r_faddr (fo := 2) Try.underlying40 rfl rfl Try.sizeOf3 rfl) rfl ?_
        refine s_rd (r_cload Try.isAgg3 rfl (j := 3) rfl rfl) rfl ?_
        refine pull fun t36 h_t36 => ?_
        refine s_st (s_call (ψ := fun (_ : Unit) => bv t36) (args := [.tmp 16, .tmp 18]) Try.call57 rfl (net_In_ok h_t36) ⟨arg rfl, arg rfl, trivial⟩ (fun _ _ _ _ h => h)) rfl (fun _ => ?_)
        refine mv1 rfl rfl ?_
        refine b_split (t := 20) rfl (fun _ => ?_) (fun _ => ?_)
        · refine s_on rfl rfl rfl ?_
          refine s_rd (r_faddr (fo := 1) Try.underlying25 rfl rfl Try.sizeOf22 rfl) rfl ?_
          refine s_on rfl rfl rfl ?_
          refine s_rd (r_cload Try.isAgg22 rfl (j := 0) rfl rfl) rfl ?_
          refine s_on rfl rfl rfl ?_
          refine s_rd (r_faddr (fo := 2) Try.underlying40 rfl rfl Try.sizeOf3 rfl) rfl ?_
          refine s_on rfl rfl rfl ?_
          refine s_rd (r_cload Try.isAgg3 rfl (j := 3) rfl rfl) rfl ?_
          refine s_on rfl rfl rfl ?_
          refine pull fun t37 h_t37 => ?_
          refine s_st (s_call (ψ := fun (_ : Unit) => bv t37) (args := [.tmp 22, .tmp 24]) Try.call57 rfl (net_In_ok h_t37) ⟨arg rfl, arg rfl, trivial⟩ (fun _ _ _ _ h => h)) rfl (fun _ => ?_)
          refine s_on rfl rfl rfl ?_
          refine s_rd (r_not rfl) rfl ?_
          refine s_rd (r_pickT rfl rfl) rfl ?_
          refine l_nil ?_
          exact b_to (hk40 (!t37) ()) (weak [0, 1, 3, 2] ⟨rfl, rfl, rfl, rfl, rfl, rfl, rfl, trivial⟩ ⟨rfl, rfl, rfl, rfl, trivial⟩)
        refine s_off rfl rfl rfl rfl rfl ?_
        refine s_off rfl rfl rfl rfl rfl ?_
        refine s_off rfl rfl rfl rfl rfl ?_
        refine s_off rfl rfl rfl rfl rfl ?_
        refine s_off rfl rfl rfl rfl rfl ?_
        refine s_off rfl rfl rfl rfl rfl ?_
        refine s_rd (r_pickF rfl rfl) rfl ?_
        refine l_nil ?_
        exact b_to (hk40 false ()) (weak [0, 1, 3, 2] ⟨rfl, rfl, rfl, rfl, rfl, rfl, rfl, trivial⟩ ⟨rfl, rfl, rfl, rfl, trivial⟩)
      refine n_then ?_
      refine ref_cond rfl (fun hb41 => ?_) (fun hb41 => ?_)
      · refine ref_region ?_
        refine mv1 rfl rfl ?_
        refine s_rd (r_cloadS Try.isAgg40 Try.sizeOf40 rfl (j := 2) rfl rfl rfl) rfl ?_
        refine s_st (s_bslice (xs := [.tmp 29]) (ds := [t34]) Try.underlying23 el_40 rfl (Nat.le_of_ble_eq_true rfl) ⟨(part_agO (ψs := [iv .i64 t34.By, iv .i64 t34.Kind, iv .i64 t34.Node, iv .i64 t34.Target]) rfl ⟨.inl iv_at, .inl iv_at, .inl iv_at, .inl iv_at, trivial⟩), trivial⟩) rfl (fun _ => ?_)
        refine pull fun out42 h_out42 => ?_
        refine s_st (s_append h_out42 Try.underlying23 el_40 rfl (j := 1) rfl rfl) rfl (fun o43 => ?_)
        refine as1 rfl rfl ?_
        refine l_nil (n_block (n_then (ref_region ?_)))
        refine s_rd (r_add rfl rfl) rfl ?_
        refine mv1 rfl rfl ?_
        refine l_nil ?_
        exact goB o43 (weak [0, 1, 3] ⟨rfl, rfl, rfl, rfl, rfl, trivial⟩ ⟨rfl, rfl, rfl, trivial⟩)
      refine ref_skip (n_block (n_then (ref_region ?_)))
      refine s_rd (r_add rfl rfl) rfl ?_
      refine mv1 rfl rfl ?_
      refine l_nil ?_
      exact goB x32 (weak [0, 1, 3] ⟨rfl, rfl, rfl, rfl, rfl, trivial⟩ ⟨rfl, rfl, rfl, trivial⟩)
    refine ref_exit (x_then ?_)
    exact brkB x32 (weak [1] ⟨rfl, trivial⟩ ⟨rfl, trivial⟩)
  refine n_then (ref_seq (ref_region ?_))
  refine mv1 rfl rfl ?_
  refine as1 rfl rfl ?_
  refine l_nil (n_then (ref_ret ?_))
  exact fin1 (.inl rfl) y45 [0] rfl ⟨rfl, trivial⟩ rfl (rv_tmp rfl)

end Go.Dc
