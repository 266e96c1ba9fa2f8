/- Part LAW28C.A3 of a proof: lemmas. -/
import Derived.Test.YtodnndlcnignbaaLAW28CA2
import Derived.Test.YtodnndlcnignbaaProg
set_option linter.unusedVariables false
set_option maxRecDepth 100000
set_option maxHeartbeats 4000000
namespace Go.Dc
open Go.Proofs
open Go.Proofs.Try (prog)

/-! deliberation/deliberationref28.scripted -/
noncomputable def ref28_scripted_l1 (d_0 : T_api_Dialogue) (by_4 : Int) (s10 : Int × Int) : Option (Sum (Int) (Int × Int)) :=
  bif decide (s10.2 < (d_0.Moves.length : Int)) then
    Option.bind (idxM d_0.Moves s10.2) fun t13 =>
    bif t13.By == by_4 then
      letM (iadd .i64 s10.1 1) fun k15 =>
      letM (iadd .i64 s10.2 1) fun i16x =>
      some (Sum.inr (k15, i16x))
    else
      letM (iadd .i64 s10.2 1) fun i17 =>
      some (Sum.inr (s10.1, i17))
  else
    some (Sum.inl s10.1)

noncomputable def ref28_scripted_l2 (l_2 : (List T_api_Move)) (by_4 : Int) (t21 : T_api_Move) (s30 : Int) : Option (Sum ((Sum (T_api_Move × Bool) (Unit))) (Int)) :=
  bif decide (s30 < (l_2.length : Int)) then
    Option.bind (idxM l_2 s30) fun t33 =>
    bif decide (t33 = (T_api_Move.mk by_4 t21.Kind t21.Node t21.Target)) then
      some (Sum.inl (Sum.inl ((T_api_Move.mk by_4 t21.Kind t21.Node t21.Target), true)))
    else
      some (Sum.inr (iadd .i64 s30 1))
  else
    some (Sum.inl (Sum.inr ()))

noncomputable def ref28_scripted_m (d_0 : T_api_Dialogue) (p_1 : T_api_Player) (l_2 : (List T_api_Move)) : Option (T_api_Move × Bool) :=
  Option.bind (ref27_Turn_m d_0) fun by_4 =>
  Option.bind (loopC (ref28_scripted_l1 d_0 by_4) (0, 1)) fun q18 : Int =>
  bif decide (q18 ≥ (p_1.Script.length : Int)) then
    some ((T_api_Move.mk 0 0 0 0), false)
  else
    Option.bind (idxM p_1.Script q18) fun t21 =>
    bif t21.Kind == 2 then
      Option.bind (loopC (ref28_scripted_l2 l_2 by_4 t21) 0) (sumK (fun a : T_api_Move × Bool => some a) fun q36 : Unit =>
        some ((T_api_Move.mk 0 0 0 0), false))
    else
      Option.bind (ref27_Apply_m d_0 (T_api_Move.mk by_4 t21.Kind t21.Node t21.Target)) fun t38 =>
      bif t38.2 != 0 then
        some ((T_api_Move.mk 0 0 0 0), false)
      else
        Option.bind (idxM t38.1.Moves (isub .i64 (t38.1.Moves.length : Int) 1)) fun t41 =>
        some (t41, true)

theorem ref28_scripted_ok {d_0 : T_api_Dialogue} {p_1 : T_api_Player} {l_2 : (List T_api_Move)} {r : T_api_Move × Bool} (hm : ref28_scripted_m d_0 p_1 l_2 = some r) :
    FnOk prog 43 [ag [iv .i64 d_0.Graph.N, slv rT_api_Pair d_0.Graph.L, iv .i64 d_0.Root, iv .i64 d_0.Limits.i0, iv .i64 d_0.Limits.i1, slv rT_api_Move d_0.Moves], ag [slv (rI .i64) p_1.Pool, slv (rI .i64) p_1.Withheld, slv rT_api_Move p_1.Script, iv .i64 p_1.Style], slv rT_api_Move l_2] [] (fun (x : Unit) => [ag [iv .i64 r.1.By, iv .i64 r.1.Kind, iv .i64 r.1.Node, iv .i64 r.1.Target], bv r.2]) (fun (x : Unit) => []) := by
  refine fn_ok (fn := Try.f43) (N := 80) (res := fun r x => [ag [iv .i64 r.1.By, iv .i64 r.1.Kind, iv .i64 r.1.Node, iv .i64 r.1.Target], bv r.2]) (Ω1 := fun r x => []) Try.func43 rfl rfl hm rfl (fun E hM => ?_)
  unfold ref28_scripted_m
  refine ref_seq (ref_region ?_)
  refine s_st (s_box (part_agO (ψs := [iv .i64 d_0.Graph.N, slv rT_api_Pair d_0.Graph.L, iv .i64 d_0.Root, iv .i64 d_0.Limits.i0, iv .i64 d_0.Limits.i1, slv rT_api_Move d_0.Moves]) rfl ⟨.inl iv_at, .inl slv_at, .inl iv_at, .inl iv_at, .inl iv_at, .inl slv_at, trivial⟩)) rfl (fun b1 => ?_)
  refine s_st (s_box (part_agO (ψs := [slv (rI .i64) p_1.Pool, slv (rI .i64) p_1.Withheld, slv rT_api_Move p_1.Script, iv .i64 p_1.Style]) rfl ⟨.inl slv_at, .inl slv_at, .inl slv_at, .inl iv_at, trivial⟩)) rfl (fun b2 => ?_)
  refine s_st (s_alloc zt_40) rfl (fun b3 => ?_)
  refine as1 rfl rfl ?_
  refine l_nil (n_then (ref_seq (ref_region ?_)))
  refine s_rd (r_cloadS Try.isAgg35 Try.sizeOf35 rfl (j := 0) rfl rfl rfl) rfl ?_
  refine pull fun by_4 h_by_4 => ?_
  refine s_st (s_call (ψ := fun (_ : Unit) => iv .i64 by_4) (args := [.tmp 16]) Try.call41 rfl (ref27_Turn_ok h_by_4) ⟨arg rfl, trivial⟩ (fun _ _ _ _ h => h)) rfl (fun _ => ?_)
  refine as1 rfl rfl ?_
  refine as1 rfl rfl ?_
  refine l_nil ?_
  refine b_of (nrm [oc b1 [iv .i64 d_0.Graph.N, slv rT_api_Pair d_0.Graph.L, iv .i64 d_0.Root, iv .i64 d_0.Limits.i0, iv .i64 d_0.Limits.i1, slv rT_api_Move d_0.Moves], oc b2 [slv (rI .i64) p_1.Pool, slv (rI .i64) p_1.Withheld, slv rT_api_Move p_1.Script, iv .i64 p_1.Style], oc b3 [iv .i64 0, iv .i64 0, iv .i64 0, iv .i64 0]] rfl) ?_
  refine n_then (ref_seq (ref_seq (ref_region ?_)))
  refine as1 rfl rfl ?_
  refine l_nil (n_then ?_)
  refine ref_loopB (f := (ref28_scripted_l1 d_0 by_4)) (Γl := (fun (s10 : Int × Int) (x11 : Unit) => [(2, slv rT_api_Move l_2), (3, pv (ptr b1 0)), (4, pv (ptr b2 0)), (6, pv (ptr b3 0)), (8, iv .i64 by_4), (9, iv .i64 s10.1), (10, iv .i64 s10.2)])) (Ωl := (fun (s10 : Int × Int) (x11 : Unit) => [oc b1 [iv .i64 d_0.Graph.N, slv rT_api_Pair d_0.Graph.L, iv .i64 d_0.Root, iv .i64 d_0.Limits.i0, iv .i64 d_0.Limits.i1, slv rT_api_Move d_0.Moves], oc b2 [slv (rI .i64) p_1.Pool, slv (rI .i64) p_1.Withheld, slv rT_api_Move p_1.Script, iv .i64 p_1.Style], oc b3 [iv .i64 0, iv .i64 0, iv .i64 0, iv .i64 0]])) (Γb := (fun (q18 : Int) (y19 : Unit) => [(2, slv rT_api_Move l_2), (3, pv (ptr b1 0)), (4, pv (ptr b2 0)), (6, pv (ptr b3 0)), (8, iv .i64 by_4), (9, iv .i64 q18)])) (Ωb := (fun (q18 : Int) (y19 : Unit) => [oc b1 [iv .i64 d_0.Graph.N, slv rT_api_Pair d_0.Graph.L, iv .i64 d_0.Root, iv .i64 d_0.Limits.i0, iv .i64 d_0.Limits.i1, slv rT_api_Move d_0.Moves], oc b2 [slv (rI .i64) p_1.Pool, slv (rI .i64) p_1.Withheld, slv rT_api_Move p_1.Script, iv .i64 p_1.Style], oc b3 [iv .i64 0, iv .i64 0, iv .i64 0, iv .i64 0]])) (0, 1) () (weak [0, 1, 2] ⟨rfl, rfl, rfl, rfl, rfl, rfl, rfl, trivial⟩ ⟨rfl, rfl, rfl, trivial⟩) (fun s10 x11 => ?_) (fun q18 y19 => ?_)
  · unfold ref28_scripted_l1
    refine ref_seq (ref_seq (ref_region ?_))
    refine mv1 rfl rfl ?_
    refine s_rd (r_faddr (fo := 5) Try.underlying35 rfl rfl Try.sizeOf23 rfl) rfl ?_
    refine s_rd (r_cload Try.isAgg23 rfl (j := 0) rfl rfl) rfl ?_
    refine s_rd (r_len Try.underlying23 rfl) rfl ?_
    refine s_rd (r_lss rfl rfl) rfl ?_
    refine l_nil (n_then ?_)
    refine ref_cond rfl (fun hb12 => ?_) (fun hb12 => ?_)
    · refine ref_skip (n_then (ref_seq (ref_block (ref_seq (ref_region ?_)))))
      refine s_rd (r_faddr (fo := 5) Try.underlying35 rfl rfl Try.sizeOf23 rfl) rfl ?_
      refine s_rd (r_cload Try.isAgg23 rfl (j := 0) rfl rfl) rfl ?_
      refine mv1 rfl rfl ?_
      refine pull fun t13 h_t13 => ?_
      refine s_rd (r_index h_t13 Try.underlying23 el_40 rfl rfl) rfl ?_
      refine s_rd (r_fea (fo := 0) (ρ := rT_api_Move) (y := t13) (ρ' := (rI .i64)) (z := t13.By) Try.underlying40 rfl rfl Try.sizeOf3 rfl rfl rfl) rfl ?_
      refine s_rd (r_load el_3 rfl) rfl ?_
      refine mv1 rfl rfl ?_
      refine s_rd (r_eql rfl rfl) rfl ?_
      refine l_nil (n_then ?_)
      refine ref_cond rfl (fun hb14 => ?_) (fun hb14 => ?_)
      · refine ref_region ?_
        refine mv1 rfl rfl ?_
        refine s_rd (r_add rfl rfl) rfl ?_
        refine as1 rfl rfl ?_
        refine b_let (f := iv .i64) (t := 9) rfl fun k15 => ?_
        refine l_nil (n_block (n_then (ref_region ?_)))
        refine mv1 rfl rfl ?_
        refine s_rd (r_add rfl rfl) rfl ?_
        refine as1 rfl rfl ?_
        refine b_let (f := iv .i64) (t := 10) rfl fun i16x => ?_
        refine l_nil ?_
        exact goB () (weak [0, 1, 2] ⟨rfl, rfl, rfl, rfl, rfl, rfl, rfl, trivial⟩ ⟨rfl, rfl, rfl, trivial⟩)
      refine ref_skip (n_block (n_then (ref_region ?_)))
      refine mv1 rfl rfl ?_
      refine s_rd (r_add rfl rfl) rfl ?_
      refine as1 rfl rfl ?_
      refine b_let (f := iv .i64) (t := 10) rfl fun i17 => ?_
      refine l_nil ?_
      exact goB () (weak [0, 1, 2] ⟨rfl, rfl, rfl, rfl, rfl, rfl, rfl, trivial⟩ ⟨rfl, rfl, rfl, trivial⟩)
    refine ref_exit (x_then ?_)
    exact brkB () (weak [0, 1, 2] ⟨rfl, rfl, rfl, rfl, rfl, rfl, trivial⟩ ⟨rfl, rfl, rfl, trivial⟩)
  refine n_then (ref_seq (ref_seq (ref_region ?_)))
  refine mv1 rfl rfl ?_
  refine s_rd (r_faddr (fo := 2) Try.underlying25 rfl rfl Try.sizeOf23 rfl) rfl ?_
  refine s_rd (r_cload Try.isAgg23 rfl (j := 1) rfl rfl) rfl ?_
  refine s_rd (r_len Try.underlying23 rfl) rfl ?_
  refine s_rd (r_geq rfl rfl) rfl ?_
  refine l_nil (n_then ?_)
  refine ref_cond rfl (fun hb20 => ?_) (fun hb20 => ?_)
  · refine ref_seq (ref_region ?_)
    refine s_rd (r_build (ps := []) (rs := []) st_40 zs_40 trivial rfl rfl) rfl ?_
    refine s_st0 (s_cstore (out := [iv .i64 0, iv .i64 0, iv .i64 0, iv .i64 0]) Try.sizeOf40 rfl (j := 2) rfl (part_agO (ψs := [iv .i64 0, iv .i64 0, iv .i64 0, iv .i64 0]) rfl ⟨.inl iv_at, .inl iv_at, .inl iv_at, .inl iv_at, trivial⟩) rfl rfl rfl) (fun _ => ?_)
    refine as1 rfl rfl ?_
    refine l_nil (n_then (ref_ret (r_then ?_)))
    exact fin2 (.inl rfl) () [] rfl trivial rfl (rv_cell rfl (j := 2) rfl Try.isAgg40 Try.sizeOf40 rfl rfl) (rv_tmp rfl)
  refine ref_skip (n_then (ref_seq (ref_region ?_)))
  refine s_rd (r_faddr (fo := 2) Try.underlying25 rfl rfl Try.sizeOf23 rfl) rfl ?_
  refine s_rd (r_cload Try.isAgg23 rfl (j := 1) rfl rfl) rfl ?_
  refine mv1 rfl rfl ?_
  refine pull fun t21 h_t21 => ?_
  refine s_rd (r_index h_t21 Try.underlying23 el_40 rfl rfl) rfl ?_
  refine s_rd (r_load el_40 rfl) rfl ?_
  refine s_st (s_alloc zt_40) rfl (fun b22 => ?_)
  refine s_st0 (s_cstore (out := [iv .i64 t21.By, iv .i64 t21.Kind, iv .i64 t21.Node, iv .i64 t21.Target]) Try.sizeOf40 rfl (j := 3) rfl (part_agO (ψs := [iv .i64 t21.By, iv .i64 t21.Kind, iv .i64 t21.Node, iv .i64 t21.Target]) rfl ⟨.inl iv_at, .inl iv_at, .inl iv_at, .inl iv_at, trivial⟩) rfl rfl rfl) (fun _ => ?_)
  refine l_nil (n_then (ref_seq (ref_region ?_)))
  refine mv1 rfl rfl ?_
  refine s_rd (r_faddr (fo := 0) Try.underlying40 rfl rfl Try.sizeOf3 rfl) rfl ?_
  refine s_st0 (s_cstore (out := [iv .i64 by_4, iv .i64 t21.Kind, iv .i64 t21.Node, iv .i64 t21.Target]) Try.sizeOf3 rfl (j := 3) rfl (part_at rfl iv_at) rfl rfl rfl) (fun _ => ?_)
  refine l_nil (n_then (ref_seq (ref_seq (ref_region ?_))))
  refine s_rd (r_faddr (fo := 1) Try.underlying40 rfl rfl Try.sizeOf3 rfl) rfl ?_
  refine s_rd (r_cload Try.isAgg3 rfl (j := 3) rfl rfl) rfl ?_
  refine s_rd (r_eql rfl rfl) rfl ?_
  refine l_nil (n_then ?_)
  refine ref_cond rfl (fun hb23 => ?_) (fun hb23 => ?_)
  · refine ref_seq (ref_seq (ref_region ?_))
    refine mv1 rfl rfl ?_
    refine s_rd (r_len Try.underlying23 rfl) rfl ?_
    refine mv1 rfl rfl ?_
    refine l_nil (n_then ?_)
    refine ref_loopX (f := (ref28_scripted_l2 l_2 by_4 t21)) (Γl := (fun (s30 : Int) (x31 : Unit) => [(6, pv (ptr b3 0)), (11, pv (ptr b22 0)), (51, slv rT_api_Move l_2), (52, iv .i64 (l_2.length : Int)), (53, iv .i64 s30)])) (Ωl := (fun (s30 : Int) (x31 : Unit) => [oc b3 [iv .i64 0, iv .i64 0, iv .i64 0, iv .i64 0], oc b22 [iv .i64 by_4, iv .i64 t21.Kind, iv .i64 t21.Node, iv .i64 t21.Target]])) (Γb := (fun (q36 : Unit) (y37 : Unit) => [(6, pv (ptr b3 0))])) (Ωb := (fun (q36 : Unit) (y37 : Unit) => [oc b3 [iv .i64 0, iv .i64 0, iv .i64 0, iv .i64 0]])) (kr := (fun a : T_api_Move × Bool => some a)) 0 () (weak [2, 3] ⟨rfl, rfl, rfl, rfl, rfl, trivial⟩ ⟨rfl, rfl, trivial⟩) (fun s30 x31 => ?_) (fun q36 y37 => ?_)
    · unfold ref28_scripted_l2
      refine ref_seq (ref_region ?_)
      refine s_rd (r_lss rfl rfl) rfl ?_
      refine l_nil (n_then (ref_seq ?_))
      refine ref_cond rfl (fun hb32 => ?_) (fun hb32 => ?_)
      · refine ref_skip (n_then (ref_seq (ref_block (ref_seq (ref_region ?_)))))
        refine pull fun t33 h_t33 => ?_
        refine s_rd (r_index h_t33 Try.underlying23 el_40 rfl rfl) rfl ?_
        refine s_rd (r_load el_40 rfl) rfl ?_
        refine s_st (s_alloc zt_40) rfl (fun b34 => ?_)
        refine s_st0 (s_cstore (out := [iv .i64 t33.By, iv .i64 t33.Kind, iv .i64 t33.Node, iv .i64 t33.Target]) Try.sizeOf40 rfl (j := 2) rfl (part_agO (ψs := [iv .i64 t33.By, iv .i64 t33.Kind, iv .i64 t33.Node, iv .i64 t33.Target]) rfl ⟨.inl iv_at, .inl iv_at, .inl iv_at, .inl iv_at, trivial⟩) rfl rfl rfl) (fun _ => ?_)
        refine l_nil ?_
        refine b_of (nrm [oc b3 [iv .i64 0, iv .i64 0, iv .i64 0, iv .i64 0], oc b22 [iv .i64 by_4, iv .i64 t21.Kind, iv .i64 t21.Node, iv .i64 t21.Target], oc b34 [iv .i64 t33.By, iv .i64 t33.Kind, iv .i64 t33.Node, iv .i64 t33.Target]] rfl) ?_
        refine n_then (ref_seq (ref_region ?_))
        refine s_rd (r_cloadS Try.isAgg40 Try.sizeOf40 rfl (j := 2) rfl rfl rfl) rfl ?_
        refine s_rd (r_cloadS Try.isAgg40 Try.sizeOf40 rfl (j := 1) rfl rfl rfl) rfl ?_
        refine s_rd (r_steql (u := t33) (v := (T_api_Move.mk by_4 t21.Kind t21.Node t21.Target)) eq_40 rfl rfl rfl rfl) rfl ?_
        refine l_nil (n_then ?_)
        refine ref_cond rfl (fun hb35 => ?_) (fun hb35 => ?_)
        · refine ref_seq (ref_region ?_)
          refine s_rd (r_cloadS Try.isAgg40 Try.sizeOf40 rfl (j := 1) rfl rfl rfl) rfl ?_
          refine s_st0 (s_cstore (out := [iv .i64 by_4, iv .i64 t21.Kind, iv .i64 t21.Node, iv .i64 t21.Target]) Try.sizeOf40 rfl (j := 0) rfl (part_agO (ψs := [iv .i64 by_4, iv .i64 t21.Kind, iv .i64 t21.Node, iv .i64 t21.Target]) rfl ⟨.inl iv_at, .inl iv_at, .inl iv_at, .inl iv_at, trivial⟩) rfl rfl rfl) (fun _ => ?_)
          refine as1 rfl rfl ?_
          refine l_nil (n_then (ref_ret (r_block (r_then ?_))))
          refine retX ?_
          refine r_block (r_then (r_then ?_))
          exact fin2 (.inl rfl) () [] rfl trivial rfl (rv_cell rfl (j := 0) rfl Try.isAgg40 Try.sizeOf40 rfl rfl) (rv_tmp rfl)
        refine ref_skip (n_block (n_then (ref_region ?_)))
        refine s_rd (r_add rfl rfl) rfl ?_
        refine mv1 rfl rfl ?_
        refine l_nil ?_
        exact goX () (weak [0, 1] ⟨rfl, rfl, rfl, rfl, rfl, trivial⟩ ⟨rfl, rfl, trivial⟩)
      refine ref_exit (x_then ?_)
      exact brkX () (weak [0] ⟨rfl, trivial⟩ ⟨rfl, trivial⟩)
    refine n_then (ref_seq (ref_region ?_))
    refine s_rd (r_build (ps := []) (rs := []) st_40 zs_40 trivial rfl rfl) rfl ?_
    refine s_st0 (s_cstore (out := [iv .i64 0, iv .i64 0, iv .i64 0, iv .i64 0]) Try.sizeOf40 rfl (j := 0) rfl (part_agO (ψs := [iv .i64 0, iv .i64 0, iv .i64 0, iv .i64 0]) rfl ⟨.inl iv_at, .inl iv_at, .inl iv_at, .inl iv_at, trivial⟩) rfl rfl rfl) (fun _ => ?_)
    refine as1 rfl rfl ?_
    refine l_nil (n_then (ref_ret (r_then ?_)))
    exact fin2 (.inl rfl) () [] rfl trivial rfl (rv_cell rfl (j := 0) rfl Try.isAgg40 Try.sizeOf40 rfl rfl) (rv_tmp rfl)
  refine ref_skip (n_then (ref_seq (ref_region ?_)))
  refine s_rd (r_cloadS Try.isAgg35 Try.sizeOf35 rfl (j := 0) rfl rfl rfl) rfl ?_
  refine s_rd (r_cloadS Try.isAgg40 Try.sizeOf40 rfl (j := 3) rfl rfl rfl) rfl ?_
  refine pull fun t38 h_t38 => ?_
  refine s_st (s_call (ψ := fun (_ : Unit) => tup [ag [iv .i64 t38.1.Graph.N, slv rT_api_Pair t38.1.Graph.L, iv .i64 t38.1.Root, iv .i64 t38.1.Limits.i0, iv .i64 t38.1.Limits.i1, slv rT_api_Move t38.1.Moves], iv .i64 t38.2]) (args := [.tmp 64, .tmp 65]) Try.call26 rfl (ref27_Apply_ok h_t38) ⟨arg rfl, arg rfl, trivial⟩ (fun _ _ _ _ h => h)) rfl (fun _ => ?_)
  refine mv1 rfl rfl ?_
  refine s_rd (r_extract rfl rfl) rfl ?_
  refine s_rd (r_extract rfl rfl) rfl ?_
  refine s_st (s_alloc zt_35) rfl (fun b39 => ?_)
  refine s_st0 (s_cstore (out := [iv .i64 t38.1.Graph.N, slv rT_api_Pair t38.1.Graph.L, iv .i64 t38.1.Root, iv .i64 t38.1.Limits.i0, iv .i64 t38.1.Limits.i1, slv rT_api_Move t38.1.Moves]) Try.sizeOf35 rfl (j := 4) rfl (part_agO (ψs := [iv .i64 t38.1.Graph.N, slv rT_api_Pair t38.1.Graph.L, iv .i64 t38.1.Root, iv .i64 t38.1.Limits.i0, iv .i64 t38.1.Limits.i1, slv rT_api_Move t38.1.Moves]) rfl ⟨.inl iv_at, .inl slv_at, .inl iv_at, .inl iv_at, .inl iv_at, .inl slv_at, trivial⟩) rfl rfl rfl) (fun _ => ?_)
  refine as1 rfl rfl ?_
  refine l_nil ?_
  refine b_of (nrm [oc b1 [iv .i64 d_0.Graph.N, slv rT_api_Pair d_0.Graph.L, iv .i64 d_0.Root, iv .i64 d_0.Limits.i0, iv .i64 d_0.Limits.i1, slv rT_api_Move d_0.Moves], oc b2 [slv (rI .i64) p_1.Pool, slv (rI .i64) p_1.Withheld, slv rT_api_Move p_1.Script, iv .i64 p_1.Style], oc b3 [iv .i64 0, iv .i64 0, iv .i64 0, iv .i64 0], oc b22 [iv .i64 by_4, iv .i64 t21.Kind, iv .i64 t21.Node, iv .i64 t21.Target], oc b39 [iv .i64 t38.1.Graph.N, slv rT_api_Pair t38.1.Graph.L, iv .i64 t38.1.Root, iv .i64 t38.1.Limits.i0, iv .i64 t38.1.Limits.i1, slv rT_api_Move t38.1.Moves]] rfl) ?_
  refine n_then (ref_seq (ref_seq (ref_region ?_)))
  refine mv1 rfl rfl ?_
  refine s_rd (r_neq rfl rfl) rfl ?_
  refine l_nil (n_then ?_)
  refine ref_cond rfl (fun hb40 => ?_) (fun hb40 => ?_)
  · refine ref_seq (ref_region ?_)
    refine s_rd (r_build (ps := []) (rs := []) st_40 zs_40 trivial rfl rfl) rfl ?_
    refine s_st0 (s_cstore (out := [iv .i64 0, iv .i64 0, iv .i64 0, iv .i64 0]) Try.sizeOf40 rfl (j := 2) rfl (part_agO (ψs := [iv .i64 0, iv .i64 0, iv .i64 0, iv .i64 0]) rfl ⟨.inl iv_at, .inl iv_at, .inl iv_at, .inl iv_at, trivial⟩) rfl rfl rfl) (fun _ => ?_)
    refine as1 rfl rfl ?_
    refine l_nil (n_then (ref_ret (r_then ?_)))
    exact fin2 (.inl rfl) () [] rfl trivial rfl (rv_cell rfl (j := 2) rfl Try.isAgg40 Try.sizeOf40 rfl rfl) (rv_tmp rfl)
  refine ref_skip (n_then (ref_seq (ref_region ?_)))
  refine s_rd (r_faddr (fo := 5) Try.underlying35 rfl rfl Try.sizeOf23 rfl) rfl ?_
  refine s_rd (r_cload Try.isAgg23 rfl (j := 4) rfl rfl) rfl ?_
  refine s_rd (r_faddr (fo := 5) Try.underlying35 rfl rfl Try.sizeOf23 rfl) rfl ?_
  refine s_rd (r_cload Try.isAgg23 rfl (j := 4) rfl rfl) rfl ?_
  refine s_rd (r_len Try.underlying23 rfl) rfl ?_
  refine s_rd (r_sub rfl rfl) rfl ?_
  refine pull fun t41 h_t41 => ?_
  refine s_rd (r_index h_t41 Try.underlying23 el_40 rfl rfl) rfl ?_
  refine s_rd (r_load el_40 rfl) rfl ?_
  refine s_st0 (s_cstore (out := [iv .i64 t41.By, iv .i64 t41.Kind, iv .i64 t41.Node, iv .i64 t41.Target]) Try.sizeOf40 rfl (j := 2) rfl (part_agO (ψs := [iv .i64 t41.By, iv .i64 t41.Kind, iv .i64 t41.Node, iv .i64 t41.Target]) rfl ⟨.inl iv_at, .inl iv_at, .inl iv_at, .inl iv_at, trivial⟩) rfl rfl rfl) (fun _ => ?_)
  refine as1 rfl rfl ?_
  refine l_nil (n_then (ref_ret ?_))
  exact fin2 (.inl rfl) () [] rfl trivial rfl (rv_cell rfl (j := 2) rfl Try.isAgg40 Try.sizeOf40 rfl rfl) (rv_tmp rfl)

/-! deliberation/deliberationref28.attackers -/
noncomputable def ref28_attackers_l1 (g_0 : T_api_Graph) (a__1 : Int) (s7 : Int × Int) : Option (Sum (Int) (Int × Int)) :=
  bif decide (s7.2 < (g_0.L.length : Int)) then
    Option.bind (idxM g_0.L s7.2) fun t10 =>
    bif t10.To == a__1 then
      letM (iadd .i64 s7.1 1) fun n12 =>
      letM (iadd .i64 s7.2 1) fun i13 =>
      some (Sum.inr (n12, i13))
    else
      letM (iadd .i64 s7.2 1) fun i14 =>
      some (Sum.inr (s7.1, i14))
  else
    some (Sum.inl s7.1)

noncomputable def ref28_attackers_m (g_0 : T_api_Graph) (a__1 : Int) : Option (Int) :=
  Option.bind (loopC (ref28_attackers_l1 g_0 a__1) (0, 0)) fun q15 : Int =>
  some q15

theorem ref28_attackers_ok {g_0 : T_api_Graph} {a__1 : Int} {r : Int} (hm : ref28_attackers_m g_0 a__1 = some r) :
    FnOk prog 44 [ag [iv .i64 g_0.N, slv rT_api_Pair g_0.L], iv .i64 a__1] [] (fun (x : Unit) => [iv .i64 r]) (fun (x : Unit) => []) := by
  refine fn_ok (fn := Try.f44) (N := 25) (res := fun r x => [iv .i64 r]) (Ω1 := fun r x => []) Try.func44 rfl rfl hm rfl (fun E hM => ?_)
  unfold ref28_attackers_m
  refine ref_seq (ref_region ?_)
  refine s_st (s_box (part_agO (ψs := [iv .i64 g_0.N, slv rT_api_Pair g_0.L]) rfl ⟨.inl iv_at, .inl slv_at, trivial⟩)) rfl (fun b1 => ?_)
  refine as1 rfl rfl ?_
  refine l_nil (n_then (ref_seq (ref_region ?_)))
  refine as1 rfl rfl ?_
  refine l_nil (n_then (ref_seq (ref_seq (ref_region ?_))))
  refine as1 rfl rfl ?_
  refine l_nil (n_then ?_)
  refine ref_loopB (f := (ref28_attackers_l1 g_0 a__1)) (Γl := (fun (s7 : Int × Int) (x8 : Unit) => [(1, iv .i64 a__1), (2, pv (ptr b1 0)), (5, iv .i64 s7.1), (6, iv .i64 s7.2)])) (Ωl := (fun (s7 : Int × Int) (x8 : Unit) => [oc b1 [iv .i64 g_0.N, slv rT_api_Pair g_0.L]])) (Γb := (fun (q15 : Int) (y16 : Unit) => [(5, iv .i64 q15)])) (Ωb := (fun (q15 : Int) (y16 : Unit) => [])) (0, 0) () (weak [0] ⟨rfl, rfl, rfl, rfl, trivial⟩ ⟨rfl, trivial⟩) (fun s7 x8 => ?_) (fun q15 y16 => ?_)
  · unfold ref28_attackers_l1
    refine ref_seq (ref_seq (ref_region ?_))
    refine mv1 rfl rfl ?_
    refine s_rd (r_faddr (fo := 1) Try.underlying28 rfl rfl Try.sizeOf26 rfl) rfl ?_
    refine s_rd (r_cload Try.isAgg26 rfl (j := 0) rfl rfl) rfl ?_
    refine s_rd (r_len Try.underlying26 rfl) rfl ?_
    refine s_rd (r_lss rfl rfl) rfl ?_
    refine l_nil (n_then ?_)
    refine ref_cond rfl (fun hb9 => ?_) (fun hb9 => ?_)
    · refine ref_skip (n_then (ref_seq (ref_block (ref_seq (ref_region ?_)))))
      refine s_rd (r_faddr (fo := 1) Try.underlying28 rfl rfl Try.sizeOf26 rfl) rfl ?_
      refine s_rd (r_cload Try.isAgg26 rfl (j := 0) rfl rfl) rfl ?_
      refine mv1 rfl rfl ?_
      refine pull fun t10 h_t10 => ?_
      refine s_rd (r_index h_t10 Try.underlying26 el_67 rfl rfl) rfl ?_
      refine s_rd (r_fea (fo := 1) (ρ := rT_api_Pair) (y := t10) (ρ' := (rI .i64)) (z := t10.To) Try.underlying67 rfl rfl Try.sizeOf3 rfl rfl rfl) rfl ?_
      refine s_rd (r_load el_3 rfl) rfl ?_
      refine mv1 rfl rfl ?_
      refine s_rd (r_eql rfl rfl) rfl ?_
      refine l_nil (n_then ?_)
      refine ref_cond rfl (fun hb11 => ?_) (fun hb11 => ?_)
      · refine ref_region ?_
        refine mv1 rfl rfl ?_
        refine s_rd (r_add rfl rfl) rfl ?_
        refine as1 rfl rfl ?_
        refine b_let (f := iv .i64) (t := 5) rfl fun n12 => ?_
        refine l_nil (n_block (n_then (ref_region ?_)))
        refine mv1 rfl rfl ?_
        refine s_rd (r_add rfl rfl) rfl ?_
        refine as1 rfl rfl ?_
        refine b_let (f := iv .i64) (t := 6) rfl fun i13 => ?_
        refine l_nil ?_
        exact goB () (weak [0] ⟨rfl, rfl, rfl, rfl, trivial⟩ ⟨rfl, trivial⟩)
      refine ref_skip (n_block (n_then (ref_region ?_)))
      refine mv1 rfl rfl ?_
      refine s_rd (r_add rfl rfl) rfl ?_
      refine as1 rfl rfl ?_
      refine b_let (f := iv .i64) (t := 6) rfl fun i14 => ?_
      refine l_nil ?_
      exact goB () (weak [0] ⟨rfl, rfl, rfl, rfl, trivial⟩ ⟨rfl, trivial⟩)
    refine ref_exit (x_then ?_)
    exact brkB () (weak [] ⟨rfl, trivial⟩ trivial)
  refine n_then (ref_seq (ref_region ?_))
  refine mv1 rfl rfl ?_
  refine as1 rfl rfl ?_
  refine l_nil (n_then (ref_ret ?_))
  exact fin1 (.inl rfl) () [] rfl trivial rfl (rv_tmp rfl)

/-! deliberation/deliberationref28.Choose -/
noncomputable def ref28_Choose_l1 (d_0 : T_api_Dialogue) (p_1 : T_api_Player) (l8 : List T_api_Move) (s28 : Int × T_api_Move) : Option (Sum (T_api_Move) (Int × T_api_Move)) :=
  bif decide (s28.1 < (l8.length : Int)) then
    Option.bind (idxM l8 s28.1) fun t31 =>
    bif p_1.Style == 2 then
      bif decide (t31.Target > s28.2.Target) then
        some (Sum.inr (iadd .i64 s28.1 1, t31))
      else
        bif p_1.Style == 3 then
          Option.bind (ref28_attackers_m d_0.Graph t31.Node) fun t33 =>
          Option.bind (ref28_attackers_m d_0.Graph s28.2.Node) fun t34 =>
          bif decide (t33 < t34) then
            some (Sum.inr (iadd .i64 s28.1 1, t31))
          else
            some (Sum.inr (iadd .i64 s28.1 1, s28.2))
        else
          some (Sum.inr (iadd .i64 s28.1 1, s28.2))
    else
      bif p_1.Style == 3 then
        Option.bind (ref28_attackers_m d_0.Graph t31.Node) fun t35 =>
        Option.bind (ref28_attackers_m d_0.Graph s28.2.Node) fun t36 =>
        bif decide (t35 < t36) then
          some (Sum.inr (iadd .i64 s28.1 1, t31))
        else
          some (Sum.inr (iadd .i64 s28.1 1, s28.2))
      else
        some (Sum.inr (iadd .i64 s28.1 1, s28.2))
  else
    some (Sum.inl s28.2)

noncomputable def ref28_Choose_m (d_0 : T_api_Dialogue) (p_1 : T_api_Player) : Option (T_api_Move × Int) :=
  Option.bind (ref27_Turn_m d_0) fun t4 =>
  bif t4 == 0 then
    some ((T_api_Move.mk 0 0 0 0), 7)
  else
    Option.bind (ref28_valid_m d_0.Graph p_1) fun e6 =>
    bif e6 != 0 then
      some ((T_api_Move.mk 0 0 0 0), e6)
    else
      Option.bind (ref28_Attacks_m d_0 p_1) fun l8 =>
      Option.bind (ref28_scripted_m d_0 p_1 l8) fun t10 =>
      bif t10.2 then
        some (t10.1, 0)
      else
        bif (l8.length : Int) == 0 then
          Option.bind (ref27_Turn_m d_0) fun t14 =>
          some ((T_api_Move.mk t14 4 0 0), 0)
        else
          Option.bind (idxM l8 0) fun t15 =>
          Option.bind (loopC (ref28_Choose_l1 d_0 p_1 l8) (0, t15)) fun q39 : T_api_Move =>
          some (q39, 0)

theorem ref28_Choose_ok {d_0 : T_api_Dialogue} {p_1 : T_api_Player} {r : T_api_Move × Int} (hm : ref28_Choose_m d_0 p_1 = some r) :
    FnOk prog 13 [ag [iv .i64 d_0.Graph.N, slv rT_api_Pair d_0.Graph.L, iv .i64 d_0.Root, iv .i64 d_0.Limits.i0, iv .i64 d_0.Limits.i1, slv rT_api_Move d_0.Moves], ag [slv (rI .i64) p_1.Pool, slv (rI .i64) p_1.Withheld, slv rT_api_Move p_1.Script, iv .i64 p_1.Style]] [] (fun (x : Unit) => [ag [iv .i64 r.1.By, iv .i64 r.1.Kind, iv .i64 r.1.Node, iv .i64 r.1.Target], iv .i64 r.2]) (fun (x : Unit) => []) := by
  refine fn_ok (fn := Try.f13) (N := 83) (res := fun r x => [ag [iv .i64 r.1.By, iv .i64 r.1.Kind, iv .i64 r.1.Node, iv .i64 r.1.Target], iv .i64 r.2]) (Ω1 := fun r x => []) Try.func13 rfl rfl hm rfl (fun E hM => ?_)
  unfold ref28_Choose_m
  refine ref_seq (ref_region ?_)
  refine s_st (s_box (part_agO (ψs := [iv .i64 d_0.Graph.N, slv rT_api_Pair d_0.Graph.L, iv .i64 d_0.Root, iv .i64 d_0.Limits.i0, iv .i64 d_0.Limits.i1, slv rT_api_Move d_0.Moves]) rfl ⟨.inl iv_at, .inl slv_at, .inl iv_at, .inl iv_at, .inl iv_at, .inl slv_at, trivial⟩)) rfl (fun b1 => ?_)
  refine s_st (s_box (part_agO (ψs := [slv (rI .i64) p_1.Pool, slv (rI .i64) p_1.Withheld, slv rT_api_Move p_1.Script, iv .i64 p_1.Style]) rfl ⟨.inl slv_at, .inl slv_at, .inl slv_at, .inl iv_at, trivial⟩)) rfl (fun b2 => ?_)
  refine s_st (s_alloc zt_40) rfl (fun b3 => ?_)
  refine as1 rfl rfl ?_
  refine l_nil (n_then (ref_seq (ref_seq (ref_region ?_))))
  refine s_rd (r_cloadS Try.isAgg35 Try.sizeOf35 rfl (j := 0) rfl rfl rfl) rfl ?_
  refine pull fun t4 h_t4 => ?_
  refine s_st (s_call (ψ := fun (_ : Unit) => iv .i64 t4) (args := [.tmp 13]) Try.call41 rfl (ref27_Turn_ok h_t4) ⟨arg rfl, trivial⟩ (fun _ _ _ _ h => h)) rfl (fun _ => ?_)
  refine s_rd (r_eql rfl rfl) rfl ?_
  refine l_nil ?_
  refine b_of (nrm [oc b1 [iv .i64 d_0.Graph.N, slv rT_api_Pair d_0.Graph.L, iv .i64 d_0.Root, iv .i64 d_0.Limits.i0, iv .i64 d_0.Limits.i1, slv rT_api_Move d_0.Moves], oc b2 [slv (rI .i64) p_1.Pool, slv (rI .i64) p_1.Withheld, slv rT_api_Move p_1.Script, iv .i64 p_1.Style], oc b3 [iv .i64 0, iv .i64 0, iv .i64 0, iv .i64 0]] rfl) ?_
  refine n_then ?_
  refine ref_cond rfl (fun hb5 => ?_) (fun hb5 => ?_)
  · refine ref_seq (ref_region ?_)
    refine s_rd (r_build (ps := []) (rs := []) st_40 zs_40 trivial rfl rfl) rfl ?_
    refine s_st0 (s_cstore (out := [iv .i64 0, iv .i64 0, iv .i64 0, iv .i64 0]) Try.sizeOf40 rfl (j := 2) rfl (part_agO (ψs := [iv .i64 0, iv .i64 0, iv .i64 0, iv .i64 0]) rfl ⟨.inl iv_at, .inl iv_at, .inl iv_at, .inl iv_at, trivial⟩) rfl rfl rfl) (fun _ => ?_)
    refine as1 rfl rfl ?_
    refine l_nil (n_then (ref_ret (r_then ?_)))
    exact fin2 (.inl rfl) () [] rfl trivial rfl (rv_cell rfl (j := 2) rfl Try.isAgg40 Try.sizeOf40 rfl rfl) (rv_tmp rfl)
  refine ref_skip (n_then (ref_seq (ref_seq (ref_region ?_))))
  refine s_rd (r_faddr (fo := 0) Try.underlying35 rfl rfl Try.sizeOf28 rfl) rfl ?_
  refine s_rd (r_cloadS Try.isAgg28 Try.sizeOf28 rfl (j := 0) rfl rfl rfl) rfl ?_
  refine s_rd (r_cloadS Try.isAgg25 Try.sizeOf25 rfl (j := 1) rfl rfl rfl) rfl ?_
  refine pull fun e6 h_e6 => ?_
  refine s_st (s_call (ψ := fun (_ : Unit) => iv .i64 e6) (args := [.tmp 18, .tmp 19]) Try.call42 rfl (ref28_valid_ok h_e6) ⟨arg rfl, arg rfl, trivial⟩ (fun _ _ _ _ h => h)) rfl (fun _ => ?_)
  refine as1 rfl rfl ?_
  refine l_nil (n_then (ref_seq (ref_region ?_)))
  refine mv1 rfl rfl ?_
  refine s_rd (r_neq rfl rfl) rfl ?_
  refine l_nil (n_then ?_)
  refine ref_cond rfl (fun hb7 => ?_) (fun hb7 => ?_)
  · refine ref_seq (ref_region ?_)
    refine s_rd (r_build (ps := []) (rs := []) st_40 zs_40 trivial rfl rfl) rfl ?_
    refine mv1 rfl rfl ?_
    refine s_st0 (s_cstore (out := [iv .i64 0, iv .i64 0, iv .i64 0, iv .i64 0]) Try.sizeOf40 rfl (j := 2) rfl (part_agO (ψs := [iv .i64 0, iv .i64 0, iv .i64 0, iv .i64 0]) rfl ⟨.inl iv_at, .inl iv_at, .inl iv_at, .inl iv_at, trivial⟩) rfl rfl rfl) (fun _ => ?_)
    refine as1 rfl rfl ?_
    refine l_nil (n_then (ref_ret (r_then ?_)))
    exact fin2 (.inl rfl) () [] rfl trivial rfl (rv_cell rfl (j := 2) rfl Try.isAgg40 Try.sizeOf40 rfl rfl) (rv_tmp rfl)
  refine ref_skip (n_then (ref_seq (ref_region ?_)))
  refine s_rd (r_cloadS Try.isAgg35 Try.sizeOf35 rfl (j := 0) rfl rfl rfl) rfl ?_
  refine s_rd (r_cloadS Try.isAgg25 Try.sizeOf25 rfl (j := 1) rfl rfl rfl) rfl ?_
  refine pull fun l8 h_l8 => ?_
  refine s_st (s_call (ψ := fun (x9 : (Value × List Nat)) => pv x9.1) (args := [.tmp 25, .tmp 26]) Try.call25 rfl (ref28_Attacks_ok h_l8) ⟨arg rfl, arg rfl, trivial⟩ (fun _ _ _ _ h => h)) rfl (fun x9 => ?_)
  refine as1 rfl rfl ?_
  refine l_nil (n_then (ref_seq (ref_seq (ref_region ?_))))
  refine s_rd (r_cloadS Try.isAgg35 Try.sizeOf35 rfl (j := 0) rfl rfl rfl) rfl ?_
  refine s_rd (r_cloadS Try.isAgg25 Try.sizeOf25 rfl (j := 1) rfl rfl rfl) rfl ?_
  refine mv1 rfl rfl ?_
  refine b_of (frzL [27, 7, 31] (j := 3) rfl ⟨rfl, rfl, rfl, trivial⟩) ?_
  refine pull fun t10 h_t10 => ?_
  refine s_st (s_call (ψ := fun (_ : Unit) => tup [ag [iv .i64 t10.1.By, iv .i64 t10.1.Kind, iv .i64 t10.1.Node, iv .i64 t10.1.Target], bv t10.2]) (args := [.tmp 29, .tmp 30, .tmp 31]) Try.call43 rfl (ref28_scripted_ok h_t10) ⟨arg rfl, arg rfl, arg rfl, trivial⟩ (fun _ _ _ _ h => h)) rfl (fun _ => ?_)
  refine mv1 rfl rfl ?_
  refine s_rd (r_extract rfl rfl) rfl ?_
  refine s_rd (r_extract rfl rfl) rfl ?_
  refine s_st (s_alloc zt_40) rfl (fun b11 => ?_)
  refine s_st0 (s_cstore (out := [iv .i64 t10.1.By, iv .i64 t10.1.Kind, iv .i64 t10.1.Node, iv .i64 t10.1.Target]) Try.sizeOf40 rfl (j := 4) rfl (part_agO (ψs := [iv .i64 t10.1.By, iv .i64 t10.1.Kind, iv .i64 t10.1.Node, iv .i64 t10.1.Target]) rfl ⟨.inl iv_at, .inl iv_at, .inl iv_at, .inl iv_at, trivial⟩) rfl rfl rfl) (fun _ => ?_)
  refine as1 rfl rfl ?_
  refine l_nil ?_
  refine b_of (nrm [oc b1 [iv .i64 d_0.Graph.N, slv rT_api_Pair d_0.Graph.L, iv .i64 d_0.Root, iv .i64 d_0.Limits.i0, iv .i64 d_0.Limits.i1, slv rT_api_Move d_0.Moves], oc b2 [slv (rI .i64) p_1.Pool, slv (rI .i64) p_1.Withheld, slv rT_api_Move p_1.Script, iv .i64 p_1.Style], oc b3 [iv .i64 0, iv .i64 0, iv .i64 0, iv .i64 0], dead, oc b11 [iv .i64 t10.1.By, iv .i64 t10.1.Kind, iv .i64 t10.1.Node, iv .i64 t10.1.Target]] rfl) ?_
  refine n_then (ref_seq (ref_region ?_))
  refine mv1 rfl rfl ?_
  refine l_nil (n_then ?_)
  refine ref_cond rfl (fun hb12 => ?_) (fun hb12 => ?_)
  · refine ref_seq (ref_region ?_)
    refine s_rd (r_cloadS Try.isAgg40 Try.sizeOf40 rfl (j := 4) rfl rfl rfl) rfl ?_
    refine s_st0 (s_cstore (out := [iv .i64 t10.1.By, iv .i64 t10.1.Kind, iv .i64 t10.1.Node, iv .i64 t10.1.Target]) Try.sizeOf40 rfl (j := 2) rfl (part_agO (ψs := [iv .i64 t10.1.By, iv .i64 t10.1.Kind, iv .i64 t10.1.Node, iv .i64 t10.1.Target]) rfl ⟨.inl iv_at, .inl iv_at, .inl iv_at, .inl iv_at, trivial⟩) rfl rfl rfl) (fun _ => ?_)
    refine as1 rfl rfl ?_
    refine l_nil (n_then (ref_ret (r_then ?_)))
    exact fin2 (.inl rfl) () [] rfl trivial rfl (rv_cell rfl (j := 2) rfl Try.isAgg40 Try.sizeOf40 rfl rfl) (rv_tmp rfl)
  refine ref_skip (n_then (ref_seq (ref_seq (ref_region ?_))))
  refine mv1 rfl rfl ?_
  refine s_rd (r_len Try.underlying23 rfl) rfl ?_
  refine s_rd (r_eql rfl rfl) rfl ?_
  refine l_nil (n_then ?_)
  refine ref_cond rfl (fun hb13 => ?_) (fun hb13 => ?_)
  · refine ref_seq (ref_region ?_)
    refine s_rd (r_cloadS Try.isAgg35 Try.sizeOf35 rfl (j := 0) rfl rfl rfl) rfl ?_
    refine pull fun t14 h_t14 => ?_
    refine s_st (s_call (ψ := fun (_ : Unit) => iv .i64 t14) (args := [.tmp 40]) Try.call41 rfl (ref27_Turn_ok h_t14) ⟨arg rfl, trivial⟩ (fun _ _ _ _ h => h)) rfl (fun _ => ?_)
    refine s_rd (r_build (ps := [(0, .tmp 41), (1, .const (.int .i64 (4)))]) (rs := [(0, [iv .i64 t14]), (1, [iv .i64 4])]) st_40 zs_40 ⟨rfl, (part_at rfl iv_at), ⟨rfl, (part_at rfl iv_at), trivial⟩⟩ rfl rfl) rfl ?_
    refine s_st0 (s_cstore (out := [iv .i64 t14, iv .i64 4, iv .i64 0, iv .i64 0]) Try.sizeOf40 rfl (j := 2) rfl (part_agO (ψs := [iv .i64 t14, iv .i64 4, iv .i64 0, iv .i64 0]) rfl ⟨.inl iv_at, .inl iv_at, .inl iv_at, .inl iv_at, trivial⟩) rfl rfl rfl) (fun _ => ?_)
    refine as1 rfl rfl ?_
    refine l_nil (n_then (ref_ret (r_then ?_)))
    exact fin2 (.inl rfl) () [] rfl trivial rfl (rv_cell rfl (j := 2) rfl Try.isAgg40 Try.sizeOf40 rfl rfl) (rv_tmp rfl)
  refine ref_skip (n_then (ref_seq (ref_region ?_)))
  refine mv1 rfl rfl ?_
  refine pull fun t15 h_t15 => ?_
  refine s_rd (r_index h_t15 Try.underlying23 el_40 rfl rfl) rfl ?_
  refine s_rd (r_load el_40 rfl) rfl ?_
  refine s_st (s_alloc zt_40) rfl (fun b16 => ?_)
  refine s_st0 (s_cstore (out := [iv .i64 t15.By, iv .i64 t15.Kind, iv .i64 t15.Node, iv .i64 t15.Target]) Try.sizeOf40 rfl (j := 5) rfl (part_agO (ψs := [iv .i64 t15.By, iv .i64 t15.Kind, iv .i64 t15.Node, iv .i64 t15.Target]) rfl ⟨.inl iv_at, .inl iv_at, .inl iv_at, .inl iv_at, trivial⟩) rfl rfl rfl) (fun _ => ?_)
  refine l_nil (n_then (ref_seq (ref_seq (ref_region ?_))))
  refine mv1 rfl rfl ?_
  refine s_rd (r_len Try.underlying23 rfl) rfl ?_
  refine mv1 rfl rfl ?_
  refine l_nil (n_then ?_)
  refine ref_loopB (f := (ref28_Choose_l1 d_0 p_1 l8)) (Γl := (fun (s28 : Int × T_api_Move) (x29 : Unit) => [(2, pv (ptr b1 0)), (3, pv (ptr b2 0)), (4, pv (ptr b3 0)), (10, pv (ptr b16 0)), (46, slv rT_api_Move l8), (47, iv .i64 (l8.length : Int)), (48, iv .i64 s28.1)])) (Ωl := (fun (s28 : Int × T_api_Move) (x29 : Unit) => [oc b1 [iv .i64 d_0.Graph.N, slv rT_api_Pair d_0.Graph.L, iv .i64 d_0.Root, iv .i64 d_0.Limits.i0, iv .i64 d_0.Limits.i1, slv rT_api_Move d_0.Moves], oc b2 [slv (rI .i64) p_1.Pool, slv (rI .i64) p_1.Withheld, slv rT_api_Move p_1.Script, iv .i64 p_1.Style], oc b3 [iv .i64 0, iv .i64 0, iv .i64 0, iv .i64 0], oc b16 [iv .i64 s28.2.By, iv .i64 s28.2.Kind, iv .i64 s28.2.Node, iv .i64 s28.2.Target]])) (Γb := (fun (q39 : T_api_Move) (y40 : Unit) => [(4, pv (ptr b3 0)), (10, pv (ptr b16 0))])) (Ωb := (fun (q39 : T_api_Move) (y40 : Unit) => [oc b3 [iv .i64 0, iv .i64 0, iv .i64 0, iv .i64 0], oc b16 [iv .i64 q39.By, iv .i64 q39.Kind, iv .i64 q39.Node, iv .i64 q39.Target]])) (0, t15) () (weak [0, 1, 2, 5] ⟨rfl, rfl, rfl, rfl, rfl, rfl, rfl, trivial⟩ ⟨rfl, rfl, rfl, rfl, trivial⟩) (fun s28 x29 => ?_) (fun q39 y40 => ?_)
  · unfold ref28_Choose_l1
    refine ref_seq (ref_region ?_)
    refine s_rd (r_lss rfl rfl) rfl ?_
    refine l_nil (n_then (ref_seq ?_))
    refine ref_cond rfl (fun hb30 => ?_) (fun hb30 => ?_)
    · refine ref_skip (n_then (ref_seq (ref_block (ref_seq (ref_region ?_)))))
      refine pull fun t31 h_t31 => ?_
      refine s_rd (r_index h_t31 Try.underlying23 el_40 rfl rfl) rfl ?_
      refine s_rd (r_load el_40 rfl) rfl ?_
      refine s_st (s_alloc zt_40) rfl (fun b32 => ?_)
      refine s_st0 (s_cstore (out := [iv .i64 t31.By, iv .i64 t31.Kind, iv .i64 t31.Node, iv .i64 t31.Target]) Try.sizeOf40 rfl (j := 4) rfl (part_agO (ψs := [iv .i64 t31.By, iv .i64 t31.Kind, iv .i64 t31.Node, iv .i64 t31.Target]) rfl ⟨.inl iv_at, .inl iv_at, .inl iv_at, .inl iv_at, trivial⟩) rfl rfl rfl) (fun _ => ?_)
      refine l_nil ?_
      refine b_of (nrm [oc b1 [iv .i64 d_0.Graph.N, slv rT_api_Pair d_0.Graph.L, iv .i64 d_0.Root, iv .i64 d_0.Limits.i0, iv .i64 d_0.Limits.i1, slv rT_api_Move d_0.Moves], oc b2 [slv (rI .i64) p_1.Pool, slv (rI .i64) p_1.Withheld, slv rT_api_Move p_1.Script, iv .i64 p_1.Style], oc b3 [iv .i64 0, iv .i64 0, iv .i64 0, iv .i64 0], oc b16 [iv .i64 s28.2.By, iv .i64 s28.2.Kind, iv .i64 s28.2.Node, iv .i64 s28.2.Target], oc b32 [iv .i64 t31.By, iv .i64 t31.Kind, iv .i64 t31.Node, iv .i64 t31.Target]] rfl) ?_
      refine n_then (ref_seq ?_)
      refine ref_draw [0, 1, 2, 3, 4, 5, 6, 7, 8, 9, 10, 11, 12, 13, 14, 15, 16, 17, 18, 20, 21, 22, 23, 25, 26, 27] rfl (by kernel_rfl) (fun hok => ?_)
      refine a_rd (i := 0) hok rfl (by kernel_rfl) rfl (r_faddr (fo := 3) Try.underlying25 rfl rfl Try.sizeOf3 rfl) rfl ?_
      refine a_rd (i := 1) hok rfl (by kernel_rfl) rfl (r_cload Try.isAgg3 rfl (j := 1) rfl rfl) rfl ?_
      refine a_rd (i := 2) hok rfl (by kernel_rfl) rfl (r_eql rfl rfl) rfl ?_
      refine a_rd (i := 3) hok rfl (by kernel_rfl) rfl (r_move rfl) rfl ?_
      refine b_split (t := 55) rfl (fun _ => ?_) (fun _ => ?_)
      · refine a_rdOn (i := 4) hok rfl rfl rfl rfl (by kernel_rfl) rfl (r_faddr (fo := 3) Try.underlying40 rfl rfl Try.sizeOf3 rfl) rfl ?_
        refine a_rdOn (i := 5) hok rfl rfl rfl rfl (by kernel_rfl) rfl (r_cload Try.isAgg3 rfl (j := 4) rfl rfl) rfl ?_
        refine a_rdOn (i := 6) hok rfl rfl rfl rfl (by kernel_rfl) rfl (r_faddr (fo := 3) Try.underlying40 rfl rfl Try.sizeOf3 rfl) rfl ?_
        refine a_rdOn (i := 7) hok rfl rfl rfl rfl (by kernel_rfl) rfl (r_cload Try.isAgg3 rfl (j := 3) rfl rfl) rfl ?_
        refine a_rdOn (i := 8) hok rfl rfl rfl rfl (by kernel_rfl) rfl (r_gtr rfl rfl) rfl ?_
        refine a_rd (i := 9) hok rfl (by kernel_rfl) rfl (r_pickT rfl rfl) rfl ?_
        refine a_rd (i := 10) hok rfl (by kernel_rfl) rfl (r_move rfl) rfl ?_
        refine b_split (t := 62) rfl (fun _ => ?_) (fun _ => ?_)
        · refine a_off (i := 11) hok rfl rfl rfl rfl rfl (by kernel_rfl) rfl rfl ?_
          refine a_off (i := 12) hok rfl rfl rfl rfl rfl (by kernel_rfl) rfl rfl ?_
          refine a_off (i := 13) hok rfl rfl rfl rfl rfl (by kernel_rfl) rfl rfl ?_
          refine a_off (i := 14) hok rfl rfl rfl rfl rfl (by kernel_rfl) rfl rfl ?_
          refine a_offU (i := 15) hok rfl rfl rfl (by kernel_rfl) rfl rfl ?_
          refine a_offU (i := 16) hok rfl rfl rfl (by kernel_rfl) rfl rfl ?_
          refine a_offU (i := 17) hok rfl rfl rfl (by kernel_rfl) rfl rfl ?_
          refine a_offU (i := 18) hok rfl rfl rfl (by kernel_rfl) rfl rfl ?_
          refine a_offU (i := 20) hok rfl rfl rfl (by kernel_rfl) rfl rfl ?_
          refine a_offU (i := 21) hok rfl rfl rfl (by kernel_rfl) rfl rfl ?_
          refine a_offU (i := 22) hok rfl rfl rfl (by kernel_rfl) rfl rfl ?_
          refine a_offU (i := 23) hok rfl rfl rfl (by kernel_rfl) rfl rfl ?_
          refine a_next hok 19 [] (by kernel_rfl) ?_ trivial
          refine a_stOffU (i := 19) hok rfl rfl rfl rfl (by intro _ h; cases h; rfl) ⟨trivial, ⟨trivial, ⟨trivial, ⟨trivial, ⟨trivial, ⟨trivial, ⟨trivial, ⟨trivial, ⟨trivial, ⟨trivial, ⟨trivial, ⟨trivial, ⟨trivial, ⟨trivial, ⟨trivial, ⟨⟨⟨rfl, rfl⟩, trivial⟩, ⟨trivial, ⟨⟨⟨rfl, rfl⟩, trivial⟩, ⟨trivial, ⟨trivial, ⟨trivial, ⟨⟨⟨rfl, rfl⟩, trivial⟩, ⟨trivial, trivial⟩⟩⟩⟩⟩⟩⟩⟩⟩⟩⟩⟩⟩⟩⟩⟩⟩⟩⟩⟩⟩⟩⟩ ?_
          refine a_next hok 24 [] (by kernel_rfl) ?_ trivial
          refine a_stOffU (i := 24) hok rfl rfl rfl rfl (by intro _ h; cases h; rfl) ⟨trivial, ⟨trivial, ⟨trivial, ⟨trivial, ⟨trivial, ⟨trivial, ⟨trivial, ⟨trivial, ⟨trivial, ⟨trivial, ⟨trivial, ⟨trivial, ⟨trivial, ⟨trivial, ⟨trivial, ⟨⟨⟨rfl, rfl⟩, trivial⟩, ⟨trivial, ⟨⟨⟨rfl, rfl⟩, trivial⟩, ⟨trivial, ⟨trivial, ⟨trivial, ⟨⟨⟨rfl, rfl⟩, trivial⟩, ⟨trivial, trivial⟩⟩⟩⟩⟩⟩⟩⟩⟩⟩⟩⟩⟩⟩⟩⟩⟩⟩⟩⟩⟩⟩⟩ ?_
          refine a_offU (i := 25) hok rfl rfl rfl (by kernel_rfl) rfl rfl ?_
          refine a_off (i := 26) hok rfl rfl rfl rfl rfl (by kernel_rfl) rfl rfl ?_
          refine a_rd (i := 27) hok rfl (by kernel_rfl) rfl (r_pickT rfl rfl) rfl ?_
          refine a_fin hok (by kernel_rfl) ?_
          refine n_then ?_
          refine ref_condT rfl rfl ?_
          refine ref_region ?_
          refine s_rd (r_cloadS Try.isAgg40 Try.sizeOf40 rfl (j := 4) rfl rfl rfl) rfl ?_
          refine s_st0 (s_cstore (out := [iv .i64 t31.By, iv .i64 t31.Kind, iv .i64 t31.Node, iv .i64 t31.Target]) Try.sizeOf40 rfl (j := 3) rfl (part_agO (ψs := [iv .i64 t31.By, iv .i64 t31.Kind, iv .i64 t31.Node, iv .i64 t31.Target]) rfl ⟨.inl iv_at, .inl iv_at, .inl iv_at, .inl iv_at, trivial⟩) rfl rfl rfl) (fun _ => ?_)
          refine l_nil (n_block (n_then (ref_region ?_)))
          refine s_rd (r_add rfl rfl) rfl ?_
          refine mv1 rfl rfl ?_
          refine l_nil ?_
          exact goB () (weak [0, 1, 2, 3] ⟨rfl, rfl, rfl, rfl, rfl, rfl, rfl, trivial⟩ ⟨rfl, rfl, rfl, rfl, trivial⟩)
        refine a_rdOn (i := 11) hok rfl rfl rfl rfl (by kernel_rfl) rfl (r_faddr (fo := 3) Try.underlying25 rfl rfl Try.sizeOf3 rfl) rfl ?_
        refine a_rdOn (i := 12) hok rfl rfl rfl rfl (by kernel_rfl) rfl (r_cload Try.isAgg3 rfl (j := 1) rfl rfl) rfl ?_
        refine a_rdOn (i := 13) hok rfl rfl rfl rfl (by kernel_rfl) rfl (r_eql rfl rfl) rfl ?_
        refine a_rdOn (i := 14) hok rfl rfl rfl rfl (by kernel_rfl) rfl (r_move rfl) rfl ?_
        refine b_split (t := 66) rfl (fun _ => ?_) (fun _ => ?_)
        · refine a_rdOn (i := 15) hok rfl rfl rfl rfl (by kernel_rfl) rfl (r_faddr (fo := 0) Try.underlying35 rfl rfl Try.sizeOf28 rfl) rfl ?_
          refine a_rdOn (i := 16) hok rfl rfl rfl rfl (by kernel_rfl) rfl (r_cloadS Try.isAgg28 Try.sizeOf28 rfl (j := 0) rfl rfl rfl) rfl ?_
          refine a_rdOn (i := 17) hok rfl rfl rfl rfl (by kernel_rfl) rfl (r_faddr (fo := 2) Try.underlying40 rfl rfl Try.sizeOf3 rfl) rfl ?_
          refine a_rdOn (i := 18) hok rfl rfl rfl rfl (by kernel_rfl) rfl (r_cload Try.isAgg3 rfl (j := 4) rfl rfl) rfl ?_
          refine a_rdOn (i := 20) hok rfl rfl rfl rfl (by kernel_rfl) rfl (r_faddr (fo := 0) Try.underlying35 rfl rfl Try.sizeOf28 rfl) rfl ?_
          refine a_rdOn (i := 21) hok rfl rfl rfl rfl (by kernel_rfl) rfl (r_cloadS Try.isAgg28 Try.sizeOf28 rfl (j := 0) rfl rfl rfl) rfl ?_
          refine a_rdOn (i := 22) hok rfl rfl rfl rfl (by kernel_rfl) rfl (r_faddr (fo := 2) Try.underlying40 rfl rfl Try.sizeOf3 rfl) rfl ?_
          refine a_rdOn (i := 23) hok rfl rfl rfl rfl (by kernel_rfl) rfl (r_cload Try.isAgg3 rfl (j := 3) rfl rfl) rfl ?_
          refine pull fun t33 h_t33 => ?_
          refine a_next hok 19 [] (by kernel_rfl) ?_ trivial
          refine a_stOn (i := 19) hok rfl rfl rfl rfl rfl (s_call (ψ := fun (_ : Unit) => iv .i64 t33) (args := [.tmp 68, .tmp 70]) Try.call44 rfl (ref28_attackers_ok h_t33) ⟨arg rfl, arg rfl, trivial⟩ (fun _ _ _ _ h => h)) (by intro _ h; cases h; rfl) (fun _ => ⟨⟨⟨rfl, rfl⟩, trivial⟩, ⟨trivial, ⟨⟨⟨rfl, rfl⟩, trivial⟩, ⟨trivial, ⟨trivial, ⟨trivial, ⟨trivial, ⟨trivial, ⟨trivial, ⟨trivial, ⟨⟨⟨rfl, rfl⟩, trivial⟩, ⟨trivial, ⟨trivial, ⟨trivial, ⟨trivial, ⟨⟨⟨rfl, rfl⟩, trivial⟩, ⟨trivial, ⟨⟨⟨rfl, rfl⟩, trivial⟩, ⟨trivial, ⟨trivial, ⟨trivial, ⟨⟨⟨rfl, rfl⟩, trivial⟩, ⟨trivial, trivial⟩⟩⟩⟩⟩⟩⟩⟩⟩⟩⟩⟩⟩⟩⟩⟩⟩⟩⟩⟩⟩⟩⟩) (fun _ => ?_)
          refine pull fun t34 h_t34 => ?_
          refine a_next hok 24 [] (by kernel_rfl) ?_ trivial
          refine a_stOn (i := 24) hok rfl rfl rfl rfl rfl (s_call (ψ := fun (_ : Unit) => iv .i64 t34) (args := [.tmp 73, .tmp 75]) Try.call44 rfl (ref28_attackers_ok h_t34) ⟨arg rfl, arg rfl, trivial⟩ (fun _ _ _ _ h => h)) (by intro _ h; cases h; rfl) (fun _ => ⟨trivial, ⟨trivial, ⟨trivial, ⟨trivial, ⟨⟨⟨rfl, rfl⟩, trivial⟩, ⟨trivial, ⟨⟨⟨rfl, rfl⟩, trivial⟩, ⟨trivial, ⟨trivial, ⟨trivial, ⟨⟨⟨rfl, rfl⟩, trivial⟩, ⟨trivial, ⟨trivial, ⟨trivial, ⟨trivial, ⟨⟨⟨rfl, rfl⟩, trivial⟩, ⟨trivial, ⟨⟨⟨rfl, rfl⟩, trivial⟩, ⟨trivial, ⟨trivial, ⟨trivial, ⟨⟨⟨rfl, rfl⟩, trivial⟩, ⟨trivial, trivial⟩⟩⟩⟩⟩⟩⟩⟩⟩⟩⟩⟩⟩⟩⟩⟩⟩⟩⟩⟩⟩⟩⟩) (fun _ => ?_)
          refine a_rdOn (i := 25) hok rfl rfl rfl rfl (by kernel_rfl) rfl (r_lss rfl rfl) rfl ?_
          refine a_rdOn (i := 26) hok rfl rfl rfl rfl (by kernel_rfl) rfl (r_pickT rfl rfl) rfl ?_
          refine a_rd (i := 27) hok rfl (by kernel_rfl) rfl (r_pickF rfl rfl) rfl ?_
          refine a_fin hok (by kernel_rfl) ?_
          refine n_then ?_
          refine ref_cond rfl (fun hb37 => ?_) (fun hb37 => ?_)
          · refine ref_region ?_
            refine s_rd (r_cloadS Try.isAgg40 Try.sizeOf40 rfl (j := 4) rfl rfl rfl) rfl ?_
            refine s_st0 (s_cstore (out := [iv .i64 t31.By, iv .i64 t31.Kind, iv .i64 t31.Node, iv .i64 t31.Target]) Try.sizeOf40 rfl (j := 3) rfl (part_agO (ψs := [iv .i64 t31.By, iv .i64 t31.Kind, iv .i64 t31.Node, iv .i64 t31.Target]) rfl ⟨.inl iv_at, .inl iv_at, .inl iv_at, .inl iv_at, trivial⟩) rfl rfl rfl) (fun _ => ?_)
            refine l_nil (n_block (n_then (ref_region ?_)))
            refine s_rd (r_add rfl rfl) rfl ?_
            refine mv1 rfl rfl ?_
            refine l_nil ?_
            exact goB () (weak [0, 1, 2, 3] ⟨rfl, rfl, rfl, rfl, rfl, rfl, rfl, trivial⟩ ⟨rfl, rfl, rfl, rfl, trivial⟩)
          refine ref_skip (n_block (n_then (ref_region ?_)))
          refine s_rd (r_add rfl rfl) rfl ?_
          refine mv1 rfl rfl ?_
          refine l_nil ?_
          exact goB () (weak [0, 1, 2, 3] ⟨rfl, rfl, rfl, rfl, rfl, rfl, rfl, trivial⟩ ⟨rfl, rfl, rfl, rfl, trivial⟩)
        refine a_off (i := 15) hok rfl rfl rfl rfl rfl (by kernel_rfl) rfl rfl ?_
        refine a_off (i := 16) hok rfl rfl rfl rfl rfl (by kernel_rfl) rfl rfl ?_
        refine a_off (i := 17) hok rfl rfl rfl rfl rfl (by kernel_rfl) rfl rfl ?_
        refine a_off (i := 18) hok rfl rfl rfl rfl rfl (by kernel_rfl) rfl rfl ?_
        refine a_off (i := 20) hok rfl rfl rfl rfl rfl (by kernel_rfl) rfl rfl ?_
        refine a_off (i := 21) hok rfl rfl rfl rfl rfl (by kernel_rfl) rfl rfl ?_
        refine a_off (i := 22) hok rfl rfl rfl rfl rfl (by kernel_rfl) rfl rfl ?_
        refine a_off (i := 23) hok rfl rfl rfl rfl rfl (by kernel_rfl) rfl rfl ?_
        refine a_next hok 19 [] (by kernel_rfl) ?_ trivial
        refine a_stOff (i := 19) hok rfl rfl rfl rfl rfl rfl (by intro _ h; cases h; rfl) ⟨trivial, ⟨trivial, ⟨trivial, ⟨trivial, ⟨trivial, ⟨trivial, ⟨trivial, ⟨trivial, ⟨trivial, ⟨trivial, ⟨⟨⟨rfl, rfl⟩, trivial⟩, ⟨trivial, ⟨trivial, ⟨trivial, ⟨trivial, ⟨⟨⟨rfl, rfl⟩, trivial⟩, ⟨trivial, ⟨⟨⟨rfl, rfl⟩, trivial⟩, ⟨trivial, ⟨trivial, ⟨trivial, ⟨⟨⟨rfl, rfl⟩, trivial⟩, ⟨trivial, trivial⟩⟩⟩⟩⟩⟩⟩⟩⟩⟩⟩⟩⟩⟩⟩⟩⟩⟩⟩⟩⟩⟩⟩ ?_
        refine a_next hok 24 [] (by kernel_rfl) ?_ trivial
        refine a_stOff (i := 24) hok rfl rfl rfl rfl rfl rfl (by intro _ h; cases h; rfl) ⟨trivial, ⟨trivial, ⟨trivial, ⟨trivial, ⟨trivial, ⟨trivial, ⟨trivial, ⟨trivial, ⟨trivial, ⟨trivial, ⟨⟨⟨rfl, rfl⟩, trivial⟩, ⟨trivial, ⟨trivial, ⟨trivial, ⟨trivial, ⟨⟨⟨rfl, rfl⟩, trivial⟩, ⟨trivial, ⟨⟨⟨rfl, rfl⟩, trivial⟩, ⟨trivial, ⟨trivial, ⟨trivial, ⟨⟨⟨rfl, rfl⟩, trivial⟩, ⟨trivial, trivial⟩⟩⟩⟩⟩⟩⟩⟩⟩⟩⟩⟩⟩⟩⟩⟩⟩⟩⟩⟩⟩⟩⟩ ?_
        refine a_off (i := 25) hok rfl rfl rfl rfl rfl (by kernel_rfl) rfl rfl ?_
        refine a_rdOn (i := 26) hok rfl rfl rfl rfl (by kernel_rfl) rfl (r_pickF rfl rfl) rfl ?_
        refine a_rd (i := 27) hok rfl (by kernel_rfl) rfl (r_pickF rfl rfl) rfl ?_
        refine a_fin hok (by kernel_rfl) ?_
        refine n_then ?_
        refine ref_condF rfl rfl ?_
        refine ref_skip (n_block (n_then (ref_region ?_)))
        refine s_rd (r_add rfl rfl) rfl ?_
        refine mv1 rfl rfl ?_
        refine l_nil ?_
        exact goB () (weak [0, 1, 2, 3] ⟨rfl, rfl, rfl, rfl, rfl, rfl, rfl, trivial⟩ ⟨rfl, rfl, rfl, rfl, trivial⟩)
      refine a_off (i := 4) hok rfl rfl rfl rfl rfl (by kernel_rfl) rfl rfl ?_
      refine a_off (i := 5) hok rfl rfl rfl rfl rfl (by kernel_rfl) rfl rfl ?_
      refine a_off (i := 6) hok rfl rfl rfl rfl rfl (by kernel_rfl) rfl rfl ?_
      refine a_off (i := 7) hok rfl rfl rfl rfl rfl (by kernel_rfl) rfl rfl ?_
      refine a_off (i := 8) hok rfl rfl rfl rfl rfl (by kernel_rfl) rfl rfl ?_
      refine a_rd (i := 9) hok rfl (by kernel_rfl) rfl (r_pickF rfl rfl) rfl ?_
      refine a_rd (i := 10) hok rfl (by kernel_rfl) rfl (r_move rfl) rfl ?_
      refine a_rdOn (i := 11) hok rfl rfl rfl rfl (by kernel_rfl) rfl (r_faddr (fo := 3) Try.underlying25 rfl rfl Try.sizeOf3 rfl) rfl ?_
      refine a_rdOn (i := 12) hok rfl rfl rfl rfl (by kernel_rfl) rfl (r_cload Try.isAgg3 rfl (j := 1) rfl rfl) rfl ?_
      refine a_rdOn (i := 13) hok rfl rfl rfl rfl (by kernel_rfl) rfl (r_eql rfl rfl) rfl ?_
      refine a_rdOn (i := 14) hok rfl rfl rfl rfl (by kernel_rfl) rfl (r_move rfl) rfl ?_
      refine b_split (t := 66) rfl (fun _ => ?_) (fun _ => ?_)
      · refine a_rdOn (i := 15) hok rfl rfl rfl rfl (by kernel_rfl) rfl (r_faddr (fo := 0) Try.underlying35 rfl rfl Try.sizeOf28 rfl) rfl ?_
        refine a_rdOn (i := 16) hok rfl rfl rfl rfl (by kernel_rfl) rfl (r_cloadS Try.isAgg28 Try.sizeOf28 rfl (j := 0) rfl rfl rfl) rfl ?_
        refine a_rdOn (i := 17) hok rfl rfl rfl rfl (by kernel_rfl) rfl (r_faddr (fo := 2) Try.underlying40 rfl rfl Try.sizeOf3 rfl) rfl ?_
        refine a_rdOn (i := 18) hok rfl rfl rfl rfl (by kernel_rfl) rfl (r_cload Try.isAgg3 rfl (j := 4) rfl rfl) rfl ?_
        refine a_rdOn (i := 20) hok rfl rfl rfl rfl (by kernel_rfl) rfl (r_faddr (fo := 0) Try.underlying35 rfl rfl Try.sizeOf28 rfl) rfl ?_
        refine a_rdOn (i := 21) hok rfl rfl rfl rfl (by kernel_rfl) rfl (r_cloadS Try.isAgg28 Try.sizeOf28 rfl (j := 0) rfl rfl rfl) rfl ?_
        refine a_rdOn (i := 22) hok rfl rfl rfl rfl (by kernel_rfl) rfl (r_faddr (fo := 2) Try.underlying40 rfl rfl Try.sizeOf3 rfl) rfl ?_
        refine a_rdOn (i := 23) hok rfl rfl rfl rfl (by kernel_rfl) rfl (r_cload Try.isAgg3 rfl (j := 3) rfl rfl) rfl ?_
        refine pull fun t35 h_t35 => ?_
        refine a_next hok 19 [] (by kernel_rfl) ?_ trivial
        refine a_stOn (i := 19) hok rfl rfl rfl rfl rfl (s_call (ψ := fun (_ : Unit) => iv .i64 t35) (args := [.tmp 68, .tmp 70]) Try.call44 rfl (ref28_attackers_ok h_t35) ⟨arg rfl, arg rfl, trivial⟩ (fun _ _ _ _ h => h)) (by intro _ h; cases h; rfl) (fun _ => ⟨⟨⟨rfl, rfl⟩, trivial⟩, ⟨trivial, ⟨⟨⟨rfl, rfl⟩, trivial⟩, ⟨trivial, ⟨trivial, ⟨trivial, ⟨trivial, ⟨trivial, ⟨trivial, ⟨trivial, ⟨⟨⟨rfl, rfl⟩, trivial⟩, ⟨trivial, ⟨trivial, ⟨trivial, ⟨trivial, ⟨trivial, ⟨trivial, ⟨trivial, ⟨trivial, ⟨trivial, ⟨trivial, ⟨⟨⟨rfl, rfl⟩, trivial⟩, ⟨trivial, trivial⟩⟩⟩⟩⟩⟩⟩⟩⟩⟩⟩⟩⟩⟩⟩⟩⟩⟩⟩⟩⟩⟩⟩) (fun _ => ?_)
        refine pull fun t36 h_t36 => ?_
        refine a_next hok 24 [] (by kernel_rfl) ?_ trivial
        refine a_stOn (i := 24) hok rfl rfl rfl rfl rfl (s_call (ψ := fun (_ : Unit) => iv .i64 t36) (args := [.tmp 73, .tmp 75]) Try.call44 rfl (ref28_attackers_ok h_t36) ⟨arg rfl, arg rfl, trivial⟩ (fun _ _ _ _ h => h)) (by intro _ h; cases h; rfl) (fun _ => ⟨trivial, ⟨trivial, ⟨trivial, ⟨trivial, ⟨⟨⟨rfl, rfl⟩, trivial⟩, ⟨trivial, ⟨⟨⟨rfl, rfl⟩, trivial⟩, ⟨trivial, ⟨trivial, ⟨trivial, ⟨⟨⟨rfl, rfl⟩, trivial⟩, ⟨trivial, ⟨trivial, ⟨trivial, ⟨trivial, ⟨trivial, ⟨trivial, ⟨trivial, ⟨trivial, ⟨trivial, ⟨trivial, ⟨⟨⟨rfl, rfl⟩, trivial⟩, ⟨trivial, trivial⟩⟩⟩⟩⟩⟩⟩⟩⟩⟩⟩⟩⟩⟩⟩⟩⟩⟩⟩⟩⟩⟩⟩) (fun _ => ?_)
        refine a_rdOn (i := 25) hok rfl rfl rfl rfl (by kernel_rfl) rfl (r_lss rfl rfl) rfl ?_
        refine a_rdOn (i := 26) hok rfl rfl rfl rfl (by kernel_rfl) rfl (r_pickT rfl rfl) rfl ?_
        refine a_rd (i := 27) hok rfl (by kernel_rfl) rfl (r_pickF rfl rfl) rfl ?_
        refine a_fin hok (by kernel_rfl) ?_
        refine n_then ?_
        refine ref_cond rfl (fun hb38 => ?_) (fun hb38 => ?_)
        · refine ref_region ?_
          refine s_rd (r_cloadS Try.isAgg40 Try.sizeOf40 rfl (j := 4) rfl rfl rfl) rfl ?_
          refine s_st0 (s_cstore (out := [iv .i64 t31.By, iv .i64 t31.Kind, iv .i64 t31.Node, iv .i64 t31.Target]) Try.sizeOf40 rfl (j := 3) rfl (part_agO (ψs := [iv .i64 t31.By, iv .i64 t31.Kind, iv .i64 t31.Node, iv .i64 t31.Target]) rfl ⟨.inl iv_at, .inl iv_at, .inl iv_at, .inl iv_at, trivial⟩) rfl rfl rfl) (fun _ => ?_)
          refine l_nil (n_block (n_then (ref_region ?_)))
          refine s_rd (r_add rfl rfl) rfl ?_
          refine mv1 rfl rfl ?_
          refine l_nil ?_
          exact goB () (weak [0, 1, 2, 3] ⟨rfl, rfl, rfl, rfl, rfl, rfl, rfl, trivial⟩ ⟨rfl, rfl, rfl, rfl, trivial⟩)
        refine ref_skip (n_block (n_then (ref_region ?_)))
        refine s_rd (r_add rfl rfl) rfl ?_
        refine mv1 rfl rfl ?_
        refine l_nil ?_
        exact goB () (weak [0, 1, 2, 3] ⟨rfl, rfl, rfl, rfl, rfl, rfl, rfl, trivial⟩ ⟨rfl, rfl, rfl, rfl, trivial⟩)
      refine a_off (i := 15) hok rfl rfl rfl rfl rfl (by kernel_rfl) rfl rfl ?_
      refine a_off (i := 16) hok rfl rfl rfl rfl rfl (by kernel_rfl) rfl rfl ?_
      refine a_off (i := 17) hok rfl rfl rfl rfl rfl (by kernel_rfl) rfl rfl ?_
      refine a_off (i := 18) hok rfl rfl rfl rfl rfl (by kernel_rfl) rfl rfl ?_
      refine a_off (i := 20) hok rfl rfl rfl rfl rfl (by kernel_rfl) rfl rfl ?_
      refine a_off (i := 21) hok rfl rfl rfl rfl rfl (by kernel_rfl) rfl rfl ?_
      refine a_off (i := 22) hok rfl rfl rfl rfl rfl (by kernel_rfl) rfl rfl ?_
      refine a_off (i := 23) hok rfl rfl rfl rfl rfl (by kernel_rfl) rfl rfl ?_
      refine a_next hok 19 [] (by kernel_rfl) ?_ trivial
      refine a_stOff (i := 19) hok rfl rfl rfl rfl rfl rfl (by intro _ h; cases h; rfl) ⟨trivial, ⟨trivial, ⟨trivial, ⟨trivial, ⟨trivial, ⟨trivial, ⟨trivial, ⟨trivial, ⟨trivial, ⟨trivial, ⟨⟨⟨rfl, rfl⟩, trivial⟩, ⟨trivial, ⟨trivial, ⟨trivial, ⟨trivial, ⟨trivial, ⟨trivial, ⟨trivial, ⟨trivial, ⟨trivial, ⟨trivial, ⟨⟨⟨rfl, rfl⟩, trivial⟩, ⟨trivial, trivial⟩⟩⟩⟩⟩⟩⟩⟩⟩⟩⟩⟩⟩⟩⟩⟩⟩⟩⟩⟩⟩⟩⟩ ?_
      refine a_next hok 24 [] (by kernel_rfl) ?_ trivial
      refine a_stOff (i := 24) hok rfl rfl rfl rfl rfl rfl (by intro _ h; cases h; rfl) ⟨trivial, ⟨trivial, ⟨trivial, ⟨trivial, ⟨trivial, ⟨trivial, ⟨trivial, ⟨trivial, ⟨trivial, ⟨trivial, ⟨⟨⟨rfl, rfl⟩, trivial⟩, ⟨trivial, ⟨trivial, ⟨trivial, ⟨trivial, ⟨trivial, ⟨trivial, ⟨trivial, ⟨trivial, ⟨trivial, ⟨trivial, ⟨⟨⟨rfl, rfl⟩, trivial⟩, ⟨trivial, trivial⟩⟩⟩⟩⟩⟩⟩⟩⟩⟩⟩⟩⟩⟩⟩⟩⟩⟩⟩⟩⟩⟩⟩ ?_
      refine a_off (i := 25) hok rfl rfl rfl rfl rfl (by kernel_rfl) rfl rfl ?_
      refine a_rdOn (i := 26) hok rfl rfl rfl rfl (by kernel_rfl) rfl (r_pickF rfl rfl) rfl ?_
      refine a_rd (i := 27) hok rfl (by kernel_rfl) rfl (r_pickF rfl rfl) rfl ?_
      refine a_fin hok (by kernel_rfl) ?_
      refine n_then ?_
      refine ref_condF rfl rfl ?_
      refine ref_skip (n_block (n_then (ref_region ?_)))
      refine s_rd (r_add rfl rfl) rfl ?_
      refine mv1 rfl rfl ?_
      refine l_nil ?_
      exact goB () (weak [0, 1, 2, 3] ⟨rfl, rfl, rfl, rfl, rfl, rfl, rfl, trivial⟩ ⟨rfl, rfl, rfl, rfl, trivial⟩)
    refine ref_exit (x_then ?_)
    exact brkB () (weak [2, 3] ⟨rfl, rfl, trivial⟩ ⟨rfl, rfl, trivial⟩)
  refine n_then (ref_seq (ref_region ?_))
  refine s_rd (r_cloadS Try.isAgg40 Try.sizeOf40 rfl (j := 1) rfl rfl rfl) rfl ?_
  refine s_st0 (s_cstore (out := [iv .i64 q39.By, iv .i64 q39.Kind, iv .i64 q39.Node, iv .i64 q39.Target]) Try.sizeOf40 rfl (j := 0) rfl (part_agO (ψs := [iv .i64 q39.By, iv .i64 q39.Kind, iv .i64 q39.Node, iv .i64 q39.Target]) rfl ⟨.inl iv_at, .inl iv_at, .inl iv_at, .inl iv_at, trivial⟩) rfl rfl rfl) (fun _ => ?_)
  refine as1 rfl rfl ?_
  refine l_nil (n_then (ref_ret ?_))
  exact fin2 (.inl rfl) () [] rfl trivial rfl (rv_cell rfl (j := 0) rfl Try.isAgg40 Try.sizeOf40 rfl rfl) (rv_tmp rfl)

/-! deliberation/deliberationref28.Run -/
noncomputable def ref28_Run_l1 (proponent_1 : T_api_Player) (opponent_2 : T_api_Player) (s22 : T_api_Dialogue) : Option (Sum (T_api_Dialogue) (T_api_Dialogue)) :=
  Option.bind (ref27_Turn_m s22) fun t24 =>
  bif t24 != 0 then
    joinM (fun j29 : T_api_Player =>
        Option.bind (ref28_Choose_m s22 j29) fun t32 =>
        Option.bind (ref27_Apply_m s22 t32.1) fun t34 =>
        some (Sum.inr t34.1)) fun k31 =>
    Option.bind (ref27_Turn_m s22) fun t27 =>
    bif t27 == 2 then
      k31 opponent_2
    else
      k31 proponent_1
  else
    some (Sum.inl s22)

noncomputable def ref28_Run_m (d_0 : T_api_Dialogue) (proponent_1 : T_api_Player) (opponent_2 : T_api_Player) : Option (T_api_Dialogue × Int) :=
  Option.bind (ref28_valid_m d_0.Graph proponent_1) fun e5 =>
  bif e5 != 0 then
    some ((T_api_Dialogue.mk (T_api_Graph.mk 0 []) 0 (T_arr2_3.mk 0 0) []), e5)
  else
    Option.bind (ref28_valid_m d_0.Graph opponent_2) fun e7 =>
    bif e7 != 0 then
      some ((T_api_Dialogue.mk (T_api_Graph.mk 0 []) 0 (T_arr2_3.mk 0 0) []), e7)
    else
      Option.bind (loopC (ref28_Run_l1 proponent_1 opponent_2) d_0) fun q35 : T_api_Dialogue =>
      some (q35, 0)

theorem ref28_Run_ok {d_0 : T_api_Dialogue} {proponent_1 : T_api_Player} {opponent_2 : T_api_Player} {r : T_api_Dialogue × Int} (hm : ref28_Run_m d_0 proponent_1 opponent_2 = some r) :
    FnOk prog 15 [ag [iv .i64 d_0.Graph.N, slv rT_api_Pair d_0.Graph.L, iv .i64 d_0.Root, iv .i64 d_0.Limits.i0, iv .i64 d_0.Limits.i1, slv rT_api_Move d_0.Moves], ag [slv (rI .i64) proponent_1.Pool, slv (rI .i64) proponent_1.Withheld, slv rT_api_Move proponent_1.Script, iv .i64 proponent_1.Style], ag [slv (rI .i64) opponent_2.Pool, slv (rI .i64) opponent_2.Withheld, slv rT_api_Move opponent_2.Script, iv .i64 opponent_2.Style]] [] (fun (x : Unit) => [ag [iv .i64 r.1.Graph.N, slv rT_api_Pair r.1.Graph.L, iv .i64 r.1.Root, iv .i64 r.1.Limits.i0, iv .i64 r.1.Limits.i1, slv rT_api_Move r.1.Moves], iv .i64 r.2]) (fun (x : Unit) => []) := by
  refine fn_ok (fn := Try.f15) (N := 50) (res := fun r x => [ag [iv .i64 r.1.Graph.N, slv rT_api_Pair r.1.Graph.L, iv .i64 r.1.Root, iv .i64 r.1.Limits.i0, iv .i64 r.1.Limits.i1, slv rT_api_Move r.1.Moves], iv .i64 r.2]) (Ω1 := fun r x => []) Try.func15 rfl rfl hm rfl (fun E hM => ?_)
  unfold ref28_Run_m
  refine ref_seq (ref_region ?_)
  refine s_st (s_box (part_agO (ψs := [iv .i64 d_0.Graph.N, slv rT_api_Pair d_0.Graph.L, iv .i64 d_0.Root, iv .i64 d_0.Limits.i0, iv .i64 d_0.Limits.i1, slv rT_api_Move d_0.Moves]) rfl ⟨.inl iv_at, .inl slv_at, .inl iv_at, .inl iv_at, .inl iv_at, .inl slv_at, trivial⟩)) rfl (fun b1 => ?_)
  refine s_st (s_box (part_agO (ψs := [slv (rI .i64) proponent_1.Pool, slv (rI .i64) proponent_1.Withheld, slv rT_api_Move proponent_1.Script, iv .i64 proponent_1.Style]) rfl ⟨.inl slv_at, .inl slv_at, .inl slv_at, .inl iv_at, trivial⟩)) rfl (fun b2 => ?_)
  refine s_st (s_box (part_agO (ψs := [slv (rI .i64) opponent_2.Pool, slv (rI .i64) opponent_2.Withheld, slv rT_api_Move opponent_2.Script, iv .i64 opponent_2.Style]) rfl ⟨.inl slv_at, .inl slv_at, .inl slv_at, .inl iv_at, trivial⟩)) rfl (fun b3 => ?_)
  refine s_st (s_alloc zt_35) rfl (fun b4 => ?_)
  refine as1 rfl rfl ?_
  refine l_nil ?_
  refine b_of (nrm [oc b1 [iv .i64 d_0.Graph.N, slv rT_api_Pair d_0.Graph.L, iv .i64 d_0.Root, iv .i64 d_0.Limits.i0, iv .i64 d_0.Limits.i1, slv rT_api_Move d_0.Moves], oc b2 [slv (rI .i64) proponent_1.Pool, slv (rI .i64) proponent_1.Withheld, slv rT_api_Move proponent_1.Script, iv .i64 proponent_1.Style], oc b3 [slv (rI .i64) opponent_2.Pool, slv (rI .i64) opponent_2.Withheld, slv rT_api_Move opponent_2.Script, iv .i64 opponent_2.Style], oc b4 [iv .i64 0, pv (.slice none 0 0), iv .i64 0, iv .i64 0, iv .i64 0, pv (.slice none 0 0)]] rfl) ?_
  refine n_then (ref_seq (ref_seq (ref_region ?_)))
  refine s_rd (r_faddr (fo := 0) Try.underlying35 rfl rfl Try.sizeOf28 rfl) rfl ?_
  refine s_rd (r_cloadS Try.isAgg28 Try.sizeOf28 rfl (j := 0) rfl rfl rfl) rfl ?_
  refine s_rd (r_cloadS Try.isAgg25 Try.sizeOf25 rfl (j := 1) rfl rfl rfl) rfl ?_
  refine pull fun e5 h_e5 => ?_
  refine s_st (s_call (ψ := fun (_ : Unit) => iv .i64 e5) (args := [.tmp 14, .tmp 15]) Try.call42 rfl (ref28_valid_ok h_e5) ⟨arg rfl, arg rfl, trivial⟩ (fun _ _ _ _ h => h)) rfl (fun _ => ?_)
  refine as1 rfl rfl ?_
  refine l_nil (n_then (ref_seq (ref_region ?_)))
  refine mv1 rfl rfl ?_
  refine s_rd (r_neq rfl rfl) rfl ?_
  refine l_nil (n_then ?_)
  refine ref_cond rfl (fun hb6 => ?_) (fun hb6 => ?_)
  · refine ref_seq (ref_region ?_)
    refine s_rd (r_build (ps := []) (rs := []) st_35 zs_35 trivial rfl rfl) rfl ?_
    refine mv1 rfl rfl ?_
    refine s_st0 (s_cstore (out := [iv .i64 0, pv (.slice none 0 0), iv .i64 0, iv .i64 0, iv .i64 0, pv (.slice none 0 0)]) Try.sizeOf35 rfl (j := 3) rfl (part_agO (ψs := [iv .i64 0, pv (.slice none 0 0), iv .i64 0, iv .i64 0, iv .i64 0, pv (.slice none 0 0)]) rfl ⟨.inl iv_at, .inl (pv_at rfl), .inl iv_at, .inl iv_at, .inl iv_at, .inl (pv_at rfl), trivial⟩) rfl rfl rfl) (fun _ => ?_)
    refine as1 rfl rfl ?_
    refine l_nil (n_then (ref_ret (r_then ?_)))
    refine b_of (ocW 3 [iv .i64 0, slv rT_api_Pair [], iv .i64 0, iv .i64 0, iv .i64 0, slv rT_api_Move []] rfl ⟨imp_rfl, nil_sl, imp_rfl, imp_rfl, imp_rfl, nil_sl, trivial⟩) ?_
    exact fin2 (.inl rfl) () [] rfl trivial rfl (rv_cell rfl (j := 3) rfl Try.isAgg35 Try.sizeOf35 rfl rfl) (rv_tmp rfl)
  refine ref_skip (n_then (ref_seq (ref_seq (ref_region ?_))))
  refine s_rd (r_faddr (fo := 0) Try.underlying35 rfl rfl Try.sizeOf28 rfl) rfl ?_
  refine s_rd (r_cloadS Try.isAgg28 Try.sizeOf28 rfl (j := 0) rfl rfl rfl) rfl ?_
  refine s_rd (r_cloadS Try.isAgg25 Try.sizeOf25 rfl (j := 2) rfl rfl rfl) rfl ?_
  refine pull fun e7 h_e7 => ?_
  refine s_st (s_call (ψ := fun (_ : Unit) => iv .i64 e7) (args := [.tmp 22, .tmp 23]) Try.call42 rfl (ref28_valid_ok h_e7) ⟨arg rfl, arg rfl, trivial⟩ (fun _ _ _ _ h => h)) rfl (fun _ => ?_)
  refine as1 rfl rfl ?_
  refine l_nil (n_then (ref_seq (ref_region ?_)))
  refine mv1 rfl rfl ?_
  refine s_rd (r_neq rfl rfl) rfl ?_
  refine l_nil (n_then ?_)
  refine ref_cond rfl (fun hb8 => ?_) (fun hb8 => ?_)
  · refine ref_seq (ref_region ?_)
    refine s_rd (r_build (ps := []) (rs := []) st_35 zs_35 trivial rfl rfl) rfl ?_
    refine mv1 rfl rfl ?_
    refine s_st0 (s_cstore (out := [iv .i64 0, pv (.slice none 0 0), iv .i64 0, iv .i64 0, iv .i64 0, pv (.slice none 0 0)]) Try.sizeOf35 rfl (j := 3) rfl (part_agO (ψs := [iv .i64 0, pv (.slice none 0 0), iv .i64 0, iv .i64 0, iv .i64 0, pv (.slice none 0 0)]) rfl ⟨.inl iv_at, .inl (pv_at rfl), .inl iv_at, .inl iv_at, .inl iv_at, .inl (pv_at rfl), trivial⟩) rfl rfl rfl) (fun _ => ?_)
    refine as1 rfl rfl ?_
    refine l_nil (n_then (ref_ret (r_then ?_)))
    refine b_of (ocW 3 [iv .i64 0, slv rT_api_Pair [], iv .i64 0, iv .i64 0, iv .i64 0, slv rT_api_Move []] rfl ⟨imp_rfl, nil_sl, imp_rfl, imp_rfl, imp_rfl, nil_sl, trivial⟩) ?_
    exact fin2 (.inl rfl) () [] rfl trivial rfl (rv_cell rfl (j := 3) rfl Try.isAgg35 Try.sizeOf35 rfl rfl) (rv_tmp rfl)
  refine ref_skip (n_then (ref_seq ?_))
  refine ref_loopB (f := (ref28_Run_l1 proponent_1 opponent_2)) (Γl := (fun (s22 : T_api_Dialogue) (x23 : Unit) => [(3, pv (ptr b1 0)), (4, pv (ptr b2 0)), (5, pv (ptr b3 0)), (6, pv (ptr b4 0))])) (Ωl := (fun (s22 : T_api_Dialogue) (x23 : Unit) => [oc b1 [iv .i64 s22.Graph.N, slv rT_api_Pair s22.Graph.L, iv .i64 s22.Root, iv .i64 s22.Limits.i0, iv .i64 s22.Limits.i1, slv rT_api_Move s22.Moves], oc b2 [slv (rI .i64) proponent_1.Pool, slv (rI .i64) proponent_1.Withheld, slv rT_api_Move proponent_1.Script, iv .i64 proponent_1.Style], oc b3 [slv (rI .i64) opponent_2.Pool, slv (rI .i64) opponent_2.Withheld, slv rT_api_Move opponent_2.Script, iv .i64 opponent_2.Style], oc b4 [iv .i64 0, pv (.slice none 0 0), iv .i64 0, iv .i64 0, iv .i64 0, pv (.slice none 0 0)]])) (Γb := (fun (q35 : T_api_Dialogue) (y36 : Unit) => [(3, pv (ptr b1 0)), (6, pv (ptr b4 0))])) (Ωb := (fun (q35 : T_api_Dialogue) (y36 : Unit) => [oc b1 [iv .i64 q35.Graph.N, slv rT_api_Pair q35.Graph.L, iv .i64 q35.Root, iv .i64 q35.Limits.i0, iv .i64 q35.Limits.i1, slv rT_api_Move q35.Moves], oc b4 [iv .i64 0, pv (.slice none 0 0), iv .i64 0, iv .i64 0, iv .i64 0, pv (.slice none 0 0)]])) d_0 () (weak [0, 1, 2, 3] ⟨rfl, rfl, rfl, rfl, trivial⟩ ⟨rfl, rfl, rfl, rfl, trivial⟩) (fun s22 x23 => ?_) (fun q35 y36 => ?_)
  · unfold ref28_Run_l1
    refine ref_seq (ref_seq (ref_region ?_))
    refine s_rd (r_cloadS Try.isAgg35 Try.sizeOf35 rfl (j := 0) rfl rfl rfl) rfl ?_
    refine pull fun t24 h_t24 => ?_
    refine s_st (s_call (ψ := fun (_ : Unit) => iv .i64 t24) (args := [.tmp 29]) Try.call41 rfl (ref27_Turn_ok h_t24) ⟨arg rfl, trivial⟩ (fun _ _ _ _ h => h)) rfl (fun _ => ?_)
    refine s_rd (r_neq rfl rfl) rfl ?_
    refine l_nil (n_then ?_)
    refine ref_cond rfl (fun hb25 => ?_) (fun hb25 => ?_)
    · refine ref_skip (n_then (ref_block (ref_seq (ref_region ?_))))
      refine s_rd (r_cloadS Try.isAgg25 Try.sizeOf25 rfl (j := 1) rfl rfl rfl) rfl ?_
      refine s_st (s_alloc zt_25) rfl (fun b26 => ?_)
      refine s_st0 (s_cstore (out := [slv (rI .i64) proponent_1.Pool, slv (rI .i64) proponent_1.Withheld, slv rT_api_Move proponent_1.Script, iv .i64 proponent_1.Style]) Try.sizeOf25 rfl (j := 4) rfl (part_agO (ψs := [slv (rI .i64) proponent_1.Pool, slv (rI .i64) proponent_1.Withheld, slv rT_api_Move proponent_1.Script, iv .i64 proponent_1.Style]) rfl ⟨.inl slv_at, .inl slv_at, .inl slv_at, .inl iv_at, trivial⟩) rfl rfl rfl) (fun _ => ?_)
      refine l_nil ?_
      refine b_of (nrm [oc b1 [iv .i64 s22.Graph.N, slv rT_api_Pair s22.Graph.L, iv .i64 s22.Root, iv .i64 s22.Limits.i0, iv .i64 s22.Limits.i1, slv rT_api_Move s22.Moves], oc b2 [slv (rI .i64) proponent_1.Pool, slv (rI .i64) proponent_1.Withheld, slv rT_api_Move proponent_1.Script, iv .i64 proponent_1.Style], oc b3 [slv (rI .i64) opponent_2.Pool, slv (rI .i64) opponent_2.Withheld, slv rT_api_Move opponent_2.Script, iv .i64 opponent_2.Style], oc b4 [iv .i64 0, pv (.slice none 0 0), iv .i64 0, iv .i64 0, iv .i64 0, pv (.slice none 0 0)], oc b26 [slv (rI .i64) proponent_1.Pool, slv (rI .i64) proponent_1.Withheld, slv rT_api_Move proponent_1.Script, iv .i64 proponent_1.Style]] rfl) ?_
      refine n_then (ref_seq ?_)
      refine ref_join (fun (j29 : T_api_Player) (x30 : Unit) => [(3, pv (ptr b1 0)), (4, pv (ptr b2 0)), (5, pv (ptr b3 0)), (6, pv (ptr b4 0)), (10, pv (ptr b26 0))]) (fun (j29 : T_api_Player) (x30 : Unit) => [oc b1 [iv .i64 s22.Graph.N, slv rT_api_Pair s22.Graph.L, iv .i64 s22.Root, iv .i64 s22.Limits.i0, iv .i64 s22.Limits.i1, slv rT_api_Move s22.Moves], oc b2 [slv (rI .i64) proponent_1.Pool, slv (rI .i64) proponent_1.Withheld, slv rT_api_Move proponent_1.Script, iv .i64 proponent_1.Style], oc b3 [slv (rI .i64) opponent_2.Pool, slv (rI .i64) opponent_2.Withheld, slv rT_api_Move opponent_2.Script, iv .i64 opponent_2.Style], oc b4 [iv .i64 0, pv (.slice none 0 0), iv .i64 0, iv .i64 0, iv .i64 0, pv (.slice none 0 0)], oc b26 [slv (rI .i64) j29.Pool, slv (rI .i64) j29.Withheld, slv rT_api_Move j29.Script, iv .i64 j29.Style]]) (fun k31 hk31 => ?_) (fun j29 x30 => ?_)
      · refine ref_seq (ref_region ?_)
        refine s_rd (r_cloadS Try.isAgg35 Try.sizeOf35 rfl (j := 0) rfl rfl rfl) rfl ?_
        refine pull fun t27 h_t27 => ?_
        refine s_st (s_call (ψ := fun (_ : Unit) => iv .i64 t27) (args := [.tmp 33]) Try.call41 rfl (ref27_Turn_ok h_t27) ⟨arg rfl, trivial⟩ (fun _ _ _ _ h => h)) rfl (fun _ => ?_)
        refine s_rd (r_eql rfl rfl) rfl ?_
        refine l_nil (n_then ?_)
        refine ref_cond rfl (fun hb28 => ?_) (fun hb28 => ?_)
        · refine ref_region ?_
          refine s_rd (r_cloadS Try.isAgg25 Try.sizeOf25 rfl (j := 2) rfl rfl rfl) rfl ?_
          refine s_st0 (s_cstore (out := [slv (rI .i64) opponent_2.Pool, slv (rI .i64) opponent_2.Withheld, slv rT_api_Move opponent_2.Script, iv .i64 opponent_2.Style]) Try.sizeOf25 rfl (j := 4) rfl (part_agO (ψs := [slv (rI .i64) opponent_2.Pool, slv (rI .i64) opponent_2.Withheld, slv rT_api_Move opponent_2.Script, iv .i64 opponent_2.Style]) rfl ⟨.inl slv_at, .inl slv_at, .inl slv_at, .inl iv_at, trivial⟩) rfl rfl rfl) (fun _ => ?_)
          refine l_nil ?_
          exact b_to (hk31 opponent_2 ()) (weak [0, 1, 2, 3, 4] ⟨rfl, rfl, rfl, rfl, rfl, trivial⟩ ⟨rfl, rfl, rfl, rfl, rfl, trivial⟩)
        refine ref_skip ?_
        exact b_to (hk31 proponent_1 ()) (weak [0, 1, 2, 3, 4] ⟨rfl, rfl, rfl, rfl, rfl, trivial⟩ ⟨rfl, rfl, rfl, rfl, rfl, trivial⟩)
      refine n_then (ref_seq (ref_region ?_))
      refine s_rd (r_cloadS Try.isAgg35 Try.sizeOf35 rfl (j := 0) rfl rfl rfl) rfl ?_
      refine s_rd (r_cloadS Try.isAgg25 Try.sizeOf25 rfl (j := 4) rfl rfl rfl) rfl ?_
      refine pull fun t32 h_t32 => ?_
      refine s_st (s_call (ψ := fun (_ : Unit) => tup [ag [iv .i64 t32.1.By, iv .i64 t32.1.Kind, iv .i64 t32.1.Node, iv .i64 t32.1.Target], iv .i64 t32.2]) (args := [.tmp 38, .tmp 39]) Try.call13 rfl (ref28_Choose_ok h_t32) ⟨arg rfl, arg rfl, trivial⟩ (fun _ _ _ _ h => h)) rfl (fun _ => ?_)
      refine mv1 rfl rfl ?_
      refine s_rd (r_extract rfl rfl) rfl ?_
      refine s_rd (r_extract rfl rfl) rfl ?_
      refine s_st (s_alloc zt_40) rfl (fun b33 => ?_)
      refine s_st0 (s_cstore (out := [iv .i64 t32.1.By, iv .i64 t32.1.Kind, iv .i64 t32.1.Node, iv .i64 t32.1.Target]) Try.sizeOf40 rfl (j := 5) rfl (part_agO (ψs := [iv .i64 t32.1.By, iv .i64 t32.1.Kind, iv .i64 t32.1.Node, iv .i64 t32.1.Target]) rfl ⟨.inl iv_at, .inl iv_at, .inl iv_at, .inl iv_at, trivial⟩) rfl rfl rfl) (fun _ => ?_)
      refine as1 rfl rfl ?_
      refine l_nil (n_then (ref_region ?_))
      refine s_rd (r_cloadS Try.isAgg35 Try.sizeOf35 rfl (j := 0) rfl rfl rfl) rfl ?_
      refine s_rd (r_cloadS Try.isAgg40 Try.sizeOf40 rfl (j := 5) rfl rfl rfl) rfl ?_
      refine pull fun t34 h_t34 => ?_
      refine s_st (s_call (ψ := fun (_ : Unit) => tup [ag [iv .i64 t34.1.Graph.N, slv rT_api_Pair t34.1.Graph.L, iv .i64 t34.1.Root, iv .i64 t34.1.Limits.i0, iv .i64 t34.1.Limits.i1, slv rT_api_Move t34.1.Moves], iv .i64 t34.2]) (args := [.tmp 44, .tmp 45]) Try.call26 rfl (ref27_Apply_ok h_t34) ⟨arg rfl, arg rfl, trivial⟩ (fun _ _ _ _ h => h)) rfl (fun _ => ?_)
      refine mv1 rfl rfl ?_
      refine s_rd (r_extract rfl rfl) rfl ?_
      refine s_rd (r_extract rfl rfl) rfl ?_
      refine s_st0 (s_cstore (out := [iv .i64 t34.1.Graph.N, slv rT_api_Pair t34.1.Graph.L, iv .i64 t34.1.Root, iv .i64 t34.1.Limits.i0, iv .i64 t34.1.Limits.i1, slv rT_api_Move t34.1.Moves]) Try.sizeOf35 rfl (j := 0) rfl (part_agO (ψs := [iv .i64 t34.1.Graph.N, slv rT_api_Pair t34.1.Graph.L, iv .i64 t34.1.Root, iv .i64 t34.1.Limits.i0, iv .i64 t34.1.Limits.i1, slv rT_api_Move t34.1.Moves]) rfl ⟨.inl iv_at, .inl slv_at, .inl iv_at, .inl iv_at, .inl iv_at, .inl slv_at, trivial⟩) rfl rfl rfl) (fun _ => ?_)
      refine l_nil ?_
      refine b_of (nrm [oc b1 [iv .i64 t34.1.Graph.N, slv rT_api_Pair t34.1.Graph.L, iv .i64 t34.1.Root, iv .i64 t34.1.Limits.i0, iv .i64 t34.1.Limits.i1, slv rT_api_Move t34.1.Moves], oc b2 [slv (rI .i64) proponent_1.Pool, slv (rI .i64) proponent_1.Withheld, slv rT_api_Move proponent_1.Script, iv .i64 proponent_1.Style], oc b3 [slv (rI .i64) opponent_2.Pool, slv (rI .i64) opponent_2.Withheld, slv rT_api_Move opponent_2.Script, iv .i64 opponent_2.Style], oc b4 [iv .i64 0, pv (.slice none 0 0), iv .i64 0, iv .i64 0, iv .i64 0, pv (.slice none 0 0)], oc b26 [slv (rI .i64) j29.Pool, slv (rI .i64) j29.Withheld, slv rT_api_Move j29.Script, iv .i64 j29.Style], oc b33 [iv .i64 t32.1.By, iv .i64 t32.1.Kind, iv .i64 t32.1.Node, iv .i64 t32.1.Target]] rfl) ?_
      refine n_block ?_
      exact goB () (weak [0, 1, 2, 3] ⟨rfl, rfl, rfl, rfl, trivial⟩ ⟨rfl, rfl, rfl, rfl, trivial⟩)
    refine ref_exit (x_then ?_)
    exact brkB () (weak [0, 3] ⟨rfl, rfl, trivial⟩ ⟨rfl, rfl, trivial⟩)
  refine n_then (ref_seq (ref_region ?_))
  refine s_rd (r_cloadS Try.isAgg35 Try.sizeOf35 rfl (j := 0) rfl rfl rfl) rfl ?_
  refine s_st0 (s_cstore (out := [iv .i64 q35.Graph.N, slv rT_api_Pair q35.Graph.L, iv .i64 q35.Root, iv .i64 q35.Limits.i0, iv .i64 q35.Limits.i1, slv rT_api_Move q35.Moves]) Try.sizeOf35 rfl (j := 1) rfl (part_agO (ψs := [iv .i64 q35.Graph.N, slv rT_api_Pair q35.Graph.L, iv .i64 q35.Root, iv .i64 q35.Limits.i0, iv .i64 q35.Limits.i1, slv rT_api_Move q35.Moves]) rfl ⟨.inl iv_at, .inl slv_at, .inl iv_at, .inl iv_at, .inl iv_at, .inl slv_at, trivial⟩) rfl rfl rfl) (fun _ => ?_)
  refine as1 rfl rfl ?_
  refine l_nil (n_then (ref_ret ?_))
  exact fin2 (.inl rfl) () [] rfl trivial rfl (rv_cell rfl (j := 1) rfl Try.isAgg35 Try.sizeOf35 rfl rfl) (rv_tmp rfl)

/-! deliberation/deliberationnet.Pairs -/
noncomputable def net_Pairs_l1 (a__0 : (List T_api_Pair)) (b_1 : (List T_api_Pair)) (s8 : Int) : Option (Sum ((Sum (Bool) (Unit))) (Int)) :=
  bif decide (s8 < (a__0.length : Int)) then
    Option.bind (idxM a__0 s8) fun t11 =>
    Option.bind (idxM b_1 s8) fun t12 =>
    bif !decide (t11 = t12) then
      some (Sum.inl (Sum.inl false))
    else
      some (Sum.inr (iadd .i64 s8 1))
  else
    some (Sum.inl (Sum.inr ()))

noncomputable def net_Pairs_m (a__0 : (List T_api_Pair)) (b_1 : (List T_api_Pair)) : Option (Bool) :=
  bif (a__0.length : Int) != (b_1.length : Int) then
    some false
  else
    Option.bind (loopC (net_Pairs_l1 a__0 b_1) 0) (sumK (fun a : Bool => some a) fun q14 : Unit =>
      some true)

theorem net_Pairs_ok {a__0 : (List T_api_Pair)} {b_1 : (List T_api_Pair)} {r : Bool} (hm : net_Pairs_m a__0 b_1 = some r) :
    FnOk prog 75 [slv rT_api_Pair a__0, slv rT_api_Pair b_1] [] (fun (x : Unit) => [bv r]) (fun (x : Unit) => []) := by
  refine fn_ok (fn := Try.f75) (N := 26) (res := fun r x => [bv r]) (Ω1 := fun r x => []) Try.func75 rfl rfl hm rfl (fun E hM => ?_)
  unfold net_Pairs_m
  refine ref_seq (ref_region ?_)
  refine as1 rfl rfl ?_
  refine l_nil (n_then (ref_seq (ref_seq (ref_region ?_))))
  refine mv1 rfl rfl ?_
  refine s_rd (r_len Try.underlying26 rfl) rfl ?_
  refine mv1 rfl rfl ?_
  refine s_rd (r_len Try.underlying26 rfl) rfl ?_
  refine s_rd (r_neq rfl rfl) rfl ?_
  refine l_nil (n_then ?_)
  refine ref_cond rfl (fun hb1 => ?_) (fun hb1 => ?_)
  · refine ref_seq (ref_region ?_)
    refine as1 rfl rfl ?_
    refine l_nil (n_then (ref_ret (r_then ?_)))
    exact fin1 (.inl rfl) () [] rfl trivial rfl (rv_tmp rfl)
  refine ref_skip (n_then (ref_seq (ref_seq (ref_region ?_))))
  refine as1 rfl rfl ?_
  refine l_nil (n_then ?_)
  refine ref_loopX (f := (net_Pairs_l1 a__0 b_1)) (Γl := (fun (s8 : Int) (x9 : Unit) => [(0, slv rT_api_Pair a__0), (1, slv rT_api_Pair b_1), (5, iv .i64 s8)])) (Ωl := (fun (s8 : Int) (x9 : Unit) => [])) (Γb := (fun (q14 : Unit) (y15 : Unit) => [])) (Ωb := (fun (q14 : Unit) (y15 : Unit) => [])) (kr := (fun a : Bool => some a)) 0 () (weak [] ⟨rfl, rfl, rfl, trivial⟩ trivial) (fun s8 x9 => ?_) (fun q14 y15 => ?_)
  · unfold net_Pairs_l1
    refine ref_seq (ref_seq (ref_region ?_))
    refine mv1 rfl rfl ?_
    refine mv1 rfl rfl ?_
    refine s_rd (r_len Try.underlying26 rfl) rfl ?_
    refine s_rd (r_lss rfl rfl) rfl ?_
    refine l_nil (n_then ?_)
    refine ref_cond rfl (fun hb10 => ?_) (fun hb10 => ?_)
    · refine ref_skip (n_then (ref_seq (ref_block (ref_seq ?_))))
      refine ref_draw [0, 1, 2, 3, 4, 5, 6, 7, 8] rfl (by kernel_rfl) (fun hok => ?_)
      refine a_rd (i := 0) hok rfl (by kernel_rfl) rfl (r_move rfl) rfl ?_
      refine a_rd (i := 1) hok rfl (by kernel_rfl) rfl (r_move rfl) rfl ?_
      refine pull fun t11 h_t11 => ?_
      refine a_rd (i := 2) hok rfl (by kernel_rfl) rfl (r_index h_t11 Try.underlying26 el_67 rfl rfl) rfl ?_
      refine a_rd (i := 3) hok rfl (by kernel_rfl) rfl (r_load el_67 rfl) rfl ?_
      refine a_rd (i := 4) hok rfl (by kernel_rfl) rfl (r_move rfl) rfl ?_
      refine a_rd (i := 5) hok rfl (by kernel_rfl) rfl (r_move rfl) rfl ?_
      refine pull fun t12 h_t12 => ?_
      refine a_rd (i := 6) hok rfl (by kernel_rfl) rfl (r_index h_t12 Try.underlying26 el_67 rfl rfl) rfl ?_
      refine a_rd (i := 7) hok rfl (by kernel_rfl) rfl (r_load el_67 rfl) rfl ?_
      refine a_rd (i := 8) hok rfl (by kernel_rfl) rfl (r_stneq (u := t11) (v := t12) eq_67 rfl rfl rfl rfl) rfl ?_
      refine a_fin hok (by kernel_rfl) ?_
      refine n_then ?_
      refine ref_cond rfl (fun hb13 => ?_) (fun hb13 => ?_)
      · refine ref_seq (ref_region ?_)
        refine as1 rfl rfl ?_
        refine l_nil (n_then (ref_ret (r_block (r_then ?_))))
        refine retX ?_
        refine r_block (r_then ?_)
        exact fin1 (.inl rfl) () [] rfl trivial rfl (rv_tmp rfl)
      refine ref_skip (n_block (n_then (ref_region ?_)))
      refine mv1 rfl rfl ?_
      refine s_rd (r_add rfl rfl) rfl ?_
      refine as1 rfl rfl ?_
      refine l_nil ?_
      exact goX () (weak [] ⟨rfl, rfl, rfl, trivial⟩ trivial)
    refine ref_exit (x_then ?_)
    exact brkX () (weak [] trivial trivial)
  refine n_then (ref_seq (ref_region ?_))
  refine as1 rfl rfl ?_
  refine l_nil (n_then (ref_ret ?_))
  exact fin1 (.inl rfl) () [] rfl trivial rfl (rv_tmp rfl)

/-! deliberation/deliberationnet.Same -/
noncomputable def net_Same_m (a__0 : T_api_Graph) (b_1 : T_api_Graph) : Option (Bool) :=
  bif a__0.N == b_1.N then
    Option.bind (net_Pairs_m a__0.L b_1.L) fun t3 =>
    some t3
  else
    some false

theorem net_Same_ok {a__0 : T_api_Graph} {b_1 : T_api_Graph} {r : Bool} (hm : net_Same_m a__0 b_1 = some r) :
    FnOk prog 48 [ag [iv .i64 a__0.N, slv rT_api_Pair a__0.L], ag [iv .i64 b_1.N, slv rT_api_Pair b_1.L]] [] (fun (x : Unit) => [bv r]) (fun (x : Unit) => []) := by
  refine fn_ok (fn := Try.f48) (N := 17) (res := fun r x => [bv r]) (Ω1 := fun r x => []) Try.func48 rfl rfl hm rfl (fun E hM => ?_)
  unfold net_Same_m
  refine ref_seq (ref_region ?_)
  refine s_st (s_box (part_agO (ψs := [iv .i64 a__0.N, slv rT_api_Pair a__0.L]) rfl ⟨.inl iv_at, .inl slv_at, trivial⟩)) rfl (fun b1 => ?_)
  refine s_st (s_box (part_agO (ψs := [iv .i64 b_1.N, slv rT_api_Pair b_1.L]) rfl ⟨.inl iv_at, .inl slv_at, trivial⟩)) rfl (fun b2 => ?_)
  refine as1 rfl rfl ?_
  refine l_nil (n_then (ref_seq (ref_region ?_)))
  refine s_rd (r_faddr (fo := 0) Try.underlying28 rfl rfl Try.sizeOf3 rfl) rfl ?_
  refine s_rd (r_cload Try.isAgg3 rfl (j := 0) rfl rfl) rfl ?_
  refine s_rd (r_faddr (fo := 0) Try.underlying28 rfl rfl Try.sizeOf3 rfl) rfl ?_
  refine s_rd (r_cload Try.isAgg3 rfl (j := 1) rfl rfl) rfl ?_
  refine s_rd (r_eql rfl rfl) rfl ?_
  refine mv1 rfl rfl ?_
  refine b_split (t := 10) rfl (fun _ => ?_) (fun _ => ?_)
  · refine s_on rfl rfl rfl ?_
    refine s_rd (r_faddr (fo := 1) Try.underlying28 rfl rfl Try.sizeOf26 rfl) rfl ?_
    refine s_on rfl rfl rfl ?_
    refine s_rd (r_cload Try.isAgg26 rfl (j := 0) rfl rfl) rfl ?_
    refine s_on rfl rfl rfl ?_
    refine s_rd (r_faddr (fo := 1) Try.underlying28 rfl rfl Try.sizeOf26 rfl) rfl ?_
    refine s_on rfl rfl rfl ?_
    refine s_rd (r_cload Try.isAgg26 rfl (j := 1) rfl rfl) rfl ?_
    refine s_on rfl rfl rfl ?_
    refine pull fun t3 h_t3 => ?_
    refine s_st (s_call (ψ := fun (_ : Unit) => bv t3) (args := [.tmp 12, .tmp 14]) Try.call75 rfl (net_Pairs_ok h_t3) ⟨arg rfl, arg rfl, trivial⟩ (fun _ _ _ _ h => h)) rfl (fun _ => ?_)
    refine s_rd (r_pickT rfl rfl) rfl ?_
    refine as1 rfl rfl ?_
    refine l_nil (n_then (ref_ret ?_))
    exact fin1 (.inl rfl) () [] rfl trivial rfl (rv_tmp rfl)
  refine s_off rfl rfl rfl rfl rfl ?_
  refine s_off rfl rfl rfl rfl rfl ?_
  refine s_off rfl rfl rfl rfl rfl ?_
  refine s_off rfl rfl rfl rfl rfl ?_
  refine s_off rfl rfl rfl rfl rfl ?_
  refine s_rd (r_pickF rfl rfl) rfl ?_
  refine as1 rfl rfl ?_
  refine l_nil (n_then (ref_ret ?_))
  exact fin1 (.inl rfl) () [] rfl trivial rfl (rv_tmp rfl)

/-! deliberation/deliberationref27.SameMoves -/
noncomputable def ref27_SameMoves_l1 (a__0 : (List T_api_Move)) (b_1 : (List T_api_Move)) (s8 : Int) : Option (Sum ((Sum (Bool) (Unit))) (Int)) :=
  bif decide (s8 < (a__0.length : Int)) then
    Option.bind (idxM a__0 s8) fun t11 =>
    Option.bind (idxM b_1 s8) fun t12 =>
    bif !decide (t11 = t12) then
      some (Sum.inl (Sum.inl false))
    else
      some (Sum.inr (iadd .i64 s8 1))
  else
    some (Sum.inl (Sum.inr ()))

noncomputable def ref27_SameMoves_m (a__0 : (List T_api_Move)) (b_1 : (List T_api_Move)) : Option (Bool) :=
  bif (a__0.length : Int) != (b_1.length : Int) then
    some false
  else
    Option.bind (loopC (ref27_SameMoves_l1 a__0 b_1) 0) (sumK (fun a : Bool => some a) fun q14 : Unit =>
      some true)

theorem ref27_SameMoves_ok {a__0 : (List T_api_Move)} {b_1 : (List T_api_Move)} {r : Bool} (hm : ref27_SameMoves_m a__0 b_1 = some r) :
    FnOk prog 49 [slv rT_api_Move a__0, slv rT_api_Move b_1] [] (fun (x : Unit) => [bv r]) (fun (x : Unit) => []) := by
  refine fn_ok (fn := Try.f49) (N := 26) (res := fun r x => [bv r]) (Ω1 := fun r x => []) Try.func49 rfl rfl hm rfl (fun E hM => ?_)
  unfold ref27_SameMoves_m
  refine ref_seq (ref_region ?_)
  refine as1 rfl rfl ?_
  refine l_nil (n_then (ref_seq (ref_seq (ref_region ?_))))
  refine mv1 rfl rfl ?_
  refine s_rd (r_len Try.underlying23 rfl) rfl ?_
  refine mv1 rfl rfl ?_
  refine s_rd (r_len Try.underlying23 rfl) rfl ?_
  refine s_rd (r_neq rfl rfl) rfl ?_
  refine l_nil (n_then ?_)
  refine ref_cond rfl (fun hb1 => ?_) (fun hb1 => ?_)
  · refine ref_seq (ref_region ?_)
    refine as1 rfl rfl ?_
    refine l_nil (n_then (ref_ret (r_then ?_)))
    exact fin1 (.inl rfl) () [] rfl trivial rfl (rv_tmp rfl)
  refine ref_skip (n_then (ref_seq (ref_seq (ref_region ?_))))
  refine as1 rfl rfl ?_
  refine l_nil (n_then ?_)
  refine ref_loopX (f := (ref27_SameMoves_l1 a__0 b_1)) (Γl := (fun (s8 : Int) (x9 : Unit) => [(0, slv rT_api_Move a__0), (1, slv rT_api_Move b_1), (5, iv .i64 s8)])) (Ωl := (fun (s8 : Int) (x9 : Unit) => [])) (Γb := (fun (q14 : Unit) (y15 : Unit) => [])) (Ωb := (fun (q14 : Unit) (y15 : Unit) => [])) (kr := (fun a : Bool => some a)) 0 () (weak [] ⟨rfl, rfl, rfl, trivial⟩ trivial) (fun s8 x9 => ?_) (fun q14 y15 => ?_)
  · unfold ref27_SameMoves_l1
    refine ref_seq (ref_seq (ref_region ?_))
    refine mv1 rfl rfl ?_
    refine mv1 rfl rfl ?_
    refine s_rd (r_len Try.underlying23 rfl) rfl ?_
    refine s_rd (r_lss rfl rfl) rfl ?_
    refine l_nil (n_then ?_)
    refine ref_cond rfl (fun hb10 => ?_) (fun hb10 => ?_)
    · refine ref_skip (n_then (ref_seq (ref_block (ref_seq ?_))))
      refine ref_draw [0, 1, 2, 3, 4, 5, 6, 7, 8] rfl (by kernel_rfl) (fun hok => ?_)
      refine a_rd (i := 0) hok rfl (by kernel_rfl) rfl (r_move rfl) rfl ?_
      refine a_rd (i := 1) hok rfl (by kernel_rfl) rfl (r_move rfl) rfl ?_
      refine pull fun t11 h_t11 => ?_
      refine a_rd (i := 2) hok rfl (by kernel_rfl) rfl (r_index h_t11 Try.underlying23 el_40 rfl rfl) rfl ?_
      refine a_rd (i := 3) hok rfl (by kernel_rfl) rfl (r_load el_40 rfl) rfl ?_
      refine a_rd (i := 4) hok rfl (by kernel_rfl) rfl (r_move rfl) rfl ?_
      refine a_rd (i := 5) hok rfl (by kernel_rfl) rfl (r_move rfl) rfl ?_
      refine pull fun t12 h_t12 => ?_
      refine a_rd (i := 6) hok rfl (by kernel_rfl) rfl (r_index h_t12 Try.underlying23 el_40 rfl rfl) rfl ?_
      refine a_rd (i := 7) hok rfl (by kernel_rfl) rfl (r_load el_40 rfl) rfl ?_
      refine a_rd (i := 8) hok rfl (by kernel_rfl) rfl (r_stneq (u := t11) (v := t12) eq_40 rfl rfl rfl rfl) rfl ?_
      refine a_fin hok (by kernel_rfl) ?_
      refine n_then ?_
      refine ref_cond rfl (fun hb13 => ?_) (fun hb13 => ?_)
      · refine ref_seq (ref_region ?_)
        refine as1 rfl rfl ?_
        refine l_nil (n_then (ref_ret (r_block (r_then ?_))))
        refine retX ?_
        refine r_block (r_then ?_)
        exact fin1 (.inl rfl) () [] rfl trivial rfl (rv_tmp rfl)
      refine ref_skip (n_block (n_then (ref_region ?_)))
      refine mv1 rfl rfl ?_
      refine s_rd (r_add rfl rfl) rfl ?_
      refine as1 rfl rfl ?_
      refine l_nil ?_
      exact goX () (weak [] ⟨rfl, rfl, rfl, trivial⟩ trivial)
    refine ref_exit (x_then ?_)
    exact brkX () (weak [] trivial trivial)
  refine n_then (ref_seq (ref_region ?_))
  refine as1 rfl rfl ?_
  refine l_nil (n_then (ref_ret ?_))
  exact fin1 (.inl rfl) () [] rfl trivial rfl (rv_tmp rfl)

/-! deliberation/deliberationref27.Same -/
noncomputable def ref27_Same_m (a__0 : T_api_Dialogue) (b_1 : T_api_Dialogue) : Option (Bool) :=
  Option.bind (net_Same_m a__0.Graph b_1.Graph) fun t3 =>
  bif t3 then
    bif a__0.Root == b_1.Root then
      bif decide (a__0.Limits = b_1.Limits) then
        Option.bind (ref27_SameMoves_m a__0.Moves b_1.Moves) fun t4 =>
        some t4
      else
        some false
    else
      some false
  else
    some false

theorem ref27_Same_ok {a__0 : T_api_Dialogue} {b_1 : T_api_Dialogue} {r : Bool} (hm : ref27_Same_m a__0 b_1 = some r) :
    FnOk prog 16 [ag [iv .i64 a__0.Graph.N, slv rT_api_Pair a__0.Graph.L, iv .i64 a__0.Root, iv .i64 a__0.Limits.i0, iv .i64 a__0.Limits.i1, slv rT_api_Move a__0.Moves], ag [iv .i64 b_1.Graph.N, slv rT_api_Pair b_1.Graph.L, iv .i64 b_1.Root, iv .i64 b_1.Limits.i0, iv .i64 b_1.Limits.i1, slv rT_api_Move b_1.Moves]] [] (fun (x : Unit) => [bv r]) (fun (x : Unit) => []) := by
  refine fn_ok (fn := Try.f16) (N := 31) (res := fun r x => [bv r]) (Ω1 := fun r x => []) Try.func16 rfl rfl hm rfl (fun E hM => ?_)
  unfold ref27_Same_m
  refine ref_seq (ref_region ?_)
  refine s_st (s_box (part_agO (ψs := [iv .i64 a__0.Graph.N, slv rT_api_Pair a__0.Graph.L, iv .i64 a__0.Root, iv .i64 a__0.Limits.i0, iv .i64 a__0.Limits.i1, slv rT_api_Move a__0.Moves]) rfl ⟨.inl iv_at, .inl slv_at, .inl iv_at, .inl iv_at, .inl iv_at, .inl slv_at, trivial⟩)) rfl (fun b1 => ?_)
  refine s_st (s_box (part_agO (ψs := [iv .i64 b_1.Graph.N, slv rT_api_Pair b_1.Graph.L, iv .i64 b_1.Root, iv .i64 b_1.Limits.i0, iv .i64 b_1.Limits.i1, slv rT_api_Move b_1.Moves]) rfl ⟨.inl iv_at, .inl slv_at, .inl iv_at, .inl iv_at, .inl iv_at, .inl slv_at, trivial⟩)) rfl (fun b2 => ?_)
  refine as1 rfl rfl ?_
  refine l_nil (n_then (ref_seq (ref_region ?_)))
  refine s_rd (r_faddr (fo := 0) Try.underlying35 rfl rfl Try.sizeOf28 rfl) rfl ?_
  refine s_rd (r_cloadS Try.isAgg28 Try.sizeOf28 rfl (j := 0) rfl rfl rfl) rfl ?_
  refine s_rd (r_faddr (fo := 0) Try.underlying35 rfl rfl Try.sizeOf28 rfl) rfl ?_
  refine s_rd (r_cloadS Try.isAgg28 Try.sizeOf28 rfl (j := 1) rfl rfl rfl) rfl ?_
  refine pull fun t3 h_t3 => ?_
  refine s_st (s_call (ψ := fun (_ : Unit) => bv t3) (args := [.tmp 6, .tmp 8]) Try.call48 rfl (net_Same_ok h_t3) ⟨arg rfl, arg rfl, trivial⟩ (fun _ _ _ _ h => h)) rfl (fun _ => ?_)
  refine mv1 rfl rfl ?_
  refine b_split (t := 10) rfl (fun _ => ?_) (fun _ => ?_)
  · refine s_on rfl rfl rfl ?_
    refine s_rd (r_faddr (fo := 2) Try.underlying35 rfl rfl Try.sizeOf3 rfl) rfl ?_
    refine s_on rfl rfl rfl ?_
    refine s_rd (r_cload Try.isAgg3 rfl (j := 0) rfl rfl) rfl ?_
    refine s_on rfl rfl rfl ?_
    refine s_rd (r_faddr (fo := 2) Try.underlying35 rfl rfl Try.sizeOf3 rfl) rfl ?_
    refine s_on rfl rfl rfl ?_
    refine s_rd (r_cload Try.isAgg3 rfl (j := 1) rfl rfl) rfl ?_
    refine s_on rfl rfl rfl ?_
    refine s_rd (r_eql rfl rfl) rfl ?_
    refine s_rd (r_pickT rfl rfl) rfl ?_
    refine mv1 rfl rfl ?_
    refine b_split (t := 17) rfl (fun _ => ?_) (fun _ => ?_)
    · refine s_on rfl rfl rfl ?_
      refine s_rd (r_faddr (fo := 3) Try.underlying35 rfl rfl Try.sizeOf33 rfl) rfl ?_
      refine s_on rfl rfl rfl ?_
      refine s_rd (r_cloadS Try.isAgg33 Try.sizeOf33 rfl (j := 0) rfl rfl rfl) rfl ?_
      refine s_on rfl rfl rfl ?_
      refine s_rd (r_faddr (fo := 3) Try.underlying35 rfl rfl Try.sizeOf33 rfl) rfl ?_
      refine s_on rfl rfl rfl ?_
      refine s_rd (r_cloadS Try.isAgg33 Try.sizeOf33 rfl (j := 1) rfl rfl rfl) rfl ?_
      refine s_on rfl rfl rfl ?_
      refine s_rd (r_steql (u := a__0.Limits) (v := b_1.Limits) eq_33 rfl rfl rfl rfl) rfl ?_
      refine s_rd (r_pickT rfl rfl) rfl ?_
      refine mv1 rfl rfl ?_
      refine b_split (t := 24) rfl (fun _ => ?_) (fun _ => ?_)
      · refine s_on rfl rfl rfl ?_
        refine s_rd (r_faddr (fo := 5) Try.underlying35 rfl rfl Try.sizeOf23 rfl) rfl ?_
        refine s_on rfl rfl rfl ?_
        refine s_rd (r_cload Try.isAgg23 rfl (j := 0) rfl rfl) rfl ?_
        refine s_on rfl rfl rfl ?_
        refine s_rd (r_faddr (fo := 5) Try.underlying35 rfl rfl Try.sizeOf23 rfl) rfl ?_
        refine s_on rfl rfl rfl ?_
        refine s_rd (r_cload Try.isAgg23 rfl (j := 1) rfl rfl) rfl ?_
        refine s_on rfl rfl rfl ?_
        refine pull fun t4 h_t4 => ?_
        refine s_st (s_call (ψ := fun (_ : Unit) => bv t4) (args := [.tmp 26, .tmp 28]) Try.call49 rfl (ref27_SameMoves_ok h_t4) ⟨arg rfl, arg rfl, trivial⟩ (fun _ _ _ _ h => h)) rfl (fun _ => ?_)
        refine s_rd (r_pickT rfl rfl) rfl ?_
        refine as1 rfl rfl ?_
        refine l_nil ?_
        refine b_of (nrm [oc b1 [iv .i64 a__0.Graph.N, slv rT_api_Pair a__0.Graph.L, iv .i64 a__0.Root, iv .i64 a__0.Limits.i0, iv .i64 a__0.Limits.i1, slv rT_api_Move a__0.Moves], oc b2 [iv .i64 b_1.Graph.N, slv rT_api_Pair b_1.Graph.L, iv .i64 b_1.Root, iv .i64 b_1.Limits.i0, iv .i64 b_1.Limits.i1, slv rT_api_Move b_1.Moves]] rfl) ?_
        refine n_then (ref_ret ?_)
        exact fin1 (.inl rfl) () [] rfl trivial rfl (rv_tmp rfl)
      refine s_off rfl rfl rfl rfl rfl ?_
      refine s_off rfl rfl rfl rfl rfl ?_
      refine s_off rfl rfl rfl rfl rfl ?_
      refine s_off rfl rfl rfl rfl rfl ?_
      refine s_off rfl rfl rfl rfl rfl ?_
      refine s_rd (r_pickF rfl rfl) rfl ?_
      refine as1 rfl rfl ?_
      refine l_nil (n_then (ref_ret ?_))
      exact fin1 (.inl rfl) () [] rfl trivial rfl (rv_tmp rfl)
    refine s_off rfl rfl rfl rfl rfl ?_
    refine s_off rfl rfl rfl rfl rfl ?_
    refine s_off rfl rfl rfl rfl rfl ?_
    refine s_off rfl rfl rfl rfl rfl ?_
    refine s_off rfl rfl rfl rfl rfl ?_
    refine s_rd (r_pickF rfl rfl) rfl ?_
    refine mv1 rfl rfl ?_
    refine s_off rfl rfl rfl rfl rfl ?_
    refine s_off rfl rfl rfl rfl rfl ?_
    refine s_off rfl rfl rfl rfl rfl ?_
    refine s_off rfl rfl rfl rfl rfl ?_
    refine s_off rfl rfl rfl rfl rfl ?_
    refine s_rd (r_pickF rfl rfl) rfl ?_
    refine as1 rfl rfl ?_
    refine l_nil (n_then (ref_ret ?_))
    exact fin1 (.inl rfl) () [] rfl trivial rfl (rv_tmp rfl)
  refine s_off rfl rfl rfl rfl rfl ?_
  refine s_off rfl rfl rfl rfl rfl ?_
  refine s_off rfl rfl rfl rfl rfl ?_
  refine s_off rfl rfl rfl rfl rfl ?_
  refine s_off rfl rfl rfl rfl rfl ?_
  refine s_rd (r_pickF rfl rfl) rfl ?_
  refine mv1 rfl rfl ?_
  refine s_off rfl rfl rfl rfl rfl ?_
  refine s_off rfl rfl rfl rfl rfl ?_
  refine s_off rfl rfl rfl rfl rfl ?_
  refine s_off rfl rfl rfl rfl rfl ?_
  refine s_off rfl rfl rfl rfl rfl ?_
  refine s_rd (r_pickF rfl rfl) rfl ?_
  refine mv1 rfl rfl ?_
  refine s_off rfl rfl rfl rfl rfl ?_
  refine s_off rfl rfl rfl rfl rfl ?_
  refine s_off rfl rfl rfl rfl rfl ?_
  refine s_off rfl rfl rfl rfl rfl ?_
  refine s_off rfl rfl rfl rfl rfl ?_
  refine s_rd (r_pickF rfl rfl) rfl ?_
  refine as1 rfl rfl ?_
  refine l_nil (n_then (ref_ret ?_))
  exact fin1 (.inl rfl) () [] rfl trivial rfl (rv_tmp rfl)

/-! deliberation/deliberationkeep.Ints -/
noncomputable def keep_Ints_l1 (a__0 : (List Int)) (b_1 : (List Int)) (s8 : Int) : Option (Sum ((Sum (Bool) (Unit))) (Int)) :=
  bif decide (s8 < (a__0.length : Int)) then
    Option.bind (idxM a__0 s8) fun t11 =>
    Option.bind (idxM b_1 s8) fun t12 =>
    bif t11 != t12 then
      some (Sum.inl (Sum.inl false))
    else
      some (Sum.inr (iadd .i64 s8 1))
  else
    some (Sum.inl (Sum.inr ()))

noncomputable def keep_Ints_m (a__0 : (List Int)) (b_1 : (List Int)) : Option (Bool) :=
  bif (a__0.length : Int) != (b_1.length : Int) then
    some false
  else
    Option.bind (loopC (keep_Ints_l1 a__0 b_1) 0) (sumK (fun a : Bool => some a) fun q14 : Unit =>
      some true)

theorem keep_Ints_ok {a__0 : (List Int)} {b_1 : (List Int)} {r : Bool} (hm : keep_Ints_m a__0 b_1 = some r) :
    FnOk prog 19 [slv (rI .i64) a__0, slv (rI .i64) b_1] [] (fun (x : Unit) => [bv r]) (fun (x : Unit) => []) := by
  refine fn_ok (fn := Try.f19) (N := 26) (res := fun r x => [bv r]) (Ω1 := fun r x => []) Try.func19 rfl rfl hm rfl (fun E hM => ?_)
  unfold keep_Ints_m
  refine ref_seq (ref_region ?_)
  refine as1 rfl rfl ?_
  refine l_nil (n_then (ref_seq (ref_seq (ref_region ?_))))
  refine mv1 rfl rfl ?_
  refine s_rd (r_len Try.underlying22 rfl) rfl ?_
  refine mv1 rfl rfl ?_
  refine s_rd (r_len Try.underlying22 rfl) rfl ?_
  refine s_rd (r_neq rfl rfl) rfl ?_
  refine l_nil (n_then ?_)
  refine ref_cond rfl (fun hb1 => ?_) (fun hb1 => ?_)
  · refine ref_seq (ref_region ?_)
    refine as1 rfl rfl ?_
    refine l_nil (n_then (ref_ret (r_then ?_)))
    exact fin1 (.inl rfl) () [] rfl trivial rfl (rv_tmp rfl)
  refine ref_skip (n_then (ref_seq (ref_seq (ref_region ?_))))
  refine mv1 rfl rfl ?_
  refine s_rd (r_len Try.underlying22 rfl) rfl ?_
  refine mv1 rfl rfl ?_
  refine l_nil (n_then ?_)
  refine ref_loopX (f := (keep_Ints_l1 a__0 b_1)) (Γl := (fun (s8 : Int) (x9 : Unit) => [(0, slv (rI .i64) a__0), (1, slv (rI .i64) b_1), (12, iv .i64 (a__0.length : Int)), (13, iv .i64 s8)])) (Ωl := (fun (s8 : Int) (x9 : Unit) => [])) (Γb := (fun (q14 : Unit) (y15 : Unit) => [])) (Ωb := (fun (q14 : Unit) (y15 : Unit) => [])) (kr := (fun a : Bool => some a)) 0 () (weak [] ⟨rfl, rfl, rfl, rfl, trivial⟩ trivial) (fun s8 x9 => ?_) (fun q14 y15 => ?_)
  · unfold keep_Ints_l1
    refine ref_seq (ref_region ?_)
    refine s_rd (r_lss rfl rfl) rfl ?_
    refine l_nil (n_then (ref_seq ?_))
    refine ref_cond rfl (fun hb10 => ?_) (fun hb10 => ?_)
    · refine ref_skip (n_then (ref_seq (ref_block (ref_seq (ref_region ?_)))))
      refine mv1 rfl rfl ?_
      refine as1 rfl rfl ?_
      refine l_nil (n_then (ref_seq ?_))
      refine ref_draw [0, 1, 2, 3, 4, 5, 6, 7, 8] rfl (by kernel_rfl) (fun hok => ?_)
      refine a_rd (i := 0) hok rfl (by kernel_rfl) rfl (r_move rfl) rfl ?_
      refine a_rd (i := 1) hok rfl (by kernel_rfl) rfl (r_move rfl) rfl ?_
      refine pull fun t11 h_t11 => ?_
      refine a_rd (i := 2) hok rfl (by kernel_rfl) rfl (r_index h_t11 Try.underlying22 el_3 rfl rfl) rfl ?_
      refine a_rd (i := 3) hok rfl (by kernel_rfl) rfl (r_load el_3 rfl) rfl ?_
      refine a_rd (i := 4) hok rfl (by kernel_rfl) rfl (r_move rfl) rfl ?_
      refine a_rd (i := 5) hok rfl (by kernel_rfl) rfl (r_move rfl) rfl ?_
      refine pull fun t12 h_t12 => ?_
      refine a_rd (i := 6) hok rfl (by kernel_rfl) rfl (r_index h_t12 Try.underlying22 el_3 rfl rfl) rfl ?_
      refine a_rd (i := 7) hok rfl (by kernel_rfl) rfl (r_load el_3 rfl) rfl ?_
      refine a_rd (i := 8) hok rfl (by kernel_rfl) rfl (r_neq rfl rfl) rfl ?_
      refine a_fin hok (by kernel_rfl) ?_
      refine n_then ?_
      refine ref_cond rfl (fun hb13 => ?_) (fun hb13 => ?_)
      · refine ref_seq (ref_region ?_)
        refine as1 rfl rfl ?_
        refine l_nil (n_then (ref_ret (r_block (r_then ?_))))
        refine retX ?_
        refine r_block (r_then ?_)
        exact fin1 (.inl rfl) () [] rfl trivial rfl (rv_tmp rfl)
      refine ref_skip (n_block (n_then (ref_region ?_)))
      refine s_rd (r_add rfl rfl) rfl ?_
      refine mv1 rfl rfl ?_
      refine l_nil ?_
      exact goX () (weak [] ⟨rfl, rfl, rfl, rfl, trivial⟩ trivial)
    refine ref_exit (x_then ?_)
    exact brkX () (weak [] trivial trivial)
  refine n_then (ref_seq (ref_region ?_))
  refine as1 rfl rfl ?_
  refine l_nil (n_then (ref_ret ?_))
  exact fin1 (.inl rfl) () [] rfl trivial rfl (rv_tmp rfl)

/-! deliberation/deliberationlaw28.ParticipantChooses -/
noncomputable def law28_ParticipantChooses_l1 (raw_1 : T_api_Player) (t11 : T_api_Dialogue × T_deliberationkeep_Src) (t14 : T_api_Player × T_deliberationkeep_Src) (t15 : T_api_Player × T_deliberationkeep_Src) (s28 : Int) : Option (Sum ((Sum (Bool) (Unit))) (Int)) :=
  bif decide (s28 < ([t14.1, t15.1, raw_1].length : Int)) then
    Option.bind (idxM [t14.1, t15.1, raw_1] s28) fun t31 =>
    Option.bind (participant_Choose_m t11.1 t31) fun t33 =>
    Option.bind (ref28_Choose_m t11.1 t31) fun t35 =>
    bif t33.2 != t35.2 then
      some (Sum.inl (Sum.inl false))
    else
      bif !decide (t33.1 = t35.1) then
        some (Sum.inl (Sum.inl false))
      else
        some (Sum.inr (iadd .i64 s28 1))
  else
    some (Sum.inl (Sum.inr ()))

noncomputable def law28_ParticipantChooses_l2 (raw_1 : T_api_Player) (t11 : T_api_Dialogue × T_deliberationkeep_Src) (t14 : T_api_Player × T_deliberationkeep_Src) (t15 : T_api_Player × T_deliberationkeep_Src) (s51 : Int) : Option (Sum ((Sum (Bool) (Unit))) (Int)) :=
  bif decide (s51 < ([(T_arr2_25.mk t14.1 t15.1), (T_arr2_25.mk raw_1 t15.1), (T_arr2_25.mk t14.1 raw_1)].length : Int)) then
    Option.bind (idxM [(T_arr2_25.mk t14.1 t15.1), (T_arr2_25.mk raw_1 t15.1), (T_arr2_25.mk t14.1 raw_1)] s51) fun t54 =>
    Option.bind (participant_Run_m t11.1 t54.i0 t54.i1) fun t56 =>
    Option.bind (ref28_Run_m t11.1 t54.i0 t54.i1) fun t58 =>
    bif t56.2 != t58.2 then
      some (Sum.inl (Sum.inl false))
    else
      Option.bind (ref27_Same_m t56.1 t58.1) fun t60 =>
      bif !t60 then
        some (Sum.inl (Sum.inl false))
      else
        some (Sum.inr (iadd .i64 s51 1))
  else
    some (Sum.inl (Sum.inr ()))

noncomputable def law28_ParticipantChooses_l3 (g_2 : T_api_Graph) (style_3 : Int) (t11 : T_api_Dialogue × T_deliberationkeep_Src) (s76 : Int) : Option (Sum ((Sum (Bool) (Unit))) (Int)) :=
  bif decide (s76 < ([g_2, t11.1.Graph].length : Int)) then
    Option.bind (idxM [g_2, t11.1.Graph] s76) fun t79 =>
    Option.bind (participant_Full_m t79 style_3) fun t82 =>
    Option.bind (ref28_Full_m t79 style_3) fun t83 =>
    Option.bind (keep_Ints_m t82.Pool t83.Pool) fun t86 =>
    bif !t86 then
      some (Sum.inl (Sum.inl false))
    else
      bif decide ((iadd .i64 (t82.Withheld.length : Int) (t82.Script.length : Int)) > 0) then
        some (Sum.inl (Sum.inl false))
      else
        bif t82.Style != t83.Style then
          some (Sum.inl (Sum.inl false))
        else
          some (Sum.inr (iadd .i64 s76 1))
  else
    some (Sum.inl (Sum.inr ()))

noncomputable def law28_ParticipantChooses_m (l_0 : (List Int)) (raw_1 : T_api_Player) (g_2 : T_api_Graph) (style_3 : Int) : Option (Bool) :=
  bif decide ((raw_1.Pool.length : Int) > 50) then
    Option.bind (law28_awake_m ) fun t4 =>
    some t4
  else
    bif decide ((raw_1.Withheld.length : Int) > 50) then
      Option.bind (law28_awake_m ) fun t5 =>
      some t5
    else
      bif decide ((raw_1.Script.length : Int) > 50) then
        Option.bind (law28_awake_m ) fun t6 =>
        some t6
      else
        Option.bind (net_Light_m g_2) fun t3 =>
        bif !t3 then
          Option.bind (law28_awake_m ) fun t8 =>
          some t8
        else
          Option.bind (keep_New_m l_0) fun s9 =>
          Option.bind (law28_started_m s9 5) fun t11 =>
          Option.bind (law28_player_m t11.2 t11.1.Graph) fun t14 =>
          Option.bind (law28_player_m t14.2 t11.1.Graph) fun t15 =>
          Option.bind (loopC (law28_ParticipantChooses_l1 raw_1 t11 t14 t15) 0) (sumK (fun a : Bool => some a) fun q38 : Unit =>
            Option.bind (loopC (law28_ParticipantChooses_l2 raw_1 t11 t14 t15) 0) (sumK (fun a : Bool => some a) fun q62 : Unit =>
              Option.bind (loopC (law28_ParticipantChooses_l3 g_2 style_3 t11) 0) (sumK (fun a : Bool => some a) fun q88 : Unit =>
                Option.bind (law28_awake_m ) fun t90 =>
                some t90)))

theorem law28_ParticipantChooses_ok {l_0 : (List Int)} {raw_1 : T_api_Player} {g_2 : T_api_Graph} {style_3 : Int} {r : Bool} (hm : law28_ParticipantChooses_m l_0 raw_1 g_2 style_3 = some r) :
    FnOk prog 3 [slv (rI .i64) l_0, ag [slv (rI .i64) raw_1.Pool, slv (rI .i64) raw_1.Withheld, slv rT_api_Move raw_1.Script, iv .i64 raw_1.Style], ag [iv .i64 g_2.N, slv rT_api_Pair g_2.L], iv .i64 style_3] [] (fun (x : Unit) => [bv r]) (fun (x : Unit) => []) := by
  refine fn_ok (fn := Try.f3) (N := 176) (res := fun r x => [bv r]) (Ω1 := fun r x => []) Try.func3 rfl rfl hm rfl (fun E hM => ?_)
  unfold law28_ParticipantChooses_m
  refine ref_seq (ref_region ?_)
  refine s_st (s_box (part_agO (ψs := [slv (rI .i64) raw_1.Pool, slv (rI .i64) raw_1.Withheld, slv rT_api_Move raw_1.Script, iv .i64 raw_1.Style]) rfl ⟨.inl slv_at, .inl slv_at, .inl slv_at, .inl iv_at, trivial⟩)) rfl (fun b1 => ?_)
  refine s_st (s_box (part_agO (ψs := [iv .i64 g_2.N, slv rT_api_Pair g_2.L]) rfl ⟨.inl iv_at, .inl slv_at, trivial⟩)) rfl (fun b2 => ?_)
  refine as1 rfl rfl ?_
  refine l_nil (n_then (ref_seq (ref_seq (ref_region ?_))))
  refine s_rd (r_faddr (fo := 0) Try.underlying25 rfl rfl Try.sizeOf22 rfl) rfl ?_
  refine s_rd (r_cload Try.isAgg22 rfl (j := 0) rfl rfl) rfl ?_
  refine s_rd (r_len Try.underlying22 rfl) rfl ?_
  refine s_rd (r_gtr rfl rfl) rfl ?_
  refine mv1 rfl rfl ?_
  refine b_split (t := 33) rfl (fun _ => ?_) (fun _ => ?_)
  · refine s_off rfl rfl rfl rfl rfl ?_
    refine s_off rfl rfl rfl rfl rfl ?_
    refine s_off rfl rfl rfl rfl rfl ?_
    refine s_off rfl rfl rfl rfl rfl ?_
    refine s_rd (r_pickT rfl rfl) rfl ?_
    refine mv1 rfl rfl ?_
    refine s_off rfl rfl rfl rfl rfl ?_
    refine s_off rfl rfl rfl rfl rfl ?_
    refine s_off rfl rfl rfl rfl rfl ?_
    refine s_off rfl rfl rfl rfl rfl ?_
    refine s_rd (r_pickT rfl rfl) rfl ?_
    refine mv1 rfl rfl ?_
    refine s_off rfl rfl rfl rfl rfl ?_
    refine s_off rfl rfl rfl rfl rfl ?_
    refine s_off rfl rfl rfl rfl rfl ?_
    refine s_rd (r_pickT rfl rfl) rfl ?_
    refine l_nil (n_then ?_)
    refine ref_condT rfl rfl ?_
    refine ref_seq (ref_region ?_)
    refine pull fun t4 h_t4 => ?_
    refine s_st (s_call (ψ := fun (_ : Unit) => bv t4) (args := []) Try.call8 rfl (law28_awake_ok h_t4) trivial (fun _ _ _ _ h => h)) rfl (fun _ => ?_)
    refine as1 rfl rfl ?_
    refine l_nil (n_then (ref_ret (r_then ?_)))
    exact fin1 (.inl rfl) () [] rfl trivial rfl (rv_tmp rfl)
  refine s_on rfl rfl rfl ?_
  refine s_rd (r_faddr (fo := 1) Try.underlying25 rfl rfl Try.sizeOf22 rfl) rfl ?_
  refine s_on rfl rfl rfl ?_
  refine s_rd (r_cload Try.isAgg22 rfl (j := 0) rfl rfl) rfl ?_
  refine s_on rfl rfl rfl ?_
  refine s_rd (r_len Try.underlying22 rfl) rfl ?_
  refine s_on rfl rfl rfl ?_
  refine s_rd (r_gtr rfl rfl) rfl ?_
  refine s_rd (r_pickF rfl rfl) rfl ?_
  refine mv1 rfl rfl ?_
  refine b_split (t := 39) rfl (fun _ => ?_) (fun _ => ?_)
  · refine s_off rfl rfl rfl rfl rfl ?_
    refine s_off rfl rfl rfl rfl rfl ?_
    refine s_off rfl rfl rfl rfl rfl ?_
    refine s_off rfl rfl rfl rfl rfl ?_
    refine s_rd (r_pickT rfl rfl) rfl ?_
    refine mv1 rfl rfl ?_
    refine s_off rfl rfl rfl rfl rfl ?_
    refine s_off rfl rfl rfl rfl rfl ?_
    refine s_off rfl rfl rfl rfl rfl ?_
    refine s_rd (r_pickT rfl rfl) rfl ?_
    refine l_nil (n_then ?_)
    refine ref_condT rfl rfl ?_
    refine ref_seq (ref_region ?_)
    refine pull fun t5 h_t5 => ?_
    refine s_st (s_call (ψ := fun (_ : Unit) => bv t5) (args := []) Try.call8 rfl (law28_awake_ok h_t5) trivial (fun _ _ _ _ h => h)) rfl (fun _ => ?_)
    refine as1 rfl rfl ?_
    refine l_nil (n_then (ref_ret (r_then ?_)))
    exact fin1 (.inl rfl) () [] rfl trivial rfl (rv_tmp rfl)
  refine s_on rfl rfl rfl ?_
  refine s_rd (r_faddr (fo := 2) Try.underlying25 rfl rfl Try.sizeOf23 rfl) rfl ?_
  refine s_on rfl rfl rfl ?_
  refine s_rd (r_cload Try.isAgg23 rfl (j := 0) rfl rfl) rfl ?_
  refine s_on rfl rfl rfl ?_
  refine s_rd (r_len Try.underlying23 rfl) rfl ?_
  refine s_on rfl rfl rfl ?_
  refine s_rd (r_gtr rfl rfl) rfl ?_
  refine s_rd (r_pickF rfl rfl) rfl ?_
  refine mv1 rfl rfl ?_
  refine b_split (t := 45) rfl (fun _ => ?_) (fun _ => ?_)
  · refine s_off rfl rfl rfl rfl rfl ?_
    refine s_off rfl rfl rfl rfl rfl ?_
    refine s_off rfl rfl rfl rfl rfl ?_
    refine s_rd (r_pickT rfl rfl) rfl ?_
    refine l_nil (n_then ?_)
    refine ref_condT rfl rfl ?_
    refine ref_seq (ref_region ?_)
    refine pull fun t6 h_t6 => ?_
    refine s_st (s_call (ψ := fun (_ : Unit) => bv t6) (args := []) Try.call8 rfl (law28_awake_ok h_t6) trivial (fun _ _ _ _ h => h)) rfl (fun _ => ?_)
    refine as1 rfl rfl ?_
    refine l_nil (n_then (ref_ret (r_then ?_)))
    exact fin1 (.inl rfl) () [] rfl trivial rfl (rv_tmp rfl)
  refine s_on rfl rfl rfl ?_
  refine s_rd (r_cloadS Try.isAgg28 Try.sizeOf28 rfl (j := 1) rfl rfl rfl) rfl ?_
  refine s_on rfl rfl rfl ?_
  refine pull fun t3 h_t3 => ?_
  refine s_st (s_call (ψ := fun (_ : Unit) => bv t3) (args := [.tmp 46]) Try.call7 rfl (net_Light_ok h_t3) ⟨arg rfl, trivial⟩ (fun _ _ _ _ h => h)) rfl (fun _ => ?_)
  refine s_on rfl rfl rfl ?_
  refine s_rd (r_not rfl) rfl ?_
  refine s_rd (r_pickF rfl rfl) rfl ?_
  refine l_nil (n_then ?_)
  refine ref_cond rfl (fun hb7 => ?_) (fun hb7 => ?_)
  · refine ref_seq (ref_region ?_)
    refine pull fun t8 h_t8 => ?_
    refine s_st (s_call (ψ := fun (_ : Unit) => bv t8) (args := []) Try.call8 rfl (law28_awake_ok h_t8) trivial (fun _ _ _ _ h => h)) rfl (fun _ => ?_)
    refine as1 rfl rfl ?_
    refine l_nil ?_
    refine b_of (nrm [oc b1 [slv (rI .i64) raw_1.Pool, slv (rI .i64) raw_1.Withheld, slv rT_api_Move raw_1.Script, iv .i64 raw_1.Style], oc b2 [iv .i64 g_2.N, slv rT_api_Pair g_2.L]] rfl) ?_
    refine n_then (ref_ret (r_then ?_))
    exact fin1 (.inl rfl) () [] rfl trivial rfl (rv_tmp rfl)
  refine ref_skip (n_then (ref_seq (ref_region ?_)))
  refine mv1 rfl rfl ?_
  refine pull fun s9 h_s9 => ?_
  refine s_st (s_call (ψ := fun (x10 : Nat) => pv (ptr x10 0)) (args := [.tmp 51]) Try.call9 rfl (keep_New_ok h_s9) ⟨arg rfl, trivial⟩ (fun _ _ _ _ h => h)) rfl (fun x10 => ?_)
  refine as1 rfl rfl ?_
  refine l_nil ?_
  refine b_of (nrm [oc b1 [slv (rI .i64) raw_1.Pool, slv (rI .i64) raw_1.Withheld, slv rT_api_Move raw_1.Script, iv .i64 raw_1.Style], oc b2 [iv .i64 g_2.N, slv rT_api_Pair g_2.L], oc x10 [slv (rI .i64) s9.L, iv .i64 s9.At]] rfl) ?_
  refine n_then (ref_seq (ref_region ?_))
  refine mv1 rfl rfl ?_
  refine pull fun t11 h_t11 => ?_
  refine s_st (s_callC [2] [true] (fun (_ : Unit) => [oc x10 [slv (rI .i64) t11.2.L, iv .i64 t11.2.At]]) (fun (_ : Unit) => []) (fun (_ : Unit) => ag [iv .i64 t11.1.Graph.N, slv rT_api_Pair t11.1.Graph.L, iv .i64 t11.1.Root, iv .i64 t11.1.Limits.i0, iv .i64 t11.1.Limits.i1, slv rT_api_Move t11.1.Moves]) (args := [.tmp 53, .const (.int .i64 (5))]) (caps := []) Try.call10 rfl (law28_started_ok h_t11) ⟨rfl, rfl, trivial⟩ (fun _ => rfl) (fun _ => trivial) (fun _ => rfl) ⟨arg rfl, arg rfl, trivial⟩ (fun _ _ _ _ h => h)) rfl (fun _ => ?_)
  refine s_st (s_alloc zt_35) rfl (fun b12 => ?_)
  refine s_st0 (s_cstore (out := [iv .i64 t11.1.Graph.N, slv rT_api_Pair t11.1.Graph.L, iv .i64 t11.1.Root, iv .i64 t11.1.Limits.i0, iv .i64 t11.1.Limits.i1, slv rT_api_Move t11.1.Moves]) Try.sizeOf35 rfl (j := 3) rfl (part_agO (ψs := [iv .i64 t11.1.Graph.N, slv rT_api_Pair t11.1.Graph.L, iv .i64 t11.1.Root, iv .i64 t11.1.Limits.i0, iv .i64 t11.1.Limits.i1, slv rT_api_Move t11.1.Moves]) rfl ⟨.inl iv_at, .inl slv_at, .inl iv_at, .inl iv_at, .inl iv_at, .inl slv_at, trivial⟩) rfl rfl rfl) (fun _ => ?_)
  refine l_nil (n_then (ref_seq ?_))
  refine pull fun t14 h_t14 => ?_
  refine pull fun t15 h_t15 => ?_
  refine ref_drawI 2 [⟨[], [], [], [], [], fun us u => pv (ptr x10 0), fun us u => []⟩, ⟨[], [], [], [], [], fun us u => pv (ptr b12 0), fun us u => []⟩, ⟨[1], [], [], [3], [], fun us u => ag [iv .i64 t11.1.Graph.N, slv rT_api_Pair t11.1.Graph.L], fun us u => []⟩, ⟨[0, 1, 2], [], [2], [2], [2], fun us u => ag [slv (rI .i64) t14.1.Pool, slv (rI .i64) t14.1.Withheld, slv rT_api_Move t14.1.Script, iv .i64 t14.1.Style], fun us u => [oc x10 [slv (rI .i64) t14.2.L, iv .i64 t14.2.At]]⟩, ⟨[], [], [], [], [], fun us u => pv (ptr x10 0), fun us u => []⟩, ⟨[], [], [], [], [], fun us u => pv (ptr b12 0), fun us u => []⟩, ⟨[5], [], [], [3], [], fun us u => ag [iv .i64 t11.1.Graph.N, slv rT_api_Pair t11.1.Graph.L], fun us u => []⟩, ⟨[0, 1, 2, 3, 4, 5, 6], [], [2], [2], [2], fun us u => ag [slv (rI .i64) t15.1.Pool, slv (rI .i64) t15.1.Withheld, slv rT_api_Move t15.1.Script, iv .i64 t15.1.Style], fun us u => [oc x10 [slv (rI .i64) t15.2.L, iv .i64 t15.2.At]]⟩, ⟨[], [], [4], [4], [], fun us u => pv (ptr u.Nn 0), fun us u => [oc u.Nn [pv (.slice none 0 0), pv (.slice none 0 0), pv (.slice none 0 0), iv .i64 0]]⟩, ⟨[], [], [5], [5], [], fun us u => pv (ptr u.Nn 0), fun us u => [oc u.Nn [pv (.slice none 0 0), pv (.slice none 0 0), pv (.slice none 0 0), iv .i64 0]]⟩, ⟨[0, 1, 2, 3, 4, 5, 6, 7, 8, 9], [8], [4], [4], [4], fun us u => pv undef, fun us u => [oc (us.getD 0 .none).Nn [slv (rI .i64) t14.1.Pool, slv (rI .i64) t14.1.Withheld, slv rT_api_Move t14.1.Script, iv .i64 t14.1.Style]]⟩, ⟨[0, 1, 2, 3, 4, 5, 6, 7, 8, 9, 10], [9], [5], [5], [5], fun us u => pv undef, fun us u => [oc (us.getD 0 .none).Nn [slv (rI .i64) t15.1.Pool, slv (rI .i64) t15.1.Withheld, slv rT_api_Move t15.1.Script, iv .i64 t15.1.Style]]⟩] (fun χ13 => [(3, iv .i64 style_3), (5, pv (ptr b1 0)), (6, pv (ptr b2 0)), (10, pv (ptr b12 0)), (11, pv (ptr (χ13 8).Nn 0)), (12, pv (ptr (χ13 9).Nn 0))]) (fun χ13 => [oc b1 [slv (rI .i64) raw_1.Pool, slv (rI .i64) raw_1.Withheld, slv rT_api_Move raw_1.Script, iv .i64 raw_1.Style], oc b2 [iv .i64 g_2.N, slv rT_api_Pair g_2.L], oc x10 [slv (rI .i64) t15.2.L, iv .i64 t15.2.At], oc b12 [iv .i64 t11.1.Graph.N, slv rT_api_Pair t11.1.Graph.L, iv .i64 t11.1.Root, iv .i64 t11.1.Limits.i0, iv .i64 t11.1.Limits.i1, slv rT_api_Move t11.1.Moves], oc (χ13 8).Nn [slv (rI .i64) t14.1.Pool, slv (rI .i64) t14.1.Withheld, slv rT_api_Move t14.1.Script, iv .i64 t14.1.Style], oc (χ13 9).Nn [slv (rI .i64) t15.1.Pool, slv (rI .i64) t15.1.Withheld, slv rT_api_Move t15.1.Script, iv .i64 t15.1.Style]]) rfl (by kernel_rfl) ⟨fun χ13 Ω _ => St.toR (r_move rfl) (fun _ => rfl) (fun _ => rfl), (by intro _ h; cases h; rfl), ⟨fun χ13 Ω _ => St.toR (r_faddr (fo := 0) Try.underlying35 rfl rfl Try.sizeOf28 rfl) (fun _ => rfl) (fun _ => rfl), (by intro _ h; cases h; rfl), ⟨fun χ13 Ω ⟨h3, _⟩ => St.toR (r_cloadS Try.isAgg28 Try.sizeOf28 rfl (j := 3) h3 rfl rfl) (fun _ => rfl) (fun _ => rfl), (by intro _ h; cases h; rfl), ⟨fun χ13 Ω ⟨h2, _⟩ => St.to XU.U XU.hU (St.placeL [] (s_callC [2] [true] (fun (_ : Unit) => [oc x10 [slv (rI .i64) t14.2.L, iv .i64 t14.2.At]]) (fun (_ : Unit) => []) (fun (_ : Unit) => ag [slv (rI .i64) t14.1.Pool, slv (rI .i64) t14.1.Withheld, slv rT_api_Move t14.1.Script, iv .i64 t14.1.Style]) (args := [.tmp 55, .tmp 57]) (caps := []) Try.call11 rfl (law28_player_ok h_t14) ⟨h2, rfl, trivial⟩ (fun _ => rfl) (fun _ => trivial) (fun _ => rfl) ⟨arg rfl, arg rfl, trivial⟩ (fun _ _ _ _ h => h)) (fun _ => rfl) (fun _ => trivial)) (fun _ => rfl) (fun _ => rfl), (by intro _ h; cases h; rfl), ⟨fun χ13 Ω _ => St.toR (r_move rfl) (fun _ => rfl) (fun _ => rfl), (by intro _ h; cases h; rfl), ⟨fun χ13 Ω _ => St.toR (r_faddr (fo := 0) Try.underlying35 rfl rfl Try.sizeOf28 rfl) (fun _ => rfl) (fun _ => rfl), (by intro _ h; cases h; rfl), ⟨fun χ13 Ω ⟨h3, _⟩ => St.toR (r_cloadS Try.isAgg28 Try.sizeOf28 rfl (j := 3) h3 rfl rfl) (fun _ => rfl) (fun _ => rfl), (by intro _ h; cases h; rfl), ⟨fun χ13 Ω ⟨h2, _⟩ => St.to XU.U XU.hU (St.placeL [] (s_callC [2] [true] (fun (_ : Unit) => [oc x10 [slv (rI .i64) t15.2.L, iv .i64 t15.2.At]]) (fun (_ : Unit) => []) (fun (_ : Unit) => ag [slv (rI .i64) t15.1.Pool, slv (rI .i64) t15.1.Withheld, slv rT_api_Move t15.1.Script, iv .i64 t15.1.Style]) (args := [.tmp 59, .tmp 61]) (caps := []) Try.call11 rfl (law28_player_ok h_t15) ⟨h2, rfl, trivial⟩ (fun _ => rfl) (fun _ => trivial) (fun _ => rfl) ⟨arg rfl, arg rfl, trivial⟩ (fun _ _ _ _ h => h)) (fun _ => rfl) (fun _ => trivial)) (fun _ => rfl) (fun _ => rfl), (by intro _ h; cases h; rfl), ⟨fun χ13 Ω ⟨h4, _⟩ => St.to XU.Nn XU.hN (St.placeL (os := fun _ => [_]) [4] (s_alloc zt_25) (fun _ => rfl) (fun _ => ⟨h4, rfl, trivial⟩)) (fun _ => rfl) (fun _ => rfl), (by intro _ h; cases h; rfl), ⟨fun χ13 Ω ⟨h5, _⟩ => St.to XU.Nn XU.hN (St.placeL (os := fun _ => [_]) [5] (s_alloc zt_25) (fun _ => rfl) (fun _ => ⟨h5, rfl, trivial⟩)) (fun _ => rfl) (fun _ => rfl), (by intro _ h; cases h; rfl), ⟨fun χ13 Ω ⟨h4, _⟩ => St.to XU.U XU.hU (s_cstore (out := [slv (rI .i64) t14.1.Pool, slv (rI .i64) t14.1.Withheld, slv rT_api_Move t14.1.Script, iv .i64 t14.1.Style]) Try.sizeOf25 rfl (j := 4) h4 (part_agO (ψs := [slv (rI .i64) t14.1.Pool, slv (rI .i64) t14.1.Withheld, slv rT_api_Move t14.1.Script, iv .i64 t14.1.Style]) rfl ⟨.inl slv_at, .inl slv_at, .inl slv_at, .inl iv_at, trivial⟩) rfl rfl rfl) (fun _ => rfl) (fun _ => rfl), (by intro _ h; cases h), ⟨fun χ13 Ω ⟨h5, _⟩ => St.to XU.U XU.hU (s_cstore (out := [slv (rI .i64) t15.1.Pool, slv (rI .i64) t15.1.Withheld, slv rT_api_Move t15.1.Script, iv .i64 t15.1.Style]) Try.sizeOf25 rfl (j := 5) h5 (part_agO (ψs := [slv (rI .i64) t15.1.Pool, slv (rI .i64) t15.1.Withheld, slv rT_api_Move t15.1.Script, iv .i64 t15.1.Style]) rfl ⟨.inl slv_at, .inl slv_at, .inl slv_at, .inl iv_at, trivial⟩) rfl rfl rfl) (fun _ => rfl) (fun _ => rfl), (by intro _ h; cases h), trivial⟩⟩⟩⟩⟩⟩⟩⟩⟩⟩⟩⟩ (fun _ => ⟨rfl, rfl, rfl, rfl, rfl, rfl, trivial⟩) (fun _ => rfl) (fun χ13 => ?_)
  refine n_then (ref_seq (ref_seq (ref_region ?_)))
  refine s_rd (r_cloadS Try.isAgg25 Try.sizeOf25 rfl (j := 4) rfl rfl rfl) rfl ?_
  refine s_rd (r_cloadS Try.isAgg25 Try.sizeOf25 rfl (j := 5) rfl rfl rfl) rfl ?_
  refine s_rd (r_cloadS Try.isAgg25 Try.sizeOf25 rfl (j := 0) rfl rfl rfl) rfl ?_
  refine s_st (s_bslice (xs := [.tmp 63, .tmp 64, .tmp 65]) (ds := [t14.1, t15.1, raw_1]) Try.underlying38 el_25 rfl (Nat.le_of_ble_eq_true rfl) ⟨(part_agO (ψs := [slv (rI .i64) t14.1.Pool, slv (rI .i64) t14.1.Withheld, slv rT_api_Move t14.1.Script, iv .i64 t14.1.Style]) rfl ⟨.inl slv_at, .inl slv_at, .inl slv_at, .inl iv_at, trivial⟩), ⟨(part_agO (ψs := [slv (rI .i64) t15.1.Pool, slv (rI .i64) t15.1.Withheld, slv rT_api_Move t15.1.Script, iv .i64 t15.1.Style]) rfl ⟨.inl slv_at, .inl slv_at, .inl slv_at, .inl iv_at, trivial⟩), ⟨(part_agO (ψs := [slv (rI .i64) raw_1.Pool, slv (rI .i64) raw_1.Withheld, slv rT_api_Move raw_1.Script, iv .i64 raw_1.Style]) rfl ⟨.inl slv_at, .inl slv_at, .inl slv_at, .inl iv_at, trivial⟩), trivial⟩⟩⟩) rfl (fun _ => ?_)
  refine s_rd (r_len Try.underlying38 rfl) rfl ?_
  refine mv1 rfl rfl ?_
  refine l_nil (n_then ?_)
  refine ref_loopX (f := (law28_ParticipantChooses_l1 raw_1 t11 t14 t15)) (Γl := (fun (s28 : Int) (x29 : Unit) => [(3, iv .i64 style_3), (5, pv (ptr b1 0)), (6, pv (ptr b2 0)), (10, pv (ptr b12 0)), (11, pv (ptr (χ13 8).Nn 0)), (12, pv (ptr (χ13 9).Nn 0)), (66, slv rT_api_Player [t14.1, t15.1, raw_1]), (67, iv .i64 ([t14.1, t15.1, raw_1].length : Int)), (68, iv .i64 s28)])) (Ωl := (fun (s28 : Int) (x29 : Unit) => [oc b1 [slv (rI .i64) raw_1.Pool, slv (rI .i64) raw_1.Withheld, slv rT_api_Move raw_1.Script, iv .i64 raw_1.Style], oc b2 [iv .i64 g_2.N, slv rT_api_Pair g_2.L], oc b12 [iv .i64 t11.1.Graph.N, slv rT_api_Pair t11.1.Graph.L, iv .i64 t11.1.Root, iv .i64 t11.1.Limits.i0, iv .i64 t11.1.Limits.i1, slv rT_api_Move t11.1.Moves], oc (χ13 8).Nn [slv (rI .i64) t14.1.Pool, slv (rI .i64) t14.1.Withheld, slv rT_api_Move t14.1.Script, iv .i64 t14.1.Style], oc (χ13 9).Nn [slv (rI .i64) t15.1.Pool, slv (rI .i64) t15.1.Withheld, slv rT_api_Move t15.1.Script, iv .i64 t15.1.Style]])) (Γb := (fun (q38 : Unit) (y39 : Unit) => [(3, iv .i64 style_3), (5, pv (ptr b1 0)), (6, pv (ptr b2 0)), (10, pv (ptr b12 0)), (11, pv (ptr (χ13 8).Nn 0)), (12, pv (ptr (χ13 9).Nn 0))])) (Ωb := (fun (q38 : Unit) (y39 : Unit) => [oc b1 [slv (rI .i64) raw_1.Pool, slv (rI .i64) raw_1.Withheld, slv rT_api_Move raw_1.Script, iv .i64 raw_1.Style], oc b2 [iv .i64 g_2.N, slv rT_api_Pair g_2.L], oc b12 [iv .i64 t11.1.Graph.N, slv rT_api_Pair t11.1.Graph.L, iv .i64 t11.1.Root, iv .i64 t11.1.Limits.i0, iv .i64 t11.1.Limits.i1, slv rT_api_Move t11.1.Moves], oc (χ13 8).Nn [slv (rI .i64) t14.1.Pool, slv (rI .i64) t14.1.Withheld, slv rT_api_Move t14.1.Script, iv .i64 t14.1.Style], oc (χ13 9).Nn [slv (rI .i64) t15.1.Pool, slv (rI .i64) t15.1.Withheld, slv rT_api_Move t15.1.Script, iv .i64 t15.1.Style]])) (kr := (fun a : Bool => some a)) 0 () (weak [0, 1, 3, 4, 5] ⟨rfl, rfl, rfl, rfl, rfl, rfl, rfl, rfl, rfl, trivial⟩ ⟨rfl, rfl, rfl, rfl, rfl, trivial⟩) (fun s28 x29 => ?_) (fun q38 y39 => ?_)
  · unfold law28_ParticipantChooses_l1
    refine ref_seq (ref_region ?_)
    refine s_rd (r_lss rfl rfl) rfl ?_
    refine l_nil (n_then (ref_seq ?_))
    refine ref_cond rfl (fun hb30 => ?_) (fun hb30 => ?_)
    · refine ref_skip (n_then (ref_seq (ref_block (ref_seq (ref_region ?_)))))
      refine pull fun t31 h_t31 => ?_
      refine s_rd (r_index h_t31 Try.underlying38 el_25 rfl rfl) rfl ?_
      refine s_rd (r_load el_25 rfl) rfl ?_
      refine s_st (s_alloc zt_25) rfl (fun b32 => ?_)
      refine s_st0 (s_cstore (out := [slv (rI .i64) t31.Pool, slv (rI .i64) t31.Withheld, slv rT_api_Move t31.Script, iv .i64 t31.Style]) Try.sizeOf25 rfl (j := 5) rfl (part_agO (ψs := [slv (rI .i64) t31.Pool, slv (rI .i64) t31.Withheld, slv rT_api_Move t31.Script, iv .i64 t31.Style]) rfl ⟨.inl slv_at, .inl slv_at, .inl slv_at, .inl iv_at, trivial⟩) rfl rfl rfl) (fun _ => ?_)
      refine l_nil (n_then (ref_seq (ref_region ?_)))
      refine s_rd (r_cloadS Try.isAgg35 Try.sizeOf35 rfl (j := 2) rfl rfl rfl) rfl ?_
      refine s_rd (r_cloadS Try.isAgg25 Try.sizeOf25 rfl (j := 5) rfl rfl rfl) rfl ?_
      refine pull fun t33 h_t33 => ?_
      refine s_st (s_call (ψ := fun (_ : Unit) => tup [ag [iv .i64 t33.1.By, iv .i64 t33.1.Kind, iv .i64 t33.1.Node, iv .i64 t33.1.Target], iv .i64 t33.2]) (args := [.tmp 73, .tmp 74]) Try.call12 rfl (participant_Choose_ok h_t33) ⟨arg rfl, arg rfl, trivial⟩ (fun _ _ _ _ h => h)) rfl (fun _ => ?_)
      refine mv1 rfl rfl ?_
      refine s_rd (r_extract rfl rfl) rfl ?_
      refine s_rd (r_extract rfl rfl) rfl ?_
      refine s_st (s_alloc zt_40) rfl (fun b34 => ?_)
      refine s_st0 (s_cstore (out := [iv .i64 t33.1.By, iv .i64 t33.1.Kind, iv .i64 t33.1.Node, iv .i64 t33.1.Target]) Try.sizeOf40 rfl (j := 6) rfl (part_agO (ψs := [iv .i64 t33.1.By, iv .i64 t33.1.Kind, iv .i64 t33.1.Node, iv .i64 t33.1.Target]) rfl ⟨.inl iv_at, .inl iv_at, .inl iv_at, .inl iv_at, trivial⟩) rfl rfl rfl) (fun _ => ?_)
      refine as1 rfl rfl ?_
      refine l_nil ?_
      refine b_of (nrm [oc b1 [slv (rI .i64) raw_1.Pool, slv (rI .i64) raw_1.Withheld, slv rT_api_Move raw_1.Script, iv .i64 raw_1.Style], oc b2 [iv .i64 g_2.N, slv rT_api_Pair g_2.L], oc b12 [iv .i64 t11.1.Graph.N, slv rT_api_Pair t11.1.Graph.L, iv .i64 t11.1.Root, iv .i64 t11.1.Limits.i0, iv .i64 t11.1.Limits.i1, slv rT_api_Move t11.1.Moves], oc (χ13 8).Nn [slv (rI .i64) t14.1.Pool, slv (rI .i64) t14.1.Withheld, slv rT_api_Move t14.1.Script, iv .i64 t14.1.Style], oc (χ13 9).Nn [slv (rI .i64) t15.1.Pool, slv (rI .i64) t15.1.Withheld, slv rT_api_Move t15.1.Script, iv .i64 t15.1.Style], oc b32 [slv (rI .i64) t31.Pool, slv (rI .i64) t31.Withheld, slv rT_api_Move t31.Script, iv .i64 t31.Style], oc b34 [iv .i64 t33.1.By, iv .i64 t33.1.Kind, iv .i64 t33.1.Node, iv .i64 t33.1.Target]] rfl) ?_
      refine n_then (ref_seq (ref_region ?_))
      refine s_rd (r_cloadS Try.isAgg35 Try.sizeOf35 rfl (j := 2) rfl rfl rfl) rfl ?_
      refine s_rd (r_cloadS Try.isAgg25 Try.sizeOf25 rfl (j := 5) rfl rfl rfl) rfl ?_
      refine pull fun t35 h_t35 => ?_
      refine s_st (s_call (ψ := fun (_ : Unit) => tup [ag [iv .i64 t35.1.By, iv .i64 t35.1.Kind, iv .i64 t35.1.Node, iv .i64 t35.1.Target], iv .i64 t35.2]) (args := [.tmp 79, .tmp 80]) Try.call13 rfl (ref28_Choose_ok h_t35) ⟨arg rfl, arg rfl, trivial⟩ (fun _ _ _ _ h => h)) rfl (fun _ => ?_)
      refine mv1 rfl rfl ?_
      refine s_rd (r_extract rfl rfl) rfl ?_
      refine s_rd (r_extract rfl rfl) rfl ?_
      refine s_st (s_alloc zt_40) rfl (fun b36 => ?_)
      refine s_st0 (s_cstore (out := [iv .i64 t35.1.By, iv .i64 t35.1.Kind, iv .i64 t35.1.Node, iv .i64 t35.1.Target]) Try.sizeOf40 rfl (j := 7) rfl (part_agO (ψs := [iv .i64 t35.1.By, iv .i64 t35.1.Kind, iv .i64 t35.1.Node, iv .i64 t35.1.Target]) rfl ⟨.inl iv_at, .inl iv_at, .inl iv_at, .inl iv_at, trivial⟩) rfl rfl rfl) (fun _ => ?_)
      refine as1 rfl rfl ?_
      refine l_nil (n_then (ref_seq (ref_region ?_)))
      refine mv1 rfl rfl ?_
      refine mv1 rfl rfl ?_
      refine s_rd (r_neq rfl rfl) rfl ?_
      refine mv1 rfl rfl ?_
      refine b_split (t := 87) rfl (fun _ => ?_) (fun _ => ?_)
      · refine s_off rfl rfl rfl rfl rfl ?_
        refine s_off rfl rfl rfl rfl rfl ?_
        refine s_off rfl rfl rfl rfl rfl ?_
        refine s_rd (r_pickT rfl rfl) rfl ?_
        refine l_nil (n_then ?_)
        refine ref_condT rfl rfl ?_
        refine ref_seq (ref_region ?_)
        refine as1 rfl rfl ?_
        refine l_nil (n_then (ref_ret (r_block (r_then ?_))))
        refine retX ?_
        refine r_block (r_then ?_)
        exact fin1 (.inl rfl) () [] rfl trivial rfl (rv_tmp rfl)
      refine s_on rfl rfl rfl ?_
      refine s_rd (r_cloadS Try.isAgg40 Try.sizeOf40 rfl (j := 6) rfl rfl rfl) rfl ?_
      refine s_on rfl rfl rfl ?_
      refine s_rd (r_cloadS Try.isAgg40 Try.sizeOf40 rfl (j := 7) rfl rfl rfl) rfl ?_
      refine s_on rfl rfl rfl ?_
      refine s_rd (r_stneq (u := t33.1) (v := t35.1) eq_40 rfl rfl rfl rfl) rfl ?_
      refine s_rd (r_pickF rfl rfl) rfl ?_
      refine l_nil (n_then ?_)
      refine ref_cond rfl (fun hb37 => ?_) (fun hb37 => ?_)
      · refine ref_seq (ref_region ?_)
        refine as1 rfl rfl ?_
        refine l_nil (n_then (ref_ret (r_block (r_then ?_))))
        refine retX ?_
        refine r_block (r_then ?_)
        exact fin1 (.inl rfl) () [] rfl trivial rfl (rv_tmp rfl)
      refine ref_skip (n_block (n_then (ref_region ?_)))
      refine s_rd (r_add rfl rfl) rfl ?_
      refine mv1 rfl rfl ?_
      refine l_nil ?_
      exact goX () (weak [0, 1, 2, 3, 4] ⟨rfl, rfl, rfl, rfl, rfl, rfl, rfl, rfl, rfl, trivial⟩ ⟨rfl, rfl, rfl, rfl, rfl, trivial⟩)
    refine ref_exit (x_then ?_)
    exact brkX () (weak [0, 1, 2, 3, 4] ⟨rfl, rfl, rfl, rfl, rfl, rfl, trivial⟩ ⟨rfl, rfl, rfl, rfl, rfl, trivial⟩)
  refine n_then (ref_seq (ref_seq (ref_region ?_)))
  refine s_rd (r_cloadS Try.isAgg25 Try.sizeOf25 rfl (j := 3) rfl rfl rfl) rfl ?_
  refine s_rd (r_cloadS Try.isAgg25 Try.sizeOf25 rfl (j := 4) rfl rfl rfl) rfl ?_
  refine s_rd (r_buildA (ps := [(0, .tmp 93), (1, .tmp 94)]) (rs := [(0, [slv (rI .i64) t14.1.Pool, slv (rI .i64) t14.1.Withheld, slv rT_api_Move t14.1.Script, iv .i64 t14.1.Style]), (1, [slv (rI .i64) t15.1.Pool, slv (rI .i64) t15.1.Withheld, slv rT_api_Move t15.1.Script, iv .i64 t15.1.Style])]) (sz := 4) Try.underlying44 Try.sizeOf25 ⟨_, _, Try.type44, rfl⟩ zs_44 ⟨rfl, (part_agO (ψs := [slv (rI .i64) t14.1.Pool, slv (rI .i64) t14.1.Withheld, slv rT_api_Move t14.1.Script, iv .i64 t14.1.Style]) rfl ⟨.inl slv_at, .inl slv_at, .inl slv_at, .inl iv_at, trivial⟩), ⟨rfl, (part_agO (ψs := [slv (rI .i64) t15.1.Pool, slv (rI .i64) t15.1.Withheld, slv rT_api_Move t15.1.Script, iv .i64 t15.1.Style]) rfl ⟨.inl slv_at, .inl slv_at, .inl slv_at, .inl iv_at, trivial⟩), trivial⟩⟩ rfl rfl) rfl ?_
  refine s_rd (r_cloadS Try.isAgg25 Try.sizeOf25 rfl (j := 0) rfl rfl rfl) rfl ?_
  refine s_rd (r_cloadS Try.isAgg25 Try.sizeOf25 rfl (j := 4) rfl rfl rfl) rfl ?_
  refine s_rd (r_buildA (ps := [(0, .tmp 96), (1, .tmp 97)]) (rs := [(0, [slv (rI .i64) raw_1.Pool, slv (rI .i64) raw_1.Withheld, slv rT_api_Move raw_1.Script, iv .i64 raw_1.Style]), (1, [slv (rI .i64) t15.1.Pool, slv (rI .i64) t15.1.Withheld, slv rT_api_Move t15.1.Script, iv .i64 t15.1.Style])]) (sz := 4) Try.underlying44 Try.sizeOf25 ⟨_, _, Try.type44, rfl⟩ zs_44 ⟨rfl, (part_agO (ψs := [slv (rI .i64) raw_1.Pool, slv (rI .i64) raw_1.Withheld, slv rT_api_Move raw_1.Script, iv .i64 raw_1.Style]) rfl ⟨.inl slv_at, .inl slv_at, .inl slv_at, .inl iv_at, trivial⟩), ⟨rfl, (part_agO (ψs := [slv (rI .i64) t15.1.Pool, slv (rI .i64) t15.1.Withheld, slv rT_api_Move t15.1.Script, iv .i64 t15.1.Style]) rfl ⟨.inl slv_at, .inl slv_at, .inl slv_at, .inl iv_at, trivial⟩), trivial⟩⟩ rfl rfl) rfl ?_
  refine s_rd (r_cloadS Try.isAgg25 Try.sizeOf25 rfl (j := 3) rfl rfl rfl) rfl ?_
  refine s_rd (r_cloadS Try.isAgg25 Try.sizeOf25 rfl (j := 0) rfl rfl rfl) rfl ?_
  refine s_rd (r_buildA (ps := [(0, .tmp 99), (1, .tmp 100)]) (rs := [(0, [slv (rI .i64) t14.1.Pool, slv (rI .i64) t14.1.Withheld, slv rT_api_Move t14.1.Script, iv .i64 t14.1.Style]), (1, [slv (rI .i64) raw_1.Pool, slv (rI .i64) raw_1.Withheld, slv rT_api_Move raw_1.Script, iv .i64 raw_1.Style])]) (sz := 4) Try.underlying44 Try.sizeOf25 ⟨_, _, Try.type44, rfl⟩ zs_44 ⟨rfl, (part_agO (ψs := [slv (rI .i64) t14.1.Pool, slv (rI .i64) t14.1.Withheld, slv rT_api_Move t14.1.Script, iv .i64 t14.1.Style]) rfl ⟨.inl slv_at, .inl slv_at, .inl slv_at, .inl iv_at, trivial⟩), ⟨rfl, (part_agO (ψs := [slv (rI .i64) raw_1.Pool, slv (rI .i64) raw_1.Withheld, slv rT_api_Move raw_1.Script, iv .i64 raw_1.Style]) rfl ⟨.inl slv_at, .inl slv_at, .inl slv_at, .inl iv_at, trivial⟩), trivial⟩⟩ rfl rfl) rfl ?_
  refine s_st (s_bslice (xs := [.tmp 95, .tmp 98, .tmp 101]) (ds := [(T_arr2_25.mk t14.1 t15.1), (T_arr2_25.mk raw_1 t15.1), (T_arr2_25.mk t14.1 raw_1)]) Try.underlying45 el_44 rfl (Nat.le_of_ble_eq_true rfl) ⟨(part_agO (ψs := [slv (rI .i64) t14.1.Pool, slv (rI .i64) t14.1.Withheld, slv rT_api_Move t14.1.Script, iv .i64 t14.1.Style, slv (rI .i64) t15.1.Pool, slv (rI .i64) t15.1.Withheld, slv rT_api_Move t15.1.Script, iv .i64 t15.1.Style]) rfl ⟨.inl slv_at, .inl slv_at, .inl slv_at, .inl iv_at, .inl slv_at, .inl slv_at, .inl slv_at, .inl iv_at, trivial⟩), ⟨(part_agO (ψs := [slv (rI .i64) raw_1.Pool, slv (rI .i64) raw_1.Withheld, slv rT_api_Move raw_1.Script, iv .i64 raw_1.Style, slv (rI .i64) t15.1.Pool, slv (rI .i64) t15.1.Withheld, slv rT_api_Move t15.1.Script, iv .i64 t15.1.Style]) rfl ⟨.inl slv_at, .inl slv_at, .inl slv_at, .inl iv_at, .inl slv_at, .inl slv_at, .inl slv_at, .inl iv_at, trivial⟩), ⟨(part_agO (ψs := [slv (rI .i64) t14.1.Pool, slv (rI .i64) t14.1.Withheld, slv rT_api_Move t14.1.Script, iv .i64 t14.1.Style, slv (rI .i64) raw_1.Pool, slv (rI .i64) raw_1.Withheld, slv rT_api_Move raw_1.Script, iv .i64 raw_1.Style]) rfl ⟨.inl slv_at, .inl slv_at, .inl slv_at, .inl iv_at, .inl slv_at, .inl slv_at, .inl slv_at, .inl iv_at, trivial⟩), trivial⟩⟩⟩) rfl (fun _ => ?_)
  refine s_rd (r_len Try.underlying45 rfl) rfl ?_
  refine mv1 rfl rfl ?_
  refine l_nil (n_then ?_)
  refine ref_loopX (f := (law28_ParticipantChooses_l2 raw_1 t11 t14 t15)) (Γl := (fun (s51 : Int) (x52 : Unit) => [(3, iv .i64 style_3), (6, pv (ptr b2 0)), (10, pv (ptr b12 0)), (102, slv rT_arr2_25 [(T_arr2_25.mk t14.1 t15.1), (T_arr2_25.mk raw_1 t15.1), (T_arr2_25.mk t14.1 raw_1)]), (103, iv .i64 ([(T_arr2_25.mk t14.1 t15.1), (T_arr2_25.mk raw_1 t15.1), (T_arr2_25.mk t14.1 raw_1)].length : Int)), (104, iv .i64 s51)])) (Ωl := (fun (s51 : Int) (x52 : Unit) => [oc b2 [iv .i64 g_2.N, slv rT_api_Pair g_2.L], oc b12 [iv .i64 t11.1.Graph.N, slv rT_api_Pair t11.1.Graph.L, iv .i64 t11.1.Root, iv .i64 t11.1.Limits.i0, iv .i64 t11.1.Limits.i1, slv rT_api_Move t11.1.Moves]])) (Γb := (fun (q62 : Unit) (y63 : Unit) => [(3, iv .i64 style_3), (6, pv (ptr b2 0)), (10, pv (ptr b12 0))])) (Ωb := (fun (q62 : Unit) (y63 : Unit) => [oc b2 [iv .i64 g_2.N, slv rT_api_Pair g_2.L], oc b12 [iv .i64 t11.1.Graph.N, slv rT_api_Pair t11.1.Graph.L, iv .i64 t11.1.Root, iv .i64 t11.1.Limits.i0, iv .i64 t11.1.Limits.i1, slv rT_api_Move t11.1.Moves]])) (kr := (fun a : Bool => some a)) 0 () (weak [1, 2] ⟨rfl, rfl, rfl, rfl, rfl, rfl, trivial⟩ ⟨rfl, rfl, trivial⟩) (fun s51 x52 => ?_) (fun q62 y63 => ?_)
  · unfold law28_ParticipantChooses_l2
    refine ref_seq (ref_region ?_)
    refine s_rd (r_lss rfl rfl) rfl ?_
    refine l_nil (n_then (ref_seq ?_))
    refine ref_cond rfl (fun hb53 => ?_) (fun hb53 => ?_)
    · refine ref_skip (n_then (ref_seq (ref_block (ref_seq (ref_region ?_)))))
      refine pull fun t54 h_t54 => ?_
      refine s_rd (r_index h_t54 Try.underlying45 el_44 rfl rfl) rfl ?_
      refine s_rd (r_load el_44 rfl) rfl ?_
      refine s_st (s_alloc zt_44) rfl (fun b55 => ?_)
      refine s_st0 (s_cstore (out := [slv (rI .i64) t54.i0.Pool, slv (rI .i64) t54.i0.Withheld, slv rT_api_Move t54.i0.Script, iv .i64 t54.i0.Style, slv (rI .i64) t54.i1.Pool, slv (rI .i64) t54.i1.Withheld, slv rT_api_Move t54.i1.Script, iv .i64 t54.i1.Style]) Try.sizeOf44 rfl (j := 2) rfl (part_agO (ψs := [slv (rI .i64) t54.i0.Pool, slv (rI .i64) t54.i0.Withheld, slv rT_api_Move t54.i0.Script, iv .i64 t54.i0.Style, slv (rI .i64) t54.i1.Pool, slv (rI .i64) t54.i1.Withheld, slv rT_api_Move t54.i1.Script, iv .i64 t54.i1.Style]) rfl ⟨.inl slv_at, .inl slv_at, .inl slv_at, .inl iv_at, .inl slv_at, .inl slv_at, .inl slv_at, .inl iv_at, trivial⟩) rfl rfl rfl) (fun _ => ?_)
      refine l_nil (n_then (ref_seq (ref_region ?_)))
      refine s_rd (r_cloadS Try.isAgg35 Try.sizeOf35 rfl (j := 1) rfl rfl rfl) rfl ?_
      refine s_rd (r_aaddr (sz := 4) ⟨by decide, by decide⟩ Try.underlying44 Try.sizeOf25 rfl rfl) rfl ?_
      refine s_rd (r_cloadS Try.isAgg25 Try.sizeOf25 rfl (j := 2) rfl rfl rfl) rfl ?_
      refine s_rd (r_aaddr (sz := 4) ⟨by decide, by decide⟩ Try.underlying44 Try.sizeOf25 rfl rfl) rfl ?_
      refine s_rd (r_cloadS Try.isAgg25 Try.sizeOf25 rfl (j := 2) rfl rfl rfl) rfl ?_
      refine pull fun t56 h_t56 => ?_
      refine s_st (s_call (ψ := fun (_ : Unit) => tup [ag [iv .i64 t56.1.Graph.N, slv rT_api_Pair t56.1.Graph.L, iv .i64 t56.1.Root, iv .i64 t56.1.Limits.i0, iv .i64 t56.1.Limits.i1, slv rT_api_Move t56.1.Moves], iv .i64 t56.2]) (args := [.tmp 109, .tmp 111, .tmp 113]) Try.call14 rfl (participant_Run_ok h_t56) ⟨arg rfl, arg rfl, arg rfl, trivial⟩ (fun _ _ _ _ h => h)) rfl (fun _ => ?_)
      refine mv1 rfl rfl ?_
      refine s_rd (r_extract rfl rfl) rfl ?_
      refine s_rd (r_extract rfl rfl) rfl ?_
      refine s_st (s_alloc zt_35) rfl (fun b57 => ?_)
      refine s_st0 (s_cstore (out := [iv .i64 t56.1.Graph.N, slv rT_api_Pair t56.1.Graph.L, iv .i64 t56.1.Root, iv .i64 t56.1.Limits.i0, iv .i64 t56.1.Limits.i1, slv rT_api_Move t56.1.Moves]) Try.sizeOf35 rfl (j := 3) rfl (part_agO (ψs := [iv .i64 t56.1.Graph.N, slv rT_api_Pair t56.1.Graph.L, iv .i64 t56.1.Root, iv .i64 t56.1.Limits.i0, iv .i64 t56.1.Limits.i1, slv rT_api_Move t56.1.Moves]) rfl ⟨.inl iv_at, .inl slv_at, .inl iv_at, .inl iv_at, .inl iv_at, .inl slv_at, trivial⟩) rfl rfl rfl) (fun _ => ?_)
      refine as1 rfl rfl ?_
      refine l_nil ?_
      refine b_of (nrm [oc b2 [iv .i64 g_2.N, slv rT_api_Pair g_2.L], oc b12 [iv .i64 t11.1.Graph.N, slv rT_api_Pair t11.1.Graph.L, iv .i64 t11.1.Root, iv .i64 t11.1.Limits.i0, iv .i64 t11.1.Limits.i1, slv rT_api_Move t11.1.Moves], oc b55 [slv (rI .i64) t54.i0.Pool, slv (rI .i64) t54.i0.Withheld, slv rT_api_Move t54.i0.Script, iv .i64 t54.i0.Style, slv (rI .i64) t54.i1.Pool, slv (rI .i64) t54.i1.Withheld, slv rT_api_Move t54.i1.Script, iv .i64 t54.i1.Style], oc b57 [iv .i64 t56.1.Graph.N, slv rT_api_Pair t56.1.Graph.L, iv .i64 t56.1.Root, iv .i64 t56.1.Limits.i0, iv .i64 t56.1.Limits.i1, slv rT_api_Move t56.1.Moves]] rfl) ?_
      refine n_then (ref_seq (ref_region ?_))
      refine s_rd (r_cloadS Try.isAgg35 Try.sizeOf35 rfl (j := 1) rfl rfl rfl) rfl ?_
      refine s_rd (r_aaddr (sz := 4) ⟨by decide, by decide⟩ Try.underlying44 Try.sizeOf25 rfl rfl) rfl ?_
      refine s_rd (r_cloadS Try.isAgg25 Try.sizeOf25 rfl (j := 2) rfl rfl rfl) rfl ?_
      refine s_rd (r_aaddr (sz := 4) ⟨by decide, by decide⟩ Try.underlying44 Try.sizeOf25 rfl rfl) rfl ?_
      refine s_rd (r_cloadS Try.isAgg25 Try.sizeOf25 rfl (j := 2) rfl rfl rfl) rfl ?_
      refine pull fun t58 h_t58 => ?_
      refine s_st (s_call (ψ := fun (_ : Unit) => tup [ag [iv .i64 t58.1.Graph.N, slv rT_api_Pair t58.1.Graph.L, iv .i64 t58.1.Root, iv .i64 t58.1.Limits.i0, iv .i64 t58.1.Limits.i1, slv rT_api_Move t58.1.Moves], iv .i64 t58.2]) (args := [.tmp 118, .tmp 120, .tmp 122]) Try.call15 rfl (ref28_Run_ok h_t58) ⟨arg rfl, arg rfl, arg rfl, trivial⟩ (fun _ _ _ _ h => h)) rfl (fun _ => ?_)
      refine mv1 rfl rfl ?_
      refine s_rd (r_extract rfl rfl) rfl ?_
      refine s_rd (r_extract rfl rfl) rfl ?_
      refine s_st (s_alloc zt_35) rfl (fun b59 => ?_)
      refine s_st0 (s_cstore (out := [iv .i64 t58.1.Graph.N, slv rT_api_Pair t58.1.Graph.L, iv .i64 t58.1.Root, iv .i64 t58.1.Limits.i0, iv .i64 t58.1.Limits.i1, slv rT_api_Move t58.1.Moves]) Try.sizeOf35 rfl (j := 4) rfl (part_agO (ψs := [iv .i64 t58.1.Graph.N, slv rT_api_Pair t58.1.Graph.L, iv .i64 t58.1.Root, iv .i64 t58.1.Limits.i0, iv .i64 t58.1.Limits.i1, slv rT_api_Move t58.1.Moves]) rfl ⟨.inl iv_at, .inl slv_at, .inl iv_at, .inl iv_at, .inl iv_at, .inl slv_at, trivial⟩) rfl rfl rfl) (fun _ => ?_)
      refine as1 rfl rfl ?_
      refine l_nil (n_then (ref_seq (ref_region ?_)))
      refine mv1 rfl rfl ?_
      refine mv1 rfl rfl ?_
      refine s_rd (r_neq rfl rfl) rfl ?_
      refine mv1 rfl rfl ?_
      refine b_split (t := 129) rfl (fun _ => ?_) (fun _ => ?_)
      · refine s_off rfl rfl rfl rfl rfl ?_
        refine s_off rfl rfl rfl rfl rfl ?_
        refine s_off rfl rfl rfl rfl rfl ?_
        refine s_off rfl rfl rfl rfl rfl ?_
        refine s_rd (r_pickT rfl rfl) rfl ?_
        refine l_nil (n_then ?_)
        refine ref_condT rfl rfl ?_
        refine ref_seq (ref_region ?_)
        refine as1 rfl rfl ?_
        refine l_nil (n_then (ref_ret (r_block (r_then ?_))))
        refine retX ?_
        refine r_block (r_then ?_)
        exact fin1 (.inl rfl) () [] rfl trivial rfl (rv_tmp rfl)
      refine s_on rfl rfl rfl ?_
      refine s_rd (r_cloadS Try.isAgg35 Try.sizeOf35 rfl (j := 3) rfl rfl rfl) rfl ?_
      refine s_on rfl rfl rfl ?_
      refine s_rd (r_cloadS Try.isAgg35 Try.sizeOf35 rfl (j := 4) rfl rfl rfl) rfl ?_
      refine s_on rfl rfl rfl ?_
      refine pull fun t60 h_t60 => ?_
      refine s_st (s_call (ψ := fun (_ : Unit) => bv t60) (args := [.tmp 130, .tmp 131]) Try.call16 rfl (ref27_Same_ok h_t60) ⟨arg rfl, arg rfl, trivial⟩ (fun _ _ _ _ h => h)) rfl (fun _ => ?_)
      refine s_on rfl rfl rfl ?_
      refine s_rd (r_not rfl) rfl ?_
      refine s_rd (r_pickF rfl rfl) rfl ?_
      refine l_nil ?_
      refine b_of (nrm [oc b2 [iv .i64 g_2.N, slv rT_api_Pair g_2.L], oc b12 [iv .i64 t11.1.Graph.N, slv rT_api_Pair t11.1.Graph.L, iv .i64 t11.1.Root, iv .i64 t11.1.Limits.i0, iv .i64 t11.1.Limits.i1, slv rT_api_Move t11.1.Moves], oc b55 [slv (rI .i64) t54.i0.Pool, slv (rI .i64) t54.i0.Withheld, slv rT_api_Move t54.i0.Script, iv .i64 t54.i0.Style, slv (rI .i64) t54.i1.Pool, slv (rI .i64) t54.i1.Withheld, slv rT_api_Move t54.i1.Script, iv .i64 t54.i1.Style], oc b57 [iv .i64 t56.1.Graph.N, slv rT_api_Pair t56.1.Graph.L, iv .i64 t56.1.Root, iv .i64 t56.1.Limits.i0, iv .i64 t56.1.Limits.i1, slv rT_api_Move t56.1.Moves], oc b59 [iv .i64 t58.1.Graph.N, slv rT_api_Pair t58.1.Graph.L, iv .i64 t58.1.Root, iv .i64 t58.1.Limits.i0, iv .i64 t58.1.Limits.i1, slv rT_api_Move t58.1.Moves]] rfl) ?_
      refine n_then ?_
      refine ref_cond rfl (fun hb61 => ?_) (fun hb61 => ?_)
      · refine ref_seq (ref_region ?_)
        refine as1 rfl rfl ?_
        refine l_nil (n_then (ref_ret (r_block (r_then ?_))))
        refine retX ?_
        refine r_block (r_then ?_)
        exact fin1 (.inl rfl) () [] rfl trivial rfl (rv_tmp rfl)
      refine ref_skip (n_block (n_then (ref_region ?_)))
      refine s_rd (r_add rfl rfl) rfl ?_
      refine mv1 rfl rfl ?_
      refine l_nil ?_
      exact goX () (weak [0, 1] ⟨rfl, rfl, rfl, rfl, rfl, rfl, trivial⟩ ⟨rfl, rfl, trivial⟩)
    refine ref_exit (x_then ?_)
    exact brkX () (weak [0, 1] ⟨rfl, rfl, rfl, trivial⟩ ⟨rfl, rfl, trivial⟩)
  refine n_then (ref_seq (ref_seq (ref_region ?_)))
  refine s_rd (r_cloadS Try.isAgg28 Try.sizeOf28 rfl (j := 0) rfl rfl rfl) rfl ?_
  refine s_rd (r_faddr (fo := 0) Try.underlying35 rfl rfl Try.sizeOf28 rfl) rfl ?_
  refine s_rd (r_cloadS Try.isAgg28 Try.sizeOf28 rfl (j := 1) rfl rfl rfl) rfl ?_
  refine s_st (s_bslice (xs := [.tmp 136, .tmp 138]) (ds := [g_2, t11.1.Graph]) Try.underlying49 el_28 rfl (Nat.le_of_ble_eq_true rfl) ⟨(part_agO (ψs := [iv .i64 g_2.N, slv rT_api_Pair g_2.L]) rfl ⟨.inl iv_at, .inl slv_at, trivial⟩), ⟨(part_agO (ψs := [iv .i64 t11.1.Graph.N, slv rT_api_Pair t11.1.Graph.L]) rfl ⟨.inl iv_at, .inl slv_at, trivial⟩), trivial⟩⟩) rfl (fun _ => ?_)
  refine s_rd (r_len Try.underlying49 rfl) rfl ?_
  refine mv1 rfl rfl ?_
  refine l_nil (n_then ?_)
  refine ref_loopX (f := (law28_ParticipantChooses_l3 g_2 style_3 t11)) (Γl := (fun (s76 : Int) (x77 : Unit) => [(3, iv .i64 style_3), (139, slv rT_api_Graph [g_2, t11.1.Graph]), (140, iv .i64 ([g_2, t11.1.Graph].length : Int)), (141, iv .i64 s76)])) (Ωl := (fun (s76 : Int) (x77 : Unit) => [])) (Γb := (fun (q88 : Unit) (y89 : Unit) => [])) (Ωb := (fun (q88 : Unit) (y89 : Unit) => [])) (kr := (fun a : Bool => some a)) 0 () (weak [] ⟨rfl, rfl, rfl, rfl, trivial⟩ trivial) (fun s76 x77 => ?_) (fun q88 y89 => ?_)
  · unfold law28_ParticipantChooses_l3
    refine ref_seq (ref_region ?_)
    refine s_rd (r_lss rfl rfl) rfl ?_
    refine l_nil (n_then (ref_seq ?_))
    refine ref_cond rfl (fun hb78 => ?_) (fun hb78 => ?_)
    · refine ref_skip (n_then (ref_seq (ref_block (ref_seq (ref_region ?_)))))
      refine pull fun t79 h_t79 => ?_
      refine s_rd (r_index h_t79 Try.underlying49 el_28 rfl rfl) rfl ?_
      refine s_rd (r_load el_28 rfl) rfl ?_
      refine s_st (s_alloc zt_28) rfl (fun b80 => ?_)
      refine s_st0 (s_cstore (out := [iv .i64 t79.N, slv rT_api_Pair t79.L]) Try.sizeOf28 rfl (j := 0) rfl (part_agO (ψs := [iv .i64 t79.N, slv rT_api_Pair t79.L]) rfl ⟨.inl iv_at, .inl slv_at, trivial⟩) rfl rfl rfl) (fun _ => ?_)
      refine l_nil (n_then (ref_seq ?_))
      refine pull fun t82 h_t82 => ?_
      refine pull fun t83 h_t83 => ?_
      refine ref_drawI 2 [⟨[], [], [], [0], [], fun us u => ag [iv .i64 t79.N, slv rT_api_Pair t79.L], fun us u => []⟩, ⟨[], [], [], [], [], fun us u => iv .i64 style_3, fun us u => []⟩, ⟨[0, 1], [], [], [], [], fun us u => ag [slv (rI .i64) t82.Pool, slv (rI .i64) t82.Withheld, slv rT_api_Move t82.Script, iv .i64 t82.Style], fun us u => []⟩, ⟨[], [], [], [0], [], fun us u => ag [iv .i64 t79.N, slv rT_api_Pair t79.L], fun us u => []⟩, ⟨[], [], [], [], [], fun us u => iv .i64 style_3, fun us u => []⟩, ⟨[0, 1, 2, 3, 4], [], [], [], [], fun us u => ag [slv (rI .i64) t83.Pool, pv (.slice none 0 0), pv (.slice none 0 0), iv .i64 t83.Style], fun us u => []⟩, ⟨[], [], [1], [1], [], fun us u => pv (ptr u.Nn 0), fun us u => [oc u.Nn [pv (.slice none 0 0), pv (.slice none 0 0), pv (.slice none 0 0), iv .i64 0]]⟩, ⟨[], [], [2], [2], [], fun us u => pv (ptr u.Nn 0), fun us u => [oc u.Nn [pv (.slice none 0 0), pv (.slice none 0 0), pv (.slice none 0 0), iv .i64 0]]⟩, ⟨[0, 1, 2, 3, 4, 5, 6, 7], [6], [1], [1], [1], fun us u => pv undef, fun us u => [oc (us.getD 0 .none).Nn [slv (rI .i64) t82.Pool, slv (rI .i64) t82.Withheld, slv rT_api_Move t82.Script, iv .i64 t82.Style]]⟩, ⟨[0, 1, 2, 3, 4, 5, 6, 7, 8], [7], [2], [2], [2], fun us u => pv undef, fun us u => [oc (us.getD 0 .none).Nn [slv (rI .i64) t83.Pool, pv (.slice none 0 0), pv (.slice none 0 0), iv .i64 t83.Style]]⟩] (fun χ81 => [(3, iv .i64 style_3), (27, pv (ptr (χ81 6).Nn 0)), (28, pv (ptr (χ81 7).Nn 0)), (139, slv rT_api_Graph [g_2, t11.1.Graph]), (140, iv .i64 ([g_2, t11.1.Graph].length : Int)), (141, iv .i64 s76)]) (fun χ81 => [oc b80 [iv .i64 t79.N, slv rT_api_Pair t79.L], oc (χ81 6).Nn [slv (rI .i64) t82.Pool, slv (rI .i64) t82.Withheld, slv rT_api_Move t82.Script, iv .i64 t82.Style], oc (χ81 7).Nn [slv (rI .i64) t83.Pool, pv (.slice none 0 0), pv (.slice none 0 0), iv .i64 t83.Style]]) rfl (by kernel_rfl) ⟨fun χ81 Ω ⟨h0, _⟩ => St.toR (r_cloadS Try.isAgg28 Try.sizeOf28 rfl (j := 0) h0 rfl rfl) (fun _ => rfl) (fun _ => rfl), (by intro _ h; cases h; rfl), ⟨fun χ81 Ω _ => St.toR (r_move rfl) (fun _ => rfl) (fun _ => rfl), (by intro _ h; cases h; rfl), ⟨fun χ81 Ω _ => St.to XU.U XU.hU (St.placeL [] (s_call (ψ := fun (_ : Unit) => ag [slv (rI .i64) t82.Pool, slv (rI .i64) t82.Withheld, slv rT_api_Move t82.Script, iv .i64 t82.Style]) (args := [.tmp 145, .tmp 146]) Try.call17 rfl (participant_Full_ok h_t82) ⟨arg rfl, arg rfl, trivial⟩ (fun _ _ _ _ h => h)) (fun _ => rfl) (fun _ => trivial)) (fun _ => rfl) (fun _ => rfl), (by intro _ h; cases h; rfl), ⟨fun χ81 Ω ⟨h0, _⟩ => St.toR (r_cloadS Try.isAgg28 Try.sizeOf28 rfl (j := 0) h0 rfl rfl) (fun _ => rfl) (fun _ => rfl), (by intro _ h; cases h; rfl), ⟨fun χ81 Ω _ => St.toR (r_move rfl) (fun _ => rfl) (fun _ => rfl), (by intro _ h; cases h; rfl), ⟨fun χ81 Ω _ => St.to XU.U XU.hU (St.placeL [] (s_call (ψ := fun (_ : Unit) => ag [slv (rI .i64) t83.Pool, pv (.slice none 0 0), pv (.slice none 0 0), iv .i64 t83.Style]) (args := [.tmp 148, .tmp 149]) Try.call18 rfl (ref28_Full_ok h_t83) ⟨arg rfl, arg rfl, trivial⟩ (fun _ _ _ _ h => h)) (fun _ => rfl) (fun _ => trivial)) (fun _ => rfl) (fun _ => rfl), (by intro _ h; cases h; rfl), ⟨fun χ81 Ω ⟨h1, _⟩ => St.to XU.Nn XU.hN (St.placeL (os := fun _ => [_]) [1] (s_alloc zt_25) (fun _ => rfl) (fun _ => ⟨h1, rfl, trivial⟩)) (fun _ => rfl) (fun _ => rfl), (by intro _ h; cases h; rfl), ⟨fun χ81 Ω ⟨h2, _⟩ => St.to XU.Nn XU.hN (St.placeL (os := fun _ => [_]) [2] (s_alloc zt_25) (fun _ => rfl) (fun _ => ⟨h2, rfl, trivial⟩)) (fun _ => rfl) (fun _ => rfl), (by intro _ h; cases h; rfl), ⟨fun χ81 Ω ⟨h1, _⟩ => St.to XU.U XU.hU (s_cstore (out := [slv (rI .i64) t82.Pool, slv (rI .i64) t82.Withheld, slv rT_api_Move t82.Script, iv .i64 t82.Style]) Try.sizeOf25 rfl (j := 1) h1 (part_agO (ψs := [slv (rI .i64) t82.Pool, slv (rI .i64) t82.Withheld, slv rT_api_Move t82.Script, iv .i64 t82.Style]) rfl ⟨.inl slv_at, .inl slv_at, .inl slv_at, .inl iv_at, trivial⟩) rfl rfl rfl) (fun _ => rfl) (fun _ => rfl), (by intro _ h; cases h), ⟨fun χ81 Ω ⟨h2, _⟩ => St.to XU.U XU.hU (s_cstore (out := [slv (rI .i64) t83.Pool, pv (.slice none 0 0), pv (.slice none 0 0), iv .i64 t83.Style]) Try.sizeOf25 rfl (j := 2) h2 (part_agO (ψs := [slv (rI .i64) t83.Pool, pv (.slice none 0 0), pv (.slice none 0 0), iv .i64 t83.Style]) rfl ⟨.inl slv_at, .inl (pv_at rfl), .inl (pv_at rfl), .inl iv_at, trivial⟩) rfl rfl rfl) (fun _ => rfl) (fun _ => rfl), (by intro _ h; cases h), trivial⟩⟩⟩⟩⟩⟩⟩⟩⟩⟩ (fun _ => ⟨rfl, rfl, rfl, rfl, rfl, rfl, trivial⟩) (fun _ => rfl) (fun χ81 => ?_)
      refine n_then (ref_seq (ref_region ?_))
      refine s_rd (r_faddr (fo := 0) Try.underlying25 rfl rfl Try.sizeOf22 rfl) rfl ?_
      refine s_rd (r_cload Try.isAgg22 rfl (j := 1) rfl rfl) rfl ?_
      refine s_rd (r_faddr (fo := 0) Try.underlying25 rfl rfl Try.sizeOf22 rfl) rfl ?_
      refine s_rd (r_cload Try.isAgg22 rfl (j := 2) rfl rfl) rfl ?_
      refine pull fun t86 h_t86 => ?_
      refine s_st (s_call (ψ := fun (_ : Unit) => bv t86) (args := [.tmp 152, .tmp 154]) Try.call19 rfl (keep_Ints_ok h_t86) ⟨arg rfl, arg rfl, trivial⟩ (fun _ _ _ _ h => h)) rfl (fun _ => ?_)
      refine s_rd (r_not rfl) rfl ?_
      refine mv1 rfl rfl ?_
      refine b_split (t := 157) rfl (fun _ => ?_) (fun _ => ?_)
      · refine s_off rfl rfl rfl rfl rfl ?_
        refine s_off rfl rfl rfl rfl rfl ?_
        refine s_off rfl rfl rfl rfl rfl ?_
        refine s_off rfl rfl rfl rfl rfl ?_
        refine s_off rfl rfl rfl rfl rfl ?_
        refine s_off rfl rfl rfl rfl rfl ?_
        refine s_off rfl rfl rfl rfl rfl ?_
        refine s_off rfl rfl rfl rfl rfl ?_
        refine s_rd (r_pickT rfl rfl) rfl ?_
        refine mv1 rfl rfl ?_
        refine s_off rfl rfl rfl rfl rfl ?_
        refine s_off rfl rfl rfl rfl rfl ?_
        refine s_off rfl rfl rfl rfl rfl ?_
        refine s_off rfl rfl rfl rfl rfl ?_
        refine s_off rfl rfl rfl rfl rfl ?_
        refine s_rd (r_pickT rfl rfl) rfl ?_
        refine l_nil (n_then ?_)
        refine ref_condT rfl rfl ?_
        refine ref_seq (ref_region ?_)
        refine as1 rfl rfl ?_
        refine l_nil (n_then (ref_ret (r_block (r_then ?_))))
        refine retX ?_
        refine r_block (r_then ?_)
        exact fin1 (.inl rfl) () [] rfl trivial rfl (rv_tmp rfl)
      refine s_on rfl rfl rfl ?_
      refine s_rd (r_faddr (fo := 1) Try.underlying25 rfl rfl Try.sizeOf22 rfl) rfl ?_
      refine s_on rfl rfl rfl ?_
      refine s_rd (r_cload Try.isAgg22 rfl (j := 1) rfl rfl) rfl ?_
      refine s_on rfl rfl rfl ?_
      refine s_rd (r_len Try.underlying22 rfl) rfl ?_
      refine s_on rfl rfl rfl ?_
      refine s_rd (r_faddr (fo := 2) Try.underlying25 rfl rfl Try.sizeOf23 rfl) rfl ?_
      refine s_on rfl rfl rfl ?_
      refine s_rd (r_cload Try.isAgg23 rfl (j := 1) rfl rfl) rfl ?_
      refine s_on rfl rfl rfl ?_
      refine s_rd (r_len Try.underlying23 rfl) rfl ?_
      refine s_on rfl rfl rfl ?_
      refine s_rd (r_add rfl rfl) rfl ?_
      refine s_on rfl rfl rfl ?_
      refine s_rd (r_gtr rfl rfl) rfl ?_
      refine s_rd (r_pickF rfl rfl) rfl ?_
      refine mv1 rfl rfl ?_
      refine b_split (t := 167) rfl (fun _ => ?_) (fun _ => ?_)
      · refine s_off rfl rfl rfl rfl rfl ?_
        refine s_off rfl rfl rfl rfl rfl ?_
        refine s_off rfl rfl rfl rfl rfl ?_
        refine s_off rfl rfl rfl rfl rfl ?_
        refine s_off rfl rfl rfl rfl rfl ?_
        refine s_rd (r_pickT rfl rfl) rfl ?_
        refine l_nil (n_then ?_)
        refine ref_condT rfl rfl ?_
        refine ref_seq (ref_region ?_)
        refine as1 rfl rfl ?_
        refine l_nil (n_then (ref_ret (r_block (r_then ?_))))
        refine retX ?_
        refine r_block (r_then ?_)
        exact fin1 (.inl rfl) () [] rfl trivial rfl (rv_tmp rfl)
      refine s_on rfl rfl rfl ?_
      refine s_rd (r_faddr (fo := 3) Try.underlying25 rfl rfl Try.sizeOf3 rfl) rfl ?_
      refine s_on rfl rfl rfl ?_
      refine s_rd (r_cload Try.isAgg3 rfl (j := 1) rfl rfl) rfl ?_
      refine s_on rfl rfl rfl ?_
      refine s_rd (r_faddr (fo := 3) Try.underlying25 rfl rfl Try.sizeOf3 rfl) rfl ?_
      refine s_on rfl rfl rfl ?_
      refine s_rd (r_cload Try.isAgg3 rfl (j := 2) rfl rfl) rfl ?_
      refine s_on rfl rfl rfl ?_
      refine s_rd (r_neq rfl rfl) rfl ?_
      refine s_rd (r_pickF rfl rfl) rfl ?_
      refine l_nil (n_then ?_)
      refine ref_cond rfl (fun hb87 => ?_) (fun hb87 => ?_)
      · refine ref_seq (ref_region ?_)
        refine as1 rfl rfl ?_
        refine l_nil (n_then (ref_ret (r_block (r_then ?_))))
        refine retX ?_
        refine r_block (r_then ?_)
        exact fin1 (.inl rfl) () [] rfl trivial rfl (rv_tmp rfl)
      refine ref_skip (n_block (n_then (ref_region ?_)))
      refine s_rd (r_add rfl rfl) rfl ?_
      refine mv1 rfl rfl ?_
      refine l_nil ?_
      exact goX () (weak [] ⟨rfl, rfl, rfl, rfl, trivial⟩ trivial)
    refine ref_exit (x_then ?_)
    exact brkX () (weak [] trivial trivial)
  refine n_then (ref_seq (ref_region ?_))
  refine pull fun t90 h_t90 => ?_
  refine s_st (s_call (ψ := fun (_ : Unit) => bv t90) (args := []) Try.call8 rfl (law28_awake_ok h_t90) trivial (fun _ _ _ _ h => h)) rfl (fun _ => ?_)
  refine as1 rfl rfl ?_
  refine l_nil (n_then (ref_ret ?_))
  exact fin1 (.inl rfl) () [] rfl trivial rfl (rv_tmp rfl)

end Go.Dc
