/- Part LAW28S.A3 of a proof that a law of the program returns true: general lemmas, no condition. -/
import Derived.Test.YtodnndlcnignbaaLAW28SA2
import Derived.Test.YtodnndlcnignbaaProg
set_option linter.unusedVariables false
set_option maxRecDepth 100000
set_option maxHeartbeats 4000000
namespace Go.Dc
open Go.Proofs
open Go.Proofs.Try (prog)

/-! deliberation/deliberationref27.Apply -/
noncomputable def ref27_Apply_l1 (m_1 : T_api_Move) (t18 : List T_api_Move) (s26 : Bool × Int) : Option (Sum (Bool) (Bool × Int)) :=
  bif decide (s26.2 < (t18.length : Int)) then
    Option.bind (idxM t18 s26.2) fun t29 =>
    bif s26.1 then
      some (Sum.inr (true, iadd .i64 s26.2 1))
    else
      letM (decide (t29 = m_1)) fun legal31 =>
      some (Sum.inr (legal31, iadd .i64 s26.2 1))
  else
    some (Sum.inl s26.1)

noncomputable def ref27_Apply_m (d_0 : T_api_Dialogue) (m_1 : T_api_Move) : Option (T_api_Dialogue × Int) :=
  Option.bind (ref27_Turn_m d_0) fun t4 =>
  bif t4 == 0 then
    some ((T_api_Dialogue.mk (T_api_Graph.mk 0 []) 0 (T_arr2_3.mk 0 0) []), 7)
  else
    joinM (fun j7 : Unit =>
        Option.bind (ref27_Turn_m d_0) fun t10 =>
        bif m_1.By != t10 then
          some ((T_api_Dialogue.mk (T_api_Graph.mk 0 []) 0 (T_arr2_3.mk 0 0) []), 8)
        else
          joinM (fun j13 : Bool =>
              joinM (fun j43 : T_api_Move =>
                  Option.bind (appM 32 [] d_0.Moves) fun t48 =>
                  Option.bind (appM 32 t48 [j43]) fun t50 =>
                  some ((T_api_Dialogue.mk d_0.Graph d_0.Root d_0.Limits t50), 0)) fun k45 =>
              bif m_1.Kind == 2 then
                bif !j13 then
                  some ((T_api_Dialogue.mk (T_api_Graph.mk 0 []) 0 (T_arr2_3.mk 0 0) []), 1)
                else
                  bif decide (m_1.Node < 0) then
                    some ((T_api_Dialogue.mk (T_api_Graph.mk 0 []) 0 (T_arr2_3.mk 0 0) []), 1)
                  else
                    bif decide (m_1.Node ≥ d_0.Graph.N) then
                      some ((T_api_Dialogue.mk (T_api_Graph.mk 0 []) 0 (T_arr2_3.mk 0 0) []), 1)
                    else
                      Option.bind (ref27_attacks_m d_0) fun t18 =>
                      Option.bind (loopC (ref27_Apply_l1 m_1 t18) (false, 0)) fun q32 : Bool =>
                      bif !q32 then
                        some ((T_api_Dialogue.mk (T_api_Graph.mk 0 []) 0 (T_arr2_3.mk 0 0) []), 9)
                      else
                        k45 m_1
              else
                bif m_1.Kind == 3 then
                  bif !j13 then
                    some ((T_api_Dialogue.mk (T_api_Graph.mk 0 []) 0 (T_arr2_3.mk 0 0) []), 1)
                  else
                    Option.bind (idxM d_0.Moves m_1.Target) fun t37 =>
                    bif t37.Kind != 2 then
                      some ((T_api_Dialogue.mk (T_api_Graph.mk 0 []) 0 (T_arr2_3.mk 0 0) []), 6)
                    else
                      bif t37.By != m_1.By then
                        some ((T_api_Dialogue.mk (T_api_Graph.mk 0 []) 0 (T_arr2_3.mk 0 0) []), 6)
                      else
                        Option.bind (ref27_Status_m d_0) fun t39 =>
                        Option.bind (idxM t39 m_1.Target) fun t41 =>
                        bif t41 == 0 then
                          some ((T_api_Dialogue.mk (T_api_Graph.mk 0 []) 0 (T_arr2_3.mk 0 0) []), 6)
                        else
                          k45 (T_api_Move.mk m_1.By m_1.Kind 0 m_1.Target)
                else
                  k45 (T_api_Move.mk m_1.By m_1.Kind 0 0)) fun k15 =>
          bif decide (m_1.Target ≥ 0) then
            letM (decide (m_1.Target < (d_0.Moves.length : Int))) fun there12 =>
            k15 there12
          else
            k15 false) fun k9 =>
    bif m_1.Kind != 2 then
      bif m_1.Kind != 3 then
        bif m_1.Kind != 4 then
          some ((T_api_Dialogue.mk (T_api_Graph.mk 0 []) 0 (T_arr2_3.mk 0 0) []), 4)
        else
          k9 ()
      else
        k9 ()
    else
      k9 ()

theorem ref27_Apply_ok {d_0 : T_api_Dialogue} {m_1 : T_api_Move} {r : T_api_Dialogue × Int} (hm : ref27_Apply_m d_0 m_1 = some r) :
    FnOk prog 26 [ag [iv .i64 d_0.Graph.N, slv rT_api_Pair d_0.Graph.L, iv .i64 d_0.Root, iv .i64 d_0.Limits.i0, iv .i64 d_0.Limits.i1, slv rT_api_Move d_0.Moves], ag [iv .i64 m_1.By, iv .i64 m_1.Kind, iv .i64 m_1.Node, iv .i64 m_1.Target]] [] (fun (x : Unit) => [ag [iv .i64 r.1.Graph.N, slv rT_api_Pair r.1.Graph.L, iv .i64 r.1.Root, iv .i64 r.1.Limits.i0, iv .i64 r.1.Limits.i1, slv rT_api_Move r.1.Moves], iv .i64 r.2]) (fun (x : Unit) => []) := by
  refine fn_ok (X := Unit) (fn := Try.f26) (N := 126) (m := ref27_Apply_m d_0 m_1) (res := fun r x => [ag [iv .i64 r.1.Graph.N, slv rT_api_Pair r.1.Graph.L, iv .i64 r.1.Root, iv .i64 r.1.Limits.i0, iv .i64 r.1.Limits.i1, slv rT_api_Move r.1.Moves], iv .i64 r.2]) (Ω1 := fun r x => []) Try.func26 rfl rfl hm rfl (fun E hM => ?_)
  unfold ref27_Apply_m
  refine ref_seq ?_
  refine ref_region ?_
  refine s_st (s_box (part_ag (ψs := [iv .i64 d_0.Graph.N, slv rT_api_Pair d_0.Graph.L, iv .i64 d_0.Root, iv .i64 d_0.Limits.i0, iv .i64 d_0.Limits.i1, slv rT_api_Move d_0.Moves]) rfl (by intro φ h; simp only [List.mem_cons, List.not_mem_nil, or_false] at h; rcases h with rfl | rfl | rfl | rfl | rfl | rfl <;> first | exact iv_at | exact bv_at | exact sv_at | exact slv_at | exact pv_at rfl))) rfl (fun b1 => ?_)
  refine s_st (s_box (part_ag (ψs := [iv .i64 m_1.By, iv .i64 m_1.Kind, iv .i64 m_1.Node, iv .i64 m_1.Target]) rfl (by intro φ h; simp only [List.mem_cons, List.not_mem_nil, or_false] at h; rcases h with rfl | rfl | rfl | rfl <;> first | exact iv_at | exact bv_at | exact sv_at | exact slv_at | exact pv_at rfl))) rfl (fun b2 => ?_)
  refine s_st (s_alloc zt_35) rfl (fun b3 => ?_)
  refine s_rd (r_assign rfl) rfl ?_
  refine l_nil ?_
  refine n_then ?_
  refine ref_seq ?_
  refine ref_seq ?_
  refine ref_region ?_
  refine s_rd (r_cloadS Try.isAgg35 Try.sizeOf35 rfl (j := 0) rfl rfl rfl) rfl ?_
  refine pull fun t4 h_t4 => ?_
  refine s_st (s_call (ψ := fun (_ : Unit) => iv .i64 t4) (args := [.tmp 11]) Try.call41 rfl (ref27_Turn_ok h_t4) ⟨arg rfl, trivial⟩ (fun _ _ _ _ h => h)) rfl (fun _ => ?_)
  refine s_rd (r_eql rfl rfl) rfl ?_
  refine l_nil ?_
  refine b_of (nrm [oc b1 [iv .i64 d_0.Graph.N, slv rT_api_Pair d_0.Graph.L, iv .i64 d_0.Root, iv .i64 d_0.Limits.i0, iv .i64 d_0.Limits.i1, slv rT_api_Move d_0.Moves], oc b2 [iv .i64 m_1.By, iv .i64 m_1.Kind, iv .i64 m_1.Node, iv .i64 m_1.Target], oc b3 [iv .i64 0, pv (.slice none 0 0), iv .i64 0, iv .i64 0, iv .i64 0, pv (.slice none 0 0)]] rfl) ?_
  refine n_then ?_
  refine ref_cond rfl (fun hb5 => ?_) (fun hb5 => ?_)
  · refine ref_seq ?_
    refine ref_region ?_
    refine s_rd (r_build (ps := []) (rs := []) st_35 zs_35 trivial rfl rfl) rfl ?_
    refine s_st0 (s_cstore (out := [iv .i64 0, pv (.slice none 0 0), iv .i64 0, iv .i64 0, iv .i64 0, pv (.slice none 0 0)]) Try.sizeOf35 rfl (j := 2) rfl (part_agO (ψs := [iv .i64 0, pv (.slice none 0 0), iv .i64 0, iv .i64 0, iv .i64 0, pv (.slice none 0 0)]) rfl ⟨.inl iv_at, .inl (pv_at rfl), .inl iv_at, .inl iv_at, .inl iv_at, .inl (pv_at rfl), trivial⟩) rfl rfl rfl) (fun _ => ?_)
    refine s_rd (r_assign rfl) rfl ?_
    refine l_nil ?_
    refine n_then ?_
    refine ref_ret ?_
    refine r_then ?_
    refine b_of (ocW 2 [iv .i64 0, slv rT_api_Pair [], iv .i64 0, iv .i64 0, iv .i64 0, slv rT_api_Move []] rfl ⟨imp_rfl, nil_sl, imp_rfl, imp_rfl, imp_rfl, nil_sl, trivial⟩) ?_
    exact fin2 (.inl rfl) () [] rfl trivial rfl (rv_cell rfl (j := 2) rfl Try.isAgg35 Try.sizeOf35 rfl rfl) (rv_tmp rfl)
  · refine ref_skip ?_
    refine n_then ?_
    refine ref_seq ?_
    refine ref_join (fun (j7 : Unit) (x8 : Unit) => [(2, pv (ptr b1 0)), (3, pv (ptr b2 0)), (4, pv (ptr b3 0))]) (fun (j7 : Unit) (x8 : Unit) => [oc b1 [iv .i64 d_0.Graph.N, slv rT_api_Pair d_0.Graph.L, iv .i64 d_0.Root, iv .i64 d_0.Limits.i0, iv .i64 d_0.Limits.i1, slv rT_api_Move d_0.Moves], oc b2 [iv .i64 m_1.By, iv .i64 m_1.Kind, iv .i64 m_1.Node, iv .i64 m_1.Target], oc b3 [iv .i64 0, pv (.slice none 0 0), iv .i64 0, iv .i64 0, iv .i64 0, pv (.slice none 0 0)]]) (fun k9 hk9 => ?_) (fun j7 x8 => ?_)
    · refine ref_seq ?_
      refine ref_region ?_
      refine s_rd (r_faddr (fo := 1) Try.underlying40 rfl rfl Try.sizeOf3 rfl) rfl ?_
      refine s_rd (r_cload Try.isAgg3 rfl (j := 1) rfl rfl) rfl ?_
      refine s_rd (r_neq rfl rfl) rfl ?_
      refine s_rd (r_move rfl) rfl ?_
      refine b_split (t := 18) rfl (fun _ => ?_) (fun _ => ?_)
      · refine s_on rfl rfl rfl ?_
        refine s_rd (r_faddr (fo := 1) Try.underlying40 rfl rfl Try.sizeOf3 rfl) rfl ?_
        refine s_on rfl rfl rfl ?_
        refine s_rd (r_cload Try.isAgg3 rfl (j := 1) rfl rfl) rfl ?_
        refine s_on rfl rfl rfl ?_
        refine s_rd (r_neq rfl rfl) rfl ?_
        refine s_rd (r_pickT rfl rfl) rfl ?_
        refine s_rd (r_move rfl) rfl ?_
        refine b_split (t := 23) rfl (fun _ => ?_) (fun _ => ?_)
        · refine s_on rfl rfl rfl ?_
          refine s_rd (r_faddr (fo := 1) Try.underlying40 rfl rfl Try.sizeOf3 rfl) rfl ?_
          refine s_on rfl rfl rfl ?_
          refine s_rd (r_cload Try.isAgg3 rfl (j := 1) rfl rfl) rfl ?_
          refine s_on rfl rfl rfl ?_
          refine s_rd (r_neq rfl rfl) rfl ?_
          refine s_rd (r_pickT rfl rfl) rfl ?_
          refine l_nil ?_
          refine n_then ?_
          refine ref_cond rfl (fun hb6 => ?_) (fun hb6 => ?_)
          · refine ref_seq ?_
            refine ref_region ?_
            refine s_rd (r_build (ps := []) (rs := []) st_35 zs_35 trivial rfl rfl) rfl ?_
            refine s_st0 (s_cstore (out := [iv .i64 0, pv (.slice none 0 0), iv .i64 0, iv .i64 0, iv .i64 0, pv (.slice none 0 0)]) Try.sizeOf35 rfl (j := 2) rfl (part_agO (ψs := [iv .i64 0, pv (.slice none 0 0), iv .i64 0, iv .i64 0, iv .i64 0, pv (.slice none 0 0)]) rfl ⟨.inl iv_at, .inl (pv_at rfl), .inl iv_at, .inl iv_at, .inl iv_at, .inl (pv_at rfl), trivial⟩) rfl rfl rfl) (fun _ => ?_)
            refine s_rd (r_assign rfl) rfl ?_
            refine l_nil ?_
            refine n_then ?_
            refine ref_ret ?_
            refine r_then ?_
            refine b_of (ocW 2 [iv .i64 0, slv rT_api_Pair [], iv .i64 0, iv .i64 0, iv .i64 0, slv rT_api_Move []] rfl ⟨imp_rfl, nil_sl, imp_rfl, imp_rfl, imp_rfl, nil_sl, trivial⟩) ?_
            exact fin2 (.inl rfl) () [] rfl trivial rfl (rv_cell rfl (j := 2) rfl Try.isAgg35 Try.sizeOf35 rfl rfl) (rv_tmp rfl)
          · refine ref_skip ?_
            exact b_to (hk9 () ()) (weak [0, 1, 2] ⟨rfl, rfl, rfl, trivial⟩ ⟨rfl, rfl, rfl, trivial⟩)
        · refine s_off rfl rfl rfl rfl rfl ?_
          refine s_off rfl rfl rfl rfl rfl ?_
          refine s_off rfl rfl rfl rfl rfl ?_
          refine s_rd (r_pickF rfl rfl) rfl ?_
          refine l_nil ?_
          refine n_then ?_
          refine ref_condF rfl rfl ?_
          refine ref_skip ?_
          exact b_to (hk9 () ()) (weak [0, 1, 2] ⟨rfl, rfl, rfl, trivial⟩ ⟨rfl, rfl, rfl, trivial⟩)
      · refine s_off rfl rfl rfl rfl rfl ?_
        refine s_off rfl rfl rfl rfl rfl ?_
        refine s_off rfl rfl rfl rfl rfl ?_
        refine s_rd (r_pickF rfl rfl) rfl ?_
        refine s_rd (r_move rfl) rfl ?_
        refine s_off rfl rfl rfl rfl rfl ?_
        refine s_off rfl rfl rfl rfl rfl ?_
        refine s_off rfl rfl rfl rfl rfl ?_
        refine s_rd (r_pickF rfl rfl) rfl ?_
        refine l_nil ?_
        refine n_then ?_
        refine ref_condF rfl rfl ?_
        refine ref_skip ?_
        exact b_to (hk9 () ()) (weak [0, 1, 2] ⟨rfl, rfl, rfl, trivial⟩ ⟨rfl, rfl, rfl, trivial⟩)
    · refine n_then ?_
      refine ref_seq ?_
      refine ref_seq ?_
      refine ref_draw [0, 1, 2, 4] rfl (by kernel_rfl) (fun hok => ?_)
      refine a_rd (i := 0) hok rfl (by kernel_rfl) rfl (r_faddr (fo := 0) Try.underlying40 rfl rfl Try.sizeOf3 rfl) rfl ?_
      refine a_rd (i := 1) hok rfl (by kernel_rfl) rfl (r_cload Try.isAgg3 rfl (j := 1) rfl rfl) rfl ?_
      refine a_rd (i := 2) hok rfl (by kernel_rfl) rfl (r_cloadS Try.isAgg35 Try.sizeOf35 rfl (j := 0) rfl rfl rfl) rfl ?_
      refine pull fun t10 h_t10 => ?_
      refine a_next hok 3 [] (by kernel_rfl) ?_ trivial
      refine a_st (i := 3) hok rfl rfl (s_call (ψ := fun (_ : Unit) => iv .i64 t10) (args := [.tmp 31]) Try.call41 rfl (ref27_Turn_ok h_t10) ⟨arg rfl, trivial⟩ (fun _ _ _ _ h => h)) (by intro _ h; cases h; rfl) (fun _ => ⟨trivial, ⟨⟨⟨rfl, rfl⟩, trivial⟩, ⟨trivial, trivial⟩⟩⟩) (fun _ => ?_)
      refine a_rd (i := 4) hok rfl (by kernel_rfl) rfl (r_neq rfl rfl) rfl ?_
      refine a_fin hok (by kernel_rfl) ?_
      refine n_then ?_
      refine ref_cond rfl (fun hb11 => ?_) (fun hb11 => ?_)
      · refine ref_seq ?_
        refine ref_region ?_
        refine s_rd (r_build (ps := []) (rs := []) st_35 zs_35 trivial rfl rfl) rfl ?_
        refine s_st0 (s_cstore (out := [iv .i64 0, pv (.slice none 0 0), iv .i64 0, iv .i64 0, iv .i64 0, pv (.slice none 0 0)]) Try.sizeOf35 rfl (j := 2) rfl (part_agO (ψs := [iv .i64 0, pv (.slice none 0 0), iv .i64 0, iv .i64 0, iv .i64 0, pv (.slice none 0 0)]) rfl ⟨.inl iv_at, .inl (pv_at rfl), .inl iv_at, .inl iv_at, .inl iv_at, .inl (pv_at rfl), trivial⟩) rfl rfl rfl) (fun _ => ?_)
        refine s_rd (r_assign rfl) rfl ?_
        refine l_nil ?_
        refine n_then ?_
        refine ref_ret ?_
        refine r_then ?_
        refine b_of (ocW 2 [iv .i64 0, slv rT_api_Pair [], iv .i64 0, iv .i64 0, iv .i64 0, slv rT_api_Move []] rfl ⟨imp_rfl, nil_sl, imp_rfl, imp_rfl, imp_rfl, nil_sl, trivial⟩) ?_
        exact fin2 (.inl rfl) () [] rfl trivial rfl (rv_cell rfl (j := 2) rfl Try.isAgg35 Try.sizeOf35 rfl rfl) (rv_tmp rfl)
      · refine ref_skip ?_
        refine n_then ?_
        refine ref_seq ?_
        refine ref_join (fun (j13 : Bool) (x14 : Unit) => [(2, pv (ptr b1 0)), (3, pv (ptr b2 0)), (4, pv (ptr b3 0)), (6, bv j13)]) (fun (j13 : Bool) (x14 : Unit) => [oc b1 [iv .i64 d_0.Graph.N, slv rT_api_Pair d_0.Graph.L, iv .i64 d_0.Root, iv .i64 d_0.Limits.i0, iv .i64 d_0.Limits.i1, slv rT_api_Move d_0.Moves], oc b2 [iv .i64 m_1.By, iv .i64 m_1.Kind, iv .i64 m_1.Node, iv .i64 m_1.Target], oc b3 [iv .i64 0, pv (.slice none 0 0), iv .i64 0, iv .i64 0, iv .i64 0, pv (.slice none 0 0)]]) (fun k15 hk15 => ?_) (fun j13 x14 => ?_)
        · refine ref_region ?_
          refine s_rd (r_faddr (fo := 3) Try.underlying40 rfl rfl Try.sizeOf3 rfl) rfl ?_
          refine s_rd (r_cload Try.isAgg3 rfl (j := 1) rfl rfl) rfl ?_
          refine s_rd (r_geq rfl rfl) rfl ?_
          refine s_rd (r_move rfl) rfl ?_
          refine b_split (t := 38) rfl (fun _ => ?_) (fun _ => ?_)
          · refine s_on rfl rfl rfl ?_
            refine s_rd (r_faddr (fo := 3) Try.underlying40 rfl rfl Try.sizeOf3 rfl) rfl ?_
            refine s_on rfl rfl rfl ?_
            refine s_rd (r_cload Try.isAgg3 rfl (j := 1) rfl rfl) rfl ?_
            refine s_on rfl rfl rfl ?_
            refine s_rd (r_faddr (fo := 5) Try.underlying35 rfl rfl Try.sizeOf23 rfl) rfl ?_
            refine s_on rfl rfl rfl ?_
            refine s_rd (r_cload Try.isAgg23 rfl (j := 0) rfl rfl) rfl ?_
            refine s_on rfl rfl rfl ?_
            refine s_rd (r_len Try.underlying23 rfl) rfl ?_
            refine s_on rfl rfl rfl ?_
            refine s_rd (r_lss rfl rfl) rfl ?_
            refine s_rd (r_pickT rfl rfl) rfl ?_
            refine s_rd (r_assign rfl) rfl ?_
            refine b_let (f := bv) (t := 6) rfl fun there12 => ?_
            refine l_nil ?_
            exact b_to (hk15 there12 ()) (weak [0, 1, 2] ⟨rfl, rfl, rfl, rfl, trivial⟩ ⟨rfl, rfl, rfl, trivial⟩)
          · refine s_off rfl rfl rfl rfl rfl ?_
            refine s_off rfl rfl rfl rfl rfl ?_
            refine s_off rfl rfl rfl rfl rfl ?_
            refine s_off rfl rfl rfl rfl rfl ?_
            refine s_off rfl rfl rfl rfl rfl ?_
            refine s_off rfl rfl rfl rfl rfl ?_
            refine s_rd (r_pickF rfl rfl) rfl ?_
            refine s_rd (r_assign rfl) rfl ?_
            refine l_nil ?_
            exact b_to (hk15 false ()) (weak [0, 1, 2] ⟨rfl, rfl, rfl, rfl, trivial⟩ ⟨rfl, rfl, rfl, trivial⟩)
        · refine n_then ?_
          refine ref_seq ?_
          refine ref_join (fun (j43 : T_api_Move) (x44 : Unit) => [(2, pv (ptr b1 0)), (3, pv (ptr b2 0)), (4, pv (ptr b3 0))]) (fun (j43 : T_api_Move) (x44 : Unit) => [oc b1 [iv .i64 d_0.Graph.N, slv rT_api_Pair d_0.Graph.L, iv .i64 d_0.Root, iv .i64 d_0.Limits.i0, iv .i64 d_0.Limits.i1, slv rT_api_Move d_0.Moves], oc b2 [iv .i64 j43.By, iv .i64 j43.Kind, iv .i64 j43.Node, iv .i64 j43.Target], oc b3 [iv .i64 0, pv (.slice none 0 0), iv .i64 0, iv .i64 0, iv .i64 0, pv (.slice none 0 0)]]) (fun k45 hk45 => ?_) (fun j43 x44 => ?_)
          · refine ref_seq ?_
            refine ref_region ?_
            refine s_rd (r_faddr (fo := 1) Try.underlying40 rfl rfl Try.sizeOf3 rfl) rfl ?_
            refine s_rd (r_cload Try.isAgg3 rfl (j := 1) rfl rfl) rfl ?_
            refine l_nil ?_
            refine n_then ?_
            refine ref_block ?_
            refine ref_seq ?_
            refine ref_region ?_
            refine s_rd (r_eql rfl rfl) rfl ?_
            refine s_rd (r_assign rfl) rfl ?_
            refine l_nil ?_
            refine n_then ?_
            refine ref_cond rfl (fun hb16 => ?_) (fun hb16 => ?_)
            · refine ref_seq ?_
              refine ref_seq ?_
              refine ref_region ?_
              refine s_rd (r_move rfl) rfl ?_
              refine s_rd (r_not rfl) rfl ?_
              refine s_rd (r_move rfl) rfl ?_
              refine b_split (t := 54) rfl (fun _ => ?_) (fun _ => ?_)
              · refine s_off rfl rfl rfl rfl rfl ?_
                refine s_off rfl rfl rfl rfl rfl ?_
                refine s_off rfl rfl rfl rfl rfl ?_
                refine s_rd (r_pickT rfl rfl) rfl ?_
                refine s_rd (r_move rfl) rfl ?_
                refine s_off rfl rfl rfl rfl rfl ?_
                refine s_off rfl rfl rfl rfl rfl ?_
                refine s_off rfl rfl rfl rfl rfl ?_
                refine s_off rfl rfl rfl rfl rfl ?_
                refine s_off rfl rfl rfl rfl rfl ?_
                refine s_off rfl rfl rfl rfl rfl ?_
                refine s_rd (r_pickT rfl rfl) rfl ?_
                refine l_nil ?_
                refine n_then ?_
                refine ref_condT rfl rfl ?_
                refine ref_seq ?_
                refine ref_region ?_
                refine s_rd (r_build (ps := []) (rs := []) st_35 zs_35 trivial rfl rfl) rfl ?_
                refine s_st0 (s_cstore (out := [iv .i64 0, pv (.slice none 0 0), iv .i64 0, iv .i64 0, iv .i64 0, pv (.slice none 0 0)]) Try.sizeOf35 rfl (j := 2) rfl (part_agO (ψs := [iv .i64 0, pv (.slice none 0 0), iv .i64 0, iv .i64 0, iv .i64 0, pv (.slice none 0 0)]) rfl ⟨.inl iv_at, .inl (pv_at rfl), .inl iv_at, .inl iv_at, .inl iv_at, .inl (pv_at rfl), trivial⟩) rfl rfl rfl) (fun _ => ?_)
                refine s_rd (r_assign rfl) rfl ?_
                refine l_nil ?_
                refine n_then ?_
                refine ref_ret ?_
                refine r_then ?_
                refine r_block ?_
                refine r_then ?_
                refine b_of (ocW 2 [iv .i64 0, slv rT_api_Pair [], iv .i64 0, iv .i64 0, iv .i64 0, slv rT_api_Move []] rfl ⟨imp_rfl, nil_sl, imp_rfl, imp_rfl, imp_rfl, nil_sl, trivial⟩) ?_
                exact fin2 (.inl rfl) () [] rfl trivial rfl (rv_cell rfl (j := 2) rfl Try.isAgg35 Try.sizeOf35 rfl rfl) (rv_tmp rfl)
              · refine s_on rfl rfl rfl ?_
                refine s_rd (r_faddr (fo := 2) Try.underlying40 rfl rfl Try.sizeOf3 rfl) rfl ?_
                refine s_on rfl rfl rfl ?_
                refine s_rd (r_cload Try.isAgg3 rfl (j := 1) rfl rfl) rfl ?_
                refine s_on rfl rfl rfl ?_
                refine s_rd (r_lss rfl rfl) rfl ?_
                refine s_rd (r_pickF rfl rfl) rfl ?_
                refine s_rd (r_move rfl) rfl ?_
                refine b_split (t := 59) rfl (fun _ => ?_) (fun _ => ?_)
                · refine s_off rfl rfl rfl rfl rfl ?_
                  refine s_off rfl rfl rfl rfl rfl ?_
                  refine s_off rfl rfl rfl rfl rfl ?_
                  refine s_off rfl rfl rfl rfl rfl ?_
                  refine s_off rfl rfl rfl rfl rfl ?_
                  refine s_off rfl rfl rfl rfl rfl ?_
                  refine s_rd (r_pickT rfl rfl) rfl ?_
                  refine l_nil ?_
                  refine n_then ?_
                  refine ref_condT rfl rfl ?_
                  refine ref_seq ?_
                  refine ref_region ?_
                  refine s_rd (r_build (ps := []) (rs := []) st_35 zs_35 trivial rfl rfl) rfl ?_
                  refine s_st0 (s_cstore (out := [iv .i64 0, pv (.slice none 0 0), iv .i64 0, iv .i64 0, iv .i64 0, pv (.slice none 0 0)]) Try.sizeOf35 rfl (j := 2) rfl (part_agO (ψs := [iv .i64 0, pv (.slice none 0 0), iv .i64 0, iv .i64 0, iv .i64 0, pv (.slice none 0 0)]) rfl ⟨.inl iv_at, .inl (pv_at rfl), .inl iv_at, .inl iv_at, .inl iv_at, .inl (pv_at rfl), trivial⟩) rfl rfl rfl) (fun _ => ?_)
                  refine s_rd (r_assign rfl) rfl ?_
                  refine l_nil ?_
                  refine n_then ?_
                  refine ref_ret ?_
                  refine r_then ?_
                  refine r_block ?_
                  refine r_then ?_
                  refine b_of (ocW 2 [iv .i64 0, slv rT_api_Pair [], iv .i64 0, iv .i64 0, iv .i64 0, slv rT_api_Move []] rfl ⟨imp_rfl, nil_sl, imp_rfl, imp_rfl, imp_rfl, nil_sl, trivial⟩) ?_
                  exact fin2 (.inl rfl) () [] rfl trivial rfl (rv_cell rfl (j := 2) rfl Try.isAgg35 Try.sizeOf35 rfl rfl) (rv_tmp rfl)
                · refine s_on rfl rfl rfl ?_
                  refine s_rd (r_faddr (fo := 2) Try.underlying40 rfl rfl Try.sizeOf3 rfl) rfl ?_
                  refine s_on rfl rfl rfl ?_
                  refine s_rd (r_cload Try.isAgg3 rfl (j := 1) rfl rfl) rfl ?_
                  refine s_on rfl rfl rfl ?_
                  refine s_rd (r_faddr (fo := 0) Try.underlying35 rfl rfl Try.sizeOf28 rfl) rfl ?_
                  refine s_on rfl rfl rfl ?_
                  refine s_rd (r_faddr (fo := 0) Try.underlying28 rfl rfl Try.sizeOf3 rfl) rfl ?_
                  refine s_on rfl rfl rfl ?_
                  refine s_rd (r_cload Try.isAgg3 rfl (j := 0) rfl rfl) rfl ?_
                  refine s_on rfl rfl rfl ?_
                  refine s_rd (r_geq rfl rfl) rfl ?_
                  refine s_rd (r_pickF rfl rfl) rfl ?_
                  refine l_nil ?_
                  refine n_then ?_
                  refine ref_cond rfl (fun hb17 => ?_) (fun hb17 => ?_)
                  · refine ref_seq ?_
                    refine ref_region ?_
                    refine s_rd (r_build (ps := []) (rs := []) st_35 zs_35 trivial rfl rfl) rfl ?_
                    refine s_st0 (s_cstore (out := [iv .i64 0, pv (.slice none 0 0), iv .i64 0, iv .i64 0, iv .i64 0, pv (.slice none 0 0)]) Try.sizeOf35 rfl (j := 2) rfl (part_agO (ψs := [iv .i64 0, pv (.slice none 0 0), iv .i64 0, iv .i64 0, iv .i64 0, pv (.slice none 0 0)]) rfl ⟨.inl iv_at, .inl (pv_at rfl), .inl iv_at, .inl iv_at, .inl iv_at, .inl (pv_at rfl), trivial⟩) rfl rfl rfl) (fun _ => ?_)
                    refine s_rd (r_assign rfl) rfl ?_
                    refine l_nil ?_
                    refine n_then ?_
                    refine ref_ret ?_
                    refine r_then ?_
                    refine r_block ?_
                    refine r_then ?_
                    refine b_of (ocW 2 [iv .i64 0, slv rT_api_Pair [], iv .i64 0, iv .i64 0, iv .i64 0, slv rT_api_Move []] rfl ⟨imp_rfl, nil_sl, imp_rfl, imp_rfl, imp_rfl, nil_sl, trivial⟩) ?_
                    exact fin2 (.inl rfl) () [] rfl trivial rfl (rv_cell rfl (j := 2) rfl Try.isAgg35 Try.sizeOf35 rfl rfl) (rv_tmp rfl)
                  · refine ref_skip ?_
                    refine n_then ?_
                    refine ref_seq ?_
                    refine ref_region ?_
                    refine s_rd (r_assign rfl) rfl ?_
                    refine l_nil ?_
                    refine n_then ?_
                    refine ref_seq ?_
                    refine ref_seq ?_
                    refine ref_region ?_
                    refine s_rd (r_cloadS Try.isAgg35 Try.sizeOf35 rfl (j := 0) rfl rfl rfl) rfl ?_
                    refine pull fun t18 h_t18 => ?_
                    refine s_st (s_call (ψ := fun (x19 : (Value × List Nat)) => pv x19.1) (args := [.tmp 68]) Try.call56 rfl (ref27_attacks_ok h_t18) ⟨arg rfl, trivial⟩ (fun _ _ _ _ h => h)) rfl (fun x19 => ?_)
                    refine s_rd (r_olen Try.underlying23 rfl (j := 3) rfl) rfl ?_
                    refine s_rd (r_move rfl) rfl ?_
                    refine l_nil ?_
                    refine n_then ?_
                    refine ref_loopB (f := (ref27_Apply_l1 m_1 t18)) (Γl := (fun (s26 : Bool × Int) (x27 : Unit) => [(2, pv (ptr b1 0)), (3, pv (ptr b2 0)), (4, pv (ptr b3 0)), (7, bv s26.1), (69, pv x19.1), (70, iv .i64 (t18.length : Int)), (71, iv .i64 s26.2)])) (Ωl := (fun (s26 : Bool × Int) (x27 : Unit) => [oc b1 [iv .i64 d_0.Graph.N, slv rT_api_Pair d_0.Graph.L, iv .i64 d_0.Root, iv .i64 d_0.Limits.i0, iv .i64 d_0.Limits.i1, slv rT_api_Move d_0.Moves], oc b2 [iv .i64 m_1.By, iv .i64 m_1.Kind, iv .i64 m_1.Node, iv .i64 m_1.Target], oc b3 [iv .i64 0, pv (.slice none 0 0), iv .i64 0, iv .i64 0, iv .i64 0, pv (.slice none 0 0)], oa rT_api_Move x19.1 x19.2 t18])) (Γb := (fun (q32 : Bool) (y33 : Unit) => [(2, pv (ptr b1 0)), (3, pv (ptr b2 0)), (4, pv (ptr b3 0)), (7, bv q32)])) (Ωb := (fun (q32 : Bool) (y33 : Unit) => [oc b1 [iv .i64 d_0.Graph.N, slv rT_api_Pair d_0.Graph.L, iv .i64 d_0.Root, iv .i64 d_0.Limits.i0, iv .i64 d_0.Limits.i1, slv rT_api_Move d_0.Moves], oc b2 [iv .i64 m_1.By, iv .i64 m_1.Kind, iv .i64 m_1.Node, iv .i64 m_1.Target], oc b3 [iv .i64 0, pv (.slice none 0 0), iv .i64 0, iv .i64 0, iv .i64 0, pv (.slice none 0 0)]])) (false, 0) () (weak [0, 1, 2, 3] ⟨rfl, rfl, rfl, rfl, rfl, rfl, rfl, trivial⟩ ⟨rfl, rfl, rfl, rfl, trivial⟩) (fun s26 x27 => ?_) (fun q32 y33 => ?_)
                    · unfold ref27_Apply_l1
                      refine ref_seq ?_
                      refine ref_region ?_
                      refine s_rd (r_lss rfl rfl) rfl ?_
                      refine l_nil ?_
                      refine n_then ?_
                      refine ref_seq ?_
                      refine ref_cond rfl (fun hb28 => ?_) (fun hb28 => ?_)
                      · refine ref_skip ?_
                        refine n_then ?_
                        refine ref_seq ?_
                        refine ref_block ?_
                        refine ref_seq ?_
                        refine ref_region ?_
                        refine pull fun t29 h_t29 => ?_
                        refine s_rd (r_oindex h_t29 Try.underlying23 el_40 rfl (j := 3) rfl rfl) rfl ?_
                        refine s_rd (r_oload h_t29 el_40 rfl (j := 3) rfl) rfl ?_
                        refine s_st (s_alloc zt_40) rfl (fun b30 => ?_)
                        refine s_st0 (s_cstore (out := [iv .i64 t29.By, iv .i64 t29.Kind, iv .i64 t29.Node, iv .i64 t29.Target]) Try.sizeOf40 rfl (j := 4) rfl (part_ag (ψs := [iv .i64 t29.By, iv .i64 t29.Kind, iv .i64 t29.Node, iv .i64 t29.Target]) rfl (by intro φ h; simp only [List.mem_cons, List.not_mem_nil, or_false] at h; rcases h with rfl | rfl | rfl | rfl <;> first | exact iv_at | exact bv_at | exact sv_at | exact slv_at | exact pv_at rfl)) rfl rfl rfl) (fun _ => ?_)
                        refine l_nil ?_
                        refine n_then ?_
                        refine ref_region ?_
                        refine s_rd (r_move rfl) rfl ?_
                        refine s_rd (r_move rfl) rfl ?_
                        refine b_split (t := 76) rfl (fun _ => ?_) (fun _ => ?_)
                        · refine s_off rfl rfl rfl rfl rfl ?_
                          refine s_off rfl rfl rfl rfl rfl ?_
                          refine s_off rfl rfl rfl rfl rfl ?_
                          refine s_rd (r_pickT rfl rfl) rfl ?_
                          refine s_rd (r_assign rfl) rfl ?_
                          refine l_nil ?_
                          refine n_block ?_
                          refine n_then ?_
                          refine ref_region ?_
                          refine s_rd (r_add rfl rfl) rfl ?_
                          refine s_rd (r_move rfl) rfl ?_
                          refine l_nil ?_
                          exact goB () (weak [0, 1, 2, 3] ⟨rfl, rfl, rfl, rfl, rfl, rfl, rfl, trivial⟩ ⟨rfl, rfl, rfl, rfl, trivial⟩)
                        · refine s_on rfl rfl rfl ?_
                          refine s_rd (r_cloadS Try.isAgg40 Try.sizeOf40 rfl (j := 4) rfl rfl rfl) rfl ?_
                          refine s_on rfl rfl rfl ?_
                          refine s_rd (r_cloadS Try.isAgg40 Try.sizeOf40 rfl (j := 1) rfl rfl rfl) rfl ?_
                          refine s_on rfl rfl rfl ?_
                          refine s_rd (r_steql (u := t29) (v := m_1) eq_40 rfl rfl rfl rfl) rfl ?_
                          refine s_rd (r_pickF rfl rfl) rfl ?_
                          refine s_rd (r_assign rfl) rfl ?_
                          refine b_let (f := bv) (t := 7) rfl fun legal31 => ?_
                          refine l_nil ?_
                          refine n_block ?_
                          refine n_then ?_
                          refine ref_region ?_
                          refine s_rd (r_add rfl rfl) rfl ?_
                          refine s_rd (r_move rfl) rfl ?_
                          refine l_nil ?_
                          exact goB () (weak [0, 1, 2, 3] ⟨rfl, rfl, rfl, rfl, rfl, rfl, rfl, trivial⟩ ⟨rfl, rfl, rfl, rfl, trivial⟩)
                      · refine ref_exit ?_
                        refine x_then ?_
                        exact brkB () (weak [0, 1, 2] ⟨rfl, rfl, rfl, rfl, trivial⟩ ⟨rfl, rfl, rfl, trivial⟩)
                    · refine n_then ?_
                      refine ref_seq ?_
                      refine ref_region ?_
                      refine s_rd (r_move rfl) rfl ?_
                      refine s_rd (r_not rfl) rfl ?_
                      refine l_nil ?_
                      refine n_then ?_
                      refine ref_cond rfl (fun hb34 => ?_) (fun hb34 => ?_)
                      · refine ref_seq ?_
                        refine ref_region ?_
                        refine s_rd (r_build (ps := []) (rs := []) st_35 zs_35 trivial rfl rfl) rfl ?_
                        refine s_st0 (s_cstore (out := [iv .i64 0, pv (.slice none 0 0), iv .i64 0, iv .i64 0, iv .i64 0, pv (.slice none 0 0)]) Try.sizeOf35 rfl (j := 2) rfl (part_agO (ψs := [iv .i64 0, pv (.slice none 0 0), iv .i64 0, iv .i64 0, iv .i64 0, pv (.slice none 0 0)]) rfl ⟨.inl iv_at, .inl (pv_at rfl), .inl iv_at, .inl iv_at, .inl iv_at, .inl (pv_at rfl), trivial⟩) rfl rfl rfl) (fun _ => ?_)
                        refine s_rd (r_assign rfl) rfl ?_
                        refine l_nil ?_
                        refine n_then ?_
                        refine ref_ret ?_
                        refine r_block ?_
                        refine r_then ?_
                        refine b_of (ocW 2 [iv .i64 0, slv rT_api_Pair [], iv .i64 0, iv .i64 0, iv .i64 0, slv rT_api_Move []] rfl ⟨imp_rfl, nil_sl, imp_rfl, imp_rfl, imp_rfl, nil_sl, trivial⟩) ?_
                        exact fin2 (.inl rfl) () [] rfl trivial rfl (rv_cell rfl (j := 2) rfl Try.isAgg35 Try.sizeOf35 rfl rfl) (rv_tmp rfl)
                      · refine ref_skip ?_
                        refine n_block ?_
                        exact b_to (hk45 m_1 ()) (weak [0, 1, 2] ⟨rfl, rfl, rfl, trivial⟩ ⟨rfl, rfl, rfl, trivial⟩)
            · refine ref_seq ?_
              refine ref_region ?_
              refine s_rd (r_eql rfl rfl) rfl ?_
              refine s_rd (r_assign rfl) rfl ?_
              refine l_nil ?_
              refine n_then ?_
              refine ref_cond rfl (fun hb35 => ?_) (fun hb35 => ?_)
              · refine ref_seq ?_
                refine ref_seq ?_
                refine ref_region ?_
                refine s_rd (r_move rfl) rfl ?_
                refine s_rd (r_not rfl) rfl ?_
                refine l_nil ?_
                refine n_then ?_
                refine ref_cond rfl (fun hb36 => ?_) (fun hb36 => ?_)
                · refine ref_seq ?_
                  refine ref_region ?_
                  refine s_rd (r_build (ps := []) (rs := []) st_35 zs_35 trivial rfl rfl) rfl ?_
                  refine s_st0 (s_cstore (out := [iv .i64 0, pv (.slice none 0 0), iv .i64 0, iv .i64 0, iv .i64 0, pv (.slice none 0 0)]) Try.sizeOf35 rfl (j := 2) rfl (part_agO (ψs := [iv .i64 0, pv (.slice none 0 0), iv .i64 0, iv .i64 0, iv .i64 0, pv (.slice none 0 0)]) rfl ⟨.inl iv_at, .inl (pv_at rfl), .inl iv_at, .inl iv_at, .inl iv_at, .inl (pv_at rfl), trivial⟩) rfl rfl rfl) (fun _ => ?_)
                  refine s_rd (r_assign rfl) rfl ?_
                  refine l_nil ?_
                  refine n_then ?_
                  refine ref_ret ?_
                  refine r_then ?_
                  refine r_block ?_
                  refine r_then ?_
                  refine b_of (ocW 2 [iv .i64 0, slv rT_api_Pair [], iv .i64 0, iv .i64 0, iv .i64 0, slv rT_api_Move []] rfl ⟨imp_rfl, nil_sl, imp_rfl, imp_rfl, imp_rfl, nil_sl, trivial⟩) ?_
                  exact fin2 (.inl rfl) () [] rfl trivial rfl (rv_cell rfl (j := 2) rfl Try.isAgg35 Try.sizeOf35 rfl rfl) (rv_tmp rfl)
                · refine ref_skip ?_
                  refine n_then ?_
                  refine ref_seq ?_
                  refine ref_seq ?_
                  refine ref_region ?_
                  refine s_rd (r_faddr (fo := 5) Try.underlying35 rfl rfl Try.sizeOf23 rfl) rfl ?_
                  refine s_rd (r_cload Try.isAgg23 rfl (j := 0) rfl rfl) rfl ?_
                  refine s_rd (r_faddr (fo := 3) Try.underlying40 rfl rfl Try.sizeOf3 rfl) rfl ?_
                  refine s_rd (r_cload Try.isAgg3 rfl (j := 1) rfl rfl) rfl ?_
                  refine pull fun t37 h_t37 => ?_
                  refine s_rd (r_index h_t37 Try.underlying23 el_40 rfl rfl) rfl ?_
                  refine s_rd (r_load el_40 rfl) rfl ?_
                  refine s_st (s_alloc zt_40) rfl (fun b38 => ?_)
                  refine s_st0 (s_cstore (out := [iv .i64 t37.By, iv .i64 t37.Kind, iv .i64 t37.Node, iv .i64 t37.Target]) Try.sizeOf40 rfl (j := 3) rfl (part_ag (ψs := [iv .i64 t37.By, iv .i64 t37.Kind, iv .i64 t37.Node, iv .i64 t37.Target]) rfl (by intro φ h; simp only [List.mem_cons, List.not_mem_nil, or_false] at h; rcases h with rfl | rfl | rfl | rfl <;> first | exact iv_at | exact bv_at | exact sv_at | exact slv_at | exact pv_at rfl)) rfl rfl rfl) (fun _ => ?_)
                  refine l_nil ?_
                  refine n_then ?_
                  refine ref_seq ?_
                  refine ref_draw [0, 1, 2, 3, 4, 5, 6, 7, 8, 9, 10, 11, 13, 14, 15, 16, 17, 18] rfl (by kernel_rfl) (fun hok => ?_)
                  refine a_rd (i := 0) hok rfl (by kernel_rfl) rfl (r_faddr (fo := 1) Try.underlying40 rfl rfl Try.sizeOf3 rfl) rfl ?_
                  refine a_rd (i := 1) hok rfl (by kernel_rfl) rfl (r_cload Try.isAgg3 rfl (j := 3) rfl rfl) rfl ?_
                  refine a_rd (i := 2) hok rfl (by kernel_rfl) rfl (r_neq rfl rfl) rfl ?_
                  refine a_rd (i := 3) hok rfl (by kernel_rfl) rfl (r_move rfl) rfl ?_
                  refine b_split (t := 99) rfl (fun _ => ?_) (fun _ => ?_)
                  · refine a_off (i := 4) hok rfl rfl rfl rfl rfl (by kernel_rfl) rfl rfl ?_
                    refine a_off (i := 5) hok rfl rfl rfl rfl rfl (by kernel_rfl) rfl rfl ?_
                    refine a_off (i := 6) hok rfl rfl rfl rfl rfl (by kernel_rfl) rfl rfl ?_
                    refine a_off (i := 7) hok rfl rfl rfl rfl rfl (by kernel_rfl) rfl rfl ?_
                    refine a_off (i := 8) hok rfl rfl rfl rfl rfl (by kernel_rfl) rfl rfl ?_
                    refine a_rd (i := 9) hok rfl (by kernel_rfl) rfl (r_pickT rfl rfl) rfl ?_
                    refine a_rd (i := 10) hok rfl (by kernel_rfl) rfl (r_move rfl) rfl ?_
                    refine a_off (i := 11) hok rfl rfl rfl rfl rfl (by kernel_rfl) rfl rfl ?_
                    refine a_off (i := 13) hok rfl rfl rfl rfl rfl (by kernel_rfl) rfl rfl ?_
                    refine a_off (i := 14) hok rfl rfl rfl rfl rfl (by kernel_rfl) rfl rfl ?_
                    refine a_next hok 12 [] (by kernel_rfl) ?_ trivial
                    refine a_stOff (i := 12) hok rfl rfl rfl rfl rfl rfl (by intro _ h; cases h; rfl) ⟨trivial, ⟨trivial, ⟨trivial, ⟨trivial, ⟨trivial, ⟨trivial, ⟨trivial, ⟨trivial, ⟨trivial, ⟨trivial, ⟨trivial, ⟨trivial, ⟨⟨⟨rfl, rfl⟩, trivial⟩, ⟨trivial, trivial⟩⟩⟩⟩⟩⟩⟩⟩⟩⟩⟩⟩⟩⟩ ?_
                    refine a_off (i := 15) hok rfl rfl rfl rfl rfl (by kernel_rfl) rfl rfl ?_
                    refine a_off (i := 16) hok rfl rfl rfl rfl rfl (by kernel_rfl) rfl rfl ?_
                    refine a_off (i := 17) hok rfl rfl rfl rfl rfl (by kernel_rfl) rfl rfl ?_
                    refine a_rd (i := 18) hok rfl (by kernel_rfl) rfl (r_pickT rfl rfl) rfl ?_
                    refine a_fin hok (by kernel_rfl) ?_
                    refine n_then ?_
                    refine ref_condT rfl rfl ?_
                    refine ref_seq ?_
                    refine ref_region ?_
                    refine s_rd (r_build (ps := []) (rs := []) st_35 zs_35 trivial rfl rfl) rfl ?_
                    refine s_st0 (s_cstore (out := [iv .i64 0, pv (.slice none 0 0), iv .i64 0, iv .i64 0, iv .i64 0, pv (.slice none 0 0)]) Try.sizeOf35 rfl (j := 2) rfl (part_agO (ψs := [iv .i64 0, pv (.slice none 0 0), iv .i64 0, iv .i64 0, iv .i64 0, pv (.slice none 0 0)]) rfl ⟨.inl iv_at, .inl (pv_at rfl), .inl iv_at, .inl iv_at, .inl iv_at, .inl (pv_at rfl), trivial⟩) rfl rfl rfl) (fun _ => ?_)
                    refine s_rd (r_assign rfl) rfl ?_
                    refine l_nil ?_
                    refine n_then ?_
                    refine ref_ret ?_
                    refine r_then ?_
                    refine r_block ?_
                    refine r_then ?_
                    refine b_of (ocW 2 [iv .i64 0, slv rT_api_Pair [], iv .i64 0, iv .i64 0, iv .i64 0, slv rT_api_Move []] rfl ⟨imp_rfl, nil_sl, imp_rfl, imp_rfl, imp_rfl, nil_sl, trivial⟩) ?_
                    exact fin2 (.inl rfl) () [] rfl trivial rfl (rv_cell rfl (j := 2) rfl Try.isAgg35 Try.sizeOf35 rfl rfl) (rv_tmp rfl)
                  · refine a_rdOn (i := 4) hok rfl rfl rfl rfl (by kernel_rfl) rfl (r_faddr (fo := 0) Try.underlying40 rfl rfl Try.sizeOf3 rfl) rfl ?_
                    refine a_rdOn (i := 5) hok rfl rfl rfl rfl (by kernel_rfl) rfl (r_cload Try.isAgg3 rfl (j := 3) rfl rfl) rfl ?_
                    refine a_rdOn (i := 6) hok rfl rfl rfl rfl (by kernel_rfl) rfl (r_faddr (fo := 0) Try.underlying40 rfl rfl Try.sizeOf3 rfl) rfl ?_
                    refine a_rdOn (i := 7) hok rfl rfl rfl rfl (by kernel_rfl) rfl (r_cload Try.isAgg3 rfl (j := 1) rfl rfl) rfl ?_
                    refine a_rdOn (i := 8) hok rfl rfl rfl rfl (by kernel_rfl) rfl (r_neq rfl rfl) rfl ?_
                    refine a_rd (i := 9) hok rfl (by kernel_rfl) rfl (r_pickF rfl rfl) rfl ?_
                    refine a_rd (i := 10) hok rfl (by kernel_rfl) rfl (r_move rfl) rfl ?_
                    refine b_split (t := 106) rfl (fun _ => ?_) (fun _ => ?_)
                    · refine a_off (i := 11) hok rfl rfl rfl rfl rfl (by kernel_rfl) rfl rfl ?_
                      refine a_off (i := 13) hok rfl rfl rfl rfl rfl (by kernel_rfl) rfl rfl ?_
                      refine a_off (i := 14) hok rfl rfl rfl rfl rfl (by kernel_rfl) rfl rfl ?_
                      refine a_next hok 12 [] (by kernel_rfl) ?_ trivial
                      refine a_stOff (i := 12) hok rfl rfl rfl rfl rfl rfl (by intro _ h; cases h; rfl) ⟨trivial, ⟨trivial, ⟨trivial, ⟨trivial, ⟨trivial, ⟨trivial, ⟨⟨⟨rfl, rfl⟩, trivial⟩, ⟨trivial, ⟨⟨⟨rfl, rfl⟩, trivial⟩, ⟨trivial, ⟨trivial, ⟨trivial, ⟨⟨⟨rfl, rfl⟩, trivial⟩, ⟨trivial, trivial⟩⟩⟩⟩⟩⟩⟩⟩⟩⟩⟩⟩⟩⟩ ?_
                      refine a_off (i := 15) hok rfl rfl rfl rfl rfl (by kernel_rfl) rfl rfl ?_
                      refine a_off (i := 16) hok rfl rfl rfl rfl rfl (by kernel_rfl) rfl rfl ?_
                      refine a_off (i := 17) hok rfl rfl rfl rfl rfl (by kernel_rfl) rfl rfl ?_
                      refine a_rd (i := 18) hok rfl (by kernel_rfl) rfl (r_pickT rfl rfl) rfl ?_
                      refine a_fin hok (by kernel_rfl) ?_
                      refine n_then ?_
                      refine ref_condT rfl rfl ?_
                      refine ref_seq ?_
                      refine ref_region ?_
                      refine s_rd (r_build (ps := []) (rs := []) st_35 zs_35 trivial rfl rfl) rfl ?_
                      refine s_st0 (s_cstore (out := [iv .i64 0, pv (.slice none 0 0), iv .i64 0, iv .i64 0, iv .i64 0, pv (.slice none 0 0)]) Try.sizeOf35 rfl (j := 2) rfl (part_agO (ψs := [iv .i64 0, pv (.slice none 0 0), iv .i64 0, iv .i64 0, iv .i64 0, pv (.slice none 0 0)]) rfl ⟨.inl iv_at, .inl (pv_at rfl), .inl iv_at, .inl iv_at, .inl iv_at, .inl (pv_at rfl), trivial⟩) rfl rfl rfl) (fun _ => ?_)
                      refine s_rd (r_assign rfl) rfl ?_
                      refine l_nil ?_
                      refine n_then ?_
                      refine ref_ret ?_
                      refine r_then ?_
                      refine r_block ?_
                      refine r_then ?_
                      refine b_of (ocW 2 [iv .i64 0, slv rT_api_Pair [], iv .i64 0, iv .i64 0, iv .i64 0, slv rT_api_Move []] rfl ⟨imp_rfl, nil_sl, imp_rfl, imp_rfl, imp_rfl, nil_sl, trivial⟩) ?_
                      exact fin2 (.inl rfl) () [] rfl trivial rfl (rv_cell rfl (j := 2) rfl Try.isAgg35 Try.sizeOf35 rfl rfl) (rv_tmp rfl)
                    · refine a_rdOn (i := 11) hok rfl rfl rfl rfl (by kernel_rfl) rfl (r_cloadS Try.isAgg35 Try.sizeOf35 rfl (j := 0) rfl rfl rfl) rfl ?_
                      refine a_rdOn (i := 13) hok rfl rfl rfl rfl (by kernel_rfl) rfl (r_faddr (fo := 3) Try.underlying40 rfl rfl Try.sizeOf3 rfl) rfl ?_
                      refine a_rdOn (i := 14) hok rfl rfl rfl rfl (by kernel_rfl) rfl (r_cload Try.isAgg3 rfl (j := 1) rfl rfl) rfl ?_
                      refine pull fun t39 h_t39 => ?_
                      refine a_next hok 12 [] (by kernel_rfl) ?_ trivial
                      refine a_stOn (i := 12) hok rfl rfl rfl rfl rfl (s_call (ψ := fun (x40 : (Value × List Nat)) => pv x40.1) (args := [.tmp 107]) Try.call55 rfl (ref27_Status_ok h_t39) ⟨arg rfl, trivial⟩ (fun _ _ _ _ h => h)) (by intro _ h; cases h; rfl) (fun _ => ⟨⟨⟨rfl, rfl⟩, trivial⟩, ⟨trivial, ⟨trivial, ⟨trivial, ⟨trivial, ⟨trivial, ⟨⟨⟨rfl, rfl⟩, trivial⟩, ⟨trivial, ⟨⟨⟨rfl, rfl⟩, trivial⟩, ⟨trivial, ⟨trivial, ⟨trivial, ⟨⟨⟨rfl, rfl⟩, trivial⟩, ⟨trivial, trivial⟩⟩⟩⟩⟩⟩⟩⟩⟩⟩⟩⟩⟩⟩) (fun x40 => ?_)
                      refine pull fun t41 h_t41 => ?_
                      refine a_rdOn (i := 15) hok rfl rfl rfl rfl (by kernel_rfl) rfl (r_oindex h_t41 Try.underlying22 el_3 rfl (j := 4) rfl rfl) rfl ?_
                      refine a_rdOn (i := 16) hok rfl rfl rfl rfl (by kernel_rfl) rfl (r_oload h_t41 el_3 rfl (j := 4) rfl) rfl ?_
                      refine a_rdOn (i := 17) hok rfl rfl rfl rfl (by kernel_rfl) rfl (r_eql rfl rfl) rfl ?_
                      refine a_rd (i := 18) hok rfl (by kernel_rfl) rfl (r_pickF rfl rfl) rfl ?_
                      refine a_fin hok (by kernel_rfl) ?_
                      refine n_then ?_
                      refine ref_cond rfl (fun hb42 => ?_) (fun hb42 => ?_)
                      · refine ref_seq ?_
                        refine ref_region ?_
                        refine s_rd (r_build (ps := []) (rs := []) st_35 zs_35 trivial rfl rfl) rfl ?_
                        refine s_st0 (s_cstore (out := [iv .i64 0, pv (.slice none 0 0), iv .i64 0, iv .i64 0, iv .i64 0, pv (.slice none 0 0)]) Try.sizeOf35 rfl (j := 2) rfl (part_agO (ψs := [iv .i64 0, pv (.slice none 0 0), iv .i64 0, iv .i64 0, iv .i64 0, pv (.slice none 0 0)]) rfl ⟨.inl iv_at, .inl (pv_at rfl), .inl iv_at, .inl iv_at, .inl iv_at, .inl (pv_at rfl), trivial⟩) rfl rfl rfl) (fun _ => ?_)
                        refine s_rd (r_assign rfl) rfl ?_
                        refine l_nil ?_
                        refine b_of (nrm [oc b1 [iv .i64 d_0.Graph.N, slv rT_api_Pair d_0.Graph.L, iv .i64 d_0.Root, iv .i64 d_0.Limits.i0, iv .i64 d_0.Limits.i1, slv rT_api_Move d_0.Moves], oc b2 [iv .i64 m_1.By, iv .i64 m_1.Kind, iv .i64 m_1.Node, iv .i64 m_1.Target], oc b3 [iv .i64 0, pv (.slice none 0 0), iv .i64 0, iv .i64 0, iv .i64 0, pv (.slice none 0 0)], oc b38 [iv .i64 t37.By, iv .i64 t37.Kind, iv .i64 t37.Node, iv .i64 t37.Target], oa (rI .i64) x40.1 x40.2 t39] rfl) ?_
                        refine n_then ?_
                        refine ref_ret ?_
                        refine r_then ?_
                        refine r_block ?_
                        refine r_then ?_
                        refine b_of (ocW 2 [iv .i64 0, slv rT_api_Pair [], iv .i64 0, iv .i64 0, iv .i64 0, slv rT_api_Move []] rfl ⟨imp_rfl, nil_sl, imp_rfl, imp_rfl, imp_rfl, nil_sl, trivial⟩) ?_
                        exact fin2 (.inl rfl) () [] rfl trivial rfl (rv_cell rfl (j := 2) rfl Try.isAgg35 Try.sizeOf35 rfl rfl) (rv_tmp rfl)
                      · refine ref_skip ?_
                        refine n_then ?_
                        refine ref_region ?_
                        refine s_rd (r_faddr (fo := 2) Try.underlying40 rfl rfl Try.sizeOf3 rfl) rfl ?_
                        refine s_st0 (s_cstore (out := [iv .i64 m_1.By, iv .i64 m_1.Kind, iv .i64 0, iv .i64 m_1.Target]) Try.sizeOf3 rfl (j := 1) rfl (part_at rfl iv_at) rfl rfl rfl) (fun _ => ?_)
                        refine l_nil ?_
                        refine b_of (nrm [oc b1 [iv .i64 d_0.Graph.N, slv rT_api_Pair d_0.Graph.L, iv .i64 d_0.Root, iv .i64 d_0.Limits.i0, iv .i64 d_0.Limits.i1, slv rT_api_Move d_0.Moves], oc b2 [iv .i64 m_1.By, iv .i64 m_1.Kind, iv .i64 0, iv .i64 m_1.Target], oc b3 [iv .i64 0, pv (.slice none 0 0), iv .i64 0, iv .i64 0, iv .i64 0, pv (.slice none 0 0)], oc b38 [iv .i64 t37.By, iv .i64 t37.Kind, iv .i64 t37.Node, iv .i64 t37.Target], oa (rI .i64) x40.1 x40.2 t39] rfl) ?_
                        refine n_block ?_
                        exact b_to (hk45 (T_api_Move.mk m_1.By m_1.Kind 0 m_1.Target) ()) (weak [0, 1, 2] ⟨rfl, rfl, rfl, trivial⟩ ⟨rfl, rfl, rfl, trivial⟩)
              · refine ref_region ?_
                refine s_rd (r_faddr (fo := 2) Try.underlying40 rfl rfl Try.sizeOf3 rfl) rfl ?_
                refine s_st0 (s_cstore (out := [iv .i64 m_1.By, iv .i64 m_1.Kind, iv .i64 0, iv .i64 m_1.Target]) Try.sizeOf3 rfl (j := 1) rfl (part_at rfl iv_at) rfl rfl rfl) (fun _ => ?_)
                refine s_rd (r_faddr (fo := 3) Try.underlying40 rfl rfl Try.sizeOf3 rfl) rfl ?_
                refine s_st0 (s_cstore (out := [iv .i64 m_1.By, iv .i64 m_1.Kind, iv .i64 0, iv .i64 0]) Try.sizeOf3 rfl (j := 1) rfl (part_at rfl iv_at) rfl rfl rfl) (fun _ => ?_)
                refine l_nil ?_
                refine n_block ?_
                exact b_to (hk45 (T_api_Move.mk m_1.By m_1.Kind 0 0) ()) (weak [0, 1, 2] ⟨rfl, rfl, rfl, trivial⟩ ⟨rfl, rfl, rfl, trivial⟩)
          · refine n_then ?_
            refine ref_seq ?_
            refine pull fun t48 h_t48 => ?_
            refine pull fun t50 h_t50 => ?_
            refine ref_drawI 1 [⟨[], [], [3], [3], [], fun us u => pv u.V.1, fun us u => [oa rT_api_Move u.V.1 u.V.2 []]⟩, ⟨[], [], [], [], [], fun us u => pv (ptr b1 5), fun us u => []⟩, ⟨[1], [], [], [0], [], fun us u => slv rT_api_Move d_0.Moves, fun us u => []⟩, ⟨[0, 1, 2], [], [3], [3], [3], fun us u => pv u.V.1, fun us u => [oa rT_api_Move u.V.1 u.V.2 t48]⟩, ⟨[], [], [], [1], [], fun us u => ag [iv .i64 j43.By, iv .i64 j43.Kind, iv .i64 j43.Node, iv .i64 j43.Target], fun us u => []⟩, ⟨[4], [], [], [], [], fun us u => slv rT_api_Move [j43], fun us u => []⟩, ⟨[0, 1, 2, 3, 4, 5], [], [3], [3], [3], fun us u => pv u.V.1, fun us u => [oa rT_api_Move u.V.1 u.V.2 t50]⟩, ⟨[0, 1, 2, 3, 4, 5, 6], [], [], [], [], fun us u => pv (ptr b1 5), fun us u => []⟩, ⟨[0, 1, 2, 3, 4, 5, 6, 7], [6], [0], [0, 3], [0], fun us u => pv undef, fun us u => [oc b1 [iv .i64 d_0.Graph.N, slv rT_api_Pair d_0.Graph.L, iv .i64 d_0.Root, iv .i64 d_0.Limits.i0, iv .i64 d_0.Limits.i1, pv (us.getD 0 .none).V.1]]⟩] (fun χ46 => [(2, pv (ptr b1 0)), (4, pv (ptr b3 0))]) (fun χ46 => [oc b1 [iv .i64 d_0.Graph.N, slv rT_api_Pair d_0.Graph.L, iv .i64 d_0.Root, iv .i64 d_0.Limits.i0, iv .i64 d_0.Limits.i1, pv (χ46 6).V.1], oc b2 [iv .i64 j43.By, iv .i64 j43.Kind, iv .i64 j43.Node, iv .i64 j43.Target], oc b3 [iv .i64 0, pv (.slice none 0 0), iv .i64 0, iv .i64 0, iv .i64 0, pv (.slice none 0 0)], oa rT_api_Move (χ46 6).V.1 (χ46 6).V.2 t50]) rfl (by kernel_rfl) ⟨fun χ46 Ω ⟨h3, _⟩ => St.to XU.V XU.hV (St.placeL (os := fun _ => [_]) [3] (s_bsliceO (xs := []) (ds := []) Try.underlying23 el_40 rfl (Nat.le_of_ble_eq_true rfl) trivial) (fun _ => rfl) (fun _ => ⟨h3, rfl, trivial⟩)) (fun _ => rfl) (fun _ => rfl), (by intro _ h; cases h; rfl), ⟨fun χ46 Ω _ => St.toR (r_faddr (fo := 5) Try.underlying35 rfl rfl Try.sizeOf23 rfl) (fun _ => rfl) (fun _ => rfl), (by intro _ h; cases h; rfl), ⟨fun χ46 Ω ⟨h0, _⟩ => St.toR (r_cload Try.isAgg23 rfl (j := 0) h0 rfl) (fun _ => rfl) (fun _ => rfl), (by intro _ h; cases h; rfl), ⟨fun χ46 Ω ⟨h3, _⟩ => St.to XU.V XU.hV (s_append h_t48 Try.underlying23 el_40 rfl (j := 3) h3 rfl) (fun _ => rfl) (fun _ => rfl), (by intro _ h; cases h; rfl), ⟨fun χ46 Ω ⟨h1, _⟩ => St.toR (r_cloadS Try.isAgg40 Try.sizeOf40 rfl (j := 1) h1 rfl rfl) (fun _ => rfl) (fun _ => rfl), (by intro _ h; cases h; rfl), ⟨fun χ46 Ω _ => St.to XU.U XU.hU (s_bslice (xs := [.tmp 121]) (ds := [j43]) Try.underlying23 el_40 rfl (Nat.le_of_ble_eq_true rfl) ⟨(part_ag (ψs := [iv .i64 j43.By, iv .i64 j43.Kind, iv .i64 j43.Node, iv .i64 j43.Target]) rfl (by intro φ h; simp only [List.mem_cons, List.not_mem_nil, or_false] at h; rcases h with rfl | rfl | rfl | rfl <;> first | exact iv_at | exact bv_at | exact sv_at | exact slv_at | exact pv_at rfl)), trivial⟩) (fun _ => rfl) (fun _ => rfl), (by intro _ h; cases h; rfl), ⟨fun χ46 Ω ⟨h3, _⟩ => St.to XU.V XU.hV (s_append h_t50 Try.underlying23 el_40 rfl (j := 3) h3 rfl) (fun _ => rfl) (fun _ => rfl), (by intro _ h; cases h; rfl), ⟨fun χ46 Ω _ => St.toR (r_faddr (fo := 5) Try.underlying35 rfl rfl Try.sizeOf23 rfl) (fun _ => rfl) (fun _ => rfl), (by intro _ h; cases h; rfl), ⟨fun χ46 Ω ⟨h0, h3, _⟩ => St.to XU.U XU.hU (s_cstore (out := [iv .i64 d_0.Graph.N, slv rT_api_Pair d_0.Graph.L, iv .i64 d_0.Root, iv .i64 d_0.Limits.i0, iv .i64 d_0.Limits.i1, pv (χ46 6).V.1]) Try.sizeOf23 rfl (j := 0) h0 (part_own rfl (j := 3) h3) rfl rfl rfl) (fun _ => rfl) (fun _ => rfl), (by intro _ h; cases h), trivial⟩⟩⟩⟩⟩⟩⟩⟩⟩ (fun _ => ⟨rfl, rfl, trivial⟩) (fun _ => rfl) (fun χ46 => ?_)
            refine n_then ?_
            refine ref_seq ?_
            refine ref_region ?_
            refine s_rd (r_cloadS Try.isAgg35 Try.sizeOf35 rfl (j := 0) rfl rfl rfl) rfl ?_
            refine s_st0 (s_cstore (out := [iv .i64 d_0.Graph.N, slv rT_api_Pair d_0.Graph.L, iv .i64 d_0.Root, iv .i64 d_0.Limits.i0, iv .i64 d_0.Limits.i1, pv (χ46 6).V.1]) Try.sizeOf35 rfl (j := 2) rfl (part_agO (ψs := [iv .i64 d_0.Graph.N, slv rT_api_Pair d_0.Graph.L, iv .i64 d_0.Root, iv .i64 d_0.Limits.i0, iv .i64 d_0.Limits.i1, pv (χ46 6).V.1]) rfl ⟨.inl iv_at, .inl slv_at, .inl iv_at, .inl iv_at, .inl iv_at, .inr ⟨_, _, _, _, _, 3, rfl, rfl⟩, trivial⟩) rfl rfl rfl) (fun _ => ?_)
            refine s_rd (r_assign rfl) rfl ?_
            refine l_nil ?_
            refine n_then ?_
            refine ref_ret ?_
            refine b_of (frzGL [(125, ag [iv .i64 d_0.Graph.N, slv rT_api_Pair d_0.Graph.L, iv .i64 d_0.Root, iv .i64 d_0.Limits.i0, iv .i64 d_0.Limits.i1, slv rT_api_Move t50])] [(0, b1, [iv .i64 d_0.Graph.N, slv rT_api_Pair d_0.Graph.L, iv .i64 d_0.Root, iv .i64 d_0.Limits.i0, iv .i64 d_0.Limits.i1, slv rT_api_Move t50]), (2, b3, [iv .i64 d_0.Graph.N, slv rT_api_Pair d_0.Graph.L, iv .i64 d_0.Root, iv .i64 d_0.Limits.i0, iv .i64 d_0.Limits.i1, slv rT_api_Move t50])] (j := 3) rfl ⟨⟨_, rfl, .inr ⟨_, _, rfl, rfl, ⟨.inl rfl, .inl rfl, .inl rfl, .inl rfl, .inl rfl, .inr ⟨rfl, rfl⟩, trivial⟩⟩⟩, trivial⟩ ⟨⟨_, rfl, ⟨.inl rfl, .inl rfl, .inl rfl, .inl rfl, .inl rfl, .inr ⟨rfl, rfl⟩, trivial⟩⟩, ⟨_, rfl, ⟨.inl rfl, .inl rfl, .inl rfl, .inl rfl, .inl rfl, .inr ⟨rfl, rfl⟩, trivial⟩⟩, trivial⟩) ?_
            exact fin2 (.inl rfl) () [] rfl trivial rfl (rv_cell rfl (j := 2) rfl Try.isAgg35 Try.sizeOf35 rfl rfl) (rv_tmp rfl)

/-! deliberation/deliberationnet.Pairs -/
noncomputable def net_Pairs_l1 (a__0 : (List T_api_Pair)) (b_1 : (List T_api_Pair)) (s8 : Int) : Option (Sum ((Sum (Bool) (Unit))) (Int)) :=
  bif decide (s8 < (a__0.length : Int)) then
    Option.bind (idxM a__0 s8) fun t11 =>
    Option.bind (idxM b_1 s8) fun t12 =>
    bif !decide (t11 = t12) then
      some (Sum.inl (Sum.inl false))
    else
      some (Sum.inr (iadd .i64 s8 1))
  else
    some (Sum.inl (Sum.inr ()))

noncomputable def net_Pairs_m (a__0 : (List T_api_Pair)) (b_1 : (List T_api_Pair)) : Option (Bool) :=
  bif (a__0.length : Int) != (b_1.length : Int) then
    some false
  else
    Option.bind (loopC (net_Pairs_l1 a__0 b_1) 0) (sumK (fun a : Bool => some a) fun q14 : Unit =>
      some true)

theorem net_Pairs_ok {a__0 : (List T_api_Pair)} {b_1 : (List T_api_Pair)} {r : Bool} (hm : net_Pairs_m a__0 b_1 = some r) :
    FnOk prog 75 [slv rT_api_Pair a__0, slv rT_api_Pair b_1] [] (fun (x : Unit) => [bv r]) (fun (x : Unit) => []) := by
  refine fn_ok (X := Unit) (fn := Try.f75) (N := 26) (m := net_Pairs_m a__0 b_1) (res := fun r x => [bv r]) (Ω1 := fun r x => []) Try.func75 rfl rfl hm rfl (fun E hM => ?_)
  unfold net_Pairs_m
  refine ref_seq ?_
  refine ref_region ?_
  refine s_rd (r_assign rfl) rfl ?_
  refine l_nil ?_
  refine n_then ?_
  refine ref_seq ?_
  refine ref_seq ?_
  refine ref_region ?_
  refine s_rd (r_move rfl) rfl ?_
  refine s_rd (r_len Try.underlying26 rfl) rfl ?_
  refine s_rd (r_move rfl) rfl ?_
  refine s_rd (r_len Try.underlying26 rfl) rfl ?_
  refine s_rd (r_neq rfl rfl) rfl ?_
  refine l_nil ?_
  refine n_then ?_
  refine ref_cond rfl (fun hb1 => ?_) (fun hb1 => ?_)
  · refine ref_seq ?_
    refine ref_region ?_
    refine s_rd (r_assign rfl) rfl ?_
    refine l_nil ?_
    refine n_then ?_
    refine ref_ret ?_
    refine r_then ?_
    exact fin1 (.inl rfl) () [] rfl trivial rfl (rv_tmp rfl)
  · refine ref_skip ?_
    refine n_then ?_
    refine ref_seq ?_
    refine ref_seq ?_
    refine ref_region ?_
    refine s_rd (r_assign rfl) rfl ?_
    refine l_nil ?_
    refine n_then ?_
    refine ref_loopX (f := (net_Pairs_l1 a__0 b_1)) (Γl := (fun (s8 : Int) (x9 : Unit) => [(0, slv rT_api_Pair a__0), (1, slv rT_api_Pair b_1), (5, iv .i64 s8)])) (Ωl := (fun (s8 : Int) (x9 : Unit) => [])) (Γb := (fun (q14 : Unit) (y15 : Unit) => [])) (Ωb := (fun (q14 : Unit) (y15 : Unit) => [])) (kr := (fun a : Bool => some a)) 0 () (weak [] ⟨rfl, rfl, rfl, trivial⟩ trivial) (fun s8 x9 => ?_) (fun q14 y15 => ?_)
    · unfold net_Pairs_l1
      refine ref_seq ?_
      refine ref_seq ?_
      refine ref_region ?_
      refine s_rd (r_move rfl) rfl ?_
      refine s_rd (r_move rfl) rfl ?_
      refine s_rd (r_len Try.underlying26 rfl) rfl ?_
      refine s_rd (r_lss rfl rfl) rfl ?_
      refine l_nil ?_
      refine n_then ?_
      refine ref_cond rfl (fun hb10 => ?_) (fun hb10 => ?_)
      · refine ref_skip ?_
        refine n_then ?_
        refine ref_seq ?_
        refine ref_block ?_
        refine ref_seq ?_
        refine ref_draw [0, 1, 2, 3, 4, 5, 6, 7, 8] rfl (by kernel_rfl) (fun hok => ?_)
        refine a_rd (i := 0) hok rfl (by kernel_rfl) rfl (r_move rfl) rfl ?_
        refine a_rd (i := 1) hok rfl (by kernel_rfl) rfl (r_move rfl) rfl ?_
        refine pull fun t11 h_t11 => ?_
        refine a_rd (i := 2) hok rfl (by kernel_rfl) rfl (r_index h_t11 Try.underlying26 el_67 rfl rfl) rfl ?_
        refine a_rd (i := 3) hok rfl (by kernel_rfl) rfl (r_load el_67 rfl) rfl ?_
        refine a_rd (i := 4) hok rfl (by kernel_rfl) rfl (r_move rfl) rfl ?_
        refine a_rd (i := 5) hok rfl (by kernel_rfl) rfl (r_move rfl) rfl ?_
        refine pull fun t12 h_t12 => ?_
        refine a_rd (i := 6) hok rfl (by kernel_rfl) rfl (r_index h_t12 Try.underlying26 el_67 rfl rfl) rfl ?_
        refine a_rd (i := 7) hok rfl (by kernel_rfl) rfl (r_load el_67 rfl) rfl ?_
        refine a_rd (i := 8) hok rfl (by kernel_rfl) rfl (r_stneq (u := t11) (v := t12) eq_67 rfl rfl rfl rfl) rfl ?_
        refine a_fin hok (by kernel_rfl) ?_
        refine n_then ?_
        refine ref_cond rfl (fun hb13 => ?_) (fun hb13 => ?_)
        · refine ref_seq ?_
          refine ref_region ?_
          refine s_rd (r_assign rfl) rfl ?_
          refine l_nil ?_
          refine n_then ?_
          refine ref_ret ?_
          refine r_block ?_
          refine r_then ?_
          refine retX ?_
          refine r_block ?_
          refine r_then ?_
          exact fin1 (.inl rfl) () [] rfl trivial rfl (rv_tmp rfl)
        · refine ref_skip ?_
          refine n_block ?_
          refine n_then ?_
          refine ref_region ?_
          refine s_rd (r_move rfl) rfl ?_
          refine s_rd (r_add rfl rfl) rfl ?_
          refine s_rd (r_assign rfl) rfl ?_
          refine l_nil ?_
          exact goX () (weak [] ⟨rfl, rfl, rfl, trivial⟩ trivial)
      · refine ref_exit ?_
        refine x_then ?_
        exact brkX () (weak [] trivial trivial)
    · refine n_then ?_
      refine ref_seq ?_
      refine ref_region ?_
      refine s_rd (r_assign rfl) rfl ?_
      refine l_nil ?_
      refine n_then ?_
      refine ref_ret ?_
      exact fin1 (.inl rfl) () [] rfl trivial rfl (rv_tmp rfl)

/-! deliberation/deliberationnet.Same -/
noncomputable def net_Same_m (a__0 : T_api_Graph) (b_1 : T_api_Graph) : Option (Bool) :=
  bif a__0.N == b_1.N then
    Option.bind (net_Pairs_m a__0.L b_1.L) fun t3 =>
    some t3
  else
    some false

theorem net_Same_ok {a__0 : T_api_Graph} {b_1 : T_api_Graph} {r : Bool} (hm : net_Same_m a__0 b_1 = some r) :
    FnOk prog 48 [ag [iv .i64 a__0.N, slv rT_api_Pair a__0.L], ag [iv .i64 b_1.N, slv rT_api_Pair b_1.L]] [] (fun (x : Unit) => [bv r]) (fun (x : Unit) => []) := by
  refine fn_ok (X := Unit) (fn := Try.f48) (N := 17) (m := net_Same_m a__0 b_1) (res := fun r x => [bv r]) (Ω1 := fun r x => []) Try.func48 rfl rfl hm rfl (fun E hM => ?_)
  unfold net_Same_m
  refine ref_seq ?_
  refine ref_region ?_
  refine s_st (s_box (part_ag (ψs := [iv .i64 a__0.N, slv rT_api_Pair a__0.L]) rfl (by intro φ h; simp only [List.mem_cons, List.not_mem_nil, or_false] at h; rcases h with rfl | rfl <;> first | exact iv_at | exact bv_at | exact sv_at | exact slv_at | exact pv_at rfl))) rfl (fun b1 => ?_)
  refine s_st (s_box (part_ag (ψs := [iv .i64 b_1.N, slv rT_api_Pair b_1.L]) rfl (by intro φ h; simp only [List.mem_cons, List.not_mem_nil, or_false] at h; rcases h with rfl | rfl <;> first | exact iv_at | exact bv_at | exact sv_at | exact slv_at | exact pv_at rfl))) rfl (fun b2 => ?_)
  refine s_rd (r_assign rfl) rfl ?_
  refine l_nil ?_
  refine n_then ?_
  refine ref_seq ?_
  refine ref_region ?_
  refine s_rd (r_faddr (fo := 0) Try.underlying28 rfl rfl Try.sizeOf3 rfl) rfl ?_
  refine s_rd (r_cload Try.isAgg3 rfl (j := 0) rfl rfl) rfl ?_
  refine s_rd (r_faddr (fo := 0) Try.underlying28 rfl rfl Try.sizeOf3 rfl) rfl ?_
  refine s_rd (r_cload Try.isAgg3 rfl (j := 1) rfl rfl) rfl ?_
  refine s_rd (r_eql rfl rfl) rfl ?_
  refine s_rd (r_move rfl) rfl ?_
  refine b_split (t := 10) rfl (fun _ => ?_) (fun _ => ?_)
  · refine s_on rfl rfl rfl ?_
    refine s_rd (r_faddr (fo := 1) Try.underlying28 rfl rfl Try.sizeOf26 rfl) rfl ?_
    refine s_on rfl rfl rfl ?_
    refine s_rd (r_cload Try.isAgg26 rfl (j := 0) rfl rfl) rfl ?_
    refine s_on rfl rfl rfl ?_
    refine s_rd (r_faddr (fo := 1) Try.underlying28 rfl rfl Try.sizeOf26 rfl) rfl ?_
    refine s_on rfl rfl rfl ?_
    refine s_rd (r_cload Try.isAgg26 rfl (j := 1) rfl rfl) rfl ?_
    refine s_on rfl rfl rfl ?_
    refine pull fun t3 h_t3 => ?_
    refine s_st (s_call (ψ := fun (_ : Unit) => bv t3) (args := [.tmp 12, .tmp 14]) Try.call75 rfl (net_Pairs_ok h_t3) ⟨arg rfl, arg rfl, trivial⟩ (fun _ _ _ _ h => h)) rfl (fun _ => ?_)
    refine s_rd (r_pickT rfl rfl) rfl ?_
    refine s_rd (r_assign rfl) rfl ?_
    refine l_nil ?_
    refine n_then ?_
    refine ref_ret ?_
    exact fin1 (.inl rfl) () [] rfl trivial rfl (rv_tmp rfl)
  · refine s_off rfl rfl rfl rfl rfl ?_
    refine s_off rfl rfl rfl rfl rfl ?_
    refine s_off rfl rfl rfl rfl rfl ?_
    refine s_off rfl rfl rfl rfl rfl ?_
    refine s_off rfl rfl rfl rfl rfl ?_
    refine s_rd (r_pickF rfl rfl) rfl ?_
    refine s_rd (r_assign rfl) rfl ?_
    refine l_nil ?_
    refine n_then ?_
    refine ref_ret ?_
    exact fin1 (.inl rfl) () [] rfl trivial rfl (rv_tmp rfl)

/-! deliberation/deliberationref27.SameMoves -/
noncomputable def ref27_SameMoves_l1 (a__0 : (List T_api_Move)) (b_1 : (List T_api_Move)) (s8 : Int) : Option (Sum ((Sum (Bool) (Unit))) (Int)) :=
  bif decide (s8 < (a__0.length : Int)) then
    Option.bind (idxM a__0 s8) fun t11 =>
    Option.bind (idxM b_1 s8) fun t12 =>
    bif !decide (t11 = t12) then
      some (Sum.inl (Sum.inl false))
    else
      some (Sum.inr (iadd .i64 s8 1))
  else
    some (Sum.inl (Sum.inr ()))

noncomputable def ref27_SameMoves_m (a__0 : (List T_api_Move)) (b_1 : (List T_api_Move)) : Option (Bool) :=
  bif (a__0.length : Int) != (b_1.length : Int) then
    some false
  else
    Option.bind (loopC (ref27_SameMoves_l1 a__0 b_1) 0) (sumK (fun a : Bool => some a) fun q14 : Unit =>
      some true)

theorem ref27_SameMoves_ok {a__0 : (List T_api_Move)} {b_1 : (List T_api_Move)} {r : Bool} (hm : ref27_SameMoves_m a__0 b_1 = some r) :
    FnOk prog 49 [slv rT_api_Move a__0, slv rT_api_Move b_1] [] (fun (x : Unit) => [bv r]) (fun (x : Unit) => []) := by
  refine fn_ok (X := Unit) (fn := Try.f49) (N := 26) (m := ref27_SameMoves_m a__0 b_1) (res := fun r x => [bv r]) (Ω1 := fun r x => []) Try.func49 rfl rfl hm rfl (fun E hM => ?_)
  unfold ref27_SameMoves_m
  refine ref_seq ?_
  refine ref_region ?_
  refine s_rd (r_assign rfl) rfl ?_
  refine l_nil ?_
  refine n_then ?_
  refine ref_seq ?_
  refine ref_seq ?_
  refine ref_region ?_
  refine s_rd (r_move rfl) rfl ?_
  refine s_rd (r_len Try.underlying23 rfl) rfl ?_
  refine s_rd (r_move rfl) rfl ?_
  refine s_rd (r_len Try.underlying23 rfl) rfl ?_
  refine s_rd (r_neq rfl rfl) rfl ?_
  refine l_nil ?_
  refine n_then ?_
  refine ref_cond rfl (fun hb1 => ?_) (fun hb1 => ?_)
  · refine ref_seq ?_
    refine ref_region ?_
    refine s_rd (r_assign rfl) rfl ?_
    refine l_nil ?_
    refine n_then ?_
    refine ref_ret ?_
    refine r_then ?_
    exact fin1 (.inl rfl) () [] rfl trivial rfl (rv_tmp rfl)
  · refine ref_skip ?_
    refine n_then ?_
    refine ref_seq ?_
    refine ref_seq ?_
    refine ref_region ?_
    refine s_rd (r_assign rfl) rfl ?_
    refine l_nil ?_
    refine n_then ?_
    refine ref_loopX (f := (ref27_SameMoves_l1 a__0 b_1)) (Γl := (fun (s8 : Int) (x9 : Unit) => [(0, slv rT_api_Move a__0), (1, slv rT_api_Move b_1), (5, iv .i64 s8)])) (Ωl := (fun (s8 : Int) (x9 : Unit) => [])) (Γb := (fun (q14 : Unit) (y15 : Unit) => [])) (Ωb := (fun (q14 : Unit) (y15 : Unit) => [])) (kr := (fun a : Bool => some a)) 0 () (weak [] ⟨rfl, rfl, rfl, trivial⟩ trivial) (fun s8 x9 => ?_) (fun q14 y15 => ?_)
    · unfold ref27_SameMoves_l1
      refine ref_seq ?_
      refine ref_seq ?_
      refine ref_region ?_
      refine s_rd (r_move rfl) rfl ?_
      refine s_rd (r_move rfl) rfl ?_
      refine s_rd (r_len Try.underlying23 rfl) rfl ?_
      refine s_rd (r_lss rfl rfl) rfl ?_
      refine l_nil ?_
      refine n_then ?_
      refine ref_cond rfl (fun hb10 => ?_) (fun hb10 => ?_)
      · refine ref_skip ?_
        refine n_then ?_
        refine ref_seq ?_
        refine ref_block ?_
        refine ref_seq ?_
        refine ref_draw [0, 1, 2, 3, 4, 5, 6, 7, 8] rfl (by kernel_rfl) (fun hok => ?_)
        refine a_rd (i := 0) hok rfl (by kernel_rfl) rfl (r_move rfl) rfl ?_
        refine a_rd (i := 1) hok rfl (by kernel_rfl) rfl (r_move rfl) rfl ?_
        refine pull fun t11 h_t11 => ?_
        refine a_rd (i := 2) hok rfl (by kernel_rfl) rfl (r_index h_t11 Try.underlying23 el_40 rfl rfl) rfl ?_
        refine a_rd (i := 3) hok rfl (by kernel_rfl) rfl (r_load el_40 rfl) rfl ?_
        refine a_rd (i := 4) hok rfl (by kernel_rfl) rfl (r_move rfl) rfl ?_
        refine a_rd (i := 5) hok rfl (by kernel_rfl) rfl (r_move rfl) rfl ?_
        refine pull fun t12 h_t12 => ?_
        refine a_rd (i := 6) hok rfl (by kernel_rfl) rfl (r_index h_t12 Try.underlying23 el_40 rfl rfl) rfl ?_
        refine a_rd (i := 7) hok rfl (by kernel_rfl) rfl (r_load el_40 rfl) rfl ?_
        refine a_rd (i := 8) hok rfl (by kernel_rfl) rfl (r_stneq (u := t11) (v := t12) eq_40 rfl rfl rfl rfl) rfl ?_
        refine a_fin hok (by kernel_rfl) ?_
        refine n_then ?_
        refine ref_cond rfl (fun hb13 => ?_) (fun hb13 => ?_)
        · refine ref_seq ?_
          refine ref_region ?_
          refine s_rd (r_assign rfl) rfl ?_
          refine l_nil ?_
          refine n_then ?_
          refine ref_ret ?_
          refine r_block ?_
          refine r_then ?_
          refine retX ?_
          refine r_block ?_
          refine r_then ?_
          exact fin1 (.inl rfl) () [] rfl trivial rfl (rv_tmp rfl)
        · refine ref_skip ?_
          refine n_block ?_
          refine n_then ?_
          refine ref_region ?_
          refine s_rd (r_move rfl) rfl ?_
          refine s_rd (r_add rfl rfl) rfl ?_
          refine s_rd (r_assign rfl) rfl ?_
          refine l_nil ?_
          exact goX () (weak [] ⟨rfl, rfl, rfl, trivial⟩ trivial)
      · refine ref_exit ?_
        refine x_then ?_
        exact brkX () (weak [] trivial trivial)
    · refine n_then ?_
      refine ref_seq ?_
      refine ref_region ?_
      refine s_rd (r_assign rfl) rfl ?_
      refine l_nil ?_
      refine n_then ?_
      refine ref_ret ?_
      exact fin1 (.inl rfl) () [] rfl trivial rfl (rv_tmp rfl)

/-! deliberation/deliberationref27.Same -/
noncomputable def ref27_Same_m (a__0 : T_api_Dialogue) (b_1 : T_api_Dialogue) : Option (Bool) :=
  Option.bind (net_Same_m a__0.Graph b_1.Graph) fun t3 =>
  bif t3 then
    bif a__0.Root == b_1.Root then
      bif decide (a__0.Limits = b_1.Limits) then
        Option.bind (ref27_SameMoves_m a__0.Moves b_1.Moves) fun t4 =>
        some t4
      else
        some false
    else
      some false
  else
    some false

theorem ref27_Same_ok {a__0 : T_api_Dialogue} {b_1 : T_api_Dialogue} {r : Bool} (hm : ref27_Same_m a__0 b_1 = some r) :
    FnOk prog 16 [ag [iv .i64 a__0.Graph.N, slv rT_api_Pair a__0.Graph.L, iv .i64 a__0.Root, iv .i64 a__0.Limits.i0, iv .i64 a__0.Limits.i1, slv rT_api_Move a__0.Moves], ag [iv .i64 b_1.Graph.N, slv rT_api_Pair b_1.Graph.L, iv .i64 b_1.Root, iv .i64 b_1.Limits.i0, iv .i64 b_1.Limits.i1, slv rT_api_Move b_1.Moves]] [] (fun (x : Unit) => [bv r]) (fun (x : Unit) => []) := by
  refine fn_ok (X := Unit) (fn := Try.f16) (N := 31) (m := ref27_Same_m a__0 b_1) (res := fun r x => [bv r]) (Ω1 := fun r x => []) Try.func16 rfl rfl hm rfl (fun E hM => ?_)
  unfold ref27_Same_m
  refine ref_seq ?_
  refine ref_region ?_
  refine s_st (s_box (part_ag (ψs := [iv .i64 a__0.Graph.N, slv rT_api_Pair a__0.Graph.L, iv .i64 a__0.Root, iv .i64 a__0.Limits.i0, iv .i64 a__0.Limits.i1, slv rT_api_Move a__0.Moves]) rfl (by intro φ h; simp only [List.mem_cons, List.not_mem_nil, or_false] at h; rcases h with rfl | rfl | rfl | rfl | rfl | rfl <;> first | exact iv_at | exact bv_at | exact sv_at | exact slv_at | exact pv_at rfl))) rfl (fun b1 => ?_)
  refine s_st (s_box (part_ag (ψs := [iv .i64 b_1.Graph.N, slv rT_api_Pair b_1.Graph.L, iv .i64 b_1.Root, iv .i64 b_1.Limits.i0, iv .i64 b_1.Limits.i1, slv rT_api_Move b_1.Moves]) rfl (by intro φ h; simp only [List.mem_cons, List.not_mem_nil, or_false] at h; rcases h with rfl | rfl | rfl | rfl | rfl | rfl <;> first | exact iv_at | exact bv_at | exact sv_at | exact slv_at | exact pv_at rfl))) rfl (fun b2 => ?_)
  refine s_rd (r_assign rfl) rfl ?_
  refine l_nil ?_
  refine n_then ?_
  refine ref_seq ?_
  refine ref_region ?_
  refine s_rd (r_faddr (fo := 0) Try.underlying35 rfl rfl Try.sizeOf28 rfl) rfl ?_
  refine s_rd (r_cloadS Try.isAgg28 Try.sizeOf28 rfl (j := 0) rfl rfl rfl) rfl ?_
  refine s_rd (r_faddr (fo := 0) Try.underlying35 rfl rfl Try.sizeOf28 rfl) rfl ?_
  refine s_rd (r_cloadS Try.isAgg28 Try.sizeOf28 rfl (j := 1) rfl rfl rfl) rfl ?_
  refine pull fun t3 h_t3 => ?_
  refine s_st (s_call (ψ := fun (_ : Unit) => bv t3) (args := [.tmp 6, .tmp 8]) Try.call48 rfl (net_Same_ok h_t3) ⟨arg rfl, arg rfl, trivial⟩ (fun _ _ _ _ h => h)) rfl (fun _ => ?_)
  refine s_rd (r_move rfl) rfl ?_
  refine b_split (t := 10) rfl (fun _ => ?_) (fun _ => ?_)
  · refine s_on rfl rfl rfl ?_
    refine s_rd (r_faddr (fo := 2) Try.underlying35 rfl rfl Try.sizeOf3 rfl) rfl ?_
    refine s_on rfl rfl rfl ?_
    refine s_rd (r_cload Try.isAgg3 rfl (j := 0) rfl rfl) rfl ?_
    refine s_on rfl rfl rfl ?_
    refine s_rd (r_faddr (fo := 2) Try.underlying35 rfl rfl Try.sizeOf3 rfl) rfl ?_
    refine s_on rfl rfl rfl ?_
    refine s_rd (r_cload Try.isAgg3 rfl (j := 1) rfl rfl) rfl ?_
    refine s_on rfl rfl rfl ?_
    refine s_rd (r_eql rfl rfl) rfl ?_
    refine s_rd (r_pickT rfl rfl) rfl ?_
    refine s_rd (r_move rfl) rfl ?_
    refine b_split (t := 17) rfl (fun _ => ?_) (fun _ => ?_)
    · refine s_on rfl rfl rfl ?_
      refine s_rd (r_faddr (fo := 3) Try.underlying35 rfl rfl Try.sizeOf33 rfl) rfl ?_
      refine s_on rfl rfl rfl ?_
      refine s_rd (r_cloadS Try.isAgg33 Try.sizeOf33 rfl (j := 0) rfl rfl rfl) rfl ?_
      refine s_on rfl rfl rfl ?_
      refine s_rd (r_faddr (fo := 3) Try.underlying35 rfl rfl Try.sizeOf33 rfl) rfl ?_
      refine s_on rfl rfl rfl ?_
      refine s_rd (r_cloadS Try.isAgg33 Try.sizeOf33 rfl (j := 1) rfl rfl rfl) rfl ?_
      refine s_on rfl rfl rfl ?_
      refine s_rd (r_steql (u := a__0.Limits) (v := b_1.Limits) eq_33 rfl rfl rfl rfl) rfl ?_
      refine s_rd (r_pickT rfl rfl) rfl ?_
      refine s_rd (r_move rfl) rfl ?_
      refine b_split (t := 24) rfl (fun _ => ?_) (fun _ => ?_)
      · refine s_on rfl rfl rfl ?_
        refine s_rd (r_faddr (fo := 5) Try.underlying35 rfl rfl Try.sizeOf23 rfl) rfl ?_
        refine s_on rfl rfl rfl ?_
        refine s_rd (r_cload Try.isAgg23 rfl (j := 0) rfl rfl) rfl ?_
        refine s_on rfl rfl rfl ?_
        refine s_rd (r_faddr (fo := 5) Try.underlying35 rfl rfl Try.sizeOf23 rfl) rfl ?_
        refine s_on rfl rfl rfl ?_
        refine s_rd (r_cload Try.isAgg23 rfl (j := 1) rfl rfl) rfl ?_
        refine s_on rfl rfl rfl ?_
        refine pull fun t4 h_t4 => ?_
        refine s_st (s_call (ψ := fun (_ : Unit) => bv t4) (args := [.tmp 26, .tmp 28]) Try.call49 rfl (ref27_SameMoves_ok h_t4) ⟨arg rfl, arg rfl, trivial⟩ (fun _ _ _ _ h => h)) rfl (fun _ => ?_)
        refine s_rd (r_pickT rfl rfl) rfl ?_
        refine s_rd (r_assign rfl) rfl ?_
        refine l_nil ?_
        refine b_of (nrm [oc b1 [iv .i64 a__0.Graph.N, slv rT_api_Pair a__0.Graph.L, iv .i64 a__0.Root, iv .i64 a__0.Limits.i0, iv .i64 a__0.Limits.i1, slv rT_api_Move a__0.Moves], oc b2 [iv .i64 b_1.Graph.N, slv rT_api_Pair b_1.Graph.L, iv .i64 b_1.Root, iv .i64 b_1.Limits.i0, iv .i64 b_1.Limits.i1, slv rT_api_Move b_1.Moves]] rfl) ?_
        refine n_then ?_
        refine ref_ret ?_
        exact fin1 (.inl rfl) () [] rfl trivial rfl (rv_tmp rfl)
      · refine s_off rfl rfl rfl rfl rfl ?_
        refine s_off rfl rfl rfl rfl rfl ?_
        refine s_off rfl rfl rfl rfl rfl ?_
        refine s_off rfl rfl rfl rfl rfl ?_
        refine s_off rfl rfl rfl rfl rfl ?_
        refine s_rd (r_pickF rfl rfl) rfl ?_
        refine s_rd (r_assign rfl) rfl ?_
        refine l_nil ?_
        refine n_then ?_
        refine ref_ret ?_
        exact fin1 (.inl rfl) () [] rfl trivial rfl (rv_tmp rfl)
    · refine s_off rfl rfl rfl rfl rfl ?_
      refine s_off rfl rfl rfl rfl rfl ?_
      refine s_off rfl rfl rfl rfl rfl ?_
      refine s_off rfl rfl rfl rfl rfl ?_
      refine s_off rfl rfl rfl rfl rfl ?_
      refine s_rd (r_pickF rfl rfl) rfl ?_
      refine s_rd (r_move rfl) rfl ?_
      refine s_off rfl rfl rfl rfl rfl ?_
      refine s_off rfl rfl rfl rfl rfl ?_
      refine s_off rfl rfl rfl rfl rfl ?_
      refine s_off rfl rfl rfl rfl rfl ?_
      refine s_off rfl rfl rfl rfl rfl ?_
      refine s_rd (r_pickF rfl rfl) rfl ?_
      refine s_rd (r_assign rfl) rfl ?_
      refine l_nil ?_
      refine n_then ?_
      refine ref_ret ?_
      exact fin1 (.inl rfl) () [] rfl trivial rfl (rv_tmp rfl)
  · refine s_off rfl rfl rfl rfl rfl ?_
    refine s_off rfl rfl rfl rfl rfl ?_
    refine s_off rfl rfl rfl rfl rfl ?_
    refine s_off rfl rfl rfl rfl rfl ?_
    refine s_off rfl rfl rfl rfl rfl ?_
    refine s_rd (r_pickF rfl rfl) rfl ?_
    refine s_rd (r_move rfl) rfl ?_
    refine s_off rfl rfl rfl rfl rfl ?_
    refine s_off rfl rfl rfl rfl rfl ?_
    refine s_off rfl rfl rfl rfl rfl ?_
    refine s_off rfl rfl rfl rfl rfl ?_
    refine s_off rfl rfl rfl rfl rfl ?_
    refine s_rd (r_pickF rfl rfl) rfl ?_
    refine s_rd (r_move rfl) rfl ?_
    refine s_off rfl rfl rfl rfl rfl ?_
    refine s_off rfl rfl rfl rfl rfl ?_
    refine s_off rfl rfl rfl rfl rfl ?_
    refine s_off rfl rfl rfl rfl rfl ?_
    refine s_off rfl rfl rfl rfl rfl ?_
    refine s_rd (r_pickF rfl rfl) rfl ?_
    refine s_rd (r_assign rfl) rfl ?_
    refine l_nil ?_
    refine n_then ?_
    refine ref_ret ?_
    exact fin1 (.inl rfl) () [] rfl trivial rfl (rv_tmp rfl)

/-! cmp.Or[int] -/
noncomputable def cmp_Or_int_l1 (vals_0 : (List Int)) (s6 : Int) : Option (Sum ((Sum (Int) (Unit))) (Int)) :=
  bif decide (s6 < (vals_0.length : Int)) then
    Option.bind (idxM vals_0 s6) fun val9 =>
    bif val9 != 0 then
      some (Sum.inl (Sum.inl val9))
    else
      some (Sum.inr (iadd .i64 s6 1))
  else
    some (Sum.inl (Sum.inr ()))

noncomputable def cmp_Or_int_m (vals_0 : (List Int)) : Option (Int) :=
  Option.bind (loopC (cmp_Or_int_l1 vals_0) 0) (sumK (fun a : Int => some a) fun q11 : Unit =>
    some 0)

theorem cmp_Or_int_ok {vals_0 : (List Int)} {r : Int} (hm : cmp_Or_int_m vals_0 = some r) :
    FnOk prog 85 [slv (rI .i64) vals_0] [] (fun (x : Unit) => [iv .i64 r]) (fun (x : Unit) => []) := by
  refine fn_ok (X := Unit) (fn := Try.f85) (N := 18) (m := cmp_Or_int_m vals_0) (res := fun r x => [iv .i64 r]) (Ω1 := fun r x => []) Try.func85 rfl rfl hm rfl (fun E hM => ?_)
  unfold cmp_Or_int_m
  refine ref_seq ?_
  refine ref_region ?_
  refine s_rd (r_assign rfl) rfl ?_
  refine l_nil ?_
  refine n_then ?_
  refine ref_seq ?_
  refine ref_region ?_
  refine s_rd (r_assign rfl) rfl ?_
  refine l_nil ?_
  refine n_then ?_
  refine ref_seq ?_
  refine ref_seq ?_
  refine ref_region ?_
  refine s_rd (r_move rfl) rfl ?_
  refine s_rd (r_len Try.underlying22 rfl) rfl ?_
  refine s_rd (r_move rfl) rfl ?_
  refine l_nil ?_
  refine n_then ?_
  refine ref_loopX (f := (cmp_Or_int_l1 vals_0)) (Γl := (fun (s6 : Int) (x7 : Unit) => [(3, iv .i64 0), (6, slv (rI .i64) vals_0), (7, iv .i64 (vals_0.length : Int)), (8, iv .i64 s6)])) (Ωl := (fun (s6 : Int) (x7 : Unit) => [])) (Γb := (fun (q11 : Unit) (y12 : Unit) => [(3, iv .i64 0)])) (Ωb := (fun (q11 : Unit) (y12 : Unit) => [])) (kr := (fun a : Int => some a)) 0 () (weak [] ⟨rfl, rfl, rfl, rfl, trivial⟩ trivial) (fun s6 x7 => ?_) (fun q11 y12 => ?_)
  · unfold cmp_Or_int_l1
    refine ref_seq ?_
    refine ref_region ?_
    refine s_rd (r_lss rfl rfl) rfl ?_
    refine l_nil ?_
    refine n_then ?_
    refine ref_seq ?_
    refine ref_cond rfl (fun hb8 => ?_) (fun hb8 => ?_)
    · refine ref_skip ?_
      refine n_then ?_
      refine ref_seq ?_
      refine ref_block ?_
      refine ref_seq ?_
      refine ref_region ?_
      refine pull fun val9 h_val9 => ?_
      refine s_rd (r_index h_val9 Try.underlying22 el_3 rfl rfl) rfl ?_
      refine s_rd (r_load el_3 rfl) rfl ?_
      refine s_rd (r_assign rfl) rfl ?_
      refine l_nil ?_
      refine n_then ?_
      refine ref_seq ?_
      refine ref_region ?_
      refine s_rd (r_move rfl) rfl ?_
      refine s_rd (r_move rfl) rfl ?_
      refine s_rd (r_neq rfl rfl) rfl ?_
      refine l_nil ?_
      refine n_then ?_
      refine ref_cond rfl (fun hb10 => ?_) (fun hb10 => ?_)
      · refine ref_seq ?_
        refine ref_region ?_
        refine s_rd (r_move rfl) rfl ?_
        refine s_rd (r_assign rfl) rfl ?_
        refine l_nil ?_
        refine n_then ?_
        refine ref_ret ?_
        refine r_block ?_
        refine r_then ?_
        refine retX ?_
        refine r_block ?_
        refine r_then ?_
        exact fin1 (.inl rfl) () [] rfl trivial rfl (rv_tmp rfl)
      · refine ref_skip ?_
        refine n_block ?_
        refine n_then ?_
        refine ref_region ?_
        refine s_rd (r_add rfl rfl) rfl ?_
        refine s_rd (r_move rfl) rfl ?_
        refine l_nil ?_
        exact goX () (weak [] ⟨rfl, rfl, rfl, rfl, trivial⟩ trivial)
    · refine ref_exit ?_
      refine x_then ?_
      exact brkX () (weak [] ⟨rfl, trivial⟩ trivial)
  · refine n_then ?_
    refine ref_seq ?_
    refine ref_region ?_
    refine s_rd (r_move rfl) rfl ?_
    refine s_rd (r_assign rfl) rfl ?_
    refine l_nil ?_
    refine n_then ?_
    refine ref_ret ?_
    exact fin1 (.inl rfl) () [] rfl trivial rfl (rv_tmp rfl)

/-! deliberation/graph.compare -/
noncomputable def graph_compare_m (a__0 : T_api_Pair) (b_1 : T_api_Pair) : Option (Int) :=
  Option.bind (cmp_Compare_int_m a__0.From b_1.From) fun t3 =>
  Option.bind (cmp_Compare_int_m a__0.To b_1.To) fun t4 =>
  Option.bind (cmp_Or_int_m [t3, t4]) fun t5 =>
  some t5

theorem graph_compare_ok {a__0 : T_api_Pair} {b_1 : T_api_Pair} {r : Int} (hm : graph_compare_m a__0 b_1 = some r) :
    FnOk prog 76 [ag [iv .i64 a__0.From, iv .i64 a__0.To], ag [iv .i64 b_1.From, iv .i64 b_1.To]] [] (fun (x : Unit) => [iv .i64 r]) (fun (x : Unit) => []) := by
  refine fn_ok (X := Unit) (fn := Try.f76) (N := 17) (m := graph_compare_m a__0 b_1) (res := fun r x => [iv .i64 r]) (Ω1 := fun r x => []) Try.func76 rfl rfl hm rfl (fun E hM => ?_)
  unfold graph_compare_m
  refine ref_seq ?_
  refine ref_region ?_
  refine s_st (s_box (part_ag (ψs := [iv .i64 a__0.From, iv .i64 a__0.To]) rfl (by intro φ h; simp only [List.mem_cons, List.not_mem_nil, or_false] at h; rcases h with rfl | rfl <;> first | exact iv_at | exact bv_at | exact sv_at | exact slv_at | exact pv_at rfl))) rfl (fun b1 => ?_)
  refine s_st (s_box (part_ag (ψs := [iv .i64 b_1.From, iv .i64 b_1.To]) rfl (by intro φ h; simp only [List.mem_cons, List.not_mem_nil, or_false] at h; rcases h with rfl | rfl <;> first | exact iv_at | exact bv_at | exact sv_at | exact slv_at | exact pv_at rfl))) rfl (fun b2 => ?_)
  refine s_rd (r_assign rfl) rfl ?_
  refine l_nil ?_
  refine n_then ?_
  refine ref_seq ?_
  refine ref_draw [0, 1, 2, 3, 5, 6, 7, 8] rfl (by kernel_rfl) (fun hok => ?_)
  refine a_rd (i := 0) hok rfl (by kernel_rfl) rfl (r_faddr (fo := 0) Try.underlying67 rfl rfl Try.sizeOf3 rfl) rfl ?_
  refine a_rd (i := 1) hok rfl (by kernel_rfl) rfl (r_cload Try.isAgg3 rfl (j := 0) rfl rfl) rfl ?_
  refine a_rd (i := 2) hok rfl (by kernel_rfl) rfl (r_faddr (fo := 0) Try.underlying67 rfl rfl Try.sizeOf3 rfl) rfl ?_
  refine a_rd (i := 3) hok rfl (by kernel_rfl) rfl (r_cload Try.isAgg3 rfl (j := 1) rfl rfl) rfl ?_
  refine a_rd (i := 5) hok rfl (by kernel_rfl) rfl (r_faddr (fo := 1) Try.underlying67 rfl rfl Try.sizeOf3 rfl) rfl ?_
  refine a_rd (i := 6) hok rfl (by kernel_rfl) rfl (r_cload Try.isAgg3 rfl (j := 0) rfl rfl) rfl ?_
  refine a_rd (i := 7) hok rfl (by kernel_rfl) rfl (r_faddr (fo := 1) Try.underlying67 rfl rfl Try.sizeOf3 rfl) rfl ?_
  refine a_rd (i := 8) hok rfl (by kernel_rfl) rfl (r_cload Try.isAgg3 rfl (j := 1) rfl rfl) rfl ?_
  refine pull fun t3 h_t3 => ?_
  refine a_next hok 4 [] (by kernel_rfl) ?_ trivial
  refine a_st (i := 4) hok rfl rfl (s_call (ψ := fun (_ : Unit) => iv .i64 t3) (args := [.tmp 6, .tmp 8]) Try.call70 rfl (cmp_Compare_int_ok h_t3) ⟨arg rfl, arg rfl, trivial⟩ (fun _ _ _ _ h => h)) (by intro _ h; cases h; rfl) (fun _ => ⟨⟨⟨rfl, rfl⟩, trivial⟩, ⟨trivial, ⟨⟨⟨rfl, rfl⟩, trivial⟩, ⟨trivial, ⟨trivial, ⟨trivial, ⟨trivial, ⟨trivial, trivial⟩⟩⟩⟩⟩⟩⟩⟩) (fun _ => ?_)
  refine pull fun t4 h_t4 => ?_
  refine a_next hok 9 [] (by kernel_rfl) ?_ trivial
  refine a_st (i := 9) hok rfl rfl (s_call (ψ := fun (_ : Unit) => iv .i64 t4) (args := [.tmp 11, .tmp 13]) Try.call70 rfl (cmp_Compare_int_ok h_t4) ⟨arg rfl, arg rfl, trivial⟩ (fun _ _ _ _ h => h)) (by intro _ h; cases h; rfl) (fun _ => ⟨trivial, ⟨trivial, ⟨trivial, ⟨trivial, ⟨⟨⟨rfl, rfl⟩, trivial⟩, ⟨trivial, ⟨⟨⟨rfl, rfl⟩, trivial⟩, ⟨trivial, trivial⟩⟩⟩⟩⟩⟩⟩⟩) (fun _ => ?_)
  refine a_next hok 10 [] (by kernel_rfl) ?_ trivial
  refine a_st (i := 10) hok rfl rfl (s_bslice (xs := [.tmp 9, .tmp 14]) (ds := [t3, t4]) Try.underlying22 el_3 rfl (Nat.le_of_ble_eq_true rfl) ⟨(part_at rfl iv_at), ⟨(part_at rfl iv_at), trivial⟩⟩) (by intro _ h; cases h; rfl) (fun _ => ⟨⟨⟨rfl, rfl⟩, trivial⟩, ⟨trivial, ⟨⟨⟨rfl, rfl⟩, trivial⟩, ⟨trivial, ⟨⟨⟨rfl, rfl⟩, trivial⟩, ⟨trivial, ⟨⟨⟨rfl, rfl⟩, trivial⟩, ⟨trivial, trivial⟩⟩⟩⟩⟩⟩⟩⟩) (fun _ => ?_)
  refine pull fun t5 h_t5 => ?_
  refine a_next hok 11 [] (by kernel_rfl) ?_ trivial
  refine a_st (i := 11) hok rfl rfl (s_call (ψ := fun (_ : Unit) => iv .i64 t5) (args := [.tmp 15]) Try.call85 rfl (cmp_Or_int_ok h_t5) ⟨arg rfl, trivial⟩ (fun _ _ _ _ h => h)) (by intro _ h; cases h; rfl) (fun _ => ⟨⟨⟨rfl, rfl⟩, trivial⟩, ⟨trivial, ⟨⟨⟨rfl, rfl⟩, trivial⟩, ⟨trivial, ⟨⟨⟨rfl, rfl⟩, trivial⟩, ⟨trivial, ⟨⟨⟨rfl, rfl⟩, trivial⟩, ⟨trivial, trivial⟩⟩⟩⟩⟩⟩⟩⟩) (fun _ => ?_)
  refine a_next hok 12 [] (by kernel_rfl) ?_ trivial
  refine a_st (i := 12) hok rfl rfl (St.ofRd (r_assign rfl)) (by intro _ h; cases h; rfl) (fun _ => ⟨trivial, ⟨trivial, ⟨trivial, ⟨trivial, ⟨trivial, ⟨trivial, ⟨trivial, ⟨trivial, trivial⟩⟩⟩⟩⟩⟩⟩⟩) (fun _ => ?_)
  refine a_fin hok (by kernel_rfl) ?_
  refine b_of (nrm [oc b1 [iv .i64 a__0.From, iv .i64 a__0.To], oc b2 [iv .i64 b_1.From, iv .i64 b_1.To]] rfl) ?_
  refine n_then ?_
  refine ref_ret ?_
  exact fin1 (.inl rfl) () [] rfl trivial rfl (rv_tmp rfl)

/-! deliberation/graph.Validate -/
noncomputable def graph_Validate_l1 (g_0 : T_api_Graph) (s12 : Int) : Option (Sum ((Sum (Int) (Unit))) (Int)) :=
  bif decide (s12 < (g_0.L.length : Int)) then
    Option.bind (idxM g_0.L s12) fun t15 =>
    bif decide ((imin t15.From t15.To) < 0) then
      some (Sum.inl (Sum.inl 1))
    else
      bif decide ((imax t15.From t15.To) ≥ g_0.N) then
        some (Sum.inl (Sum.inl 1))
      else
        bif decide (s12 > 0) then
          Option.bind (idxM g_0.L (isub .i64 s12 1)) fun t18 =>
          Option.bind (graph_compare_m t18 t15) fun t19 =>
          bif decide (t19 ≥ 0) then
            some (Sum.inl (Sum.inl 8))
          else
            some (Sum.inr (iadd .i64 s12 1))
        else
          some (Sum.inr (iadd .i64 s12 1))
  else
    some (Sum.inl (Sum.inr ()))

noncomputable def graph_Validate_m (g_0 : T_api_Graph) : Option (Int) :=
  bif decide (g_0.N < 0) then
    some 1
  else
    bif decide (g_0.N > 40) then
      some 1
    else
      Option.bind (loopC (graph_Validate_l1 g_0) 0) (sumK (fun a : Int => some a) fun q21 : Unit =>
        some 0)

theorem graph_Validate_ok {g_0 : T_api_Graph} {r : Int} (hm : graph_Validate_m g_0 = some r) :
    FnOk prog 50 [ag [iv .i64 g_0.N, slv rT_api_Pair g_0.L]] [] (fun (x : Unit) => [iv .i64 r]) (fun (x : Unit) => []) := by
  refine fn_ok (X := Unit) (fn := Try.f50) (N := 51) (m := graph_Validate_m g_0) (res := fun r x => [iv .i64 r]) (Ω1 := fun r x => []) Try.func50 rfl rfl hm rfl (fun E hM => ?_)
  unfold graph_Validate_m
  refine ref_seq ?_
  refine ref_region ?_
  refine s_st (s_box (part_ag (ψs := [iv .i64 g_0.N, slv rT_api_Pair g_0.L]) rfl (by intro φ h; simp only [List.mem_cons, List.not_mem_nil, or_false] at h; rcases h with rfl | rfl <;> first | exact iv_at | exact bv_at | exact sv_at | exact slv_at | exact pv_at rfl))) rfl (fun b1 => ?_)
  refine s_rd (r_assign rfl) rfl ?_
  refine l_nil ?_
  refine n_then ?_
  refine ref_seq ?_
  refine ref_seq ?_
  refine ref_region ?_
  refine s_rd (r_faddr (fo := 0) Try.underlying28 rfl rfl Try.sizeOf3 rfl) rfl ?_
  refine s_rd (r_cload Try.isAgg3 rfl (j := 0) rfl rfl) rfl ?_
  refine s_rd (r_lss rfl rfl) rfl ?_
  refine s_rd (r_move rfl) rfl ?_
  refine b_split (t := 8) rfl (fun _ => ?_) (fun _ => ?_)
  · refine s_off rfl rfl rfl rfl rfl ?_
    refine s_off rfl rfl rfl rfl rfl ?_
    refine s_off rfl rfl rfl rfl rfl ?_
    refine s_rd (r_pickT rfl rfl) rfl ?_
    refine l_nil ?_
    refine n_then ?_
    refine ref_condT rfl rfl ?_
    refine ref_seq ?_
    refine ref_region ?_
    refine s_rd (r_assign rfl) rfl ?_
    refine l_nil ?_
    refine n_then ?_
    refine ref_ret ?_
    refine r_then ?_
    exact fin1 (.inl rfl) () [] rfl trivial rfl (rv_tmp rfl)
  · refine s_on rfl rfl rfl ?_
    refine s_rd (r_faddr (fo := 0) Try.underlying28 rfl rfl Try.sizeOf3 rfl) rfl ?_
    refine s_on rfl rfl rfl ?_
    refine s_rd (r_cload Try.isAgg3 rfl (j := 0) rfl rfl) rfl ?_
    refine s_on rfl rfl rfl ?_
    refine s_rd (r_gtr rfl rfl) rfl ?_
    refine s_rd (r_pickF rfl rfl) rfl ?_
    refine l_nil ?_
    refine n_then ?_
    refine ref_cond rfl (fun hb2 => ?_) (fun hb2 => ?_)
    · refine ref_seq ?_
      refine ref_region ?_
      refine s_rd (r_assign rfl) rfl ?_
      refine l_nil ?_
      refine n_then ?_
      refine ref_ret ?_
      refine r_then ?_
      exact fin1 (.inl rfl) () [] rfl trivial rfl (rv_tmp rfl)
    · refine ref_skip ?_
      refine n_then ?_
      refine ref_seq ?_
      refine ref_seq ?_
      refine ref_region ?_
      refine s_rd (r_faddr (fo := 1) Try.underlying28 rfl rfl Try.sizeOf26 rfl) rfl ?_
      refine s_rd (r_cload Try.isAgg26 rfl (j := 0) rfl rfl) rfl ?_
      refine s_rd (r_len Try.underlying26 rfl) rfl ?_
      refine s_rd (r_move rfl) rfl ?_
      refine l_nil ?_
      refine n_then ?_
      refine ref_loopX (f := (graph_Validate_l1 g_0)) (Γl := (fun (s12 : Int) (x13 : Unit) => [(1, pv (ptr b1 0)), (14, slv rT_api_Pair g_0.L), (15, iv .i64 (g_0.L.length : Int)), (16, iv .i64 s12)])) (Ωl := (fun (s12 : Int) (x13 : Unit) => [oc b1 [iv .i64 g_0.N, slv rT_api_Pair g_0.L]])) (Γb := (fun (q21 : Unit) (y22 : Unit) => [])) (Ωb := (fun (q21 : Unit) (y22 : Unit) => [])) (kr := (fun a : Int => some a)) 0 () (weak [0] ⟨rfl, rfl, rfl, rfl, trivial⟩ ⟨rfl, trivial⟩) (fun s12 x13 => ?_) (fun q21 y22 => ?_)
      · unfold graph_Validate_l1
        refine ref_seq ?_
        refine ref_region ?_
        refine s_rd (r_lss rfl rfl) rfl ?_
        refine l_nil ?_
        refine n_then ?_
        refine ref_seq ?_
        refine ref_cond rfl (fun hb14 => ?_) (fun hb14 => ?_)
        · refine ref_skip ?_
          refine n_then ?_
          refine ref_seq ?_
          refine ref_block ?_
          refine ref_seq ?_
          refine ref_region ?_
          refine s_rd (r_move rfl) rfl ?_
          refine pull fun t15 h_t15 => ?_
          refine s_rd (r_index h_t15 Try.underlying26 el_67 rfl rfl) rfl ?_
          refine s_rd (r_load el_67 rfl) rfl ?_
          refine s_st (s_alloc zt_67) rfl (fun b16 => ?_)
          refine s_rd (r_assign rfl) rfl ?_
          refine s_st0 (s_cstore (out := [iv .i64 t15.From, iv .i64 t15.To]) Try.sizeOf67 rfl (j := 1) rfl (part_ag (ψs := [iv .i64 t15.From, iv .i64 t15.To]) rfl (by intro φ h; simp only [List.mem_cons, List.not_mem_nil, or_false] at h; rcases h with rfl | rfl <;> first | exact iv_at | exact bv_at | exact sv_at | exact slv_at | exact pv_at rfl)) rfl rfl rfl) (fun _ => ?_)
          refine l_nil ?_
          refine n_then ?_
          refine ref_seq ?_
          refine ref_seq ?_
          refine ref_region ?_
          refine s_rd (r_faddr (fo := 0) Try.underlying67 rfl rfl Try.sizeOf3 rfl) rfl ?_
          refine s_rd (r_cload Try.isAgg3 rfl (j := 1) rfl rfl) rfl ?_
          refine s_rd (r_faddr (fo := 1) Try.underlying67 rfl rfl Try.sizeOf3 rfl) rfl ?_
          refine s_rd (r_cload Try.isAgg3 rfl (j := 1) rfl rfl) rfl ?_
          refine s_rd (r_min rfl rfl) rfl ?_
          refine s_rd (r_lss rfl rfl) rfl ?_
          refine s_rd (r_move rfl) rfl ?_
          refine b_split (t := 27) rfl (fun _ => ?_) (fun _ => ?_)
          · refine s_off rfl rfl rfl rfl rfl ?_
            refine s_off rfl rfl rfl rfl rfl ?_
            refine s_off rfl rfl rfl rfl rfl ?_
            refine s_off rfl rfl rfl rfl rfl ?_
            refine s_off rfl rfl rfl rfl rfl ?_
            refine s_off rfl rfl rfl rfl rfl ?_
            refine s_off rfl rfl rfl rfl rfl ?_
            refine s_off rfl rfl rfl rfl rfl ?_
            refine s_rd (r_pickT rfl rfl) rfl ?_
            refine l_nil ?_
            refine n_then ?_
            refine ref_condT rfl rfl ?_
            refine ref_seq ?_
            refine ref_region ?_
            refine s_rd (r_assign rfl) rfl ?_
            refine l_nil ?_
            refine n_then ?_
            refine ref_ret ?_
            refine r_then ?_
            refine r_block ?_
            refine r_then ?_
            refine retX ?_
            refine r_block ?_
            refine r_then ?_
            exact fin1 (.inl rfl) () [] rfl trivial rfl (rv_tmp rfl)
          · refine s_on rfl rfl rfl ?_
            refine s_rd (r_faddr (fo := 0) Try.underlying67 rfl rfl Try.sizeOf3 rfl) rfl ?_
            refine s_on rfl rfl rfl ?_
            refine s_rd (r_cload Try.isAgg3 rfl (j := 1) rfl rfl) rfl ?_
            refine s_on rfl rfl rfl ?_
            refine s_rd (r_faddr (fo := 1) Try.underlying67 rfl rfl Try.sizeOf3 rfl) rfl ?_
            refine s_on rfl rfl rfl ?_
            refine s_rd (r_cload Try.isAgg3 rfl (j := 1) rfl rfl) rfl ?_
            refine s_on rfl rfl rfl ?_
            refine s_rd (r_max rfl rfl) rfl ?_
            refine s_on rfl rfl rfl ?_
            refine s_rd (r_faddr (fo := 0) Try.underlying28 rfl rfl Try.sizeOf3 rfl) rfl ?_
            refine s_on rfl rfl rfl ?_
            refine s_rd (r_cload Try.isAgg3 rfl (j := 0) rfl rfl) rfl ?_
            refine s_on rfl rfl rfl ?_
            refine s_rd (r_geq rfl rfl) rfl ?_
            refine s_rd (r_pickF rfl rfl) rfl ?_
            refine l_nil ?_
            refine n_then ?_
            refine ref_cond rfl (fun hb17 => ?_) (fun hb17 => ?_)
            · refine ref_seq ?_
              refine ref_region ?_
              refine s_rd (r_assign rfl) rfl ?_
              refine l_nil ?_
              refine n_then ?_
              refine ref_ret ?_
              refine r_then ?_
              refine r_block ?_
              refine r_then ?_
              refine retX ?_
              refine r_block ?_
              refine r_then ?_
              exact fin1 (.inl rfl) () [] rfl trivial rfl (rv_tmp rfl)
            · refine ref_skip ?_
              refine n_then ?_
              refine ref_seq ?_
              refine ref_draw [0, 1, 2, 3, 4, 5, 6, 7, 8, 9, 11, 12] rfl (by kernel_rfl) (fun hok => ?_)
              refine a_rd (i := 0) hok rfl (by kernel_rfl) rfl (r_move rfl) rfl ?_
              refine a_rd (i := 1) hok rfl (by kernel_rfl) rfl (r_gtr rfl rfl) rfl ?_
              refine a_rd (i := 2) hok rfl (by kernel_rfl) rfl (r_move rfl) rfl ?_
              refine b_split (t := 39) rfl (fun _ => ?_) (fun _ => ?_)
              · refine a_rdOn (i := 3) hok rfl rfl rfl rfl (by kernel_rfl) rfl (r_faddr (fo := 1) Try.underlying28 rfl rfl Try.sizeOf26 rfl) rfl ?_
                refine a_rdOn (i := 4) hok rfl rfl rfl rfl (by kernel_rfl) rfl (r_cload Try.isAgg26 rfl (j := 0) rfl rfl) rfl ?_
                refine a_rdOn (i := 5) hok rfl rfl rfl rfl (by kernel_rfl) rfl (r_move rfl) rfl ?_
                refine a_rdOn (i := 6) hok rfl rfl rfl rfl (by kernel_rfl) rfl (r_sub rfl rfl) rfl ?_
                refine pull fun t18 h_t18 => ?_
                refine a_rdOn (i := 7) hok rfl rfl rfl rfl (by kernel_rfl) rfl (r_index h_t18 Try.underlying26 el_67 rfl rfl) rfl ?_
                refine a_rdOn (i := 8) hok rfl rfl rfl rfl (by kernel_rfl) rfl (r_load el_67 rfl) rfl ?_
                refine a_rdOn (i := 9) hok rfl rfl rfl rfl (by kernel_rfl) rfl (r_cloadS Try.isAgg67 Try.sizeOf67 rfl (j := 1) rfl rfl rfl) rfl ?_
                refine pull fun t19 h_t19 => ?_
                refine a_next hok 10 [] (by kernel_rfl) ?_ trivial
                refine a_stOn (i := 10) hok rfl rfl rfl rfl rfl (s_call (ψ := fun (_ : Unit) => iv .i64 t19) (args := [.tmp 45, .tmp 46]) Try.call76 rfl (graph_compare_ok h_t19) ⟨arg rfl, arg rfl, trivial⟩ (fun _ _ _ _ h => h)) (by intro _ h; cases h; rfl) (fun _ => ⟨trivial, ⟨trivial, ⟨trivial, ⟨trivial, ⟨trivial, ⟨⟨⟨rfl, rfl⟩, trivial⟩, ⟨trivial, ⟨trivial, ⟨trivial, ⟨trivial, trivial⟩⟩⟩⟩⟩⟩⟩⟩⟩⟩) (fun _ => ?_)
                refine a_rdOn (i := 11) hok rfl rfl rfl rfl (by kernel_rfl) rfl (r_geq rfl rfl) rfl ?_
                refine a_rd (i := 12) hok rfl (by kernel_rfl) rfl (r_pickT rfl rfl) rfl ?_
                refine a_fin hok (by kernel_rfl) ?_
                refine b_of (nrm [oc b1 [iv .i64 g_0.N, slv rT_api_Pair g_0.L], oc b16 [iv .i64 t15.From, iv .i64 t15.To]] rfl) ?_
                refine n_then ?_
                refine ref_cond rfl (fun hb20 => ?_) (fun hb20 => ?_)
                · refine ref_seq ?_
                  refine ref_region ?_
                  refine s_rd (r_assign rfl) rfl ?_
                  refine l_nil ?_
                  refine n_then ?_
                  refine ref_ret ?_
                  refine r_block ?_
                  refine r_then ?_
                  refine retX ?_
                  refine r_block ?_
                  refine r_then ?_
                  exact fin1 (.inl rfl) () [] rfl trivial rfl (rv_tmp rfl)
                · refine ref_skip ?_
                  refine n_block ?_
                  refine n_then ?_
                  refine ref_region ?_
                  refine s_rd (r_add rfl rfl) rfl ?_
                  refine s_rd (r_move rfl) rfl ?_
                  refine l_nil ?_
                  exact goX () (weak [0] ⟨rfl, rfl, rfl, rfl, trivial⟩ ⟨rfl, trivial⟩)
              · refine a_off (i := 3) hok rfl rfl rfl rfl rfl (by kernel_rfl) rfl rfl ?_
                refine a_off (i := 4) hok rfl rfl rfl rfl rfl (by kernel_rfl) rfl rfl ?_
                refine a_off (i := 5) hok rfl rfl rfl rfl rfl (by kernel_rfl) rfl rfl ?_
                refine a_off (i := 6) hok rfl rfl rfl rfl rfl (by kernel_rfl) rfl rfl ?_
                refine a_off (i := 7) hok rfl rfl rfl rfl rfl (by kernel_rfl) rfl rfl ?_
                refine a_off (i := 8) hok rfl rfl rfl rfl rfl (by kernel_rfl) rfl rfl ?_
                refine a_off (i := 9) hok rfl rfl rfl rfl rfl (by kernel_rfl) rfl rfl ?_
                refine a_next hok 10 [] (by kernel_rfl) ?_ trivial
                refine a_stOff (i := 10) hok rfl rfl rfl rfl rfl rfl (by intro _ h; cases h; rfl) ⟨trivial, ⟨trivial, ⟨trivial, ⟨trivial, ⟨trivial, ⟨trivial, ⟨trivial, ⟨trivial, ⟨trivial, ⟨trivial, trivial⟩⟩⟩⟩⟩⟩⟩⟩⟩⟩ ?_
                refine a_off (i := 11) hok rfl rfl rfl rfl rfl (by kernel_rfl) rfl rfl ?_
                refine a_rd (i := 12) hok rfl (by kernel_rfl) rfl (r_pickF rfl rfl) rfl ?_
                refine a_fin hok (by kernel_rfl) ?_
                refine n_then ?_
                refine ref_condF rfl rfl ?_
                refine ref_skip ?_
                refine n_block ?_
                refine n_then ?_
                refine ref_region ?_
                refine s_rd (r_add rfl rfl) rfl ?_
                refine s_rd (r_move rfl) rfl ?_
                refine l_nil ?_
                exact goX () (weak [0] ⟨rfl, rfl, rfl, rfl, trivial⟩ ⟨rfl, trivial⟩)
        · refine ref_exit ?_
          refine x_then ?_
          exact brkX () (weak [] trivial trivial)
      · refine n_then ?_
        refine ref_seq ?_
        refine ref_region ?_
        refine s_rd (r_assign rfl) rfl ?_
        refine l_nil ?_
        refine n_then ?_
        refine ref_ret ?_
        exact fin1 (.inl rfl) () [] rfl trivial rfl (rv_tmp rfl)

/-! deliberation/participant.Full -/
noncomputable def participant_Full_l1 (g_0 : T_api_Graph) (s21 : Int × (List Int)) : Option (Sum ((List Int)) (Int × (List Int))) :=
  bif decide (s21.1 < g_0.N) then
    Option.bind (appM 8 s21.2 [s21.1]) fun t24 =>
    some (Sum.inr (iadd .i64 s21.1 1, t24))
  else
    some (Sum.inl s21.2)

noncomputable def participant_Full_m (g_0 : T_api_Graph) (style_1 : Int) : Option (T_api_Player) :=
  Option.bind (graph_Validate_m g_0) fun t3 =>
  bif t3 != 0 then
    some (T_api_Player.mk [] [] [] 0)
  else
    Option.bind (loopC (participant_Full_l1 g_0) (0, [])) fun q26 : (List Int) =>
    some (T_api_Player.mk q26 [] [] style_1)

theorem participant_Full_ok {g_0 : T_api_Graph} {style_1 : Int} {r : T_api_Player} (hm : participant_Full_m g_0 style_1 = some r) :
    FnOk prog 17 [ag [iv .i64 g_0.N, slv rT_api_Pair g_0.L], iv .i64 style_1] [] (fun (x : Unit) => [ag [slv (rI .i64) r.Pool, slv (rI .i64) r.Withheld, slv rT_api_Move r.Script, iv .i64 r.Style]]) (fun (x : Unit) => []) := by
  refine fn_ok (X := Unit) (fn := Try.f17) (N := 26) (m := participant_Full_m g_0 style_1) (res := fun r x => [ag [slv (rI .i64) r.Pool, slv (rI .i64) r.Withheld, slv rT_api_Move r.Script, iv .i64 r.Style]]) (Ω1 := fun r x => []) Try.func17 rfl rfl hm rfl (fun E hM => ?_)
  unfold participant_Full_m
  refine ref_seq ?_
  refine ref_region ?_
  refine s_st (s_box (part_ag (ψs := [iv .i64 g_0.N, slv rT_api_Pair g_0.L]) rfl (by intro φ h; simp only [List.mem_cons, List.not_mem_nil, or_false] at h; rcases h with rfl | rfl <;> first | exact iv_at | exact bv_at | exact sv_at | exact slv_at | exact pv_at rfl))) rfl (fun b1 => ?_)
  refine s_st (s_alloc zt_25) rfl (fun b2 => ?_)
  refine l_nil ?_
  refine n_then ?_
  refine ref_seq ?_
  refine ref_seq ?_
  refine ref_region ?_
  refine s_rd (r_cloadS Try.isAgg28 Try.sizeOf28 rfl (j := 0) rfl rfl rfl) rfl ?_
  refine pull fun t3 h_t3 => ?_
  refine s_st (s_call (ψ := fun (_ : Unit) => iv .i64 t3) (args := [.tmp 7]) Try.call50 rfl (graph_Validate_ok h_t3) ⟨arg rfl, trivial⟩ (fun _ _ _ _ h => h)) rfl (fun _ => ?_)
  refine s_rd (r_neq rfl rfl) rfl ?_
  refine l_nil ?_
  refine n_then ?_
  refine ref_cond rfl (fun hb4 => ?_) (fun hb4 => ?_)
  · refine ref_seq ?_
    refine ref_region ?_
    refine s_rd (r_build (ps := []) (rs := []) st_25 zs_25 trivial rfl rfl) rfl ?_
    refine s_st0 (s_cstore (out := [pv (.slice none 0 0), pv (.slice none 0 0), pv (.slice none 0 0), iv .i64 0]) Try.sizeOf25 rfl (j := 1) rfl (part_agO (ψs := [pv (.slice none 0 0), pv (.slice none 0 0), pv (.slice none 0 0), iv .i64 0]) rfl ⟨.inl (pv_at rfl), .inl (pv_at rfl), .inl (pv_at rfl), .inl iv_at, trivial⟩) rfl rfl rfl) (fun _ => ?_)
    refine l_nil ?_
    refine b_of (nrm [oc b1 [iv .i64 g_0.N, slv rT_api_Pair g_0.L], oc b2 [pv (.slice none 0 0), pv (.slice none 0 0), pv (.slice none 0 0), iv .i64 0]] rfl) ?_
    refine n_then ?_
    refine ref_ret ?_
    refine r_then ?_
    refine b_of (ocW 1 [slv (rI .i64) [], slv (rI .i64) [], slv rT_api_Move [], iv .i64 0] rfl ⟨nil_sl, nil_sl, nil_sl, imp_rfl, trivial⟩) ?_
    exact fin1 (.inl rfl) () [] rfl trivial rfl (rv_cell rfl (j := 1) rfl Try.isAgg25 Try.sizeOf25 rfl rfl)
  · refine ref_skip ?_
    refine n_then ?_
    refine ref_seq ?_
    refine ref_region ?_
    refine s_rd (r_move rfl) rfl ?_
    refine s_rd (r_build (ps := [(3, .tmp 11)]) (rs := [(3, [iv .i64 style_1])]) st_25 zs_25 ⟨rfl, (part_at rfl iv_at), trivial⟩ rfl rfl) rfl ?_
    refine s_st (s_alloc zt_25) rfl (fun b5 => ?_)
    refine s_st0 (s_cstore (out := [pv (.slice none 0 0), pv (.slice none 0 0), pv (.slice none 0 0), iv .i64 style_1]) Try.sizeOf25 rfl (j := 2) rfl (part_agO (ψs := [pv (.slice none 0 0), pv (.slice none 0 0), pv (.slice none 0 0), iv .i64 style_1]) rfl ⟨.inl (pv_at rfl), .inl (pv_at rfl), .inl (pv_at rfl), .inl iv_at, trivial⟩) rfl rfl rfl) (fun _ => ?_)
    refine l_nil ?_
    refine b_of (nrm [oc b1 [iv .i64 g_0.N, slv rT_api_Pair g_0.L], oc b2 [pv (.slice none 0 0), pv (.slice none 0 0), pv (.slice none 0 0), iv .i64 0], oc b5 [pv (.slice none 0 0), pv (.slice none 0 0), pv (.slice none 0 0), iv .i64 style_1]] rfl) ?_
    refine n_then ?_
    refine ref_seq ?_
    refine ref_seq ?_
    refine ref_region ?_
    refine s_rd (r_faddr (fo := 0) Try.underlying28 rfl rfl Try.sizeOf3 rfl) rfl ?_
    refine s_rd (r_cload Try.isAgg3 rfl (j := 0) rfl rfl) rfl ?_
    refine s_rd (r_move rfl) rfl ?_
    refine l_nil ?_
    refine n_then ?_
    refine b_of (own_nil (rI .i64)) ?_
    refine ref_loopB (f := (participant_Full_l1 g_0)) (Γl := (fun (s21 : Int × (List Int)) (x22 : (Value × List Nat)) => [(4, pv (ptr b2 0)), (5, pv (ptr b5 0)), (14, iv .i64 g_0.N), (15, iv .i64 s21.1)])) (Ωl := (fun (s21 : Int × (List Int)) (x22 : (Value × List Nat)) => [oc b2 [pv (.slice none 0 0), pv (.slice none 0 0), pv (.slice none 0 0), iv .i64 0], oc b5 [pv x22.1, pv (.slice none 0 0), pv (.slice none 0 0), iv .i64 style_1], oa (rI .i64) x22.1 x22.2 s21.2])) (Γb := (fun (q26 : (List Int)) (y27 : (Value × List Nat)) => [(4, pv (ptr b2 0)), (5, pv (ptr b5 0))])) (Ωb := (fun (q26 : (List Int)) (y27 : (Value × List Nat)) => [oc b2 [pv (.slice none 0 0), pv (.slice none 0 0), pv (.slice none 0 0), iv .i64 0], oc b5 [pv y27.1, pv (.slice none 0 0), pv (.slice none 0 0), iv .i64 style_1], oa (rI .i64) y27.1 y27.2 q26])) (0, []) ((.slice none 0 0), []) (weak [1, 2, 3] ⟨rfl, rfl, rfl, rfl, trivial⟩ ⟨rfl, rfl, rfl, trivial⟩) (fun s21 x22 => ?_) (fun q26 y27 => ?_)
    · unfold participant_Full_l1
      refine ref_seq ?_
      refine ref_region ?_
      refine s_rd (r_lss rfl rfl) rfl ?_
      refine l_nil ?_
      refine n_then ?_
      refine ref_seq ?_
      refine ref_cond rfl (fun hb23 => ?_) (fun hb23 => ?_)
      · refine ref_skip ?_
        refine n_then ?_
        refine ref_seq ?_
        refine ref_block ?_
        refine ref_seq ?_
        refine ref_region ?_
        refine s_rd (r_move rfl) rfl ?_
        refine s_rd (r_assign rfl) rfl ?_
        refine l_nil ?_
        refine n_then ?_
        refine ref_region ?_
        refine s_rd (r_faddr (fo := 0) Try.underlying25 rfl rfl Try.sizeOf22 rfl) rfl ?_
        refine s_rd (r_cload Try.isAgg22 rfl (j := 1) rfl rfl) rfl ?_
        refine s_rd (r_move rfl) rfl ?_
        refine s_st (s_bslice (xs := [.tmp 20]) (ds := [s21.1]) Try.underlying22 el_3 rfl (Nat.le_of_ble_eq_true rfl) ⟨(part_at rfl iv_at), trivial⟩) rfl (fun _ => ?_)
        refine pull fun t24 h_t24 => ?_
        refine s_st (s_append h_t24 Try.underlying22 el_3 rfl (j := 2) rfl rfl) rfl (fun o25 => ?_)
        refine s_rd (r_faddr (fo := 0) Try.underlying25 rfl rfl Try.sizeOf22 rfl) rfl ?_
        refine s_st0 (s_cstore (out := [pv o25.1, pv (.slice none 0 0), pv (.slice none 0 0), iv .i64 style_1]) Try.sizeOf22 rfl (j := 1) rfl (part_own rfl (j := 2) rfl) rfl rfl rfl) (fun _ => ?_)
        refine l_nil ?_
        refine n_block ?_
        refine n_then ?_
        refine ref_region ?_
        refine s_rd (r_add rfl rfl) rfl ?_
        refine s_rd (r_move rfl) rfl ?_
        refine l_nil ?_
        exact goB o25 (weak [0, 1, 2] ⟨rfl, rfl, rfl, rfl, trivial⟩ ⟨rfl, rfl, rfl, trivial⟩)
      · refine ref_exit ?_
        refine x_then ?_
        exact brkB x22 (weak [0, 1, 2] ⟨rfl, rfl, trivial⟩ ⟨rfl, rfl, rfl, trivial⟩)
    · refine n_then ?_
      refine ref_seq ?_
      refine ref_region ?_
      refine s_rd (r_cloadS Try.isAgg25 Try.sizeOf25 rfl (j := 1) rfl rfl rfl) rfl ?_
      refine s_st0 (s_cstore (out := [pv y27.1, pv (.slice none 0 0), pv (.slice none 0 0), iv .i64 style_1]) Try.sizeOf25 rfl (j := 0) rfl (part_agO (ψs := [pv y27.1, pv (.slice none 0 0), pv (.slice none 0 0), iv .i64 style_1]) rfl ⟨.inr ⟨_, _, _, _, _, 2, rfl, rfl⟩, .inl (pv_at rfl), .inl (pv_at rfl), .inl iv_at, trivial⟩) rfl rfl rfl) (fun _ => ?_)
      refine l_nil ?_
      refine n_then ?_
      refine ref_ret ?_
      refine b_of (frzGL [(25, ag [slv (rI .i64) q26, pv (.slice none 0 0), pv (.slice none 0 0), iv .i64 style_1])] [(0, b2, [slv (rI .i64) q26, pv (.slice none 0 0), pv (.slice none 0 0), iv .i64 style_1]), (1, b5, [slv (rI .i64) q26, pv (.slice none 0 0), pv (.slice none 0 0), iv .i64 style_1])] (j := 2) rfl ⟨⟨_, rfl, .inr ⟨_, _, rfl, rfl, ⟨.inr ⟨rfl, rfl⟩, .inl rfl, .inl rfl, .inl rfl, trivial⟩⟩⟩, trivial⟩ ⟨⟨_, rfl, ⟨.inr ⟨rfl, rfl⟩, .inl rfl, .inl rfl, .inl rfl, trivial⟩⟩, ⟨_, rfl, ⟨.inr ⟨rfl, rfl⟩, .inl rfl, .inl rfl, .inl rfl, trivial⟩⟩, trivial⟩) ?_
      refine b_of (ocW 0 [slv (rI .i64) q26, slv (rI .i64) [], slv rT_api_Move [], iv .i64 style_1] rfl ⟨imp_rfl, nil_sl, nil_sl, imp_rfl, trivial⟩) ?_
      exact fin1 (.inl rfl) () [] rfl trivial rfl (rv_cell rfl (j := 0) rfl Try.isAgg25 Try.sizeOf25 rfl rfl)

/-! deliberation/deliberationlaw28.awake -/
noncomputable def law28_awake_m  : Option (Bool) :=
  Option.bind (ref27_New_m (T_api_Graph.mk 3 [(T_api_Pair.mk 0 1), (T_api_Pair.mk 1 2)]) 2 (T_arr2_3.mk 9 9)) fun t2 =>
  Option.bind (participant_Full_m (T_api_Graph.mk 3 [(T_api_Pair.mk 0 1), (T_api_Pair.mk 1 2)]) 1) fun t4 =>
  Option.bind (participant_Run_m t2.1 t4 t4) fun t6 =>
  bif t6.2 == 0 then
    bif (t6.1.Moves.length : Int) == 3 then
      Option.bind (ref27_End_m t6.1) fun t8 =>
      letM (decide (t8 = (T_api_Outcome.mk 1 1))) fun t9 =>
      some t9
    else
      some false
  else
    some false

theorem law28_awake_ok  {r : Bool} (hm : law28_awake_m  = some r) :
    FnOk prog 8 [] [] (fun (x : Unit) => [bv r]) (fun (x : Unit) => []) := by
  refine fn_ok (X := Unit) (fn := Try.f8) (N := 40) (m := law28_awake_m ) (res := fun r x => [bv r]) (Ω1 := fun r x => []) Try.func8 rfl rfl hm rfl (fun E hM => ?_)
  unfold law28_awake_m
  refine ref_seq ?_
  refine ref_region ?_
  refine s_rd (r_assign rfl) rfl ?_
  refine l_nil ?_
  refine n_then ?_
  refine ref_seq ?_
  refine ref_region ?_
  refine s_rd (r_build (ps := [(0, .const (.int .i64 (0))), (1, .const (.int .i64 (1)))]) (rs := [(0, [iv .i64 0]), (1, [iv .i64 1])]) st_67 zs_67 ⟨rfl, (part_at rfl iv_at), ⟨rfl, (part_at rfl iv_at), trivial⟩⟩ rfl rfl) rfl ?_
  refine s_rd (r_build (ps := [(0, .const (.int .i64 (1))), (1, .const (.int .i64 (2)))]) (rs := [(0, [iv .i64 1]), (1, [iv .i64 2])]) st_67 zs_67 ⟨rfl, (part_at rfl iv_at), ⟨rfl, (part_at rfl iv_at), trivial⟩⟩ rfl rfl) rfl ?_
  refine s_st (s_bslice (xs := [.tmp 7, .tmp 8]) (ds := [(T_api_Pair.mk 0 1), (T_api_Pair.mk 1 2)]) Try.underlying26 el_67 rfl (Nat.le_of_ble_eq_true rfl) ⟨(part_ag (ψs := [iv .i64 0, iv .i64 1]) rfl (by intro φ h; simp only [List.mem_cons, List.not_mem_nil, or_false] at h; rcases h with rfl | rfl <;> first | exact iv_at | exact bv_at | exact sv_at | exact slv_at | exact pv_at rfl)), ⟨(part_ag (ψs := [iv .i64 1, iv .i64 2]) rfl (by intro φ h; simp only [List.mem_cons, List.not_mem_nil, or_false] at h; rcases h with rfl | rfl <;> first | exact iv_at | exact bv_at | exact sv_at | exact slv_at | exact pv_at rfl)), trivial⟩⟩) rfl (fun _ => ?_)
  refine s_rd (r_build (ps := [(0, .const (.int .i64 (3))), (1, .tmp 9)]) (rs := [(0, [iv .i64 3]), (1, [slv rT_api_Pair [(T_api_Pair.mk 0 1), (T_api_Pair.mk 1 2)]])]) st_28 zs_28 ⟨rfl, (part_at rfl iv_at), ⟨rfl, (part_at rfl slv_at), trivial⟩⟩ rfl rfl) rfl ?_
  refine s_st (s_alloc zt_28) rfl (fun b1 => ?_)
  refine s_st0 (s_cstore (out := [iv .i64 3, slv rT_api_Pair [(T_api_Pair.mk 0 1), (T_api_Pair.mk 1 2)]]) Try.sizeOf28 rfl (j := 0) rfl (part_ag (ψs := [iv .i64 3, slv rT_api_Pair [(T_api_Pair.mk 0 1), (T_api_Pair.mk 1 2)]]) rfl (by intro φ h; simp only [List.mem_cons, List.not_mem_nil, or_false] at h; rcases h with rfl | rfl <;> first | exact iv_at | exact bv_at | exact sv_at | exact slv_at | exact pv_at rfl)) rfl rfl rfl) (fun _ => ?_)
  refine l_nil ?_
  refine n_then ?_
  refine ref_seq ?_
  refine ref_region ?_
  refine s_rd (r_cloadS Try.isAgg28 Try.sizeOf28 rfl (j := 0) rfl rfl rfl) rfl ?_
  refine s_rd (r_buildA (ps := [(0, .const (.int .i64 (9))), (1, .const (.int .i64 (9)))]) (rs := [(0, [iv .i64 9]), (1, [iv .i64 9])]) (sz := 1) Try.underlying33 Try.sizeOf3 ⟨_, _, Try.type33, rfl⟩ zs_33 ⟨rfl, (part_at rfl iv_at), ⟨rfl, (part_at rfl iv_at), trivial⟩⟩ rfl rfl) rfl ?_
  refine pull fun t2 h_t2 => ?_
  refine s_st (s_call (ψ := fun (_ : Unit) => tup [ag [iv .i64 t2.1.Graph.N, slv rT_api_Pair t2.1.Graph.L, iv .i64 t2.1.Root, iv .i64 t2.1.Limits.i0, iv .i64 t2.1.Limits.i1, slv rT_api_Move t2.1.Moves], iv .i64 t2.2]) (args := [.tmp 12, .const (.int .i64 (2)), .tmp 13]) Try.call21 rfl (ref27_New_ok h_t2) ⟨arg rfl, arg rfl, arg rfl, trivial⟩ (fun _ _ _ _ h => h)) rfl (fun _ => ?_)
  refine s_rd (r_move rfl) rfl ?_
  refine s_rd (r_extract rfl rfl) rfl ?_
  refine s_rd (r_extract rfl rfl) rfl ?_
  refine s_st (s_alloc zt_35) rfl (fun b3 => ?_)
  refine s_st0 (s_cstore (out := [iv .i64 t2.1.Graph.N, slv rT_api_Pair t2.1.Graph.L, iv .i64 t2.1.Root, iv .i64 t2.1.Limits.i0, iv .i64 t2.1.Limits.i1, slv rT_api_Move t2.1.Moves]) Try.sizeOf35 rfl (j := 1) rfl (part_ag (ψs := [iv .i64 t2.1.Graph.N, slv rT_api_Pair t2.1.Graph.L, iv .i64 t2.1.Root, iv .i64 t2.1.Limits.i0, iv .i64 t2.1.Limits.i1, slv rT_api_Move t2.1.Moves]) rfl (by intro φ h; simp only [List.mem_cons, List.not_mem_nil, or_false] at h; rcases h with rfl | rfl | rfl | rfl | rfl | rfl <;> first | exact iv_at | exact bv_at | exact sv_at | exact slv_at | exact pv_at rfl)) rfl rfl rfl) (fun _ => ?_)
  refine s_rd (r_assign rfl) rfl ?_
  refine l_nil ?_
  refine b_of (nrm [oc b1 [iv .i64 3, slv rT_api_Pair [(T_api_Pair.mk 0 1), (T_api_Pair.mk 1 2)]], oc b3 [iv .i64 t2.1.Graph.N, slv rT_api_Pair t2.1.Graph.L, iv .i64 t2.1.Root, iv .i64 t2.1.Limits.i0, iv .i64 t2.1.Limits.i1, slv rT_api_Move t2.1.Moves]] rfl) ?_
  refine n_then ?_
  refine ref_seq ?_
  refine ref_region ?_
  refine s_rd (r_cloadS Try.isAgg28 Try.sizeOf28 rfl (j := 0) rfl rfl rfl) rfl ?_
  refine pull fun t4 h_t4 => ?_
  refine s_st (s_call (ψ := fun (_ : Unit) => ag [slv (rI .i64) t4.Pool, slv (rI .i64) t4.Withheld, slv rT_api_Move t4.Script, iv .i64 t4.Style]) (args := [.tmp 17, .const (.int .i64 (1))]) Try.call17 rfl (participant_Full_ok h_t4) ⟨arg rfl, arg rfl, trivial⟩ (fun _ _ _ _ h => h)) rfl (fun _ => ?_)
  refine s_st (s_alloc zt_25) rfl (fun b5 => ?_)
  refine s_st0 (s_cstore (out := [slv (rI .i64) t4.Pool, slv (rI .i64) t4.Withheld, slv rT_api_Move t4.Script, iv .i64 t4.Style]) Try.sizeOf25 rfl (j := 2) rfl (part_ag (ψs := [slv (rI .i64) t4.Pool, slv (rI .i64) t4.Withheld, slv rT_api_Move t4.Script, iv .i64 t4.Style]) rfl (by intro φ h; simp only [List.mem_cons, List.not_mem_nil, or_false] at h; rcases h with rfl | rfl | rfl | rfl <;> first | exact iv_at | exact bv_at | exact sv_at | exact slv_at | exact pv_at rfl)) rfl rfl rfl) (fun _ => ?_)
  refine l_nil ?_
  refine n_then ?_
  refine ref_seq ?_
  refine ref_region ?_
  refine s_rd (r_cloadS Try.isAgg35 Try.sizeOf35 rfl (j := 1) rfl rfl rfl) rfl ?_
  refine s_rd (r_cloadS Try.isAgg25 Try.sizeOf25 rfl (j := 2) rfl rfl rfl) rfl ?_
  refine s_rd (r_cloadS Try.isAgg25 Try.sizeOf25 rfl (j := 2) rfl rfl rfl) rfl ?_
  refine pull fun t6 h_t6 => ?_
  refine s_st (s_call (ψ := fun (_ : Unit) => tup [ag [iv .i64 t6.1.Graph.N, slv rT_api_Pair t6.1.Graph.L, iv .i64 t6.1.Root, iv .i64 t6.1.Limits.i0, iv .i64 t6.1.Limits.i1, slv rT_api_Move t6.1.Moves], iv .i64 t6.2]) (args := [.tmp 20, .tmp 21, .tmp 22]) Try.call14 rfl (participant_Run_ok h_t6) ⟨arg rfl, arg rfl, arg rfl, trivial⟩ (fun _ _ _ _ h => h)) rfl (fun _ => ?_)
  refine s_rd (r_move rfl) rfl ?_
  refine s_rd (r_extract rfl rfl) rfl ?_
  refine s_rd (r_extract rfl rfl) rfl ?_
  refine s_st (s_alloc zt_35) rfl (fun b7 => ?_)
  refine s_st0 (s_cstore (out := [iv .i64 t6.1.Graph.N, slv rT_api_Pair t6.1.Graph.L, iv .i64 t6.1.Root, iv .i64 t6.1.Limits.i0, iv .i64 t6.1.Limits.i1, slv rT_api_Move t6.1.Moves]) Try.sizeOf35 rfl (j := 3) rfl (part_ag (ψs := [iv .i64 t6.1.Graph.N, slv rT_api_Pair t6.1.Graph.L, iv .i64 t6.1.Root, iv .i64 t6.1.Limits.i0, iv .i64 t6.1.Limits.i1, slv rT_api_Move t6.1.Moves]) rfl (by intro φ h; simp only [List.mem_cons, List.not_mem_nil, or_false] at h; rcases h with rfl | rfl | rfl | rfl | rfl | rfl <;> first | exact iv_at | exact bv_at | exact sv_at | exact slv_at | exact pv_at rfl)) rfl rfl rfl) (fun _ => ?_)
  refine s_rd (r_assign rfl) rfl ?_
  refine l_nil ?_
  refine b_of (nrm [oc b1 [iv .i64 3, slv rT_api_Pair [(T_api_Pair.mk 0 1), (T_api_Pair.mk 1 2)]], oc b3 [iv .i64 t2.1.Graph.N, slv rT_api_Pair t2.1.Graph.L, iv .i64 t2.1.Root, iv .i64 t2.1.Limits.i0, iv .i64 t2.1.Limits.i1, slv rT_api_Move t2.1.Moves], oc b5 [slv (rI .i64) t4.Pool, slv (rI .i64) t4.Withheld, slv rT_api_Move t4.Script, iv .i64 t4.Style], oc b7 [iv .i64 t6.1.Graph.N, slv rT_api_Pair t6.1.Graph.L, iv .i64 t6.1.Root, iv .i64 t6.1.Limits.i0, iv .i64 t6.1.Limits.i1, slv rT_api_Move t6.1.Moves]] rfl) ?_
  refine n_then ?_
  refine ref_seq ?_
  refine ref_region ?_
  refine s_rd (r_move rfl) rfl ?_
  refine s_rd (r_eql rfl rfl) rfl ?_
  refine s_rd (r_move rfl) rfl ?_
  refine b_split (t := 28) rfl (fun _ => ?_) (fun _ => ?_)
  · refine s_on rfl rfl rfl ?_
    refine s_rd (r_faddr (fo := 5) Try.underlying35 rfl rfl Try.sizeOf23 rfl) rfl ?_
    refine s_on rfl rfl rfl ?_
    refine s_rd (r_cload Try.isAgg23 rfl (j := 3) rfl rfl) rfl ?_
    refine s_on rfl rfl rfl ?_
    refine s_rd (r_len Try.underlying23 rfl) rfl ?_
    refine s_on rfl rfl rfl ?_
    refine s_rd (r_eql rfl rfl) rfl ?_
    refine s_rd (r_pickT rfl rfl) rfl ?_
    refine s_rd (r_move rfl) rfl ?_
    refine b_split (t := 34) rfl (fun _ => ?_) (fun _ => ?_)
    · refine s_on rfl rfl rfl ?_
      refine s_rd (r_cloadS Try.isAgg35 Try.sizeOf35 rfl (j := 3) rfl rfl rfl) rfl ?_
      refine s_on rfl rfl rfl ?_
      refine pull fun t8 h_t8 => ?_
      refine s_st (s_call (ψ := fun (_ : Unit) => ag [iv .i64 t8.Winner, iv .i64 t8.Reason]) (args := [.tmp 35]) Try.call23 rfl (ref27_End_ok h_t8) ⟨arg rfl, trivial⟩ (fun _ _ _ _ h => h)) rfl (fun _ => ?_)
      refine s_on rfl rfl rfl ?_
      refine s_rd (r_build (ps := [(0, .const (.int .i64 (1))), (1, .const (.int .i64 (1)))]) (rs := [(0, [iv .i64 1]), (1, [iv .i64 1])]) st_57 zs_57 ⟨rfl, (part_at rfl iv_at), ⟨rfl, (part_at rfl iv_at), trivial⟩⟩ rfl rfl) rfl ?_
      refine s_on rfl rfl rfl ?_
      refine s_rd (r_steql (u := t8) (v := (T_api_Outcome.mk 1 1)) eq_57 rfl rfl rfl rfl) rfl ?_
      refine s_rd (r_pickT rfl rfl) rfl ?_
      refine s_rd (r_assign rfl) rfl ?_
      refine b_let (f := bv) (t := 0) rfl fun t9 => ?_
      refine l_nil ?_
      refine n_then ?_
      refine ref_ret ?_
      exact fin1 (.inl rfl) () [] rfl trivial rfl (rv_tmp rfl)
    · refine s_off rfl rfl rfl rfl rfl ?_
      refine s_off rfl rfl rfl rfl rfl ?_
      refine s_off rfl rfl rfl rfl rfl ?_
      refine s_off rfl rfl rfl rfl rfl ?_
      refine s_rd (r_pickF rfl rfl) rfl ?_
      refine s_rd (r_assign rfl) rfl ?_
      refine l_nil ?_
      refine n_then ?_
      refine ref_ret ?_
      exact fin1 (.inl rfl) () [] rfl trivial rfl (rv_tmp rfl)
  · refine s_off rfl rfl rfl rfl rfl ?_
    refine s_off rfl rfl rfl rfl rfl ?_
    refine s_off rfl rfl rfl rfl rfl ?_
    refine s_off rfl rfl rfl rfl rfl ?_
    refine s_rd (r_pickF rfl rfl) rfl ?_
    refine s_rd (r_move rfl) rfl ?_
    refine s_off rfl rfl rfl rfl rfl ?_
    refine s_off rfl rfl rfl rfl rfl ?_
    refine s_off rfl rfl rfl rfl rfl ?_
    refine s_off rfl rfl rfl rfl rfl ?_
    refine s_rd (r_pickF rfl rfl) rfl ?_
    refine s_rd (r_assign rfl) rfl ?_
    refine l_nil ?_
    refine n_then ?_
    refine ref_ret ?_
    exact fin1 (.inl rfl) () [] rfl trivial rfl (rv_tmp rfl)

/-! deliberation/deliberationlaw28.ParticipantSilent -/
noncomputable def law28_ParticipantSilent_l1 (t10 : T_api_Player × T_deliberationkeep_Src) (t11 : T_api_Player × T_deliberationkeep_Src) (t13 : T_api_Dialogue × Int) (s65 : Int × T_api_Dialogue) : Option (Sum ((Sum (Bool) (T_api_Dialogue))) (Int × T_api_Dialogue)) :=
  bif decide (s65.1 < (t13.1.Moves.length : Int)) then
    Option.bind (idxM t13.1.Moves s65.1) fun t68 =>
    bif decide (t68.By < 1) then
      some (Sum.inl (Sum.inl false))
    else
      bif decide (t68.By > 2) then
        some (Sum.inl (Sum.inl false))
      else
        Option.bind (idxM [t10.1, t11.1] (isub .i64 t68.By 1)) fun t71 =>
        joinM (fun j76 : Unit =>
            joinM (fun j82 : Unit =>
                Option.bind (ref27_Apply_m s65.2 t68) fun t85 =>
                bif t85.2 != 0 then
                  some (Sum.inl (Sum.inl false))
                else
                  letM (iadd .i64 s65.1 1) fun i88 =>
                  some (Sum.inr (i88, t85.1))) fun k84 =>
            bif t68.Kind == 4 then
              bif (t71.Script.length : Int) == 0 then
                Option.bind (ref28_Attacks_m s65.2 t71) fun t79 =>
                bif decide ((t79.length : Int) > 0) then
                  some (Sum.inl (Sum.inl false))
                else
                  k84 ()
              else
                k84 ()
            else
              k84 ()) fun k78 =>
        bif t68.Kind == 2 then
          Option.bind (keep_In_m t71.Pool t68.Node) fun t73 =>
          bif !t73 then
            some (Sum.inl (Sum.inl false))
          else
            Option.bind (keep_In_m t71.Withheld t68.Node) fun t74 =>
            bif t74 then
              some (Sum.inl (Sum.inl false))
            else
              k78 ()
        else
          k78 ()
  else
    some (Sum.inl (Sum.inr s65.2))

noncomputable def law28_ParticipantSilent_m (l_0 : (List Int)) : Option (Bool) :=
  Option.bind (keep_New_m l_0) fun s1 =>
  Option.bind (net_Graph_m s1 5) fun t3 =>
  Option.bind (keep_Src_N_m t3.2 t3.1.N) fun t6 =>
  Option.bind (ref27_New_m t3.1 t6.1 (T_arr2_3.mk 30 30)) fun t7 =>
  Option.bind (law28_player_m t6.2 t3.1) fun t10 =>
  Option.bind (law28_player_m t10.2 t3.1) fun t11 =>
  Option.bind (participant_Run_m t7.1 t10.1 t11.1) fun t13 =>
  bif t13.2 != 0 then
    some false
  else
    bif (t13.1.Moves.length : Int) == 0 then
      some false
    else
      Option.bind (ref27_End_m t13.1) fun t15 =>
      bif decide (t15 = (T_api_Outcome.mk 0 0)) then
        some false
      else
        Option.bind (loopC (law28_ParticipantSilent_l1 t10 t11 t13) (1, t7.1)) (sumK (fun a : Bool => some a) fun q89 : T_api_Dialogue =>
          Option.bind (ref27_Same_m q89 t13.1) fun t91 =>
          bif t91 then
            Option.bind (law28_awake_m ) fun t92 =>
            some t92
          else
            some false)

theorem law28_ParticipantSilent_ok {l_0 : (List Int)} {r : Bool} (hm : law28_ParticipantSilent_m l_0 = some r) :
    FnOk prog 4 [slv (rI .i64) l_0] [] (fun (x : Unit) => [bv r]) (fun (x : Unit) => []) := by
  refine fn_ok (X := Unit) (fn := Try.f4) (N := 135) (m := law28_ParticipantSilent_m l_0) (res := fun r x => [bv r]) (Ω1 := fun r x => []) Try.func4 rfl rfl hm rfl (fun E hM => ?_)
  unfold law28_ParticipantSilent_m
  refine ref_seq ?_
  refine ref_region ?_
  refine s_rd (r_assign rfl) rfl ?_
  refine l_nil ?_
  refine n_then ?_
  refine ref_seq ?_
  refine ref_region ?_
  refine s_rd (r_move rfl) rfl ?_
  refine pull fun s1 h_s1 => ?_
  refine s_st (s_call (ψ := fun (x2 : Nat) => pv (ptr x2 0)) (args := [.tmp 16]) Try.call9 rfl (keep_New_ok h_s1) ⟨arg rfl, trivial⟩ (fun _ _ _ _ h => h)) rfl (fun x2 => ?_)
  refine s_rd (r_assign rfl) rfl ?_
  refine l_nil ?_
  refine n_then ?_
  refine ref_seq ?_
  refine ref_region ?_
  refine s_rd (r_move rfl) rfl ?_
  refine pull fun t3 h_t3 => ?_
  refine s_st (s_callC [0] [true] (fun (_ : Unit) => [oc x2 [slv (rI .i64) t3.2.L, iv .i64 t3.2.At]]) (fun (_ : Unit) => []) (fun (_ : Unit) => ag [iv .i64 t3.1.N, slv rT_api_Pair t3.1.L]) (args := [.tmp 18, .const (.int .i64 (5))]) (caps := []) Try.call20 rfl (net_Graph_ok h_t3) ⟨rfl, rfl, trivial⟩ (fun _ => rfl) (fun _ => trivial) (fun _ => rfl) ⟨arg rfl, arg rfl, trivial⟩ (fun _ _ _ _ h => h)) rfl (fun _ => ?_)
  refine s_st (s_alloc zt_28) rfl (fun b4 => ?_)
  refine s_st0 (s_cstore (out := [iv .i64 t3.1.N, slv rT_api_Pair t3.1.L]) Try.sizeOf28 rfl (j := 1) rfl (part_ag (ψs := [iv .i64 t3.1.N, slv rT_api_Pair t3.1.L]) rfl (by intro φ h; simp only [List.mem_cons, List.not_mem_nil, or_false] at h; rcases h with rfl | rfl <;> first | exact iv_at | exact bv_at | exact sv_at | exact slv_at | exact pv_at rfl)) rfl rfl rfl) (fun _ => ?_)
  refine l_nil ?_
  refine b_of (nrm [oc x2 [slv (rI .i64) t3.2.L, iv .i64 t3.2.At], oc b4 [iv .i64 t3.1.N, slv rT_api_Pair t3.1.L]] rfl) ?_
  refine n_then ?_
  refine ref_seq ?_
  refine pull fun t6 h_t6 => ?_
  refine pull fun t7 h_t7 => ?_
  refine ref_drawI 1 [⟨[], [], [], [1], [], fun us u => ag [iv .i64 t3.1.N, slv rT_api_Pair t3.1.L], fun us u => []⟩, ⟨[], [], [], [], [], fun us u => pv (ptr x2 0), fun us u => []⟩, ⟨[], [], [], [], [], fun us u => pv (ptr b4 0), fun us u => []⟩, ⟨[2], [], [], [1], [], fun us u => iv .i64 t3.1.N, fun us u => []⟩, ⟨[1, 2, 3], [], [0], [0], [0], fun us u => iv .i64 t6.1, fun us u => [oc x2 [slv (rI .i64) t6.2.L, iv .i64 t6.2.At]]⟩, ⟨[], [], [], [], [], fun us u => ag [iv .i64 30, iv .i64 30], fun us u => []⟩, ⟨[0, 1, 2, 3, 4, 5], [], [], [], [], fun us u => tup [ag [iv .i64 t7.1.Graph.N, slv rT_api_Pair t7.1.Graph.L, iv .i64 t7.1.Root, iv .i64 t7.1.Limits.i0, iv .i64 t7.1.Limits.i1, slv rT_api_Move t7.1.Moves], iv .i64 t7.2], fun us u => []⟩, ⟨[0, 1, 2, 3, 4, 5, 6], [], [], [], [], fun us u => tup [ag [iv .i64 t7.1.Graph.N, slv rT_api_Pair t7.1.Graph.L, iv .i64 t7.1.Root, iv .i64 t7.1.Limits.i0, iv .i64 t7.1.Limits.i1, slv rT_api_Move t7.1.Moves], iv .i64 t7.2], fun us u => []⟩, ⟨[0, 1, 2, 3, 4, 5, 6, 7], [], [], [], [], fun us u => ag [iv .i64 t7.1.Graph.N, slv rT_api_Pair t7.1.Graph.L, iv .i64 t7.1.Root, iv .i64 t7.1.Limits.i0, iv .i64 t7.1.Limits.i1, slv rT_api_Move t7.1.Moves], fun us u => []⟩, ⟨[0, 1, 2, 3, 4, 5, 6, 7], [], [], [], [], fun us u => iv .i64 t7.2, fun us u => []⟩, ⟨[], [], [2], [2], [], fun us u => pv (ptr u.Nn 0), fun us u => [oc u.Nn [iv .i64 0, pv (.slice none 0 0), iv .i64 0, iv .i64 0, iv .i64 0, pv (.slice none 0 0)]]⟩, ⟨[0, 1, 2, 3, 4, 5, 6, 7, 8, 10], [10], [2], [2], [2], fun us u => pv undef, fun us u => [oc (us.getD 0 .none).Nn [iv .i64 t7.1.Graph.N, slv rT_api_Pair t7.1.Graph.L, iv .i64 t7.1.Root, iv .i64 t7.1.Limits.i0, iv .i64 t7.1.Limits.i1, slv rT_api_Move t7.1.Moves]]⟩, ⟨[0, 1, 2, 3, 4, 5, 6, 7, 8, 9, 10, 11], [], [], [], [], fun us u => iv .i64 t7.2, fun us u => []⟩] (fun χ5 => [(3, pv (ptr x2 0)), (4, pv (ptr b4 0)), (5, pv (ptr (χ5 10).Nn 0))]) (fun χ5 => [oc x2 [slv (rI .i64) t6.2.L, iv .i64 t6.2.At], oc b4 [iv .i64 t3.1.N, slv rT_api_Pair t3.1.L], oc (χ5 10).Nn [iv .i64 t7.1.Graph.N, slv rT_api_Pair t7.1.Graph.L, iv .i64 t7.1.Root, iv .i64 t7.1.Limits.i0, iv .i64 t7.1.Limits.i1, slv rT_api_Move t7.1.Moves]]) rfl (by kernel_rfl) ⟨fun χ5 Ω ⟨h1, _⟩ => St.toR (r_cloadS Try.isAgg28 Try.sizeOf28 rfl (j := 1) h1 rfl rfl) (fun _ => rfl) (fun _ => rfl), (by intro _ h; cases h; rfl), ⟨fun χ5 Ω _ => St.toR (r_move rfl) (fun _ => rfl) (fun _ => rfl), (by intro _ h; cases h; rfl), ⟨fun χ5 Ω _ => St.toR (r_faddr (fo := 0) Try.underlying28 rfl rfl Try.sizeOf3 rfl) (fun _ => rfl) (fun _ => rfl), (by intro _ h; cases h; rfl), ⟨fun χ5 Ω ⟨h1, _⟩ => St.toR (r_cload Try.isAgg3 rfl (j := 1) h1 rfl) (fun _ => rfl) (fun _ => rfl), (by intro _ h; cases h; rfl), ⟨fun χ5 Ω ⟨h0, _⟩ => St.to XU.U XU.hU (St.placeL [] (s_callC [0] [true] (fun (_ : Unit) => [oc x2 [slv (rI .i64) t6.2.L, iv .i64 t6.2.At]]) (fun (_ : Unit) => []) (fun (_ : Unit) => iv .i64 t6.1) (args := [.tmp 22, .tmp 24]) (caps := []) Try.call22 rfl (keep_Src_N_ok h_t6) ⟨h0, rfl, trivial⟩ (fun _ => rfl) (fun _ => trivial) (fun _ => rfl) ⟨arg rfl, arg rfl, trivial⟩ (fun _ _ _ _ h => h)) (fun _ => rfl) (fun _ => trivial)) (fun _ => rfl) (fun _ => rfl), (by intro _ h; cases h; rfl), ⟨fun χ5 Ω _ => St.toR (r_buildA (ps := [(0, .const (.int .i64 (30))), (1, .const (.int .i64 (30)))]) (rs := [(0, [iv .i64 30]), (1, [iv .i64 30])]) (sz := 1) Try.underlying33 Try.sizeOf3 ⟨_, _, Try.type33, rfl⟩ zs_33 ⟨rfl, (part_at rfl iv_at), ⟨rfl, (part_at rfl iv_at), trivial⟩⟩ rfl rfl) (fun _ => rfl) (fun _ => rfl), (by intro _ h; cases h; rfl), ⟨fun χ5 Ω _ => St.to XU.U XU.hU (St.placeL [] (s_call (ψ := fun (_ : Unit) => tup [ag [iv .i64 t7.1.Graph.N, slv rT_api_Pair t7.1.Graph.L, iv .i64 t7.1.Root, iv .i64 t7.1.Limits.i0, iv .i64 t7.1.Limits.i1, slv rT_api_Move t7.1.Moves], iv .i64 t7.2]) (args := [.tmp 21, .tmp 25, .tmp 26]) Try.call21 rfl (ref27_New_ok h_t7) ⟨arg rfl, arg rfl, arg rfl, trivial⟩ (fun _ _ _ _ h => h)) (fun _ => rfl) (fun _ => trivial)) (fun _ => rfl) (fun _ => rfl), (by intro _ h; cases h; rfl), ⟨fun χ5 Ω _ => St.toR (r_move rfl) (fun _ => rfl) (fun _ => rfl), (by intro _ h; cases h; rfl), ⟨fun χ5 Ω _ => St.toR (r_extract rfl rfl) (fun _ => rfl) (fun _ => rfl), (by intro _ h; cases h; rfl), ⟨fun χ5 Ω _ => St.toR (r_extract rfl rfl) (fun _ => rfl) (fun _ => rfl), (by intro _ h; cases h; rfl), ⟨fun χ5 Ω ⟨h2, _⟩ => St.to XU.Nn XU.hN (St.placeL (os := fun _ => [_]) [2] (s_alloc zt_35) (fun _ => rfl) (fun _ => ⟨h2, rfl, trivial⟩)) (fun _ => rfl) (fun _ => rfl), (by intro _ h; cases h; rfl), ⟨fun χ5 Ω ⟨h2, _⟩ => St.to XU.U XU.hU (s_cstore (out := [iv .i64 t7.1.Graph.N, slv rT_api_Pair t7.1.Graph.L, iv .i64 t7.1.Root, iv .i64 t7.1.Limits.i0, iv .i64 t7.1.Limits.i1, slv rT_api_Move t7.1.Moves]) Try.sizeOf35 rfl (j := 2) h2 (part_ag (ψs := [iv .i64 t7.1.Graph.N, slv rT_api_Pair t7.1.Graph.L, iv .i64 t7.1.Root, iv .i64 t7.1.Limits.i0, iv .i64 t7.1.Limits.i1, slv rT_api_Move t7.1.Moves]) rfl (by intro φ h; simp only [List.mem_cons, List.not_mem_nil, or_false] at h; rcases h with rfl | rfl | rfl | rfl | rfl | rfl <;> first | exact iv_at | exact bv_at | exact sv_at | exact slv_at | exact pv_at rfl)) rfl rfl rfl) (fun _ => rfl) (fun _ => rfl), (by intro _ h; cases h), ⟨fun χ5 Ω _ => St.toR (r_assign rfl) (fun _ => rfl) (fun _ => rfl), (by intro _ h; cases h; rfl), trivial⟩⟩⟩⟩⟩⟩⟩⟩⟩⟩⟩⟩⟩ (fun _ => ⟨rfl, rfl, rfl, trivial⟩) (fun _ => rfl) (fun χ5 => ?_)
  refine n_then ?_
  refine ref_seq ?_
  refine pull fun t10 h_t10 => ?_
  refine pull fun t11 h_t11 => ?_
  refine ref_drawI 1 [⟨[], [], [], [], [], fun us u => pv (ptr x2 0), fun us u => []⟩, ⟨[], [], [], [1], [], fun us u => ag [iv .i64 t3.1.N, slv rT_api_Pair t3.1.L], fun us u => []⟩, ⟨[0, 1], [], [0], [0], [0], fun us u => ag [slv (rI .i64) t10.1.Pool, slv (rI .i64) t10.1.Withheld, slv rT_api_Move t10.1.Script, iv .i64 t10.1.Style], fun us u => [oc x2 [slv (rI .i64) t10.2.L, iv .i64 t10.2.At]]⟩, ⟨[], [], [], [], [], fun us u => pv (ptr x2 0), fun us u => []⟩, ⟨[], [], [], [1], [], fun us u => ag [iv .i64 t3.1.N, slv rT_api_Pair t3.1.L], fun us u => []⟩, ⟨[0, 1, 2, 3, 4], [], [0], [0], [0], fun us u => ag [slv (rI .i64) t11.1.Pool, slv (rI .i64) t11.1.Withheld, slv rT_api_Move t11.1.Script, iv .i64 t11.1.Style], fun us u => [oc x2 [slv (rI .i64) t11.2.L, iv .i64 t11.2.At]]⟩, ⟨[0, 1, 2, 3, 4, 5], [], [], [], [], fun us u => ag [slv (rI .i64) t10.1.Pool, slv (rI .i64) t10.1.Withheld, slv rT_api_Move t10.1.Script, iv .i64 t10.1.Style, slv (rI .i64) t11.1.Pool, slv (rI .i64) t11.1.Withheld, slv rT_api_Move t11.1.Script, iv .i64 t11.1.Style], fun us u => []⟩, ⟨[], [], [3], [3], [], fun us u => pv (ptr u.Nn 0), fun us u => [oc u.Nn [pv (.slice none 0 0), pv (.slice none 0 0), pv (.slice none 0 0), iv .i64 0, pv (.slice none 0 0), pv (.slice none 0 0), pv (.slice none 0 0), iv .i64 0]]⟩, ⟨[0, 1, 2, 3, 4, 5, 6, 7], [7], [3], [3], [3], fun us u => pv undef, fun us u => [oc (us.getD 0 .none).Nn [slv (rI .i64) t10.1.Pool, slv (rI .i64) t10.1.Withheld, slv rT_api_Move t10.1.Script, iv .i64 t10.1.Style, slv (rI .i64) t11.1.Pool, slv (rI .i64) t11.1.Withheld, slv rT_api_Move t11.1.Script, iv .i64 t11.1.Style]]⟩] (fun χ9 => [(5, pv (ptr (χ5 10).Nn 0)), (7, pv (ptr (χ9 7).Nn 0))]) (fun χ9 => [oc x2 [slv (rI .i64) t11.2.L, iv .i64 t11.2.At], oc b4 [iv .i64 t3.1.N, slv rT_api_Pair t3.1.L], oc (χ5 10).Nn [iv .i64 t7.1.Graph.N, slv rT_api_Pair t7.1.Graph.L, iv .i64 t7.1.Root, iv .i64 t7.1.Limits.i0, iv .i64 t7.1.Limits.i1, slv rT_api_Move t7.1.Moves], oc (χ9 7).Nn [slv (rI .i64) t10.1.Pool, slv (rI .i64) t10.1.Withheld, slv rT_api_Move t10.1.Script, iv .i64 t10.1.Style, slv (rI .i64) t11.1.Pool, slv (rI .i64) t11.1.Withheld, slv rT_api_Move t11.1.Script, iv .i64 t11.1.Style]]) rfl (by kernel_rfl) ⟨fun χ9 Ω _ => St.toR (r_move rfl) (fun _ => rfl) (fun _ => rfl), (by intro _ h; cases h; rfl), ⟨fun χ9 Ω ⟨h1, _⟩ => St.toR (r_cloadS Try.isAgg28 Try.sizeOf28 rfl (j := 1) h1 rfl rfl) (fun _ => rfl) (fun _ => rfl), (by intro _ h; cases h; rfl), ⟨fun χ9 Ω ⟨h0, _⟩ => St.to XU.U XU.hU (St.placeL [] (s_callC [0] [true] (fun (_ : Unit) => [oc x2 [slv (rI .i64) t10.2.L, iv .i64 t10.2.At]]) (fun (_ : Unit) => []) (fun (_ : Unit) => ag [slv (rI .i64) t10.1.Pool, slv (rI .i64) t10.1.Withheld, slv rT_api_Move t10.1.Script, iv .i64 t10.1.Style]) (args := [.tmp 30, .tmp 31]) (caps := []) Try.call11 rfl (law28_player_ok h_t10) ⟨h0, rfl, trivial⟩ (fun _ => rfl) (fun _ => trivial) (fun _ => rfl) ⟨arg rfl, arg rfl, trivial⟩ (fun _ _ _ _ h => h)) (fun _ => rfl) (fun _ => trivial)) (fun _ => rfl) (fun _ => rfl), (by intro _ h; cases h; rfl), ⟨fun χ9 Ω _ => St.toR (r_move rfl) (fun _ => rfl) (fun _ => rfl), (by intro _ h; cases h; rfl), ⟨fun χ9 Ω ⟨h1, _⟩ => St.toR (r_cloadS Try.isAgg28 Try.sizeOf28 rfl (j := 1) h1 rfl rfl) (fun _ => rfl) (fun _ => rfl), (by intro _ h; cases h; rfl), ⟨fun χ9 Ω ⟨h0, _⟩ => St.to XU.U XU.hU (St.placeL [] (s_callC [0] [true] (fun (_ : Unit) => [oc x2 [slv (rI .i64) t11.2.L, iv .i64 t11.2.At]]) (fun (_ : Unit) => []) (fun (_ : Unit) => ag [slv (rI .i64) t11.1.Pool, slv (rI .i64) t11.1.Withheld, slv rT_api_Move t11.1.Script, iv .i64 t11.1.Style]) (args := [.tmp 33, .tmp 34]) (caps := []) Try.call11 rfl (law28_player_ok h_t11) ⟨h0, rfl, trivial⟩ (fun _ => rfl) (fun _ => trivial) (fun _ => rfl) ⟨arg rfl, arg rfl, trivial⟩ (fun _ _ _ _ h => h)) (fun _ => rfl) (fun _ => trivial)) (fun _ => rfl) (fun _ => rfl), (by intro _ h; cases h; rfl), ⟨fun χ9 Ω _ => St.toR (r_buildA (ps := [(0, .tmp 32), (1, .tmp 35)]) (rs := [(0, [slv (rI .i64) t10.1.Pool, slv (rI .i64) t10.1.Withheld, slv rT_api_Move t10.1.Script, iv .i64 t10.1.Style]), (1, [slv (rI .i64) t11.1.Pool, slv (rI .i64) t11.1.Withheld, slv rT_api_Move t11.1.Script, iv .i64 t11.1.Style])]) (sz := 4) Try.underlying44 Try.sizeOf25 ⟨_, _, Try.type44, rfl⟩ zs_44 ⟨rfl, (part_ag (ψs := [slv (rI .i64) t10.1.Pool, slv (rI .i64) t10.1.Withheld, slv rT_api_Move t10.1.Script, iv .i64 t10.1.Style]) rfl (by intro φ h; simp only [List.mem_cons, List.not_mem_nil, or_false] at h; rcases h with rfl | rfl | rfl | rfl <;> first | exact iv_at | exact bv_at | exact sv_at | exact slv_at | exact pv_at rfl)), ⟨rfl, (part_ag (ψs := [slv (rI .i64) t11.1.Pool, slv (rI .i64) t11.1.Withheld, slv rT_api_Move t11.1.Script, iv .i64 t11.1.Style]) rfl (by intro φ h; simp only [List.mem_cons, List.not_mem_nil, or_false] at h; rcases h with rfl | rfl | rfl | rfl <;> first | exact iv_at | exact bv_at | exact sv_at | exact slv_at | exact pv_at rfl)), trivial⟩⟩ rfl rfl) (fun _ => rfl) (fun _ => rfl), (by intro _ h; cases h; rfl), ⟨fun χ9 Ω ⟨h3, _⟩ => St.to XU.Nn XU.hN (St.placeL (os := fun _ => [_]) [3] (s_alloc zt_44) (fun _ => rfl) (fun _ => ⟨h3, rfl, trivial⟩)) (fun _ => rfl) (fun _ => rfl), (by intro _ h; cases h; rfl), ⟨fun χ9 Ω ⟨h3, _⟩ => St.to XU.U XU.hU (s_cstore (out := [slv (rI .i64) t10.1.Pool, slv (rI .i64) t10.1.Withheld, slv rT_api_Move t10.1.Script, iv .i64 t10.1.Style, slv (rI .i64) t11.1.Pool, slv (rI .i64) t11.1.Withheld, slv rT_api_Move t11.1.Script, iv .i64 t11.1.Style]) Try.sizeOf44 rfl (j := 3) h3 (part_ag (ψs := [slv (rI .i64) t10.1.Pool, slv (rI .i64) t10.1.Withheld, slv rT_api_Move t10.1.Script, iv .i64 t10.1.Style, slv (rI .i64) t11.1.Pool, slv (rI .i64) t11.1.Withheld, slv rT_api_Move t11.1.Script, iv .i64 t11.1.Style]) rfl (by intro φ h; simp only [List.mem_cons, List.not_mem_nil, or_false] at h; rcases h with rfl | rfl | rfl | rfl | rfl | rfl | rfl | rfl <;> first | exact iv_at | exact bv_at | exact sv_at | exact slv_at | exact pv_at rfl)) rfl rfl rfl) (fun _ => rfl) (fun _ => rfl), (by intro _ h; cases h), trivial⟩⟩⟩⟩⟩⟩⟩⟩⟩ (fun _ => ⟨rfl, rfl, trivial⟩) (fun _ => rfl) (fun χ9 => ?_)
  refine n_then ?_
  refine ref_seq ?_
  refine ref_region ?_
  refine s_rd (r_cloadS Try.isAgg35 Try.sizeOf35 rfl (j := 2) rfl rfl rfl) rfl ?_
  refine s_rd (r_aaddr (sz := 4) ⟨by decide, by decide⟩ Try.underlying44 Try.sizeOf25 rfl rfl) rfl ?_
  refine s_rd (r_cloadS Try.isAgg25 Try.sizeOf25 rfl (j := 3) rfl rfl rfl) rfl ?_
  refine s_rd (r_aaddr (sz := 4) ⟨by decide, by decide⟩ Try.underlying44 Try.sizeOf25 rfl rfl) rfl ?_
  refine s_rd (r_cloadS Try.isAgg25 Try.sizeOf25 rfl (j := 3) rfl rfl rfl) rfl ?_
  refine pull fun t13 h_t13 => ?_
  refine s_st (s_call (ψ := fun (_ : Unit) => tup [ag [iv .i64 t13.1.Graph.N, slv rT_api_Pair t13.1.Graph.L, iv .i64 t13.1.Root, iv .i64 t13.1.Limits.i0, iv .i64 t13.1.Limits.i1, slv rT_api_Move t13.1.Moves], iv .i64 t13.2]) (args := [.tmp 38, .tmp 40, .tmp 42]) Try.call14 rfl (participant_Run_ok h_t13) ⟨arg rfl, arg rfl, arg rfl, trivial⟩ (fun _ _ _ _ h => h)) rfl (fun _ => ?_)
  refine s_rd (r_move rfl) rfl ?_
  refine s_rd (r_extract rfl rfl) rfl ?_
  refine s_rd (r_extract rfl rfl) rfl ?_
  refine s_st (s_alloc zt_35) rfl (fun b14 => ?_)
  refine s_st0 (s_cstore (out := [iv .i64 t13.1.Graph.N, slv rT_api_Pair t13.1.Graph.L, iv .i64 t13.1.Root, iv .i64 t13.1.Limits.i0, iv .i64 t13.1.Limits.i1, slv rT_api_Move t13.1.Moves]) Try.sizeOf35 rfl (j := 4) rfl (part_ag (ψs := [iv .i64 t13.1.Graph.N, slv rT_api_Pair t13.1.Graph.L, iv .i64 t13.1.Root, iv .i64 t13.1.Limits.i0, iv .i64 t13.1.Limits.i1, slv rT_api_Move t13.1.Moves]) rfl (by intro φ h; simp only [List.mem_cons, List.not_mem_nil, or_false] at h; rcases h with rfl | rfl | rfl | rfl | rfl | rfl <;> first | exact iv_at | exact bv_at | exact sv_at | exact slv_at | exact pv_at rfl)) rfl rfl rfl) (fun _ => ?_)
  refine s_rd (r_assign rfl) rfl ?_
  refine l_nil ?_
  refine n_then ?_
  refine ref_seq ?_
  refine ref_seq ?_
  refine ref_region ?_
  refine s_rd (r_move rfl) rfl ?_
  refine s_rd (r_neq rfl rfl) rfl ?_
  refine s_rd (r_move rfl) rfl ?_
  refine b_split (t := 48) rfl (fun _ => ?_) (fun _ => ?_)
  · refine s_off rfl rfl rfl rfl rfl ?_
    refine s_off rfl rfl rfl rfl rfl ?_
    refine s_off rfl rfl rfl rfl rfl ?_
    refine s_off rfl rfl rfl rfl rfl ?_
    refine s_rd (r_pickT rfl rfl) rfl ?_
    refine s_rd (r_move rfl) rfl ?_
    refine s_off rfl rfl rfl rfl rfl ?_
    refine s_off rfl rfl rfl rfl rfl ?_
    refine s_off rfl rfl rfl rfl rfl ?_
    refine s_off rfl rfl rfl rfl rfl ?_
    refine s_rd (r_pickT rfl rfl) rfl ?_
    refine l_nil ?_
    refine n_then ?_
    refine ref_condT rfl rfl ?_
    refine ref_seq ?_
    refine ref_region ?_
    refine s_rd (r_assign rfl) rfl ?_
    refine l_nil ?_
    refine n_then ?_
    refine ref_ret ?_
    refine r_then ?_
    exact fin1 (.inl rfl) () [] rfl trivial rfl (rv_tmp rfl)
  · refine s_on rfl rfl rfl ?_
    refine s_rd (r_faddr (fo := 5) Try.underlying35 rfl rfl Try.sizeOf23 rfl) rfl ?_
    refine s_on rfl rfl rfl ?_
    refine s_rd (r_cload Try.isAgg23 rfl (j := 4) rfl rfl) rfl ?_
    refine s_on rfl rfl rfl ?_
    refine s_rd (r_len Try.underlying23 rfl) rfl ?_
    refine s_on rfl rfl rfl ?_
    refine s_rd (r_eql rfl rfl) rfl ?_
    refine s_rd (r_pickF rfl rfl) rfl ?_
    refine s_rd (r_move rfl) rfl ?_
    refine b_split (t := 54) rfl (fun _ => ?_) (fun _ => ?_)
    · refine s_off rfl rfl rfl rfl rfl ?_
      refine s_off rfl rfl rfl rfl rfl ?_
      refine s_off rfl rfl rfl rfl rfl ?_
      refine s_off rfl rfl rfl rfl rfl ?_
      refine s_rd (r_pickT rfl rfl) rfl ?_
      refine l_nil ?_
      refine n_then ?_
      refine ref_condT rfl rfl ?_
      refine ref_seq ?_
      refine ref_region ?_
      refine s_rd (r_assign rfl) rfl ?_
      refine l_nil ?_
      refine n_then ?_
      refine ref_ret ?_
      refine r_then ?_
      exact fin1 (.inl rfl) () [] rfl trivial rfl (rv_tmp rfl)
    · refine s_on rfl rfl rfl ?_
      refine s_rd (r_cloadS Try.isAgg35 Try.sizeOf35 rfl (j := 4) rfl rfl rfl) rfl ?_
      refine s_on rfl rfl rfl ?_
      refine pull fun t15 h_t15 => ?_
      refine s_st (s_call (ψ := fun (_ : Unit) => ag [iv .i64 t15.Winner, iv .i64 t15.Reason]) (args := [.tmp 55]) Try.call23 rfl (ref27_End_ok h_t15) ⟨arg rfl, trivial⟩ (fun _ _ _ _ h => h)) rfl (fun _ => ?_)
      refine s_on rfl rfl rfl ?_
      refine s_rd (r_build (ps := []) (rs := []) st_57 zs_57 trivial rfl rfl) rfl ?_
      refine s_on rfl rfl rfl ?_
      refine s_rd (r_steql (u := t15) (v := (T_api_Outcome.mk 0 0)) eq_57 rfl rfl rfl rfl) rfl ?_
      refine s_rd (r_pickF rfl rfl) rfl ?_
      refine l_nil ?_
      refine b_of (nrm [oc x2 [slv (rI .i64) t11.2.L, iv .i64 t11.2.At], oc b4 [iv .i64 t3.1.N, slv rT_api_Pair t3.1.L], oc (χ5 10).Nn [iv .i64 t7.1.Graph.N, slv rT_api_Pair t7.1.Graph.L, iv .i64 t7.1.Root, iv .i64 t7.1.Limits.i0, iv .i64 t7.1.Limits.i1, slv rT_api_Move t7.1.Moves], oc (χ9 7).Nn [slv (rI .i64) t10.1.Pool, slv (rI .i64) t10.1.Withheld, slv rT_api_Move t10.1.Script, iv .i64 t10.1.Style, slv (rI .i64) t11.1.Pool, slv (rI .i64) t11.1.Withheld, slv rT_api_Move t11.1.Script, iv .i64 t11.1.Style], oc b14 [iv .i64 t13.1.Graph.N, slv rT_api_Pair t13.1.Graph.L, iv .i64 t13.1.Root, iv .i64 t13.1.Limits.i0, iv .i64 t13.1.Limits.i1, slv rT_api_Move t13.1.Moves]] rfl) ?_
      refine n_then ?_
      refine ref_cond rfl (fun hb16 => ?_) (fun hb16 => ?_)
      · refine ref_seq ?_
        refine ref_region ?_
        refine s_rd (r_assign rfl) rfl ?_
        refine l_nil ?_
        refine n_then ?_
        refine ref_ret ?_
        refine r_then ?_
        exact fin1 (.inl rfl) () [] rfl trivial rfl (rv_tmp rfl)
      · refine ref_skip ?_
        refine n_then ?_
        refine ref_seq ?_
        refine ref_region ?_
        refine s_rd (r_cloadS Try.isAgg35 Try.sizeOf35 rfl (j := 2) rfl rfl rfl) rfl ?_
        refine s_st (s_alloc zt_35) rfl (fun b17 => ?_)
        refine s_st0 (s_cstore (out := [iv .i64 t7.1.Graph.N, slv rT_api_Pair t7.1.Graph.L, iv .i64 t7.1.Root, iv .i64 t7.1.Limits.i0, iv .i64 t7.1.Limits.i1, slv rT_api_Move t7.1.Moves]) Try.sizeOf35 rfl (j := 5) rfl (part_ag (ψs := [iv .i64 t7.1.Graph.N, slv rT_api_Pair t7.1.Graph.L, iv .i64 t7.1.Root, iv .i64 t7.1.Limits.i0, iv .i64 t7.1.Limits.i1, slv rT_api_Move t7.1.Moves]) rfl (by intro φ h; simp only [List.mem_cons, List.not_mem_nil, or_false] at h; rcases h with rfl | rfl | rfl | rfl | rfl | rfl <;> first | exact iv_at | exact bv_at | exact sv_at | exact slv_at | exact pv_at rfl)) rfl rfl rfl) (fun _ => ?_)
        refine l_nil ?_
        refine n_then ?_
        refine ref_seq ?_
        refine ref_seq ?_
        refine ref_region ?_
        refine s_rd (r_assign rfl) rfl ?_
        refine l_nil ?_
        refine n_then ?_
        refine ref_loopX (f := (law28_ParticipantSilent_l1 t10 t11 t13)) (Γl := (fun (s65 : Int × T_api_Dialogue) (x66 : Unit) => [(7, pv (ptr (χ9 7).Nn 0)), (8, pv (ptr b14 0)), (10, pv (ptr b17 0)), (11, iv .i64 s65.1)])) (Ωl := (fun (s65 : Int × T_api_Dialogue) (x66 : Unit) => [oc (χ9 7).Nn [slv (rI .i64) t10.1.Pool, slv (rI .i64) t10.1.Withheld, slv rT_api_Move t10.1.Script, iv .i64 t10.1.Style, slv (rI .i64) t11.1.Pool, slv (rI .i64) t11.1.Withheld, slv rT_api_Move t11.1.Script, iv .i64 t11.1.Style], oc b14 [iv .i64 t13.1.Graph.N, slv rT_api_Pair t13.1.Graph.L, iv .i64 t13.1.Root, iv .i64 t13.1.Limits.i0, iv .i64 t13.1.Limits.i1, slv rT_api_Move t13.1.Moves], oc b17 [iv .i64 s65.2.Graph.N, slv rT_api_Pair s65.2.Graph.L, iv .i64 s65.2.Root, iv .i64 s65.2.Limits.i0, iv .i64 s65.2.Limits.i1, slv rT_api_Move s65.2.Moves]])) (Γb := (fun (q89 : T_api_Dialogue) (y90 : Unit) => [(8, pv (ptr b14 0)), (10, pv (ptr b17 0))])) (Ωb := (fun (q89 : T_api_Dialogue) (y90 : Unit) => [oc b14 [iv .i64 t13.1.Graph.N, slv rT_api_Pair t13.1.Graph.L, iv .i64 t13.1.Root, iv .i64 t13.1.Limits.i0, iv .i64 t13.1.Limits.i1, slv rT_api_Move t13.1.Moves], oc b17 [iv .i64 q89.Graph.N, slv rT_api_Pair q89.Graph.L, iv .i64 q89.Root, iv .i64 q89.Limits.i0, iv .i64 q89.Limits.i1, slv rT_api_Move q89.Moves]])) (kr := (fun a : Bool => some a)) (1, t7.1) () (weak [3, 4, 5] ⟨rfl, rfl, rfl, rfl, trivial⟩ ⟨rfl, rfl, rfl, trivial⟩) (fun s65 x66 => ?_) (fun q89 y90 => ?_)
        · unfold law28_ParticipantSilent_l1
          refine ref_seq ?_
          refine ref_seq ?_
          refine ref_region ?_
          refine s_rd (r_move rfl) rfl ?_
          refine s_rd (r_faddr (fo := 5) Try.underlying35 rfl rfl Try.sizeOf23 rfl) rfl ?_
          refine s_rd (r_cload Try.isAgg23 rfl (j := 1) rfl rfl) rfl ?_
          refine s_rd (r_len Try.underlying23 rfl) rfl ?_
          refine s_rd (r_lss rfl rfl) rfl ?_
          refine l_nil ?_
          refine n_then ?_
          refine ref_cond rfl (fun hb67 => ?_) (fun hb67 => ?_)
          · refine ref_skip ?_
            refine n_then ?_
            refine ref_seq ?_
            refine ref_block ?_
            refine ref_seq ?_
            refine ref_region ?_
            refine s_rd (r_faddr (fo := 5) Try.underlying35 rfl rfl Try.sizeOf23 rfl) rfl ?_
            refine s_rd (r_cload Try.isAgg23 rfl (j := 1) rfl rfl) rfl ?_
            refine s_rd (r_move rfl) rfl ?_
            refine pull fun t68 h_t68 => ?_
            refine s_rd (r_index h_t68 Try.underlying23 el_40 rfl rfl) rfl ?_
            refine s_rd (r_load el_40 rfl) rfl ?_
            refine s_st (s_alloc zt_40) rfl (fun b69 => ?_)
            refine s_st0 (s_cstore (out := [iv .i64 t68.By, iv .i64 t68.Kind, iv .i64 t68.Node, iv .i64 t68.Target]) Try.sizeOf40 rfl (j := 3) rfl (part_ag (ψs := [iv .i64 t68.By, iv .i64 t68.Kind, iv .i64 t68.Node, iv .i64 t68.Target]) rfl (by intro φ h; simp only [List.mem_cons, List.not_mem_nil, or_false] at h; rcases h with rfl | rfl | rfl | rfl <;> first | exact iv_at | exact bv_at | exact sv_at | exact slv_at | exact pv_at rfl)) rfl rfl rfl) (fun _ => ?_)
            refine l_nil ?_
            refine b_of (nrm [oc (χ9 7).Nn [slv (rI .i64) t10.1.Pool, slv (rI .i64) t10.1.Withheld, slv rT_api_Move t10.1.Script, iv .i64 t10.1.Style, slv (rI .i64) t11.1.Pool, slv (rI .i64) t11.1.Withheld, slv rT_api_Move t11.1.Script, iv .i64 t11.1.Style], oc b14 [iv .i64 t13.1.Graph.N, slv rT_api_Pair t13.1.Graph.L, iv .i64 t13.1.Root, iv .i64 t13.1.Limits.i0, iv .i64 t13.1.Limits.i1, slv rT_api_Move t13.1.Moves], oc b17 [iv .i64 s65.2.Graph.N, slv rT_api_Pair s65.2.Graph.L, iv .i64 s65.2.Root, iv .i64 s65.2.Limits.i0, iv .i64 s65.2.Limits.i1, slv rT_api_Move s65.2.Moves], oc b69 [iv .i64 t68.By, iv .i64 t68.Kind, iv .i64 t68.Node, iv .i64 t68.Target]] rfl) ?_
            refine n_then ?_
            refine ref_seq ?_
            refine ref_seq ?_
            refine ref_region ?_
            refine s_rd (r_faddr (fo := 0) Try.underlying40 rfl rfl Try.sizeOf3 rfl) rfl ?_
            refine s_rd (r_cload Try.isAgg3 rfl (j := 3) rfl rfl) rfl ?_
            refine s_rd (r_lss rfl rfl) rfl ?_
            refine s_rd (r_move rfl) rfl ?_
            refine b_split (t := 76) rfl (fun _ => ?_) (fun _ => ?_)
            · refine s_off rfl rfl rfl rfl rfl ?_
              refine s_off rfl rfl rfl rfl rfl ?_
              refine s_off rfl rfl rfl rfl rfl ?_
              refine s_rd (r_pickT rfl rfl) rfl ?_
              refine l_nil ?_
              refine n_then ?_
              refine ref_condT rfl rfl ?_
              refine ref_seq ?_
              refine ref_region ?_
              refine s_rd (r_assign rfl) rfl ?_
              refine l_nil ?_
              refine n_then ?_
              refine ref_ret ?_
              refine r_then ?_
              refine r_block ?_
              refine r_then ?_
              refine retX ?_
              refine r_block ?_
              refine r_then ?_
              exact fin1 (.inl rfl) () [] rfl trivial rfl (rv_tmp rfl)
            · refine s_on rfl rfl rfl ?_
              refine s_rd (r_faddr (fo := 0) Try.underlying40 rfl rfl Try.sizeOf3 rfl) rfl ?_
              refine s_on rfl rfl rfl ?_
              refine s_rd (r_cload Try.isAgg3 rfl (j := 3) rfl rfl) rfl ?_
              refine s_on rfl rfl rfl ?_
              refine s_rd (r_gtr rfl rfl) rfl ?_
              refine s_rd (r_pickF rfl rfl) rfl ?_
              refine l_nil ?_
              refine n_then ?_
              refine ref_cond rfl (fun hb70 => ?_) (fun hb70 => ?_)
              · refine ref_seq ?_
                refine ref_region ?_
                refine s_rd (r_assign rfl) rfl ?_
                refine l_nil ?_
                refine n_then ?_
                refine ref_ret ?_
                refine r_then ?_
                refine r_block ?_
                refine r_then ?_
                refine retX ?_
                refine r_block ?_
                refine r_then ?_
                exact fin1 (.inl rfl) () [] rfl trivial rfl (rv_tmp rfl)
              · refine ref_skip ?_
                refine n_then ?_
                refine ref_seq ?_
                refine ref_region ?_
                refine s_rd (r_faddr (fo := 0) Try.underlying40 rfl rfl Try.sizeOf3 rfl) rfl ?_
                refine s_rd (r_cload Try.isAgg3 rfl (j := 3) rfl rfl) rfl ?_
                refine s_rd (r_sub rfl rfl) rfl ?_
                refine pull fun t71 h_t71 => ?_
                refine s_rd (r_aaddrS (ρ := rT_api_Player) h_t71 rfl rfl Try.underlying44 Try.sizeOf25 rfl rfl) rfl ?_
                refine s_rd (r_acloadS (ρ := rT_api_Player) (off := 0) h_t71 el_25 rfl (j := 0) rfl rfl rfl) rfl ?_
                refine s_st (s_alloc zt_25) rfl (fun b72 => ?_)
                refine s_st0 (s_cstore (out := [slv (rI .i64) t71.Pool, slv (rI .i64) t71.Withheld, slv rT_api_Move t71.Script, iv .i64 t71.Style]) Try.sizeOf25 rfl (j := 4) rfl (part_ag (ψs := [slv (rI .i64) t71.Pool, slv (rI .i64) t71.Withheld, slv rT_api_Move t71.Script, iv .i64 t71.Style]) rfl (by intro φ h; simp only [List.mem_cons, List.not_mem_nil, or_false] at h; rcases h with rfl | rfl | rfl | rfl <;> first | exact iv_at | exact bv_at | exact sv_at | exact slv_at | exact pv_at rfl)) rfl rfl rfl) (fun _ => ?_)
                refine l_nil ?_
                refine n_then ?_
                refine ref_seq ?_
                refine ref_join (fun (j76 : Unit) (x77 : Unit) => [(7, pv (ptr (χ9 7).Nn 0)), (8, pv (ptr b14 0)), (10, pv (ptr b17 0)), (11, iv .i64 s65.1), (12, pv (ptr b69 0)), (13, pv (ptr b72 0)), (77, pv (ptr b69 0)), (78, iv .i64 t68.By), (79, bv (decide (t68.By > 2)))]) (fun (j76 : Unit) (x77 : Unit) => [oc (χ9 7).Nn [slv (rI .i64) t10.1.Pool, slv (rI .i64) t10.1.Withheld, slv rT_api_Move t10.1.Script, iv .i64 t10.1.Style, slv (rI .i64) t11.1.Pool, slv (rI .i64) t11.1.Withheld, slv rT_api_Move t11.1.Script, iv .i64 t11.1.Style], oc b14 [iv .i64 t13.1.Graph.N, slv rT_api_Pair t13.1.Graph.L, iv .i64 t13.1.Root, iv .i64 t13.1.Limits.i0, iv .i64 t13.1.Limits.i1, slv rT_api_Move t13.1.Moves], oc b17 [iv .i64 s65.2.Graph.N, slv rT_api_Pair s65.2.Graph.L, iv .i64 s65.2.Root, iv .i64 s65.2.Limits.i0, iv .i64 s65.2.Limits.i1, slv rT_api_Move s65.2.Moves], oc b69 [iv .i64 t68.By, iv .i64 t68.Kind, iv .i64 t68.Node, iv .i64 t68.Target], oc b72 [slv (rI .i64) t71.Pool, slv (rI .i64) t71.Withheld, slv rT_api_Move t71.Script, iv .i64 t71.Style]]) (fun k78 hk78 => ?_) (fun j76 x77 => ?_)
                · refine ref_seq ?_
                  refine ref_region ?_
                  refine s_rd (r_faddr (fo := 1) Try.underlying40 rfl rfl Try.sizeOf3 rfl) rfl ?_
                  refine s_rd (r_cload Try.isAgg3 rfl (j := 3) rfl rfl) rfl ?_
                  refine s_rd (r_eql rfl rfl) rfl ?_
                  refine s_rd (r_move rfl) rfl ?_
                  refine b_split (t := 89) rfl (fun _ => ?_) (fun _ => ?_)
                  · refine s_on rfl rfl rfl ?_
                    refine s_rd (r_faddr (fo := 0) Try.underlying25 rfl rfl Try.sizeOf22 rfl) rfl ?_
                    refine s_on rfl rfl rfl ?_
                    refine s_rd (r_cload Try.isAgg22 rfl (j := 4) rfl rfl) rfl ?_
                    refine s_on rfl rfl rfl ?_
                    refine s_rd (r_faddr (fo := 2) Try.underlying40 rfl rfl Try.sizeOf3 rfl) rfl ?_
                    refine s_on rfl rfl rfl ?_
                    refine s_rd (r_cload Try.isAgg3 rfl (j := 3) rfl rfl) rfl ?_
                    refine s_on rfl rfl rfl ?_
                    refine pull fun t73 h_t73 => ?_
                    refine s_st (s_call (ψ := fun (_ : Unit) => bv t73) (args := [.tmp 91, .tmp 93]) Try.call24 rfl (keep_In_ok h_t73) ⟨arg rfl, arg rfl, trivial⟩ (fun _ _ _ _ h => h)) rfl (fun _ => ?_)
                    refine s_on rfl rfl rfl ?_
                    refine s_rd (r_not rfl) rfl ?_
                    refine s_on rfl rfl rfl ?_
                    refine s_rd (r_move rfl) rfl ?_
                    refine b_split (t := 96) rfl (fun _ => ?_) (fun _ => ?_)
                    · refine s_off rfl rfl rfl rfl rfl ?_
                      refine s_off rfl rfl rfl rfl rfl ?_
                      refine s_off rfl rfl rfl rfl rfl ?_
                      refine s_off rfl rfl rfl rfl rfl ?_
                      refine s_off rfl rfl rfl rfl rfl ?_
                      refine s_on rfl rfl rfl ?_
                      refine s_rd (r_pickT rfl rfl) rfl ?_
                      refine s_rd (r_pickT rfl rfl) rfl ?_
                      refine l_nil ?_
                      refine n_then ?_
                      refine ref_condT rfl rfl ?_
                      refine ref_seq ?_
                      refine ref_region ?_
                      refine s_rd (r_assign rfl) rfl ?_
                      refine l_nil ?_
                      refine n_then ?_
                      refine ref_ret ?_
                      refine r_then ?_
                      refine r_block ?_
                      refine r_then ?_
                      refine retX ?_
                      refine r_block ?_
                      refine r_then ?_
                      exact fin1 (.inl rfl) () [] rfl trivial rfl (rv_tmp rfl)
                    · refine s_on rfl rfl rfl ?_
                      refine s_rd (r_faddr (fo := 1) Try.underlying25 rfl rfl Try.sizeOf22 rfl) rfl ?_
                      refine s_on rfl rfl rfl ?_
                      refine s_rd (r_cload Try.isAgg22 rfl (j := 4) rfl rfl) rfl ?_
                      refine s_on rfl rfl rfl ?_
                      refine s_rd (r_faddr (fo := 2) Try.underlying40 rfl rfl Try.sizeOf3 rfl) rfl ?_
                      refine s_on rfl rfl rfl ?_
                      refine s_rd (r_cload Try.isAgg3 rfl (j := 3) rfl rfl) rfl ?_
                      refine s_on rfl rfl rfl ?_
                      refine pull fun t74 h_t74 => ?_
                      refine s_st (s_call (ψ := fun (_ : Unit) => bv t74) (args := [.tmp 98, .tmp 100]) Try.call24 rfl (keep_In_ok h_t74) ⟨arg rfl, arg rfl, trivial⟩ (fun _ _ _ _ h => h)) rfl (fun _ => ?_)
                      refine s_on rfl rfl rfl ?_
                      refine s_rd (r_pickF rfl rfl) rfl ?_
                      refine s_rd (r_pickT rfl rfl) rfl ?_
                      refine l_nil ?_
                      refine b_of (nrm [oc (χ9 7).Nn [slv (rI .i64) t10.1.Pool, slv (rI .i64) t10.1.Withheld, slv rT_api_Move t10.1.Script, iv .i64 t10.1.Style, slv (rI .i64) t11.1.Pool, slv (rI .i64) t11.1.Withheld, slv rT_api_Move t11.1.Script, iv .i64 t11.1.Style], oc b14 [iv .i64 t13.1.Graph.N, slv rT_api_Pair t13.1.Graph.L, iv .i64 t13.1.Root, iv .i64 t13.1.Limits.i0, iv .i64 t13.1.Limits.i1, slv rT_api_Move t13.1.Moves], oc b17 [iv .i64 s65.2.Graph.N, slv rT_api_Pair s65.2.Graph.L, iv .i64 s65.2.Root, iv .i64 s65.2.Limits.i0, iv .i64 s65.2.Limits.i1, slv rT_api_Move s65.2.Moves], oc b69 [iv .i64 t68.By, iv .i64 t68.Kind, iv .i64 t68.Node, iv .i64 t68.Target], oc b72 [slv (rI .i64) t71.Pool, slv (rI .i64) t71.Withheld, slv rT_api_Move t71.Script, iv .i64 t71.Style]] rfl) ?_
                      refine n_then ?_
                      refine ref_cond rfl (fun hb75 => ?_) (fun hb75 => ?_)
                      · refine ref_seq ?_
                        refine ref_region ?_
                        refine s_rd (r_assign rfl) rfl ?_
                        refine l_nil ?_
                        refine n_then ?_
                        refine ref_ret ?_
                        refine r_then ?_
                        refine r_block ?_
                        refine r_then ?_
                        refine retX ?_
                        refine r_block ?_
                        refine r_then ?_
                        exact fin1 (.inl rfl) () [] rfl trivial rfl (rv_tmp rfl)
                      · refine ref_skip ?_
                        exact b_to (hk78 () ()) (weak [0, 1, 2, 3, 4] ⟨rfl, rfl, rfl, rfl, rfl, rfl, rfl, rfl, rfl, trivial⟩ ⟨rfl, rfl, rfl, rfl, rfl, trivial⟩)
                  · refine s_off rfl rfl rfl rfl rfl ?_
                    refine s_off rfl rfl rfl rfl rfl ?_
                    refine s_off rfl rfl rfl rfl rfl ?_
                    refine s_off rfl rfl rfl rfl rfl ?_
                    refine s_off rfl rfl rfl rfl rfl ?_
                    refine s_off rfl rfl rfl rfl rfl ?_
                    refine s_off rfl rfl rfl rfl rfl ?_
                    refine s_offU rfl rfl rfl ?_
                    refine s_offU rfl rfl rfl ?_
                    refine s_offU rfl rfl rfl ?_
                    refine s_offU rfl rfl rfl ?_
                    refine s_offU rfl rfl rfl ?_
                    refine s_off rfl rfl rfl rfl rfl ?_
                    refine s_rd (r_pickF rfl rfl) rfl ?_
                    refine l_nil ?_
                    refine n_then ?_
                    refine ref_condF rfl rfl ?_
                    refine ref_skip ?_
                    exact b_to (hk78 () ()) (weak [0, 1, 2, 3, 4] ⟨rfl, rfl, rfl, rfl, rfl, rfl, rfl, rfl, rfl, trivial⟩ ⟨rfl, rfl, rfl, rfl, rfl, trivial⟩)
                · refine n_then ?_
                  refine ref_seq ?_
                  refine ref_join (fun (j82 : Unit) (x83 : Unit) => [(7, pv (ptr (χ9 7).Nn 0)), (8, pv (ptr b14 0)), (10, pv (ptr b17 0)), (11, iv .i64 s65.1), (12, pv (ptr b69 0)), (77, pv (ptr b69 0)), (78, iv .i64 t68.By), (79, bv (decide (t68.By > 2)))]) (fun (j82 : Unit) (x83 : Unit) => [oc (χ9 7).Nn [slv (rI .i64) t10.1.Pool, slv (rI .i64) t10.1.Withheld, slv rT_api_Move t10.1.Script, iv .i64 t10.1.Style, slv (rI .i64) t11.1.Pool, slv (rI .i64) t11.1.Withheld, slv rT_api_Move t11.1.Script, iv .i64 t11.1.Style], oc b14 [iv .i64 t13.1.Graph.N, slv rT_api_Pair t13.1.Graph.L, iv .i64 t13.1.Root, iv .i64 t13.1.Limits.i0, iv .i64 t13.1.Limits.i1, slv rT_api_Move t13.1.Moves], oc b17 [iv .i64 s65.2.Graph.N, slv rT_api_Pair s65.2.Graph.L, iv .i64 s65.2.Root, iv .i64 s65.2.Limits.i0, iv .i64 s65.2.Limits.i1, slv rT_api_Move s65.2.Moves], oc b69 [iv .i64 t68.By, iv .i64 t68.Kind, iv .i64 t68.Node, iv .i64 t68.Target]]) (fun k84 hk84 => ?_) (fun j82 x83 => ?_)
                  · refine ref_seq ?_
                    refine ref_region ?_
                    refine s_rd (r_faddr (fo := 1) Try.underlying40 rfl rfl Try.sizeOf3 rfl) rfl ?_
                    refine s_rd (r_cload Try.isAgg3 rfl (j := 3) rfl rfl) rfl ?_
                    refine s_rd (r_eql rfl rfl) rfl ?_
                    refine s_rd (r_move rfl) rfl ?_
                    refine b_split (t := 107) rfl (fun _ => ?_) (fun _ => ?_)
                    · refine s_on rfl rfl rfl ?_
                      refine s_rd (r_faddr (fo := 2) Try.underlying25 rfl rfl Try.sizeOf23 rfl) rfl ?_
                      refine s_on rfl rfl rfl ?_
                      refine s_rd (r_cload Try.isAgg23 rfl (j := 4) rfl rfl) rfl ?_
                      refine s_on rfl rfl rfl ?_
                      refine s_rd (r_len Try.underlying23 rfl) rfl ?_
                      refine s_on rfl rfl rfl ?_
                      refine s_rd (r_eql rfl rfl) rfl ?_
                      refine s_rd (r_pickT rfl rfl) rfl ?_
                      refine s_rd (r_move rfl) rfl ?_
                      refine b_split (t := 113) rfl (fun _ => ?_) (fun _ => ?_)
                      · refine s_on rfl rfl rfl ?_
                        refine s_rd (r_cloadS Try.isAgg35 Try.sizeOf35 rfl (j := 2) rfl rfl rfl) rfl ?_
                        refine s_on rfl rfl rfl ?_
                        refine s_rd (r_cloadS Try.isAgg25 Try.sizeOf25 rfl (j := 4) rfl rfl rfl) rfl ?_
                        refine s_on rfl rfl rfl ?_
                        refine pull fun t79 h_t79 => ?_
                        refine s_st (s_call (ψ := fun (x80 : (Value × List Nat)) => pv x80.1) (args := [.tmp 114, .tmp 115]) Try.call25 rfl (ref28_Attacks_ok h_t79) ⟨arg rfl, arg rfl, trivial⟩ (fun _ _ _ _ h => h)) rfl (fun x80 => ?_)
                        refine s_on rfl rfl rfl ?_
                        refine s_rd (r_olen Try.underlying23 rfl (j := 5) rfl) rfl ?_
                        refine s_on rfl rfl rfl ?_
                        refine s_rd (r_gtr rfl rfl) rfl ?_
                        refine s_rd (r_pickT rfl rfl) rfl ?_
                        refine l_nil ?_
                        refine n_then ?_
                        refine ref_cond rfl (fun hb81 => ?_) (fun hb81 => ?_)
                        · refine ref_seq ?_
                          refine ref_region ?_
                          refine s_rd (r_assign rfl) rfl ?_
                          refine l_nil ?_
                          refine n_then ?_
                          refine ref_ret ?_
                          refine r_then ?_
                          refine r_block ?_
                          refine r_then ?_
                          refine retX ?_
                          refine r_block ?_
                          refine r_then ?_
                          exact fin1 (.inl rfl) () [] rfl trivial rfl (rv_tmp rfl)
                        · refine ref_skip ?_
                          exact b_to (hk84 () ()) (weak [0, 1, 2, 3] ⟨rfl, rfl, rfl, rfl, rfl, rfl, rfl, rfl, trivial⟩ ⟨rfl, rfl, rfl, rfl, trivial⟩)
                      · refine s_off rfl rfl rfl rfl rfl ?_
                        refine s_off rfl rfl rfl rfl rfl ?_
                        refine s_off rfl rfl rfl rfl rfl ?_
                        refine s_off rfl rfl rfl rfl rfl ?_
                        refine s_off rfl rfl rfl rfl rfl ?_
                        refine s_rd (r_pickF rfl rfl) rfl ?_
                        refine l_nil ?_
                        refine n_then ?_
                        refine ref_condF rfl rfl ?_
                        refine ref_skip ?_
                        exact b_to (hk84 () ()) (weak [0, 1, 2, 3] ⟨rfl, rfl, rfl, rfl, rfl, rfl, rfl, rfl, trivial⟩ ⟨rfl, rfl, rfl, rfl, trivial⟩)
                    · refine s_off rfl rfl rfl rfl rfl ?_
                      refine s_off rfl rfl rfl rfl rfl ?_
                      refine s_off rfl rfl rfl rfl rfl ?_
                      refine s_off rfl rfl rfl rfl rfl ?_
                      refine s_rd (r_pickF rfl rfl) rfl ?_
                      refine s_rd (r_move rfl) rfl ?_
                      refine s_off rfl rfl rfl rfl rfl ?_
                      refine s_off rfl rfl rfl rfl rfl ?_
                      refine s_off rfl rfl rfl rfl rfl ?_
                      refine s_off rfl rfl rfl rfl rfl ?_
                      refine s_off rfl rfl rfl rfl rfl ?_
                      refine s_rd (r_pickF rfl rfl) rfl ?_
                      refine l_nil ?_
                      refine n_then ?_
                      refine ref_condF rfl rfl ?_
                      refine ref_skip ?_
                      exact b_to (hk84 () ()) (weak [0, 1, 2, 3] ⟨rfl, rfl, rfl, rfl, rfl, rfl, rfl, rfl, trivial⟩ ⟨rfl, rfl, rfl, rfl, trivial⟩)
                  · refine n_then ?_
                    refine ref_seq ?_
                    refine ref_region ?_
                    refine s_rd (r_cloadS Try.isAgg35 Try.sizeOf35 rfl (j := 2) rfl rfl rfl) rfl ?_
                    refine s_rd (r_cloadS Try.isAgg40 Try.sizeOf40 rfl (j := 3) rfl rfl rfl) rfl ?_
                    refine pull fun t85 h_t85 => ?_
                    refine s_st (s_call (ψ := fun (_ : Unit) => tup [ag [iv .i64 t85.1.Graph.N, slv rT_api_Pair t85.1.Graph.L, iv .i64 t85.1.Root, iv .i64 t85.1.Limits.i0, iv .i64 t85.1.Limits.i1, slv rT_api_Move t85.1.Moves], iv .i64 t85.2]) (args := [.tmp 121, .tmp 122]) Try.call26 rfl (ref27_Apply_ok h_t85) ⟨arg rfl, arg rfl, trivial⟩ (fun _ _ _ _ h => h)) rfl (fun _ => ?_)
                    refine s_rd (r_move rfl) rfl ?_
                    refine s_rd (r_extract rfl rfl) rfl ?_
                    refine s_rd (r_extract rfl rfl) rfl ?_
                    refine s_st (s_alloc zt_35) rfl (fun b86 => ?_)
                    refine s_st0 (s_cstore (out := [iv .i64 t85.1.Graph.N, slv rT_api_Pair t85.1.Graph.L, iv .i64 t85.1.Root, iv .i64 t85.1.Limits.i0, iv .i64 t85.1.Limits.i1, slv rT_api_Move t85.1.Moves]) Try.sizeOf35 rfl (j := 4) rfl (part_ag (ψs := [iv .i64 t85.1.Graph.N, slv rT_api_Pair t85.1.Graph.L, iv .i64 t85.1.Root, iv .i64 t85.1.Limits.i0, iv .i64 t85.1.Limits.i1, slv rT_api_Move t85.1.Moves]) rfl (by intro φ h; simp only [List.mem_cons, List.not_mem_nil, or_false] at h; rcases h with rfl | rfl | rfl | rfl | rfl | rfl <;> first | exact iv_at | exact bv_at | exact sv_at | exact slv_at | exact pv_at rfl)) rfl rfl rfl) (fun _ => ?_)
                    refine s_rd (r_assign rfl) rfl ?_
                    refine l_nil ?_
                    refine n_then ?_
                    refine ref_seq ?_
                    refine ref_seq ?_
                    refine ref_region ?_
                    refine s_rd (r_move rfl) rfl ?_
                    refine s_rd (r_neq rfl rfl) rfl ?_
                    refine l_nil ?_
                    refine n_then ?_
                    refine ref_cond rfl (fun hb87 => ?_) (fun hb87 => ?_)
                    · refine ref_seq ?_
                      refine ref_region ?_
                      refine s_rd (r_assign rfl) rfl ?_
                      refine l_nil ?_
                      refine n_then ?_
                      refine ref_ret ?_
                      refine r_then ?_
                      refine r_block ?_
                      refine r_then ?_
                      refine retX ?_
                      refine r_block ?_
                      refine r_then ?_
                      exact fin1 (.inl rfl) () [] rfl trivial rfl (rv_tmp rfl)
                    · refine ref_skip ?_
                      refine n_then ?_
                      refine ref_region ?_
                      refine s_rd (r_cloadS Try.isAgg35 Try.sizeOf35 rfl (j := 4) rfl rfl rfl) rfl ?_
                      refine s_st0 (s_cstore (out := [iv .i64 t85.1.Graph.N, slv rT_api_Pair t85.1.Graph.L, iv .i64 t85.1.Root, iv .i64 t85.1.Limits.i0, iv .i64 t85.1.Limits.i1, slv rT_api_Move t85.1.Moves]) Try.sizeOf35 rfl (j := 2) rfl (part_ag (ψs := [iv .i64 t85.1.Graph.N, slv rT_api_Pair t85.1.Graph.L, iv .i64 t85.1.Root, iv .i64 t85.1.Limits.i0, iv .i64 t85.1.Limits.i1, slv rT_api_Move t85.1.Moves]) rfl (by intro φ h; simp only [List.mem_cons, List.not_mem_nil, or_false] at h; rcases h with rfl | rfl | rfl | rfl | rfl | rfl <;> first | exact iv_at | exact bv_at | exact sv_at | exact slv_at | exact pv_at rfl)) rfl rfl rfl) (fun _ => ?_)
                      refine l_nil ?_
                      refine b_of (nrm [oc (χ9 7).Nn [slv (rI .i64) t10.1.Pool, slv (rI .i64) t10.1.Withheld, slv rT_api_Move t10.1.Script, iv .i64 t10.1.Style, slv (rI .i64) t11.1.Pool, slv (rI .i64) t11.1.Withheld, slv rT_api_Move t11.1.Script, iv .i64 t11.1.Style], oc b14 [iv .i64 t13.1.Graph.N, slv rT_api_Pair t13.1.Graph.L, iv .i64 t13.1.Root, iv .i64 t13.1.Limits.i0, iv .i64 t13.1.Limits.i1, slv rT_api_Move t13.1.Moves], oc b17 [iv .i64 t85.1.Graph.N, slv rT_api_Pair t85.1.Graph.L, iv .i64 t85.1.Root, iv .i64 t85.1.Limits.i0, iv .i64 t85.1.Limits.i1, slv rT_api_Move t85.1.Moves], oc b69 [iv .i64 t68.By, iv .i64 t68.Kind, iv .i64 t68.Node, iv .i64 t68.Target], oc b86 [iv .i64 t85.1.Graph.N, slv rT_api_Pair t85.1.Graph.L, iv .i64 t85.1.Root, iv .i64 t85.1.Limits.i0, iv .i64 t85.1.Limits.i1, slv rT_api_Move t85.1.Moves]] rfl) ?_
                      refine n_block ?_
                      refine n_then ?_
                      refine ref_region ?_
                      refine s_rd (r_move rfl) rfl ?_
                      refine s_rd (r_add rfl rfl) rfl ?_
                      refine s_rd (r_assign rfl) rfl ?_
                      refine b_let (f := iv .i64) (t := 11) rfl fun i88 => ?_
                      refine l_nil ?_
                      exact goX () (weak [0, 1, 2] ⟨rfl, rfl, rfl, rfl, trivial⟩ ⟨rfl, rfl, rfl, trivial⟩)
          · refine ref_exit ?_
            refine x_then ?_
            exact brkX () (weak [1, 2] ⟨rfl, rfl, trivial⟩ ⟨rfl, rfl, trivial⟩)
        · refine n_then ?_
          refine ref_seq ?_
          refine ref_region ?_
          refine s_rd (r_cloadS Try.isAgg35 Try.sizeOf35 rfl (j := 1) rfl rfl rfl) rfl ?_
          refine s_rd (r_cloadS Try.isAgg35 Try.sizeOf35 rfl (j := 0) rfl rfl rfl) rfl ?_
          refine pull fun t91 h_t91 => ?_
          refine s_st (s_call (ψ := fun (_ : Unit) => bv t91) (args := [.tmp 129, .tmp 130]) Try.call16 rfl (ref27_Same_ok h_t91) ⟨arg rfl, arg rfl, trivial⟩ (fun _ _ _ _ h => h)) rfl (fun _ => ?_)
          refine s_rd (r_move rfl) rfl ?_
          refine b_split (t := 132) rfl (fun _ => ?_) (fun _ => ?_)
          · refine s_on rfl rfl rfl ?_
            refine pull fun t92 h_t92 => ?_
            refine s_st (s_call (ψ := fun (_ : Unit) => bv t92) (args := []) Try.call8 rfl (law28_awake_ok h_t92) trivial (fun _ _ _ _ h => h)) rfl (fun _ => ?_)
            refine s_rd (r_pickT rfl rfl) rfl ?_
            refine s_rd (r_assign rfl) rfl ?_
            refine l_nil ?_
            refine n_then ?_
            refine ref_ret ?_
            exact fin1 (.inl rfl) () [] rfl trivial rfl (rv_tmp rfl)
          · refine s_off rfl rfl rfl rfl rfl ?_
            refine s_rd (r_pickF rfl rfl) rfl ?_
            refine s_rd (r_assign rfl) rfl ?_
            refine l_nil ?_
            refine n_then ?_
            refine ref_ret ?_
            exact fin1 (.inl rfl) () [] rfl trivial rfl (rv_tmp rfl)

end Go.Dc
