/- Part LAW29.A2 of a proof: lemmas. -/
import Derived.Test.YtnbclhmodbmdhaaLAW29A1
import Derived.Test.YtnbclhmodbmdhaaProg
set_option linter.unusedVariables false
set_option maxRecDepth 100000
set_option maxHeartbeats 4000000
namespace Go.Dc
open Go.Proofs
open Go.Proofs.Try (prog)

/-! deliberation/deliberationref29.Step -/
noncomputable def ref29_Step_m (c_0 : T_api_Channel) (e_1 : T_api_NetEvent) : Option (T_api_Channel × Int) :=
  bif decide (e_1.Kind < 1) then
    some ((T_api_Channel.mk [] 0 0 [] [] []), 4)
  else
    bif decide (e_1.Kind > 4) then
      some ((T_api_Channel.mk [] 0 0 [] [] []), 4)
    else
      bif e_1.Kind == 1 then
        bif decide (e_1.N < 0) then
          some ((T_api_Channel.mk [] 0 0 [] [] []), 1)
        else
          bif decide (e_1.N ≥ c_0.Window) then
            some ((T_api_Channel.mk [] 0 0 [] [] []), 1)
          else
            bif decide ((iadd .i64 c_0.Base e_1.N) ≥ (c_0.Items.length : Int)) then
              some ((T_api_Channel.mk [] 0 0 [] [] []), 1)
            else
              bif decide ((c_0.Flight.length : Int) ≥ 200) then
                some ((T_api_Channel.mk [] 0 0 [] [] []), 2)
              else
                Option.bind (idxM c_0.Items (iadd .i64 c_0.Base e_1.N)) fun t8 =>
                Option.bind (ref29_with_m c_0.Flight (T_api_Packet.mk false (iadd .i64 c_0.Base e_1.N) t8)) fun t9 =>
                some ((T_api_Channel.mk c_0.Items c_0.Window c_0.Base c_0.Received c_0.Held t9), 0)
      else
        bif decide (e_1.N < 0) then
          some ((T_api_Channel.mk [] 0 0 [] [] []), 1)
        else
          bif decide (e_1.N ≥ (c_0.Flight.length : Int)) then
            some ((T_api_Channel.mk [] 0 0 [] [] []), 1)
          else
            Option.bind (idxM c_0.Flight e_1.N) fun t12 =>
            bif e_1.Kind == 4 then
              bif decide ((c_0.Flight.length : Int) ≥ 200) then
                some ((T_api_Channel.mk [] 0 0 [] [] []), 2)
              else
                Option.bind (ref29_with_m c_0.Flight t12) fun t16 =>
                some ((T_api_Channel.mk c_0.Items c_0.Window c_0.Base c_0.Received c_0.Held t16), 0)
            else
              Option.bind (ref29_without_m c_0.Flight e_1.N) fun t18 =>
              bif e_1.Kind == 3 then
                some ((T_api_Channel.mk c_0.Items c_0.Window c_0.Base c_0.Received c_0.Held t18), 0)
              else
                bif t12.Ack then
                  some ((T_api_Channel.mk c_0.Items c_0.Window (imax c_0.Base t12.Number) c_0.Received c_0.Held t18), 0)
                else
                  Option.bind (ref29_receive_m (T_api_Channel.mk c_0.Items c_0.Window c_0.Base c_0.Received c_0.Held t18) t12) fun t22 =>
                  some (t22, 0)

theorem ref29_Step_ok {c_0 : T_api_Channel} {e_1 : T_api_NetEvent} {r : T_api_Channel × Int} (hm : ref29_Step_m c_0 e_1 = some r) :
    FnOk prog 20 [ag [slv (rI .i64) c_0.Items, iv .i64 c_0.Window, iv .i64 c_0.Base, slv (rI .i64) c_0.Received, slv rT_api_Packet c_0.Held, slv rT_api_Packet c_0.Flight], ag [iv .i64 e_1.Kind, iv .i64 e_1.N]] [] (fun (x : Unit) => [ag [slv (rI .i64) r.1.Items, iv .i64 r.1.Window, iv .i64 r.1.Base, slv (rI .i64) r.1.Received, slv rT_api_Packet r.1.Held, slv rT_api_Packet r.1.Flight], iv .i64 r.2]) (fun (x : Unit) => []) := by
  refine fn_ok (fn := Try.f20) (N := 121) (res := fun r x => [ag [slv (rI .i64) r.1.Items, iv .i64 r.1.Window, iv .i64 r.1.Base, slv (rI .i64) r.1.Received, slv rT_api_Packet r.1.Held, slv rT_api_Packet r.1.Flight], iv .i64 r.2]) (Ω1 := fun r x => []) Try.func20 rfl rfl hm rfl (fun E hM => ?_)
  unfold ref29_Step_m
  refine ref_seq (ref_region ?_)
  refine s_st (s_box (part_agO (ψs := [slv (rI .i64) c_0.Items, iv .i64 c_0.Window, iv .i64 c_0.Base, slv (rI .i64) c_0.Received, slv rT_api_Packet c_0.Held, slv rT_api_Packet c_0.Flight]) rfl ⟨.inl slv_at, .inl iv_at, .inl iv_at, .inl slv_at, .inl slv_at, .inl slv_at, trivial⟩)) rfl (fun b1 => ?_)
  refine s_st (s_box (part_agO (ψs := [iv .i64 e_1.Kind, iv .i64 e_1.N]) rfl ⟨.inl iv_at, .inl iv_at, trivial⟩)) rfl (fun b2 => ?_)
  refine s_st (s_alloc zt_28) rfl (fun b3 => ?_)
  refine as1 rfl rfl ?_
  refine l_nil (n_then (ref_seq (ref_seq (ref_region ?_))))
  refine s_rd (r_faddr (fo := 0) Try.underlying35 rfl rfl Try.sizeOf3 rfl) rfl ?_
  refine s_rd (r_cload Try.isAgg3 rfl (j := 1) rfl rfl) rfl ?_
  refine s_rd (r_lss rfl rfl) rfl ?_
  refine mv1 rfl rfl ?_
  refine b_split (t := 10) rfl (fun _ => ?_) (fun _ => ?_)
  · refine s_off rfl rfl rfl rfl rfl ?_
    refine s_off rfl rfl rfl rfl rfl ?_
    refine s_off rfl rfl rfl rfl rfl ?_
    refine s_rd (r_pickT rfl rfl) rfl ?_
    refine l_nil (n_then ?_)
    refine ref_condT rfl rfl ?_
    refine ref_seq (ref_region ?_)
    refine s_rd (r_build (ps := []) (rs := []) st_28 zs_28 trivial rfl rfl) rfl ?_
    refine s_st0 (s_cstore (out := [pv (.slice none 0 0), iv .i64 0, iv .i64 0, pv (.slice none 0 0), pv (.slice none 0 0), pv (.slice none 0 0)]) Try.sizeOf28 rfl (j := 2) rfl (part_agO (ψs := [pv (.slice none 0 0), iv .i64 0, iv .i64 0, pv (.slice none 0 0), pv (.slice none 0 0), pv (.slice none 0 0)]) rfl ⟨.inl (pv_at rfl), .inl iv_at, .inl iv_at, .inl (pv_at rfl), .inl (pv_at rfl), .inl (pv_at rfl), trivial⟩) rfl rfl rfl) (fun _ => ?_)
    refine as1 rfl rfl ?_
    refine l_nil ?_
    refine b_of (nrm [oc b1 [slv (rI .i64) c_0.Items, iv .i64 c_0.Window, iv .i64 c_0.Base, slv (rI .i64) c_0.Received, slv rT_api_Packet c_0.Held, slv rT_api_Packet c_0.Flight], oc b2 [iv .i64 e_1.Kind, iv .i64 e_1.N], oc b3 [pv (.slice none 0 0), iv .i64 0, iv .i64 0, pv (.slice none 0 0), pv (.slice none 0 0), pv (.slice none 0 0)]] rfl) ?_
    refine n_then (ref_ret (r_then ?_))
    refine b_of (ocW 2 [slv (rI .i64) [], iv .i64 0, iv .i64 0, slv (rI .i64) [], slv rT_api_Packet [], slv rT_api_Packet []] rfl ⟨nil_sl, imp_rfl, imp_rfl, nil_sl, nil_sl, nil_sl, trivial⟩) ?_
    exact fin2 (.inl rfl) () [] rfl trivial rfl (rv_cell rfl (j := 2) rfl Try.isAgg28 Try.sizeOf28 rfl rfl) (rv_tmp rfl)
  refine s_on rfl rfl rfl ?_
  refine s_rd (r_faddr (fo := 0) Try.underlying35 rfl rfl Try.sizeOf3 rfl) rfl ?_
  refine s_on rfl rfl rfl ?_
  refine s_rd (r_cload Try.isAgg3 rfl (j := 1) rfl rfl) rfl ?_
  refine s_on rfl rfl rfl ?_
  refine s_rd (r_gtr rfl rfl) rfl ?_
  refine s_rd (r_pickF rfl rfl) rfl ?_
  refine l_nil (n_then ?_)
  refine ref_cond rfl (fun hb4 => ?_) (fun hb4 => ?_)
  · refine ref_seq (ref_region ?_)
    refine s_rd (r_build (ps := []) (rs := []) st_28 zs_28 trivial rfl rfl) rfl ?_
    refine s_st0 (s_cstore (out := [pv (.slice none 0 0), iv .i64 0, iv .i64 0, pv (.slice none 0 0), pv (.slice none 0 0), pv (.slice none 0 0)]) Try.sizeOf28 rfl (j := 2) rfl (part_agO (ψs := [pv (.slice none 0 0), iv .i64 0, iv .i64 0, pv (.slice none 0 0), pv (.slice none 0 0), pv (.slice none 0 0)]) rfl ⟨.inl (pv_at rfl), .inl iv_at, .inl iv_at, .inl (pv_at rfl), .inl (pv_at rfl), .inl (pv_at rfl), trivial⟩) rfl rfl rfl) (fun _ => ?_)
    refine as1 rfl rfl ?_
    refine l_nil ?_
    refine b_of (nrm [oc b1 [slv (rI .i64) c_0.Items, iv .i64 c_0.Window, iv .i64 c_0.Base, slv (rI .i64) c_0.Received, slv rT_api_Packet c_0.Held, slv rT_api_Packet c_0.Flight], oc b2 [iv .i64 e_1.Kind, iv .i64 e_1.N], oc b3 [pv (.slice none 0 0), iv .i64 0, iv .i64 0, pv (.slice none 0 0), pv (.slice none 0 0), pv (.slice none 0 0)]] rfl) ?_
    refine n_then (ref_ret (r_then ?_))
    refine b_of (ocW 2 [slv (rI .i64) [], iv .i64 0, iv .i64 0, slv (rI .i64) [], slv rT_api_Packet [], slv rT_api_Packet []] rfl ⟨nil_sl, imp_rfl, imp_rfl, nil_sl, nil_sl, nil_sl, trivial⟩) ?_
    exact fin2 (.inl rfl) () [] rfl trivial rfl (rv_cell rfl (j := 2) rfl Try.isAgg28 Try.sizeOf28 rfl rfl) (rv_tmp rfl)
  refine ref_skip (n_then (ref_seq (ref_seq (ref_region ?_))))
  refine s_rd (r_faddr (fo := 0) Try.underlying35 rfl rfl Try.sizeOf3 rfl) rfl ?_
  refine s_rd (r_cload Try.isAgg3 rfl (j := 1) rfl rfl) rfl ?_
  refine s_rd (r_eql rfl rfl) rfl ?_
  refine l_nil (n_then ?_)
  refine ref_cond rfl (fun hb5 => ?_) (fun hb5 => ?_)
  · refine ref_seq (ref_seq (ref_region ?_))
    refine s_rd (r_faddr (fo := 1) Try.underlying35 rfl rfl Try.sizeOf3 rfl) rfl ?_
    refine s_rd (r_cload Try.isAgg3 rfl (j := 1) rfl rfl) rfl ?_
    refine s_rd (r_lss rfl rfl) rfl ?_
    refine mv1 rfl rfl ?_
    refine b_split (t := 22) rfl (fun _ => ?_) (fun _ => ?_)
    · refine s_off rfl rfl rfl rfl rfl ?_
      refine s_off rfl rfl rfl rfl rfl ?_
      refine s_off rfl rfl rfl rfl rfl ?_
      refine s_off rfl rfl rfl rfl rfl ?_
      refine s_off rfl rfl rfl rfl rfl ?_
      refine s_rd (r_pickT rfl rfl) rfl ?_
      refine mv1 rfl rfl ?_
      refine s_off rfl rfl rfl rfl rfl ?_
      refine s_off rfl rfl rfl rfl rfl ?_
      refine s_off rfl rfl rfl rfl rfl ?_
      refine s_off rfl rfl rfl rfl rfl ?_
      refine s_off rfl rfl rfl rfl rfl ?_
      refine s_off rfl rfl rfl rfl rfl ?_
      refine s_off rfl rfl rfl rfl rfl ?_
      refine s_off rfl rfl rfl rfl rfl ?_
      refine s_off rfl rfl rfl rfl rfl ?_
      refine s_rd (r_pickT rfl rfl) rfl ?_
      refine l_nil (n_then ?_)
      refine ref_condT rfl rfl ?_
      refine ref_seq (ref_region ?_)
      refine s_rd (r_build (ps := []) (rs := []) st_28 zs_28 trivial rfl rfl) rfl ?_
      refine s_st0 (s_cstore (out := [pv (.slice none 0 0), iv .i64 0, iv .i64 0, pv (.slice none 0 0), pv (.slice none 0 0), pv (.slice none 0 0)]) Try.sizeOf28 rfl (j := 2) rfl (part_agO (ψs := [pv (.slice none 0 0), iv .i64 0, iv .i64 0, pv (.slice none 0 0), pv (.slice none 0 0), pv (.slice none 0 0)]) rfl ⟨.inl (pv_at rfl), .inl iv_at, .inl iv_at, .inl (pv_at rfl), .inl (pv_at rfl), .inl (pv_at rfl), trivial⟩) rfl rfl rfl) (fun _ => ?_)
      refine as1 rfl rfl ?_
      refine l_nil ?_
      refine b_of (nrm [oc b1 [slv (rI .i64) c_0.Items, iv .i64 c_0.Window, iv .i64 c_0.Base, slv (rI .i64) c_0.Received, slv rT_api_Packet c_0.Held, slv rT_api_Packet c_0.Flight], oc b2 [iv .i64 e_1.Kind, iv .i64 e_1.N], oc b3 [pv (.slice none 0 0), iv .i64 0, iv .i64 0, pv (.slice none 0 0), pv (.slice none 0 0), pv (.slice none 0 0)]] rfl) ?_
      refine n_then (ref_ret (r_then (r_then ?_)))
      refine b_of (ocW 2 [slv (rI .i64) [], iv .i64 0, iv .i64 0, slv (rI .i64) [], slv rT_api_Packet [], slv rT_api_Packet []] rfl ⟨nil_sl, imp_rfl, imp_rfl, nil_sl, nil_sl, nil_sl, trivial⟩) ?_
      exact fin2 (.inl rfl) () [] rfl trivial rfl (rv_cell rfl (j := 2) rfl Try.isAgg28 Try.sizeOf28 rfl rfl) (rv_tmp rfl)
    refine s_on rfl rfl rfl ?_
    refine s_rd (r_faddr (fo := 1) Try.underlying35 rfl rfl Try.sizeOf3 rfl) rfl ?_
    refine s_on rfl rfl rfl ?_
    refine s_rd (r_cload Try.isAgg3 rfl (j := 1) rfl rfl) rfl ?_
    refine s_on rfl rfl rfl ?_
    refine s_rd (r_faddr (fo := 1) Try.underlying28 rfl rfl Try.sizeOf3 rfl) rfl ?_
    refine s_on rfl rfl rfl ?_
    refine s_rd (r_cload Try.isAgg3 rfl (j := 0) rfl rfl) rfl ?_
    refine s_on rfl rfl rfl ?_
    refine s_rd (r_geq rfl rfl) rfl ?_
    refine s_rd (r_pickF rfl rfl) rfl ?_
    refine mv1 rfl rfl ?_
    refine b_split (t := 29) rfl (fun _ => ?_) (fun _ => ?_)
    · refine s_off rfl rfl rfl rfl rfl ?_
      refine s_off rfl rfl rfl rfl rfl ?_
      refine s_off rfl rfl rfl rfl rfl ?_
      refine s_off rfl rfl rfl rfl rfl ?_
      refine s_off rfl rfl rfl rfl rfl ?_
      refine s_off rfl rfl rfl rfl rfl ?_
      refine s_off rfl rfl rfl rfl rfl ?_
      refine s_off rfl rfl rfl rfl rfl ?_
      refine s_off rfl rfl rfl rfl rfl ?_
      refine s_rd (r_pickT rfl rfl) rfl ?_
      refine l_nil (n_then ?_)
      refine ref_condT rfl rfl ?_
      refine ref_seq (ref_region ?_)
      refine s_rd (r_build (ps := []) (rs := []) st_28 zs_28 trivial rfl rfl) rfl ?_
      refine s_st0 (s_cstore (out := [pv (.slice none 0 0), iv .i64 0, iv .i64 0, pv (.slice none 0 0), pv (.slice none 0 0), pv (.slice none 0 0)]) Try.sizeOf28 rfl (j := 2) rfl (part_agO (ψs := [pv (.slice none 0 0), iv .i64 0, iv .i64 0, pv (.slice none 0 0), pv (.slice none 0 0), pv (.slice none 0 0)]) rfl ⟨.inl (pv_at rfl), .inl iv_at, .inl iv_at, .inl (pv_at rfl), .inl (pv_at rfl), .inl (pv_at rfl), trivial⟩) rfl rfl rfl) (fun _ => ?_)
      refine as1 rfl rfl ?_
      refine l_nil ?_
      refine b_of (nrm [oc b1 [slv (rI .i64) c_0.Items, iv .i64 c_0.Window, iv .i64 c_0.Base, slv (rI .i64) c_0.Received, slv rT_api_Packet c_0.Held, slv rT_api_Packet c_0.Flight], oc b2 [iv .i64 e_1.Kind, iv .i64 e_1.N], oc b3 [pv (.slice none 0 0), iv .i64 0, iv .i64 0, pv (.slice none 0 0), pv (.slice none 0 0), pv (.slice none 0 0)]] rfl) ?_
      refine n_then (ref_ret (r_then (r_then ?_)))
      refine b_of (ocW 2 [slv (rI .i64) [], iv .i64 0, iv .i64 0, slv (rI .i64) [], slv rT_api_Packet [], slv rT_api_Packet []] rfl ⟨nil_sl, imp_rfl, imp_rfl, nil_sl, nil_sl, nil_sl, trivial⟩) ?_
      exact fin2 (.inl rfl) () [] rfl trivial rfl (rv_cell rfl (j := 2) rfl Try.isAgg28 Try.sizeOf28 rfl rfl) (rv_tmp rfl)
    refine s_on rfl rfl rfl ?_
    refine s_rd (r_faddr (fo := 2) Try.underlying28 rfl rfl Try.sizeOf3 rfl) rfl ?_
    refine s_on rfl rfl rfl ?_
    refine s_rd (r_cload Try.isAgg3 rfl (j := 0) rfl rfl) rfl ?_
    refine s_on rfl rfl rfl ?_
    refine s_rd (r_faddr (fo := 1) Try.underlying35 rfl rfl Try.sizeOf3 rfl) rfl ?_
    refine s_on rfl rfl rfl ?_
    refine s_rd (r_cload Try.isAgg3 rfl (j := 1) rfl rfl) rfl ?_
    refine s_on rfl rfl rfl ?_
    refine s_rd (r_add rfl rfl) rfl ?_
    refine s_on rfl rfl rfl ?_
    refine s_rd (r_faddr (fo := 0) Try.underlying28 rfl rfl Try.sizeOf22 rfl) rfl ?_
    refine s_on rfl rfl rfl ?_
    refine s_rd (r_cload Try.isAgg22 rfl (j := 0) rfl rfl) rfl ?_
    refine s_on rfl rfl rfl ?_
    refine s_rd (r_len Try.underlying22 rfl) rfl ?_
    refine s_on rfl rfl rfl ?_
    refine s_rd (r_geq rfl rfl) rfl ?_
    refine s_rd (r_pickF rfl rfl) rfl ?_
    refine l_nil (n_then ?_)
    refine ref_cond rfl (fun hb6 => ?_) (fun hb6 => ?_)
    · refine ref_seq (ref_region ?_)
      refine s_rd (r_build (ps := []) (rs := []) st_28 zs_28 trivial rfl rfl) rfl ?_
      refine s_st0 (s_cstore (out := [pv (.slice none 0 0), iv .i64 0, iv .i64 0, pv (.slice none 0 0), pv (.slice none 0 0), pv (.slice none 0 0)]) Try.sizeOf28 rfl (j := 2) rfl (part_agO (ψs := [pv (.slice none 0 0), iv .i64 0, iv .i64 0, pv (.slice none 0 0), pv (.slice none 0 0), pv (.slice none 0 0)]) rfl ⟨.inl (pv_at rfl), .inl iv_at, .inl iv_at, .inl (pv_at rfl), .inl (pv_at rfl), .inl (pv_at rfl), trivial⟩) rfl rfl rfl) (fun _ => ?_)
      refine as1 rfl rfl ?_
      refine l_nil ?_
      refine b_of (nrm [oc b1 [slv (rI .i64) c_0.Items, iv .i64 c_0.Window, iv .i64 c_0.Base, slv (rI .i64) c_0.Received, slv rT_api_Packet c_0.Held, slv rT_api_Packet c_0.Flight], oc b2 [iv .i64 e_1.Kind, iv .i64 e_1.N], oc b3 [pv (.slice none 0 0), iv .i64 0, iv .i64 0, pv (.slice none 0 0), pv (.slice none 0 0), pv (.slice none 0 0)]] rfl) ?_
      refine n_then (ref_ret (r_then (r_then ?_)))
      refine b_of (ocW 2 [slv (rI .i64) [], iv .i64 0, iv .i64 0, slv (rI .i64) [], slv rT_api_Packet [], slv rT_api_Packet []] rfl ⟨nil_sl, imp_rfl, imp_rfl, nil_sl, nil_sl, nil_sl, trivial⟩) ?_
      exact fin2 (.inl rfl) () [] rfl trivial rfl (rv_cell rfl (j := 2) rfl Try.isAgg28 Try.sizeOf28 rfl rfl) (rv_tmp rfl)
    refine ref_skip (n_then (ref_seq (ref_seq (ref_region ?_))))
    refine s_rd (r_faddr (fo := 5) Try.underlying28 rfl rfl Try.sizeOf26 rfl) rfl ?_
    refine s_rd (r_cload Try.isAgg26 rfl (j := 0) rfl rfl) rfl ?_
    refine s_rd (r_len Try.underlying26 rfl) rfl ?_
    refine s_rd (r_geq rfl rfl) rfl ?_
    refine l_nil (n_then ?_)
    refine ref_cond rfl (fun hb7 => ?_) (fun hb7 => ?_)
    · refine ref_seq (ref_region ?_)
      refine s_rd (r_build (ps := []) (rs := []) st_28 zs_28 trivial rfl rfl) rfl ?_
      refine s_st0 (s_cstore (out := [pv (.slice none 0 0), iv .i64 0, iv .i64 0, pv (.slice none 0 0), pv (.slice none 0 0), pv (.slice none 0 0)]) Try.sizeOf28 rfl (j := 2) rfl (part_agO (ψs := [pv (.slice none 0 0), iv .i64 0, iv .i64 0, pv (.slice none 0 0), pv (.slice none 0 0), pv (.slice none 0 0)]) rfl ⟨.inl (pv_at rfl), .inl iv_at, .inl iv_at, .inl (pv_at rfl), .inl (pv_at rfl), .inl (pv_at rfl), trivial⟩) rfl rfl rfl) (fun _ => ?_)
      refine as1 rfl rfl ?_
      refine l_nil ?_
      refine b_of (nrm [oc b1 [slv (rI .i64) c_0.Items, iv .i64 c_0.Window, iv .i64 c_0.Base, slv (rI .i64) c_0.Received, slv rT_api_Packet c_0.Held, slv rT_api_Packet c_0.Flight], oc b2 [iv .i64 e_1.Kind, iv .i64 e_1.N], oc b3 [pv (.slice none 0 0), iv .i64 0, iv .i64 0, pv (.slice none 0 0), pv (.slice none 0 0), pv (.slice none 0 0)]] rfl) ?_
      refine n_then (ref_ret (r_then (r_then ?_)))
      refine b_of (ocW 2 [slv (rI .i64) [], iv .i64 0, iv .i64 0, slv (rI .i64) [], slv rT_api_Packet [], slv rT_api_Packet []] rfl ⟨nil_sl, imp_rfl, imp_rfl, nil_sl, nil_sl, nil_sl, trivial⟩) ?_
      exact fin2 (.inl rfl) () [] rfl trivial rfl (rv_cell rfl (j := 2) rfl Try.isAgg28 Try.sizeOf28 rfl rfl) (rv_tmp rfl)
    refine ref_skip (n_then (ref_seq ?_))
    refine ref_draw [0, 1, 2, 3, 4, 5, 6, 7, 8, 9, 10, 11, 12, 13, 14, 15, 16, 18] rfl (by kernel_rfl) (fun hok => ?_)
    refine a_rd (i := 0) hok rfl (by kernel_rfl) rfl (r_faddr (fo := 5) Try.underlying28 rfl rfl Try.sizeOf26 rfl) rfl ?_
    refine a_rd (i := 1) hok rfl (by kernel_rfl) rfl (r_cload Try.isAgg26 rfl (j := 0) rfl rfl) rfl ?_
    refine a_rd (i := 2) hok rfl (by kernel_rfl) rfl (r_faddr (fo := 2) Try.underlying28 rfl rfl Try.sizeOf3 rfl) rfl ?_
    refine a_rd (i := 3) hok rfl (by kernel_rfl) rfl (r_cload Try.isAgg3 rfl (j := 0) rfl rfl) rfl ?_
    refine a_rd (i := 4) hok rfl (by kernel_rfl) rfl (r_faddr (fo := 1) Try.underlying35 rfl rfl Try.sizeOf3 rfl) rfl ?_
    refine a_rd (i := 5) hok rfl (by kernel_rfl) rfl (r_cload Try.isAgg3 rfl (j := 1) rfl rfl) rfl ?_
    refine a_rd (i := 6) hok rfl (by kernel_rfl) rfl (r_add rfl rfl) rfl ?_
    refine a_rd (i := 7) hok rfl (by kernel_rfl) rfl (r_faddr (fo := 0) Try.underlying28 rfl rfl Try.sizeOf22 rfl) rfl ?_
    refine a_rd (i := 8) hok rfl (by kernel_rfl) rfl (r_cload Try.isAgg22 rfl (j := 0) rfl rfl) rfl ?_
    refine a_rd (i := 9) hok rfl (by kernel_rfl) rfl (r_faddr (fo := 2) Try.underlying28 rfl rfl Try.sizeOf3 rfl) rfl ?_
    refine a_rd (i := 10) hok rfl (by kernel_rfl) rfl (r_cload Try.isAgg3 rfl (j := 0) rfl rfl) rfl ?_
    refine a_rd (i := 11) hok rfl (by kernel_rfl) rfl (r_faddr (fo := 1) Try.underlying35 rfl rfl Try.sizeOf3 rfl) rfl ?_
    refine a_rd (i := 12) hok rfl (by kernel_rfl) rfl (r_cload Try.isAgg3 rfl (j := 1) rfl rfl) rfl ?_
    refine a_rd (i := 13) hok rfl (by kernel_rfl) rfl (r_add rfl rfl) rfl ?_
    refine pull fun t8 h_t8 => ?_
    refine a_rd (i := 14) hok rfl (by kernel_rfl) rfl (r_index h_t8 Try.underlying22 el_3 rfl rfl) rfl ?_
    refine a_rd (i := 15) hok rfl (by kernel_rfl) rfl (r_load el_3 rfl) rfl ?_
    refine a_rd (i := 16) hok rfl (by kernel_rfl) rfl (r_build (ps := [(1, .tmp 52), (2, .tmp 61)]) (rs := [(1, [iv .i64 (iadd .i64 c_0.Base e_1.N)]), (2, [iv .i64 t8])]) st_55 zs_55 ⟨rfl, (part_at rfl iv_at), ⟨rfl, (part_at rfl iv_at), trivial⟩⟩ rfl rfl) rfl ?_
    refine pull fun t9 h_t9 => ?_
    refine a_next hok 17 [] (by kernel_rfl) ?_ trivial
    refine a_st (i := 17) hok rfl rfl (s_call (ψ := fun (x10 : (Value × List Nat)) => pv x10.1) (args := [.tmp 47, .tmp 62]) Try.call34 rfl (ref29_with_ok h_t9) ⟨arg rfl, arg rfl, trivial⟩ (fun _ _ _ _ h => h)) (by intro _ h; cases h; rfl) (fun _ => ⟨trivial, ⟨trivial, ⟨trivial, ⟨trivial, ⟨⟨⟨rfl, rfl⟩, trivial⟩, ⟨trivial, ⟨⟨⟨rfl, rfl⟩, trivial⟩, ⟨trivial, ⟨⟨⟨rfl, rfl⟩, trivial⟩, ⟨trivial, ⟨trivial, ⟨⟨⟨rfl, rfl⟩, trivial⟩, ⟨trivial, ⟨⟨⟨rfl, rfl⟩, trivial⟩, ⟨trivial, ⟨trivial, ⟨trivial, trivial⟩⟩⟩⟩⟩⟩⟩⟩⟩⟩⟩⟩⟩⟩⟩⟩⟩) (fun x10 => ?_)
    refine a_rd (i := 18) hok rfl (by kernel_rfl) rfl (r_faddr (fo := 5) Try.underlying28 rfl rfl Try.sizeOf26 rfl) rfl ?_
    refine a_next hok 19 [] (by kernel_rfl) ?_ trivial
    refine a_st (i := 19) hok rfl rfl (s_cstore (out := [slv (rI .i64) c_0.Items, iv .i64 c_0.Window, iv .i64 c_0.Base, slv (rI .i64) c_0.Received, slv rT_api_Packet c_0.Held, pv x10.1]) Try.sizeOf26 rfl (j := 0) rfl (part_own rfl (j := 3) rfl) rfl rfl rfl) (by intro _ h; cases h) (fun _ => ⟨trivial, ⟨trivial, ⟨trivial, ⟨trivial, ⟨trivial, ⟨trivial, ⟨trivial, ⟨trivial, ⟨trivial, ⟨trivial, ⟨trivial, ⟨trivial, ⟨trivial, ⟨trivial, ⟨trivial, ⟨trivial, ⟨trivial, ⟨trivial, trivial⟩⟩⟩⟩⟩⟩⟩⟩⟩⟩⟩⟩⟩⟩⟩⟩⟩⟩) (fun _ => ?_)
    refine a_fin hok (by kernel_rfl) ?_
    refine b_of (nrm [oc b1 [slv (rI .i64) c_0.Items, iv .i64 c_0.Window, iv .i64 c_0.Base, slv (rI .i64) c_0.Received, slv rT_api_Packet c_0.Held, pv x10.1], oc b2 [iv .i64 e_1.Kind, iv .i64 e_1.N], oc b3 [pv (.slice none 0 0), iv .i64 0, iv .i64 0, pv (.slice none 0 0), pv (.slice none 0 0), pv (.slice none 0 0)], oa rT_api_Packet x10.1 x10.2 t9] rfl) ?_
    refine n_then (ref_seq (ref_region ?_))
    refine s_rd (r_cloadS Try.isAgg28 Try.sizeOf28 rfl (j := 0) rfl rfl rfl) rfl ?_
    refine s_st0 (s_cstore (out := [slv (rI .i64) c_0.Items, iv .i64 c_0.Window, iv .i64 c_0.Base, slv (rI .i64) c_0.Received, slv rT_api_Packet c_0.Held, pv x10.1]) Try.sizeOf28 rfl (j := 2) rfl (part_agO (ψs := [slv (rI .i64) c_0.Items, iv .i64 c_0.Window, iv .i64 c_0.Base, slv (rI .i64) c_0.Received, slv rT_api_Packet c_0.Held, pv x10.1]) rfl ⟨.inl slv_at, .inl iv_at, .inl iv_at, .inl slv_at, .inl slv_at, .inr ⟨_, _, _, _, _, 3, rfl, rfl⟩, trivial⟩) rfl rfl rfl) (fun _ => ?_)
    refine as1 rfl rfl ?_
    refine l_nil (n_then (ref_ret (r_then ?_)))
    refine b_of (frzGL [(63, slv rT_api_Packet t9), (65, ag [slv (rI .i64) c_0.Items, iv .i64 c_0.Window, iv .i64 c_0.Base, slv (rI .i64) c_0.Received, slv rT_api_Packet c_0.Held, slv rT_api_Packet t9])] [(0, b1, [slv (rI .i64) c_0.Items, iv .i64 c_0.Window, iv .i64 c_0.Base, slv (rI .i64) c_0.Received, slv rT_api_Packet c_0.Held, slv rT_api_Packet t9]), (2, b3, [slv (rI .i64) c_0.Items, iv .i64 c_0.Window, iv .i64 c_0.Base, slv (rI .i64) c_0.Received, slv rT_api_Packet c_0.Held, slv rT_api_Packet t9])] (j := 3) rfl ⟨⟨_, rfl, .inl ⟨rfl, rfl⟩⟩, ⟨_, rfl, .inr ⟨_, _, rfl, rfl, ⟨.inl rfl, .inl rfl, .inl rfl, .inl rfl, .inl rfl, .inr ⟨rfl, rfl⟩, trivial⟩⟩⟩, trivial⟩ ⟨⟨_, rfl, ⟨.inl rfl, .inl rfl, .inl rfl, .inl rfl, .inl rfl, .inr ⟨rfl, rfl⟩, trivial⟩⟩, ⟨_, rfl, ⟨.inl rfl, .inl rfl, .inl rfl, .inl rfl, .inl rfl, .inr ⟨rfl, rfl⟩, trivial⟩⟩, trivial⟩) ?_
    refine b_of (nrm [oc b1 [slv (rI .i64) c_0.Items, iv .i64 c_0.Window, iv .i64 c_0.Base, slv (rI .i64) c_0.Received, slv rT_api_Packet c_0.Held, slv rT_api_Packet t9], oc b2 [iv .i64 e_1.Kind, iv .i64 e_1.N], oc b3 [slv (rI .i64) c_0.Items, iv .i64 c_0.Window, iv .i64 c_0.Base, slv (rI .i64) c_0.Received, slv rT_api_Packet c_0.Held, slv rT_api_Packet t9], dead] rfl) ?_
    exact fin2 (.inl rfl) () [] rfl trivial rfl (rv_cell rfl (j := 2) rfl Try.isAgg28 Try.sizeOf28 rfl rfl) (rv_tmp rfl)
  refine ref_skip (n_then (ref_seq (ref_seq (ref_region ?_))))
  refine s_rd (r_faddr (fo := 1) Try.underlying35 rfl rfl Try.sizeOf3 rfl) rfl ?_
  refine s_rd (r_cload Try.isAgg3 rfl (j := 1) rfl rfl) rfl ?_
  refine s_rd (r_lss rfl rfl) rfl ?_
  refine mv1 rfl rfl ?_
  refine b_split (t := 69) rfl (fun _ => ?_) (fun _ => ?_)
  · refine s_off rfl rfl rfl rfl rfl ?_
    refine s_off rfl rfl rfl rfl rfl ?_
    refine s_off rfl rfl rfl rfl rfl ?_
    refine s_off rfl rfl rfl rfl rfl ?_
    refine s_off rfl rfl rfl rfl rfl ?_
    refine s_off rfl rfl rfl rfl rfl ?_
    refine s_rd (r_pickT rfl rfl) rfl ?_
    refine l_nil (n_then ?_)
    refine ref_condT rfl rfl ?_
    refine ref_seq (ref_region ?_)
    refine s_rd (r_build (ps := []) (rs := []) st_28 zs_28 trivial rfl rfl) rfl ?_
    refine s_st0 (s_cstore (out := [pv (.slice none 0 0), iv .i64 0, iv .i64 0, pv (.slice none 0 0), pv (.slice none 0 0), pv (.slice none 0 0)]) Try.sizeOf28 rfl (j := 2) rfl (part_agO (ψs := [pv (.slice none 0 0), iv .i64 0, iv .i64 0, pv (.slice none 0 0), pv (.slice none 0 0), pv (.slice none 0 0)]) rfl ⟨.inl (pv_at rfl), .inl iv_at, .inl iv_at, .inl (pv_at rfl), .inl (pv_at rfl), .inl (pv_at rfl), trivial⟩) rfl rfl rfl) (fun _ => ?_)
    refine as1 rfl rfl ?_
    refine l_nil ?_
    refine b_of (nrm [oc b1 [slv (rI .i64) c_0.Items, iv .i64 c_0.Window, iv .i64 c_0.Base, slv (rI .i64) c_0.Received, slv rT_api_Packet c_0.Held, slv rT_api_Packet c_0.Flight], oc b2 [iv .i64 e_1.Kind, iv .i64 e_1.N], oc b3 [pv (.slice none 0 0), iv .i64 0, iv .i64 0, pv (.slice none 0 0), pv (.slice none 0 0), pv (.slice none 0 0)]] rfl) ?_
    refine n_then (ref_ret (r_then ?_))
    refine b_of (ocW 2 [slv (rI .i64) [], iv .i64 0, iv .i64 0, slv (rI .i64) [], slv rT_api_Packet [], slv rT_api_Packet []] rfl ⟨nil_sl, imp_rfl, imp_rfl, nil_sl, nil_sl, nil_sl, trivial⟩) ?_
    exact fin2 (.inl rfl) () [] rfl trivial rfl (rv_cell rfl (j := 2) rfl Try.isAgg28 Try.sizeOf28 rfl rfl) (rv_tmp rfl)
  refine s_on rfl rfl rfl ?_
  refine s_rd (r_faddr (fo := 1) Try.underlying35 rfl rfl Try.sizeOf3 rfl) rfl ?_
  refine s_on rfl rfl rfl ?_
  refine s_rd (r_cload Try.isAgg3 rfl (j := 1) rfl rfl) rfl ?_
  refine s_on rfl rfl rfl ?_
  refine s_rd (r_faddr (fo := 5) Try.underlying28 rfl rfl Try.sizeOf26 rfl) rfl ?_
  refine s_on rfl rfl rfl ?_
  refine s_rd (r_cload Try.isAgg26 rfl (j := 0) rfl rfl) rfl ?_
  refine s_on rfl rfl rfl ?_
  refine s_rd (r_len Try.underlying26 rfl) rfl ?_
  refine s_on rfl rfl rfl ?_
  refine s_rd (r_geq rfl rfl) rfl ?_
  refine s_rd (r_pickF rfl rfl) rfl ?_
  refine l_nil (n_then ?_)
  refine ref_cond rfl (fun hb11 => ?_) (fun hb11 => ?_)
  · refine ref_seq (ref_region ?_)
    refine s_rd (r_build (ps := []) (rs := []) st_28 zs_28 trivial rfl rfl) rfl ?_
    refine s_st0 (s_cstore (out := [pv (.slice none 0 0), iv .i64 0, iv .i64 0, pv (.slice none 0 0), pv (.slice none 0 0), pv (.slice none 0 0)]) Try.sizeOf28 rfl (j := 2) rfl (part_agO (ψs := [pv (.slice none 0 0), iv .i64 0, iv .i64 0, pv (.slice none 0 0), pv (.slice none 0 0), pv (.slice none 0 0)]) rfl ⟨.inl (pv_at rfl), .inl iv_at, .inl iv_at, .inl (pv_at rfl), .inl (pv_at rfl), .inl (pv_at rfl), trivial⟩) rfl rfl rfl) (fun _ => ?_)
    refine as1 rfl rfl ?_
    refine l_nil ?_
    refine b_of (nrm [oc b1 [slv (rI .i64) c_0.Items, iv .i64 c_0.Window, iv .i64 c_0.Base, slv (rI .i64) c_0.Received, slv rT_api_Packet c_0.Held, slv rT_api_Packet c_0.Flight], oc b2 [iv .i64 e_1.Kind, iv .i64 e_1.N], oc b3 [pv (.slice none 0 0), iv .i64 0, iv .i64 0, pv (.slice none 0 0), pv (.slice none 0 0), pv (.slice none 0 0)]] rfl) ?_
    refine n_then (ref_ret (r_then ?_))
    refine b_of (ocW 2 [slv (rI .i64) [], iv .i64 0, iv .i64 0, slv (rI .i64) [], slv rT_api_Packet [], slv rT_api_Packet []] rfl ⟨nil_sl, imp_rfl, imp_rfl, nil_sl, nil_sl, nil_sl, trivial⟩) ?_
    exact fin2 (.inl rfl) () [] rfl trivial rfl (rv_cell rfl (j := 2) rfl Try.isAgg28 Try.sizeOf28 rfl rfl) (rv_tmp rfl)
  refine ref_skip (n_then (ref_seq (ref_region ?_)))
  refine s_rd (r_faddr (fo := 5) Try.underlying28 rfl rfl Try.sizeOf26 rfl) rfl ?_
  refine s_rd (r_cload Try.isAgg26 rfl (j := 0) rfl rfl) rfl ?_
  refine s_rd (r_faddr (fo := 1) Try.underlying35 rfl rfl Try.sizeOf3 rfl) rfl ?_
  refine s_rd (r_cload Try.isAgg3 rfl (j := 1) rfl rfl) rfl ?_
  refine pull fun t12 h_t12 => ?_
  refine s_rd (r_index h_t12 Try.underlying26 el_55 rfl rfl) rfl ?_
  refine s_rd (r_load el_55 rfl) rfl ?_
  refine s_st (s_alloc zt_55) rfl (fun b13 => ?_)
  refine s_st0 (s_cstore (out := [bv t12.Ack, iv .i64 t12.Number, iv .i64 t12.Value]) Try.sizeOf55 rfl (j := 3) rfl (part_agO (ψs := [bv t12.Ack, iv .i64 t12.Number, iv .i64 t12.Value]) rfl ⟨.inl bv_at, .inl iv_at, .inl iv_at, trivial⟩) rfl rfl rfl) (fun _ => ?_)
  refine l_nil ?_
  refine b_of (nrm [oc b1 [slv (rI .i64) c_0.Items, iv .i64 c_0.Window, iv .i64 c_0.Base, slv (rI .i64) c_0.Received, slv rT_api_Packet c_0.Held, slv rT_api_Packet c_0.Flight], oc b2 [iv .i64 e_1.Kind, iv .i64 e_1.N], oc b3 [pv (.slice none 0 0), iv .i64 0, iv .i64 0, pv (.slice none 0 0), pv (.slice none 0 0), pv (.slice none 0 0)], oc b13 [bv t12.Ack, iv .i64 t12.Number, iv .i64 t12.Value]] rfl) ?_
  refine n_then (ref_seq (ref_seq (ref_region ?_)))
  refine s_rd (r_faddr (fo := 0) Try.underlying35 rfl rfl Try.sizeOf3 rfl) rfl ?_
  refine s_rd (r_cload Try.isAgg3 rfl (j := 1) rfl rfl) rfl ?_
  refine s_rd (r_eql rfl rfl) rfl ?_
  refine l_nil (n_then ?_)
  refine ref_cond rfl (fun hb14 => ?_) (fun hb14 => ?_)
  · refine ref_seq (ref_seq (ref_region ?_))
    refine s_rd (r_faddr (fo := 5) Try.underlying28 rfl rfl Try.sizeOf26 rfl) rfl ?_
    refine s_rd (r_cload Try.isAgg26 rfl (j := 0) rfl rfl) rfl ?_
    refine s_rd (r_len Try.underlying26 rfl) rfl ?_
    refine s_rd (r_geq rfl rfl) rfl ?_
    refine l_nil (n_then ?_)
    refine ref_cond rfl (fun hb15 => ?_) (fun hb15 => ?_)
    · refine ref_seq (ref_region ?_)
      refine s_rd (r_build (ps := []) (rs := []) st_28 zs_28 trivial rfl rfl) rfl ?_
      refine s_st0 (s_cstore (out := [pv (.slice none 0 0), iv .i64 0, iv .i64 0, pv (.slice none 0 0), pv (.slice none 0 0), pv (.slice none 0 0)]) Try.sizeOf28 rfl (j := 2) rfl (part_agO (ψs := [pv (.slice none 0 0), iv .i64 0, iv .i64 0, pv (.slice none 0 0), pv (.slice none 0 0), pv (.slice none 0 0)]) rfl ⟨.inl (pv_at rfl), .inl iv_at, .inl iv_at, .inl (pv_at rfl), .inl (pv_at rfl), .inl (pv_at rfl), trivial⟩) rfl rfl rfl) (fun _ => ?_)
      refine as1 rfl rfl ?_
      refine l_nil (n_then (ref_ret (r_then (r_then ?_))))
      refine b_of (ocW 2 [slv (rI .i64) [], iv .i64 0, iv .i64 0, slv (rI .i64) [], slv rT_api_Packet [], slv rT_api_Packet []] rfl ⟨nil_sl, imp_rfl, imp_rfl, nil_sl, nil_sl, nil_sl, trivial⟩) ?_
      exact fin2 (.inl rfl) () [] rfl trivial rfl (rv_cell rfl (j := 2) rfl Try.isAgg28 Try.sizeOf28 rfl rfl) (rv_tmp rfl)
    refine ref_skip (n_then (ref_seq (ref_region ?_)))
    refine s_rd (r_faddr (fo := 5) Try.underlying28 rfl rfl Try.sizeOf26 rfl) rfl ?_
    refine s_rd (r_cload Try.isAgg26 rfl (j := 0) rfl rfl) rfl ?_
    refine s_rd (r_cloadS Try.isAgg55 Try.sizeOf55 rfl (j := 3) rfl rfl rfl) rfl ?_
    refine pull fun t16 h_t16 => ?_
    refine s_st (s_call (ψ := fun (x17 : (Value × List Nat)) => pv x17.1) (args := [.tmp 93, .tmp 94]) Try.call34 rfl (ref29_with_ok h_t16) ⟨arg rfl, arg rfl, trivial⟩ (fun _ _ _ _ h => h)) rfl (fun x17 => ?_)
    refine s_rd (r_faddr (fo := 5) Try.underlying28 rfl rfl Try.sizeOf26 rfl) rfl ?_
    refine s_st0 (s_cstore (out := [slv (rI .i64) c_0.Items, iv .i64 c_0.Window, iv .i64 c_0.Base, slv (rI .i64) c_0.Received, slv rT_api_Packet c_0.Held, pv x17.1]) Try.sizeOf26 rfl (j := 0) rfl (part_own rfl (j := 4) rfl) rfl rfl rfl) (fun _ => ?_)
    refine l_nil (n_then (ref_seq (ref_region ?_)))
    refine s_rd (r_cloadS Try.isAgg28 Try.sizeOf28 rfl (j := 0) rfl rfl rfl) rfl ?_
    refine s_st0 (s_cstore (out := [slv (rI .i64) c_0.Items, iv .i64 c_0.Window, iv .i64 c_0.Base, slv (rI .i64) c_0.Received, slv rT_api_Packet c_0.Held, pv x17.1]) Try.sizeOf28 rfl (j := 2) rfl (part_agO (ψs := [slv (rI .i64) c_0.Items, iv .i64 c_0.Window, iv .i64 c_0.Base, slv (rI .i64) c_0.Received, slv rT_api_Packet c_0.Held, pv x17.1]) rfl ⟨.inl slv_at, .inl iv_at, .inl iv_at, .inl slv_at, .inl slv_at, .inr ⟨_, _, _, _, _, 4, rfl, rfl⟩, trivial⟩) rfl rfl rfl) (fun _ => ?_)
    refine as1 rfl rfl ?_
    refine l_nil (n_then (ref_ret (r_then ?_)))
    refine b_of (frzGL [(95, slv rT_api_Packet t16), (97, ag [slv (rI .i64) c_0.Items, iv .i64 c_0.Window, iv .i64 c_0.Base, slv (rI .i64) c_0.Received, slv rT_api_Packet c_0.Held, slv rT_api_Packet t16])] [(0, b1, [slv (rI .i64) c_0.Items, iv .i64 c_0.Window, iv .i64 c_0.Base, slv (rI .i64) c_0.Received, slv rT_api_Packet c_0.Held, slv rT_api_Packet t16]), (2, b3, [slv (rI .i64) c_0.Items, iv .i64 c_0.Window, iv .i64 c_0.Base, slv (rI .i64) c_0.Received, slv rT_api_Packet c_0.Held, slv rT_api_Packet t16])] (j := 4) rfl ⟨⟨_, rfl, .inl ⟨rfl, rfl⟩⟩, ⟨_, rfl, .inr ⟨_, _, rfl, rfl, ⟨.inl rfl, .inl rfl, .inl rfl, .inl rfl, .inl rfl, .inr ⟨rfl, rfl⟩, trivial⟩⟩⟩, trivial⟩ ⟨⟨_, rfl, ⟨.inl rfl, .inl rfl, .inl rfl, .inl rfl, .inl rfl, .inr ⟨rfl, rfl⟩, trivial⟩⟩, ⟨_, rfl, ⟨.inl rfl, .inl rfl, .inl rfl, .inl rfl, .inl rfl, .inr ⟨rfl, rfl⟩, trivial⟩⟩, trivial⟩) ?_
    refine b_of (nrm [oc b1 [slv (rI .i64) c_0.Items, iv .i64 c_0.Window, iv .i64 c_0.Base, slv (rI .i64) c_0.Received, slv rT_api_Packet c_0.Held, slv rT_api_Packet t16], oc b2 [iv .i64 e_1.Kind, iv .i64 e_1.N], oc b3 [slv (rI .i64) c_0.Items, iv .i64 c_0.Window, iv .i64 c_0.Base, slv (rI .i64) c_0.Received, slv rT_api_Packet c_0.Held, slv rT_api_Packet t16], oc b13 [bv t12.Ack, iv .i64 t12.Number, iv .i64 t12.Value], dead] rfl) ?_
    exact fin2 (.inl rfl) () [] rfl trivial rfl (rv_cell rfl (j := 2) rfl Try.isAgg28 Try.sizeOf28 rfl rfl) (rv_tmp rfl)
  refine ref_skip (n_then (ref_seq (ref_region ?_)))
  refine s_rd (r_faddr (fo := 5) Try.underlying28 rfl rfl Try.sizeOf26 rfl) rfl ?_
  refine s_rd (r_cload Try.isAgg26 rfl (j := 0) rfl rfl) rfl ?_
  refine s_rd (r_faddr (fo := 1) Try.underlying35 rfl rfl Try.sizeOf3 rfl) rfl ?_
  refine s_rd (r_cload Try.isAgg3 rfl (j := 1) rfl rfl) rfl ?_
  refine pull fun t18 h_t18 => ?_
  refine s_st (s_call (ψ := fun (x19 : (Value × List Nat)) => pv x19.1) (args := [.tmp 99, .tmp 101]) Try.call35 rfl (ref29_without_ok h_t18) ⟨arg rfl, arg rfl, trivial⟩ (fun _ _ _ _ h => h)) rfl (fun x19 => ?_)
  refine s_rd (r_faddr (fo := 5) Try.underlying28 rfl rfl Try.sizeOf26 rfl) rfl ?_
  refine s_st0 (s_cstore (out := [slv (rI .i64) c_0.Items, iv .i64 c_0.Window, iv .i64 c_0.Base, slv (rI .i64) c_0.Received, slv rT_api_Packet c_0.Held, pv x19.1]) Try.sizeOf26 rfl (j := 0) rfl (part_own rfl (j := 4) rfl) rfl rfl rfl) (fun _ => ?_)
  refine l_nil (n_then (ref_seq (ref_block (ref_seq (ref_region ?_)))))
  refine s_rd (r_faddr (fo := 0) Try.underlying35 rfl rfl Try.sizeOf3 rfl) rfl ?_
  refine s_rd (r_cload Try.isAgg3 rfl (j := 1) rfl rfl) rfl ?_
  refine s_rd (r_eql rfl rfl) rfl ?_
  refine as1 rfl rfl ?_
  refine l_nil (n_then ?_)
  refine ref_cond rfl (fun hb20 => ?_) (fun hb20 => ?_)
  · refine ref_skip (n_block (n_then (ref_seq (ref_region ?_))))
    refine s_rd (r_cloadS Try.isAgg28 Try.sizeOf28 rfl (j := 0) rfl rfl rfl) rfl ?_
    refine s_st0 (s_cstore (out := [slv (rI .i64) c_0.Items, iv .i64 c_0.Window, iv .i64 c_0.Base, slv (rI .i64) c_0.Received, slv rT_api_Packet c_0.Held, pv x19.1]) Try.sizeOf28 rfl (j := 2) rfl (part_agO (ψs := [slv (rI .i64) c_0.Items, iv .i64 c_0.Window, iv .i64 c_0.Base, slv (rI .i64) c_0.Received, slv rT_api_Packet c_0.Held, pv x19.1]) rfl ⟨.inl slv_at, .inl iv_at, .inl iv_at, .inl slv_at, .inl slv_at, .inr ⟨_, _, _, _, _, 4, rfl, rfl⟩, trivial⟩) rfl rfl rfl) (fun _ => ?_)
    refine as1 rfl rfl ?_
    refine l_nil (n_then (ref_ret ?_))
    refine b_of (frzGL [(102, slv rT_api_Packet t18), (120, ag [slv (rI .i64) c_0.Items, iv .i64 c_0.Window, iv .i64 c_0.Base, slv (rI .i64) c_0.Received, slv rT_api_Packet c_0.Held, slv rT_api_Packet t18])] [(0, b1, [slv (rI .i64) c_0.Items, iv .i64 c_0.Window, iv .i64 c_0.Base, slv (rI .i64) c_0.Received, slv rT_api_Packet c_0.Held, slv rT_api_Packet t18]), (2, b3, [slv (rI .i64) c_0.Items, iv .i64 c_0.Window, iv .i64 c_0.Base, slv (rI .i64) c_0.Received, slv rT_api_Packet c_0.Held, slv rT_api_Packet t18])] (j := 4) rfl ⟨⟨_, rfl, .inl ⟨rfl, rfl⟩⟩, ⟨_, rfl, .inr ⟨_, _, rfl, rfl, ⟨.inl rfl, .inl rfl, .inl rfl, .inl rfl, .inl rfl, .inr ⟨rfl, rfl⟩, trivial⟩⟩⟩, trivial⟩ ⟨⟨_, rfl, ⟨.inl rfl, .inl rfl, .inl rfl, .inl rfl, .inl rfl, .inr ⟨rfl, rfl⟩, trivial⟩⟩, ⟨_, rfl, ⟨.inl rfl, .inl rfl, .inl rfl, .inl rfl, .inl rfl, .inr ⟨rfl, rfl⟩, trivial⟩⟩, trivial⟩) ?_
    refine b_of (nrm [oc b1 [slv (rI .i64) c_0.Items, iv .i64 c_0.Window, iv .i64 c_0.Base, slv (rI .i64) c_0.Received, slv rT_api_Packet c_0.Held, slv rT_api_Packet t18], oc b2 [iv .i64 e_1.Kind, iv .i64 e_1.N], oc b3 [slv (rI .i64) c_0.Items, iv .i64 c_0.Window, iv .i64 c_0.Base, slv (rI .i64) c_0.Received, slv rT_api_Packet c_0.Held, slv rT_api_Packet t18], oc b13 [bv t12.Ack, iv .i64 t12.Number, iv .i64 t12.Value], dead] rfl) ?_
    exact fin2 (.inl rfl) () [] rfl trivial rfl (rv_cell rfl (j := 2) rfl Try.isAgg28 Try.sizeOf28 rfl rfl) (rv_tmp rfl)
  refine ref_seq (ref_region ?_)
  refine s_rd (r_faddr (fo := 0) Try.underlying55 rfl rfl Try.sizeOf4 rfl) rfl ?_
  refine s_rd (r_cload Try.isAgg4 rfl (j := 3) rfl rfl) rfl ?_
  refine as1 rfl rfl ?_
  refine l_nil (n_then ?_)
  refine ref_cond rfl (fun hb21 => ?_) (fun hb21 => ?_)
  · refine ref_region ?_
    refine s_rd (r_faddr (fo := 2) Try.underlying28 rfl rfl Try.sizeOf3 rfl) rfl ?_
    refine s_rd (r_cload Try.isAgg3 rfl (j := 0) rfl rfl) rfl ?_
    refine s_rd (r_faddr (fo := 1) Try.underlying55 rfl rfl Try.sizeOf3 rfl) rfl ?_
    refine s_rd (r_cload Try.isAgg3 rfl (j := 3) rfl rfl) rfl ?_
    refine s_rd (r_max rfl rfl) rfl ?_
    refine s_rd (r_faddr (fo := 2) Try.underlying28 rfl rfl Try.sizeOf3 rfl) rfl ?_
    refine s_st0 (s_cstore (out := [slv (rI .i64) c_0.Items, iv .i64 c_0.Window, iv .i64 (imax c_0.Base t12.Number), slv (rI .i64) c_0.Received, slv rT_api_Packet c_0.Held, pv x19.1]) Try.sizeOf3 rfl (j := 0) rfl (part_at rfl iv_at) rfl rfl rfl) (fun _ => ?_)
    refine l_nil (n_block (n_then (ref_seq (ref_region ?_))))
    refine s_rd (r_cloadS Try.isAgg28 Try.sizeOf28 rfl (j := 0) rfl rfl rfl) rfl ?_
    refine s_st0 (s_cstore (out := [slv (rI .i64) c_0.Items, iv .i64 c_0.Window, iv .i64 (imax c_0.Base t12.Number), slv (rI .i64) c_0.Received, slv rT_api_Packet c_0.Held, pv x19.1]) Try.sizeOf28 rfl (j := 2) rfl (part_agO (ψs := [slv (rI .i64) c_0.Items, iv .i64 c_0.Window, iv .i64 (imax c_0.Base t12.Number), slv (rI .i64) c_0.Received, slv rT_api_Packet c_0.Held, pv x19.1]) rfl ⟨.inl slv_at, .inl iv_at, .inl iv_at, .inl slv_at, .inl slv_at, .inr ⟨_, _, _, _, _, 4, rfl, rfl⟩, trivial⟩) rfl rfl rfl) (fun _ => ?_)
    refine as1 rfl rfl ?_
    refine l_nil ?_
    refine b_of (nrm [oc b1 [slv (rI .i64) c_0.Items, iv .i64 c_0.Window, iv .i64 (imax c_0.Base t12.Number), slv (rI .i64) c_0.Received, slv rT_api_Packet c_0.Held, pv x19.1], oc b2 [iv .i64 e_1.Kind, iv .i64 e_1.N], oc b3 [slv (rI .i64) c_0.Items, iv .i64 c_0.Window, iv .i64 (imax c_0.Base t12.Number), slv (rI .i64) c_0.Received, slv rT_api_Packet c_0.Held, pv x19.1], oc b13 [bv t12.Ack, iv .i64 t12.Number, iv .i64 t12.Value], oa rT_api_Packet x19.1 x19.2 t18] rfl) ?_
    refine n_then (ref_ret ?_)
    refine b_of (frzGL [(102, slv rT_api_Packet t18), (120, ag [slv (rI .i64) c_0.Items, iv .i64 c_0.Window, iv .i64 (imax c_0.Base t12.Number), slv (rI .i64) c_0.Received, slv rT_api_Packet c_0.Held, slv rT_api_Packet t18])] [(0, b1, [slv (rI .i64) c_0.Items, iv .i64 c_0.Window, iv .i64 (imax c_0.Base t12.Number), slv (rI .i64) c_0.Received, slv rT_api_Packet c_0.Held, slv rT_api_Packet t18]), (2, b3, [slv (rI .i64) c_0.Items, iv .i64 c_0.Window, iv .i64 (imax c_0.Base t12.Number), slv (rI .i64) c_0.Received, slv rT_api_Packet c_0.Held, slv rT_api_Packet t18])] (j := 4) rfl ⟨⟨_, rfl, .inl ⟨rfl, rfl⟩⟩, ⟨_, rfl, .inr ⟨_, _, rfl, rfl, ⟨.inl rfl, .inl rfl, .inl rfl, .inl rfl, .inl rfl, .inr ⟨rfl, rfl⟩, trivial⟩⟩⟩, trivial⟩ ⟨⟨_, rfl, ⟨.inl rfl, .inl rfl, .inl rfl, .inl rfl, .inl rfl, .inr ⟨rfl, rfl⟩, trivial⟩⟩, ⟨_, rfl, ⟨.inl rfl, .inl rfl, .inl rfl, .inl rfl, .inl rfl, .inr ⟨rfl, rfl⟩, trivial⟩⟩, trivial⟩) ?_
    refine b_of (nrm [oc b1 [slv (rI .i64) c_0.Items, iv .i64 c_0.Window, iv .i64 (imax c_0.Base t12.Number), slv (rI .i64) c_0.Received, slv rT_api_Packet c_0.Held, slv rT_api_Packet t18], oc b2 [iv .i64 e_1.Kind, iv .i64 e_1.N], oc b3 [slv (rI .i64) c_0.Items, iv .i64 c_0.Window, iv .i64 (imax c_0.Base t12.Number), slv (rI .i64) c_0.Received, slv rT_api_Packet c_0.Held, slv rT_api_Packet t18], oc b13 [bv t12.Ack, iv .i64 t12.Number, iv .i64 t12.Value], dead] rfl) ?_
    exact fin2 (.inl rfl) () [] rfl trivial rfl (rv_cell rfl (j := 2) rfl Try.isAgg28 Try.sizeOf28 rfl rfl) (rv_tmp rfl)
  refine ref_region ?_
  refine s_rd (r_cloadS Try.isAgg28 Try.sizeOf28 rfl (j := 0) rfl rfl rfl) rfl ?_
  refine s_rd (r_cloadS Try.isAgg55 Try.sizeOf55 rfl (j := 3) rfl rfl rfl) rfl ?_
  refine b_of (frzGL [(102, slv rT_api_Packet t18), (104, ag [slv (rI .i64) c_0.Items, iv .i64 c_0.Window, iv .i64 c_0.Base, slv (rI .i64) c_0.Received, slv rT_api_Packet c_0.Held, slv rT_api_Packet t18])] [(0, b1, [slv (rI .i64) c_0.Items, iv .i64 c_0.Window, iv .i64 c_0.Base, slv (rI .i64) c_0.Received, slv rT_api_Packet c_0.Held, slv rT_api_Packet t18])] (j := 4) rfl ⟨⟨_, rfl, .inl ⟨rfl, rfl⟩⟩, ⟨_, rfl, .inr ⟨_, _, rfl, rfl, ⟨.inl rfl, .inl rfl, .inl rfl, .inl rfl, .inl rfl, .inr ⟨rfl, rfl⟩, trivial⟩⟩⟩, trivial⟩ ⟨⟨_, rfl, ⟨.inl rfl, .inl rfl, .inl rfl, .inl rfl, .inl rfl, .inr ⟨rfl, rfl⟩, trivial⟩⟩, trivial⟩) ?_
  refine pull fun t22 h_t22 => ?_
  refine s_st (s_call (ψ := fun (_ : Unit) => ag [slv (rI .i64) t22.Items, iv .i64 t22.Window, iv .i64 t22.Base, slv (rI .i64) t22.Received, slv rT_api_Packet t22.Held, slv rT_api_Packet t22.Flight]) (args := [.tmp 104, .tmp 105]) Try.call36 rfl (ref29_receive_ok h_t22) ⟨arg rfl, arg rfl, trivial⟩ (fun _ _ _ _ h => h)) rfl (fun _ => ?_)
  refine s_st0 (s_cstore (out := [slv (rI .i64) t22.Items, iv .i64 t22.Window, iv .i64 t22.Base, slv (rI .i64) t22.Received, slv rT_api_Packet t22.Held, slv rT_api_Packet t22.Flight]) Try.sizeOf28 rfl (j := 0) rfl (part_agO (ψs := [slv (rI .i64) t22.Items, iv .i64 t22.Window, iv .i64 t22.Base, slv (rI .i64) t22.Received, slv rT_api_Packet t22.Held, slv rT_api_Packet t22.Flight]) rfl ⟨.inl slv_at, .inl iv_at, .inl iv_at, .inl slv_at, .inl slv_at, .inl slv_at, trivial⟩) rfl rfl rfl) (fun _ => ?_)
  refine l_nil ?_
  refine b_of (nrm [oc b1 [slv (rI .i64) t22.Items, iv .i64 t22.Window, iv .i64 t22.Base, slv (rI .i64) t22.Received, slv rT_api_Packet t22.Held, slv rT_api_Packet t22.Flight], oc b2 [iv .i64 e_1.Kind, iv .i64 e_1.N], oc b3 [pv (.slice none 0 0), iv .i64 0, iv .i64 0, pv (.slice none 0 0), pv (.slice none 0 0), pv (.slice none 0 0)], oc b13 [bv t12.Ack, iv .i64 t12.Number, iv .i64 t12.Value], dead] rfl) ?_
  refine n_block (n_then (ref_seq (ref_region ?_)))
  refine s_rd (r_cloadS Try.isAgg28 Try.sizeOf28 rfl (j := 0) rfl rfl rfl) rfl ?_
  refine s_st0 (s_cstore (out := [slv (rI .i64) t22.Items, iv .i64 t22.Window, iv .i64 t22.Base, slv (rI .i64) t22.Received, slv rT_api_Packet t22.Held, slv rT_api_Packet t22.Flight]) Try.sizeOf28 rfl (j := 2) rfl (part_agO (ψs := [slv (rI .i64) t22.Items, iv .i64 t22.Window, iv .i64 t22.Base, slv (rI .i64) t22.Received, slv rT_api_Packet t22.Held, slv rT_api_Packet t22.Flight]) rfl ⟨.inl slv_at, .inl iv_at, .inl iv_at, .inl slv_at, .inl slv_at, .inl slv_at, trivial⟩) rfl rfl rfl) (fun _ => ?_)
  refine as1 rfl rfl ?_
  refine l_nil (n_then (ref_ret ?_))
  exact fin2 (.inl rfl) () [] rfl trivial rfl (rv_cell rfl (j := 2) rfl Try.isAgg28 Try.sizeOf28 rfl rfl) (rv_tmp rfl)

/-! deliberation/deliberationref29.Done -/
noncomputable def ref29_Done_m (c_0 : T_api_Channel) : Option (Bool) :=
  letM (c_0.Base == (c_0.Items.length : Int)) fun t2 =>
  some t2

theorem ref29_Done_ok {c_0 : T_api_Channel} {r : Bool} (hm : ref29_Done_m c_0 = some r) :
    FnOk prog 21 [ag [slv (rI .i64) c_0.Items, iv .i64 c_0.Window, iv .i64 c_0.Base, slv (rI .i64) c_0.Received, slv rT_api_Packet c_0.Held, slv rT_api_Packet c_0.Flight]] [] (fun (x : Unit) => [bv r]) (fun (x : Unit) => []) := by
  refine fn_ok (fn := Try.f21) (N := 9) (res := fun r x => [bv r]) (Ω1 := fun r x => []) Try.func21 rfl rfl hm rfl (fun E hM => ?_)
  unfold ref29_Done_m
  refine ref_seq (ref_region ?_)
  refine s_st (s_box (part_agO (ψs := [slv (rI .i64) c_0.Items, iv .i64 c_0.Window, iv .i64 c_0.Base, slv (rI .i64) c_0.Received, slv rT_api_Packet c_0.Held, slv rT_api_Packet c_0.Flight]) rfl ⟨.inl slv_at, .inl iv_at, .inl iv_at, .inl slv_at, .inl slv_at, .inl slv_at, trivial⟩)) rfl (fun b1 => ?_)
  refine as1 rfl rfl ?_
  refine l_nil (n_then (ref_seq (ref_region ?_)))
  refine s_rd (r_faddr (fo := 2) Try.underlying28 rfl rfl Try.sizeOf3 rfl) rfl ?_
  refine s_rd (r_cload Try.isAgg3 rfl (j := 0) rfl rfl) rfl ?_
  refine s_rd (r_faddr (fo := 0) Try.underlying28 rfl rfl Try.sizeOf22 rfl) rfl ?_
  refine s_rd (r_cload Try.isAgg22 rfl (j := 0) rfl rfl) rfl ?_
  refine s_rd (r_len Try.underlying22 rfl) rfl ?_
  refine s_rd (r_eql rfl rfl) rfl ?_
  refine as1 rfl rfl ?_
  refine b_let (f := bv) (t := 2) rfl fun t2 => ?_
  refine l_nil (n_then (ref_ret ?_))
  exact fin1 (.inl rfl) () [] rfl trivial rfl (rv_tmp rfl)

/-! deliberation/deliberationref29.Finish -/
noncomputable def ref29_Finish_l1  (s18 : Int × T_api_Channel) : Option (Sum (T_api_Channel × Int) (Int × T_api_Channel)) :=
  Option.bind (ref29_Done_m (T_api_Channel.mk s18.2.Items s18.2.Window s18.2.Base s18.2.Received s18.2.Held [])) fun t20 =>
  bif t20 then
    some (Sum.inl ((T_api_Channel.mk s18.2.Items s18.2.Window s18.2.Base s18.2.Received s18.2.Held []), s18.1))
  else
    Option.bind (ref29_Step_m (T_api_Channel.mk s18.2.Items s18.2.Window s18.2.Base s18.2.Received s18.2.Held []) (T_api_NetEvent.mk 1 0)) fun t22 =>
    Option.bind (ref29_Step_m t22.1 (T_api_NetEvent.mk 2 0)) fun t23 =>
    Option.bind (ref29_Step_m t23.1 (T_api_NetEvent.mk 2 0)) fun t24 =>
    letM (iadd .i64 s18.1 1) fun n25 =>
    some (Sum.inr (n25, t24.1))

noncomputable def ref29_Finish_m (c_0 : T_api_Channel) : Option (T_api_Channel × Int) :=
  Option.bind (loopC (ref29_Finish_l1) (0, c_0)) (fun a : T_api_Channel × Int => some a)

theorem ref29_Finish_ok {c_0 : T_api_Channel} {r : T_api_Channel × Int} (hm : ref29_Finish_m c_0 = some r) :
    FnOk prog 22 [ag [slv (rI .i64) c_0.Items, iv .i64 c_0.Window, iv .i64 c_0.Base, slv (rI .i64) c_0.Received, slv rT_api_Packet c_0.Held, slv rT_api_Packet c_0.Flight]] [] (fun (x : Unit) => [ag [slv (rI .i64) r.1.Items, iv .i64 r.1.Window, iv .i64 r.1.Base, slv (rI .i64) r.1.Received, slv rT_api_Packet r.1.Held, slv rT_api_Packet r.1.Flight], iv .i64 r.2]) (fun (x : Unit) => []) := by
  refine fn_ok (fn := Try.f22) (N := 30) (res := fun r x => [ag [slv (rI .i64) r.1.Items, iv .i64 r.1.Window, iv .i64 r.1.Base, slv (rI .i64) r.1.Received, slv rT_api_Packet r.1.Held, slv rT_api_Packet r.1.Flight], iv .i64 r.2]) (Ω1 := fun r x => []) Try.func22 rfl rfl hm rfl (fun E hM => ?_)
  unfold ref29_Finish_m
  refine ref_seq (ref_region ?_)
  refine s_st (s_box (part_agO (ψs := [slv (rI .i64) c_0.Items, iv .i64 c_0.Window, iv .i64 c_0.Base, slv (rI .i64) c_0.Received, slv rT_api_Packet c_0.Held, slv rT_api_Packet c_0.Flight]) rfl ⟨.inl slv_at, .inl iv_at, .inl iv_at, .inl slv_at, .inl slv_at, .inl slv_at, trivial⟩)) rfl (fun b1 => ?_)
  refine s_st (s_alloc zt_28) rfl (fun b2 => ?_)
  refine as1 rfl rfl ?_
  refine l_nil (n_then (ref_seq (ref_region ?_)))
  refine as1 rfl rfl ?_
  refine l_nil (n_then ?_)
  refine ref_block (ref_loop (f := (ref29_Finish_l1)) (Γl := (fun (s18 : Int × T_api_Channel) (x19 : Unit) => [(1, pv (ptr b1 0)), (2, pv (ptr b2 0)), (4, iv .i64 s18.1)])) (Ωl := (fun (s18 : Int × T_api_Channel) (x19 : Unit) => [oc b1 [slv (rI .i64) s18.2.Items, iv .i64 s18.2.Window, iv .i64 s18.2.Base, slv (rI .i64) s18.2.Received, slv rT_api_Packet s18.2.Held, slv rT_api_Packet s18.2.Flight], oc b2 [pv (.slice none 0 0), iv .i64 0, iv .i64 0, pv (.slice none 0 0), pv (.slice none 0 0), pv (.slice none 0 0)]])) (k := (fun a : T_api_Channel × Int => some a)) (0, c_0) () (weak [0, 1] ⟨rfl, rfl, rfl, trivial⟩ ⟨rfl, rfl, trivial⟩) (fun s18 x19 => ?_))
  · unfold ref29_Finish_l1
    refine ref_seq (ref_block (ref_seq (ref_region ?_)))
    refine s_rd (r_faddr (fo := 5) Try.underlying28 rfl rfl Try.sizeOf26 rfl) rfl ?_
    refine s_st0 (s_cstore (out := [slv (rI .i64) s18.2.Items, iv .i64 s18.2.Window, iv .i64 s18.2.Base, slv (rI .i64) s18.2.Received, slv rT_api_Packet s18.2.Held, pv (.slice none 0 0)]) Try.sizeOf26 rfl (j := 0) rfl (part_at (φ := pv (.slice none 0 0)) rfl (pv_at rfl)) rfl rfl rfl) (fun _ => ?_)
    refine l_nil (n_then (ref_seq (ref_seq (ref_region ?_))))
    refine s_rd (r_cloadS Try.isAgg28 Try.sizeOf28 rfl (j := 0) rfl rfl rfl) rfl ?_
    refine b_of (nilG rT_api_Packet [(8, ag [slv (rI .i64) s18.2.Items, iv .i64 s18.2.Window, iv .i64 s18.2.Base, slv (rI .i64) s18.2.Received, slv rT_api_Packet s18.2.Held, slv rT_api_Packet []])] [] ⟨⟨_, rfl, .inr ⟨_, _, rfl, rfl, ⟨.inl rfl, .inl rfl, .inl rfl, .inl rfl, .inl rfl, .inr ⟨rfl, rfl⟩, trivial⟩⟩⟩, trivial⟩ trivial) ?_
    refine pull fun t20 h_t20 => ?_
    refine s_st (s_call (ψ := fun (_ : Unit) => bv t20) (args := [.tmp 8]) Try.call21 rfl (ref29_Done_ok h_t20) ⟨arg rfl, trivial⟩ (fun _ _ _ _ h => h)) rfl (fun _ => ?_)
    refine l_nil ?_
    refine b_of (nrm [oc b1 [slv (rI .i64) s18.2.Items, iv .i64 s18.2.Window, iv .i64 s18.2.Base, slv (rI .i64) s18.2.Received, slv rT_api_Packet s18.2.Held, pv (.slice none 0 0)], oc b2 [pv (.slice none 0 0), iv .i64 0, iv .i64 0, pv (.slice none 0 0), pv (.slice none 0 0), pv (.slice none 0 0)]] rfl) ?_
    refine n_then ?_
    refine ref_cond rfl (fun hb21 => ?_) (fun hb21 => ?_)
    · refine ref_seq (ref_region ?_)
      refine s_rd (r_cloadS Try.isAgg28 Try.sizeOf28 rfl (j := 0) rfl rfl rfl) rfl ?_
      refine mv1 rfl rfl ?_
      refine s_st0 (s_cstore (out := [slv (rI .i64) s18.2.Items, iv .i64 s18.2.Window, iv .i64 s18.2.Base, slv (rI .i64) s18.2.Received, slv rT_api_Packet s18.2.Held, pv (.slice none 0 0)]) Try.sizeOf28 rfl (j := 1) rfl (part_agO (ψs := [slv (rI .i64) s18.2.Items, iv .i64 s18.2.Window, iv .i64 s18.2.Base, slv (rI .i64) s18.2.Received, slv rT_api_Packet s18.2.Held, pv (.slice none 0 0)]) rfl ⟨.inl slv_at, .inl iv_at, .inl iv_at, .inl slv_at, .inl slv_at, .inl (pv_at rfl), trivial⟩) rfl rfl rfl) (fun _ => ?_)
      refine as1 rfl rfl ?_
      refine l_nil (n_then (ref_ret (r_then (r_block (r_then ?_)))))
      refine r_loop ?_
      refine r_block ?_
      refine b_of (ocW 1 [slv (rI .i64) s18.2.Items, iv .i64 s18.2.Window, iv .i64 s18.2.Base, slv (rI .i64) s18.2.Received, slv rT_api_Packet s18.2.Held, slv rT_api_Packet []] rfl ⟨imp_rfl, imp_rfl, imp_rfl, imp_rfl, imp_rfl, nil_sl, trivial⟩) ?_
      exact fin2 (.inl rfl) () [] rfl trivial rfl (rv_cell rfl (j := 1) rfl Try.isAgg28 Try.sizeOf28 rfl rfl) (rv_tmp rfl)
    refine ref_skip (n_then (ref_seq (ref_region ?_)))
    refine s_rd (r_cloadS Try.isAgg28 Try.sizeOf28 rfl (j := 0) rfl rfl rfl) rfl ?_
    refine s_rd (r_build (ps := [(0, .const (.int .i64 (1)))]) (rs := [(0, [iv .i64 1])]) st_35 zs_35 ⟨rfl, (part_at rfl iv_at), trivial⟩ rfl rfl) rfl ?_
    refine b_of (nilG rT_api_Packet [(13, ag [slv (rI .i64) s18.2.Items, iv .i64 s18.2.Window, iv .i64 s18.2.Base, slv (rI .i64) s18.2.Received, slv rT_api_Packet s18.2.Held, slv rT_api_Packet []])] [] ⟨⟨_, rfl, .inr ⟨_, _, rfl, rfl, ⟨.inl rfl, .inl rfl, .inl rfl, .inl rfl, .inl rfl, .inr ⟨rfl, rfl⟩, trivial⟩⟩⟩, trivial⟩ trivial) ?_
    refine pull fun t22 h_t22 => ?_
    refine s_st (s_call (ψ := fun (_ : Unit) => tup [ag [slv (rI .i64) t22.1.Items, iv .i64 t22.1.Window, iv .i64 t22.1.Base, slv (rI .i64) t22.1.Received, slv rT_api_Packet t22.1.Held, slv rT_api_Packet t22.1.Flight], iv .i64 t22.2]) (args := [.tmp 13, .tmp 14]) Try.call20 rfl (ref29_Step_ok h_t22) ⟨arg rfl, arg rfl, trivial⟩ (fun _ _ _ _ h => h)) rfl (fun _ => ?_)
    refine mv1 rfl rfl ?_
    refine s_rd (r_extract rfl rfl) rfl ?_
    refine s_rd (r_extract rfl rfl) rfl ?_
    refine s_st0 (s_cstore (out := [slv (rI .i64) t22.1.Items, iv .i64 t22.1.Window, iv .i64 t22.1.Base, slv (rI .i64) t22.1.Received, slv rT_api_Packet t22.1.Held, slv rT_api_Packet t22.1.Flight]) Try.sizeOf28 rfl (j := 0) rfl (part_agO (ψs := [slv (rI .i64) t22.1.Items, iv .i64 t22.1.Window, iv .i64 t22.1.Base, slv (rI .i64) t22.1.Received, slv rT_api_Packet t22.1.Held, slv rT_api_Packet t22.1.Flight]) rfl ⟨.inl slv_at, .inl iv_at, .inl iv_at, .inl slv_at, .inl slv_at, .inl slv_at, trivial⟩) rfl rfl rfl) (fun _ => ?_)
    refine l_nil (n_then (ref_seq (ref_region ?_)))
    refine s_rd (r_cloadS Try.isAgg28 Try.sizeOf28 rfl (j := 0) rfl rfl rfl) rfl ?_
    refine s_rd (r_build (ps := [(0, .const (.int .i64 (2)))]) (rs := [(0, [iv .i64 2])]) st_35 zs_35 ⟨rfl, (part_at rfl iv_at), trivial⟩ rfl rfl) rfl ?_
    refine pull fun t23 h_t23 => ?_
    refine s_st (s_call (ψ := fun (_ : Unit) => tup [ag [slv (rI .i64) t23.1.Items, iv .i64 t23.1.Window, iv .i64 t23.1.Base, slv (rI .i64) t23.1.Received, slv rT_api_Packet t23.1.Held, slv rT_api_Packet t23.1.Flight], iv .i64 t23.2]) (args := [.tmp 19, .tmp 20]) Try.call20 rfl (ref29_Step_ok h_t23) ⟨arg rfl, arg rfl, trivial⟩ (fun _ _ _ _ h => h)) rfl (fun _ => ?_)
    refine mv1 rfl rfl ?_
    refine s_rd (r_extract rfl rfl) rfl ?_
    refine s_rd (r_extract rfl rfl) rfl ?_
    refine s_st0 (s_cstore (out := [slv (rI .i64) t23.1.Items, iv .i64 t23.1.Window, iv .i64 t23.1.Base, slv (rI .i64) t23.1.Received, slv rT_api_Packet t23.1.Held, slv rT_api_Packet t23.1.Flight]) Try.sizeOf28 rfl (j := 0) rfl (part_agO (ψs := [slv (rI .i64) t23.1.Items, iv .i64 t23.1.Window, iv .i64 t23.1.Base, slv (rI .i64) t23.1.Received, slv rT_api_Packet t23.1.Held, slv rT_api_Packet t23.1.Flight]) rfl ⟨.inl slv_at, .inl iv_at, .inl iv_at, .inl slv_at, .inl slv_at, .inl slv_at, trivial⟩) rfl rfl rfl) (fun _ => ?_)
    refine l_nil ?_
    refine b_of (nrm [oc b1 [slv (rI .i64) t23.1.Items, iv .i64 t23.1.Window, iv .i64 t23.1.Base, slv (rI .i64) t23.1.Received, slv rT_api_Packet t23.1.Held, slv rT_api_Packet t23.1.Flight], oc b2 [pv (.slice none 0 0), iv .i64 0, iv .i64 0, pv (.slice none 0 0), pv (.slice none 0 0), pv (.slice none 0 0)]] rfl) ?_
    refine n_then (ref_region ?_)
    refine s_rd (r_cloadS Try.isAgg28 Try.sizeOf28 rfl (j := 0) rfl rfl rfl) rfl ?_
    refine s_rd (r_build (ps := [(0, .const (.int .i64 (2)))]) (rs := [(0, [iv .i64 2])]) st_35 zs_35 ⟨rfl, (part_at rfl iv_at), trivial⟩ rfl rfl) rfl ?_
    refine pull fun t24 h_t24 => ?_
    refine s_st (s_call (ψ := fun (_ : Unit) => tup [ag [slv (rI .i64) t24.1.Items, iv .i64 t24.1.Window, iv .i64 t24.1.Base, slv (rI .i64) t24.1.Received, slv rT_api_Packet t24.1.Held, slv rT_api_Packet t24.1.Flight], iv .i64 t24.2]) (args := [.tmp 25, .tmp 26]) Try.call20 rfl (ref29_Step_ok h_t24) ⟨arg rfl, arg rfl, trivial⟩ (fun _ _ _ _ h => h)) rfl (fun _ => ?_)
    refine mv1 rfl rfl ?_
    refine s_rd (r_extract rfl rfl) rfl ?_
    refine s_rd (r_extract rfl rfl) rfl ?_
    refine s_st0 (s_cstore (out := [slv (rI .i64) t24.1.Items, iv .i64 t24.1.Window, iv .i64 t24.1.Base, slv (rI .i64) t24.1.Received, slv rT_api_Packet t24.1.Held, slv rT_api_Packet t24.1.Flight]) Try.sizeOf28 rfl (j := 0) rfl (part_agO (ψs := [slv (rI .i64) t24.1.Items, iv .i64 t24.1.Window, iv .i64 t24.1.Base, slv (rI .i64) t24.1.Received, slv rT_api_Packet t24.1.Held, slv rT_api_Packet t24.1.Flight]) rfl ⟨.inl slv_at, .inl iv_at, .inl iv_at, .inl slv_at, .inl slv_at, .inl slv_at, trivial⟩) rfl rfl rfl) (fun _ => ?_)
    refine l_nil (n_block (n_then (ref_region ?_)))
    refine mv1 rfl rfl ?_
    refine s_rd (r_add rfl rfl) rfl ?_
    refine as1 rfl rfl ?_
    refine b_let (f := iv .i64) (t := 4) rfl fun n25 => ?_
    refine l_nil ?_
    exact n_loop () (weak [0, 1] ⟨rfl, rfl, rfl, trivial⟩ ⟨rfl, rfl, trivial⟩)

/-! slices.Equal[[]int,int] -/
noncomputable def slices_Equal_int_int_l1 (s1_0 : (List Int)) (s2_1 : (List Int)) (s8 : Int) : Option (Sum ((Sum (Bool) (Unit))) (Int)) :=
  bif decide (s8 < (s1_0.length : Int)) then
    Option.bind (idxM s1_0 s8) fun t11 =>
    Option.bind (idxM s2_1 s8) fun t12 =>
    bif t11 != t12 then
      some (Sum.inl (Sum.inl false))
    else
      some (Sum.inr (iadd .i64 s8 1))
  else
    some (Sum.inl (Sum.inr ()))

noncomputable def slices_Equal_int_int_m (s1_0 : (List Int)) (s2_1 : (List Int)) : Option (Bool) :=
  bif (s1_0.length : Int) != (s2_1.length : Int) then
    some false
  else
    Option.bind (loopC (slices_Equal_int_int_l1 s1_0 s2_1) 0) (sumK (fun a : Bool => some a) fun q14 : Unit =>
      some true)

theorem slices_Equal_int_int_ok {s1_0 : (List Int)} {s2_1 : (List Int)} {r : Bool} (hm : slices_Equal_int_int_m s1_0 s2_1 = some r) :
    FnOk prog 37 [slv (rI .i64) s1_0, slv (rI .i64) s2_1] [] (fun (x : Unit) => [bv r]) (fun (x : Unit) => []) := by
  refine fn_ok (fn := Try.f37) (N := 26) (res := fun r x => [bv r]) (Ω1 := fun r x => []) Try.func37 rfl rfl hm rfl (fun E hM => ?_)
  unfold slices_Equal_int_int_m
  refine ref_seq (ref_region ?_)
  refine as1 rfl rfl ?_
  refine l_nil (n_then (ref_seq (ref_seq (ref_region ?_))))
  refine mv1 rfl rfl ?_
  refine s_rd (r_len Try.underlying22 rfl) rfl ?_
  refine mv1 rfl rfl ?_
  refine s_rd (r_len Try.underlying22 rfl) rfl ?_
  refine s_rd (r_neq rfl rfl) rfl ?_
  refine l_nil (n_then ?_)
  refine ref_cond rfl (fun hb1 => ?_) (fun hb1 => ?_)
  · refine ref_seq (ref_region ?_)
    refine as1 rfl rfl ?_
    refine l_nil (n_then (ref_ret (r_then ?_)))
    exact fin1 (.inl rfl) () [] rfl trivial rfl (rv_tmp rfl)
  refine ref_skip (n_then (ref_seq (ref_seq (ref_region ?_))))
  refine mv1 rfl rfl ?_
  refine s_rd (r_len Try.underlying22 rfl) rfl ?_
  refine mv1 rfl rfl ?_
  refine l_nil (n_then ?_)
  refine ref_loopX (f := (slices_Equal_int_int_l1 s1_0 s2_1)) (Γl := (fun (s8 : Int) (x9 : Unit) => [(0, slv (rI .i64) s1_0), (1, slv (rI .i64) s2_1), (12, iv .i64 (s1_0.length : Int)), (13, iv .i64 s8)])) (Ωl := (fun (s8 : Int) (x9 : Unit) => [])) (Γb := (fun (q14 : Unit) (y15 : Unit) => [])) (Ωb := (fun (q14 : Unit) (y15 : Unit) => [])) (kr := (fun a : Bool => some a)) 0 () (weak [] ⟨rfl, rfl, rfl, rfl, trivial⟩ trivial) (fun s8 x9 => ?_) (fun q14 y15 => ?_)
  · unfold slices_Equal_int_int_l1
    refine ref_seq (ref_region ?_)
    refine s_rd (r_lss rfl rfl) rfl ?_
    refine l_nil (n_then (ref_seq ?_))
    refine ref_cond rfl (fun hb10 => ?_) (fun hb10 => ?_)
    · refine ref_skip (n_then (ref_seq (ref_block (ref_seq (ref_region ?_)))))
      refine mv1 rfl rfl ?_
      refine as1 rfl rfl ?_
      refine l_nil (n_then (ref_seq ?_))
      refine ref_draw [0, 1, 2, 3, 4, 5, 6, 7, 8] rfl (by kernel_rfl) (fun hok => ?_)
      refine a_rd (i := 0) hok rfl (by kernel_rfl) rfl (r_move rfl) rfl ?_
      refine a_rd (i := 1) hok rfl (by kernel_rfl) rfl (r_move rfl) rfl ?_
      refine pull fun t11 h_t11 => ?_
      refine a_rd (i := 2) hok rfl (by kernel_rfl) rfl (r_index h_t11 Try.underlying22 el_3 rfl rfl) rfl ?_
      refine a_rd (i := 3) hok rfl (by kernel_rfl) rfl (r_load el_3 rfl) rfl ?_
      refine a_rd (i := 4) hok rfl (by kernel_rfl) rfl (r_move rfl) rfl ?_
      refine a_rd (i := 5) hok rfl (by kernel_rfl) rfl (r_move rfl) rfl ?_
      refine pull fun t12 h_t12 => ?_
      refine a_rd (i := 6) hok rfl (by kernel_rfl) rfl (r_index h_t12 Try.underlying22 el_3 rfl rfl) rfl ?_
      refine a_rd (i := 7) hok rfl (by kernel_rfl) rfl (r_load el_3 rfl) rfl ?_
      refine a_rd (i := 8) hok rfl (by kernel_rfl) rfl (r_neq rfl rfl) rfl ?_
      refine a_fin hok (by kernel_rfl) ?_
      refine n_then ?_
      refine ref_cond rfl (fun hb13 => ?_) (fun hb13 => ?_)
      · refine ref_seq (ref_region ?_)
        refine as1 rfl rfl ?_
        refine l_nil (n_then (ref_ret (r_block (r_then ?_))))
        refine retX ?_
        refine r_block (r_then ?_)
        exact fin1 (.inl rfl) () [] rfl trivial rfl (rv_tmp rfl)
      refine ref_skip (n_block (n_then (ref_region ?_)))
      refine s_rd (r_add rfl rfl) rfl ?_
      refine mv1 rfl rfl ?_
      refine l_nil ?_
      exact goX () (weak [] ⟨rfl, rfl, rfl, rfl, trivial⟩ trivial)
    refine ref_exit (x_then ?_)
    exact brkX () (weak [] trivial trivial)
  refine n_then (ref_seq (ref_region ?_))
  refine as1 rfl rfl ?_
  refine l_nil (n_then (ref_ret ?_))
  exact fin1 (.inl rfl) () [] rfl trivial rfl (rv_tmp rfl)

/-! slices.Equal[[]deliberation/api.Packet,deliberation/api.Packet] -/
noncomputable def slices_Equal_api_Packet_api_Packet_l1 (s1_0 : (List T_api_Packet)) (s2_1 : (List T_api_Packet)) (s8 : Int) : Option (Sum ((Sum (Bool) (Unit))) (Int)) :=
  bif decide (s8 < (s1_0.length : Int)) then
    Option.bind (idxM s1_0 s8) fun t11 =>
    Option.bind (idxM s2_1 s8) fun t12 =>
    bif !decide (t11 = t12) then
      some (Sum.inl (Sum.inl false))
    else
      some (Sum.inr (iadd .i64 s8 1))
  else
    some (Sum.inl (Sum.inr ()))

noncomputable def slices_Equal_api_Packet_api_Packet_m (s1_0 : (List T_api_Packet)) (s2_1 : (List T_api_Packet)) : Option (Bool) :=
  bif (s1_0.length : Int) != (s2_1.length : Int) then
    some false
  else
    Option.bind (loopC (slices_Equal_api_Packet_api_Packet_l1 s1_0 s2_1) 0) (sumK (fun a : Bool => some a) fun q14 : Unit =>
      some true)

theorem slices_Equal_api_Packet_api_Packet_ok {s1_0 : (List T_api_Packet)} {s2_1 : (List T_api_Packet)} {r : Bool} (hm : slices_Equal_api_Packet_api_Packet_m s1_0 s2_1 = some r) :
    FnOk prog 38 [slv rT_api_Packet s1_0, slv rT_api_Packet s2_1] [] (fun (x : Unit) => [bv r]) (fun (x : Unit) => []) := by
  refine fn_ok (fn := Try.f38) (N := 26) (res := fun r x => [bv r]) (Ω1 := fun r x => []) Try.func38 rfl rfl hm rfl (fun E hM => ?_)
  unfold slices_Equal_api_Packet_api_Packet_m
  refine ref_seq (ref_region ?_)
  refine as1 rfl rfl ?_
  refine l_nil (n_then (ref_seq (ref_seq (ref_region ?_))))
  refine mv1 rfl rfl ?_
  refine s_rd (r_len Try.underlying26 rfl) rfl ?_
  refine mv1 rfl rfl ?_
  refine s_rd (r_len Try.underlying26 rfl) rfl ?_
  refine s_rd (r_neq rfl rfl) rfl ?_
  refine l_nil (n_then ?_)
  refine ref_cond rfl (fun hb1 => ?_) (fun hb1 => ?_)
  · refine ref_seq (ref_region ?_)
    refine as1 rfl rfl ?_
    refine l_nil (n_then (ref_ret (r_then ?_)))
    exact fin1 (.inl rfl) () [] rfl trivial rfl (rv_tmp rfl)
  refine ref_skip (n_then (ref_seq (ref_seq (ref_region ?_))))
  refine mv1 rfl rfl ?_
  refine s_rd (r_len Try.underlying26 rfl) rfl ?_
  refine mv1 rfl rfl ?_
  refine l_nil (n_then ?_)
  refine ref_loopX (f := (slices_Equal_api_Packet_api_Packet_l1 s1_0 s2_1)) (Γl := (fun (s8 : Int) (x9 : Unit) => [(0, slv rT_api_Packet s1_0), (1, slv rT_api_Packet s2_1), (12, iv .i64 (s1_0.length : Int)), (13, iv .i64 s8)])) (Ωl := (fun (s8 : Int) (x9 : Unit) => [])) (Γb := (fun (q14 : Unit) (y15 : Unit) => [])) (Ωb := (fun (q14 : Unit) (y15 : Unit) => [])) (kr := (fun a : Bool => some a)) 0 () (weak [] ⟨rfl, rfl, rfl, rfl, trivial⟩ trivial) (fun s8 x9 => ?_) (fun q14 y15 => ?_)
  · unfold slices_Equal_api_Packet_api_Packet_l1
    refine ref_seq (ref_region ?_)
    refine s_rd (r_lss rfl rfl) rfl ?_
    refine l_nil (n_then (ref_seq ?_))
    refine ref_cond rfl (fun hb10 => ?_) (fun hb10 => ?_)
    · refine ref_skip (n_then (ref_seq (ref_block (ref_seq (ref_region ?_)))))
      refine mv1 rfl rfl ?_
      refine as1 rfl rfl ?_
      refine l_nil (n_then (ref_seq ?_))
      refine ref_draw [0, 1, 2, 3, 4, 5, 6, 7, 8] rfl (by kernel_rfl) (fun hok => ?_)
      refine a_rd (i := 0) hok rfl (by kernel_rfl) rfl (r_move rfl) rfl ?_
      refine a_rd (i := 1) hok rfl (by kernel_rfl) rfl (r_move rfl) rfl ?_
      refine pull fun t11 h_t11 => ?_
      refine a_rd (i := 2) hok rfl (by kernel_rfl) rfl (r_index h_t11 Try.underlying26 el_55 rfl rfl) rfl ?_
      refine a_rd (i := 3) hok rfl (by kernel_rfl) rfl (r_load el_55 rfl) rfl ?_
      refine a_rd (i := 4) hok rfl (by kernel_rfl) rfl (r_move rfl) rfl ?_
      refine a_rd (i := 5) hok rfl (by kernel_rfl) rfl (r_move rfl) rfl ?_
      refine pull fun t12 h_t12 => ?_
      refine a_rd (i := 6) hok rfl (by kernel_rfl) rfl (r_index h_t12 Try.underlying26 el_55 rfl rfl) rfl ?_
      refine a_rd (i := 7) hok rfl (by kernel_rfl) rfl (r_load el_55 rfl) rfl ?_
      refine a_rd (i := 8) hok rfl (by kernel_rfl) rfl (r_stneq (u := t11) (v := t12) eq_55 rfl rfl rfl rfl) rfl ?_
      refine a_fin hok (by kernel_rfl) ?_
      refine n_then ?_
      refine ref_cond rfl (fun hb13 => ?_) (fun hb13 => ?_)
      · refine ref_seq (ref_region ?_)
        refine as1 rfl rfl ?_
        refine l_nil (n_then (ref_ret (r_block (r_then ?_))))
        refine retX ?_
        refine r_block (r_then ?_)
        exact fin1 (.inl rfl) () [] rfl trivial rfl (rv_tmp rfl)
      refine ref_skip (n_block (n_then (ref_region ?_)))
      refine s_rd (r_add rfl rfl) rfl ?_
      refine mv1 rfl rfl ?_
      refine l_nil ?_
      exact goX () (weak [] ⟨rfl, rfl, rfl, rfl, trivial⟩ trivial)
    refine ref_exit (x_then ?_)
    exact brkX () (weak [] trivial trivial)
  refine n_then (ref_seq (ref_region ?_))
  refine as1 rfl rfl ?_
  refine l_nil (n_then (ref_ret ?_))
  exact fin1 (.inl rfl) () [] rfl trivial rfl (rv_tmp rfl)

/-! deliberation/channel.Same -/
noncomputable def channel_Same_m (a__0 : T_api_Channel) (b_1 : T_api_Channel) : Option (Bool) :=
  Option.bind (slices_Equal_int_int_m a__0.Items b_1.Items) fun t3 =>
  bif t3 then
    bif a__0.Window == b_1.Window then
      bif a__0.Base == b_1.Base then
        Option.bind (slices_Equal_int_int_m a__0.Received b_1.Received) fun t4 =>
        bif t4 then
          Option.bind (slices_Equal_api_Packet_api_Packet_m a__0.Held b_1.Held) fun t5 =>
          bif t5 then
            Option.bind (slices_Equal_api_Packet_api_Packet_m a__0.Flight b_1.Flight) fun t6 =>
            some t6
          else
            some false
        else
          some false
      else
        some false
    else
      some false
  else
    some false

theorem channel_Same_ok {a__0 : T_api_Channel} {b_1 : T_api_Channel} {r : Bool} (hm : channel_Same_m a__0 b_1 = some r) :
    FnOk prog 23 [ag [slv (rI .i64) a__0.Items, iv .i64 a__0.Window, iv .i64 a__0.Base, slv (rI .i64) a__0.Received, slv rT_api_Packet a__0.Held, slv rT_api_Packet a__0.Flight], ag [slv (rI .i64) b_1.Items, iv .i64 b_1.Window, iv .i64 b_1.Base, slv (rI .i64) b_1.Received, slv rT_api_Packet b_1.Held, slv rT_api_Packet b_1.Flight]] [] (fun (x : Unit) => [bv r]) (fun (x : Unit) => []) := by
  refine fn_ok (fn := Try.f23) (N := 45) (res := fun r x => [bv r]) (Ω1 := fun r x => []) Try.func23 rfl rfl hm rfl (fun E hM => ?_)
  unfold channel_Same_m
  refine ref_seq (ref_region ?_)
  refine s_st (s_box (part_agO (ψs := [slv (rI .i64) a__0.Items, iv .i64 a__0.Window, iv .i64 a__0.Base, slv (rI .i64) a__0.Received, slv rT_api_Packet a__0.Held, slv rT_api_Packet a__0.Flight]) rfl ⟨.inl slv_at, .inl iv_at, .inl iv_at, .inl slv_at, .inl slv_at, .inl slv_at, trivial⟩)) rfl (fun b1 => ?_)
  refine s_st (s_box (part_agO (ψs := [slv (rI .i64) b_1.Items, iv .i64 b_1.Window, iv .i64 b_1.Base, slv (rI .i64) b_1.Received, slv rT_api_Packet b_1.Held, slv rT_api_Packet b_1.Flight]) rfl ⟨.inl slv_at, .inl iv_at, .inl iv_at, .inl slv_at, .inl slv_at, .inl slv_at, trivial⟩)) rfl (fun b2 => ?_)
  refine as1 rfl rfl ?_
  refine l_nil (n_then (ref_seq (ref_region ?_)))
  refine s_rd (r_faddr (fo := 0) Try.underlying28 rfl rfl Try.sizeOf22 rfl) rfl ?_
  refine s_rd (r_cload Try.isAgg22 rfl (j := 0) rfl rfl) rfl ?_
  refine s_rd (r_faddr (fo := 0) Try.underlying28 rfl rfl Try.sizeOf22 rfl) rfl ?_
  refine s_rd (r_cload Try.isAgg22 rfl (j := 1) rfl rfl) rfl ?_
  refine pull fun t3 h_t3 => ?_
  refine s_st (s_call (ψ := fun (_ : Unit) => bv t3) (args := [.tmp 6, .tmp 8]) Try.call37 rfl (slices_Equal_int_int_ok h_t3) ⟨arg rfl, arg rfl, trivial⟩ (fun _ _ _ _ h => h)) rfl (fun _ => ?_)
  refine mv1 rfl rfl ?_
  refine b_split (t := 10) rfl (fun _ => ?_) (fun _ => ?_)
  · refine s_on rfl rfl rfl ?_
    refine s_rd (r_faddr (fo := 1) Try.underlying28 rfl rfl Try.sizeOf3 rfl) rfl ?_
    refine s_on rfl rfl rfl ?_
    refine s_rd (r_cload Try.isAgg3 rfl (j := 0) rfl rfl) rfl ?_
    refine s_on rfl rfl rfl ?_
    refine s_rd (r_faddr (fo := 1) Try.underlying28 rfl rfl Try.sizeOf3 rfl) rfl ?_
    refine s_on rfl rfl rfl ?_
    refine s_rd (r_cload Try.isAgg3 rfl (j := 1) rfl rfl) rfl ?_
    refine s_on rfl rfl rfl ?_
    refine s_rd (r_eql rfl rfl) rfl ?_
    refine s_rd (r_pickT rfl rfl) rfl ?_
    refine mv1 rfl rfl ?_
    refine b_split (t := 17) rfl (fun _ => ?_) (fun _ => ?_)
    · refine s_on rfl rfl rfl ?_
      refine s_rd (r_faddr (fo := 2) Try.underlying28 rfl rfl Try.sizeOf3 rfl) rfl ?_
      refine s_on rfl rfl rfl ?_
      refine s_rd (r_cload Try.isAgg3 rfl (j := 0) rfl rfl) rfl ?_
      refine s_on rfl rfl rfl ?_
      refine s_rd (r_faddr (fo := 2) Try.underlying28 rfl rfl Try.sizeOf3 rfl) rfl ?_
      refine s_on rfl rfl rfl ?_
      refine s_rd (r_cload Try.isAgg3 rfl (j := 1) rfl rfl) rfl ?_
      refine s_on rfl rfl rfl ?_
      refine s_rd (r_eql rfl rfl) rfl ?_
      refine s_rd (r_pickT rfl rfl) rfl ?_
      refine mv1 rfl rfl ?_
      refine b_split (t := 24) rfl (fun _ => ?_) (fun _ => ?_)
      · refine s_on rfl rfl rfl ?_
        refine s_rd (r_faddr (fo := 3) Try.underlying28 rfl rfl Try.sizeOf22 rfl) rfl ?_
        refine s_on rfl rfl rfl ?_
        refine s_rd (r_cload Try.isAgg22 rfl (j := 0) rfl rfl) rfl ?_
        refine s_on rfl rfl rfl ?_
        refine s_rd (r_faddr (fo := 3) Try.underlying28 rfl rfl Try.sizeOf22 rfl) rfl ?_
        refine s_on rfl rfl rfl ?_
        refine s_rd (r_cload Try.isAgg22 rfl (j := 1) rfl rfl) rfl ?_
        refine s_on rfl rfl rfl ?_
        refine pull fun t4 h_t4 => ?_
        refine s_st (s_call (ψ := fun (_ : Unit) => bv t4) (args := [.tmp 26, .tmp 28]) Try.call37 rfl (slices_Equal_int_int_ok h_t4) ⟨arg rfl, arg rfl, trivial⟩ (fun _ _ _ _ h => h)) rfl (fun _ => ?_)
        refine s_rd (r_pickT rfl rfl) rfl ?_
        refine mv1 rfl rfl ?_
        refine b_split (t := 31) rfl (fun _ => ?_) (fun _ => ?_)
        · refine s_on rfl rfl rfl ?_
          refine s_rd (r_faddr (fo := 4) Try.underlying28 rfl rfl Try.sizeOf26 rfl) rfl ?_
          refine s_on rfl rfl rfl ?_
          refine s_rd (r_cload Try.isAgg26 rfl (j := 0) rfl rfl) rfl ?_
          refine s_on rfl rfl rfl ?_
          refine s_rd (r_faddr (fo := 4) Try.underlying28 rfl rfl Try.sizeOf26 rfl) rfl ?_
          refine s_on rfl rfl rfl ?_
          refine s_rd (r_cload Try.isAgg26 rfl (j := 1) rfl rfl) rfl ?_
          refine s_on rfl rfl rfl ?_
          refine pull fun t5 h_t5 => ?_
          refine s_st (s_call (ψ := fun (_ : Unit) => bv t5) (args := [.tmp 33, .tmp 35]) Try.call38 rfl (slices_Equal_api_Packet_api_Packet_ok h_t5) ⟨arg rfl, arg rfl, trivial⟩ (fun _ _ _ _ h => h)) rfl (fun _ => ?_)
          refine s_rd (r_pickT rfl rfl) rfl ?_
          refine mv1 rfl rfl ?_
          refine b_split (t := 38) rfl (fun _ => ?_) (fun _ => ?_)
          · refine s_on rfl rfl rfl ?_
            refine s_rd (r_faddr (fo := 5) Try.underlying28 rfl rfl Try.sizeOf26 rfl) rfl ?_
            refine s_on rfl rfl rfl ?_
            refine s_rd (r_cload Try.isAgg26 rfl (j := 0) rfl rfl) rfl ?_
            refine s_on rfl rfl rfl ?_
            refine s_rd (r_faddr (fo := 5) Try.underlying28 rfl rfl Try.sizeOf26 rfl) rfl ?_
            refine s_on rfl rfl rfl ?_
            refine s_rd (r_cload Try.isAgg26 rfl (j := 1) rfl rfl) rfl ?_
            refine s_on rfl rfl rfl ?_
            refine pull fun t6 h_t6 => ?_
            refine s_st (s_call (ψ := fun (_ : Unit) => bv t6) (args := [.tmp 40, .tmp 42]) Try.call38 rfl (slices_Equal_api_Packet_api_Packet_ok h_t6) ⟨arg rfl, arg rfl, trivial⟩ (fun _ _ _ _ h => h)) rfl (fun _ => ?_)
            refine s_rd (r_pickT rfl rfl) rfl ?_
            refine as1 rfl rfl ?_
            refine l_nil ?_
            refine b_of (nrm [oc b1 [slv (rI .i64) a__0.Items, iv .i64 a__0.Window, iv .i64 a__0.Base, slv (rI .i64) a__0.Received, slv rT_api_Packet a__0.Held, slv rT_api_Packet a__0.Flight], oc b2 [slv (rI .i64) b_1.Items, iv .i64 b_1.Window, iv .i64 b_1.Base, slv (rI .i64) b_1.Received, slv rT_api_Packet b_1.Held, slv rT_api_Packet b_1.Flight]] rfl) ?_
            refine n_then (ref_ret ?_)
            exact fin1 (.inl rfl) () [] rfl trivial rfl (rv_tmp rfl)
          refine s_off rfl rfl rfl rfl rfl ?_
          refine s_off rfl rfl rfl rfl rfl ?_
          refine s_off rfl rfl rfl rfl rfl ?_
          refine s_off rfl rfl rfl rfl rfl ?_
          refine s_off rfl rfl rfl rfl rfl ?_
          refine s_rd (r_pickF rfl rfl) rfl ?_
          refine as1 rfl rfl ?_
          refine l_nil ?_
          refine b_of (nrm [oc b1 [slv (rI .i64) a__0.Items, iv .i64 a__0.Window, iv .i64 a__0.Base, slv (rI .i64) a__0.Received, slv rT_api_Packet a__0.Held, slv rT_api_Packet a__0.Flight], oc b2 [slv (rI .i64) b_1.Items, iv .i64 b_1.Window, iv .i64 b_1.Base, slv (rI .i64) b_1.Received, slv rT_api_Packet b_1.Held, slv rT_api_Packet b_1.Flight]] rfl) ?_
          refine n_then (ref_ret ?_)
          exact fin1 (.inl rfl) () [] rfl trivial rfl (rv_tmp rfl)
        refine s_off rfl rfl rfl rfl rfl ?_
        refine s_off rfl rfl rfl rfl rfl ?_
        refine s_off rfl rfl rfl rfl rfl ?_
        refine s_off rfl rfl rfl rfl rfl ?_
        refine s_off rfl rfl rfl rfl rfl ?_
        refine s_rd (r_pickF rfl rfl) rfl ?_
        refine mv1 rfl rfl ?_
        refine s_off rfl rfl rfl rfl rfl ?_
        refine s_off rfl rfl rfl rfl rfl ?_
        refine s_off rfl rfl rfl rfl rfl ?_
        refine s_off rfl rfl rfl rfl rfl ?_
        refine s_off rfl rfl rfl rfl rfl ?_
        refine s_rd (r_pickF rfl rfl) rfl ?_
        refine as1 rfl rfl ?_
        refine l_nil ?_
        refine b_of (nrm [oc b1 [slv (rI .i64) a__0.Items, iv .i64 a__0.Window, iv .i64 a__0.Base, slv (rI .i64) a__0.Received, slv rT_api_Packet a__0.Held, slv rT_api_Packet a__0.Flight], oc b2 [slv (rI .i64) b_1.Items, iv .i64 b_1.Window, iv .i64 b_1.Base, slv (rI .i64) b_1.Received, slv rT_api_Packet b_1.Held, slv rT_api_Packet b_1.Flight]] rfl) ?_
        refine n_then (ref_ret ?_)
        exact fin1 (.inl rfl) () [] rfl trivial rfl (rv_tmp rfl)
      refine s_off rfl rfl rfl rfl rfl ?_
      refine s_off rfl rfl rfl rfl rfl ?_
      refine s_off rfl rfl rfl rfl rfl ?_
      refine s_off rfl rfl rfl rfl rfl ?_
      refine s_off rfl rfl rfl rfl rfl ?_
      refine s_rd (r_pickF rfl rfl) rfl ?_
      refine mv1 rfl rfl ?_
      refine s_off rfl rfl rfl rfl rfl ?_
      refine s_off rfl rfl rfl rfl rfl ?_
      refine s_off rfl rfl rfl rfl rfl ?_
      refine s_off rfl rfl rfl rfl rfl ?_
      refine s_off rfl rfl rfl rfl rfl ?_
      refine s_rd (r_pickF rfl rfl) rfl ?_
      refine mv1 rfl rfl ?_
      refine s_off rfl rfl rfl rfl rfl ?_
      refine s_off rfl rfl rfl rfl rfl ?_
      refine s_off rfl rfl rfl rfl rfl ?_
      refine s_off rfl rfl rfl rfl rfl ?_
      refine s_off rfl rfl rfl rfl rfl ?_
      refine s_rd (r_pickF rfl rfl) rfl ?_
      refine as1 rfl rfl ?_
      refine l_nil (n_then (ref_ret ?_))
      exact fin1 (.inl rfl) () [] rfl trivial rfl (rv_tmp rfl)
    refine s_off rfl rfl rfl rfl rfl ?_
    refine s_off rfl rfl rfl rfl rfl ?_
    refine s_off rfl rfl rfl rfl rfl ?_
    refine s_off rfl rfl rfl rfl rfl ?_
    refine s_off rfl rfl rfl rfl rfl ?_
    refine s_rd (r_pickF rfl rfl) rfl ?_
    refine mv1 rfl rfl ?_
    refine s_off rfl rfl rfl rfl rfl ?_
    refine s_off rfl rfl rfl rfl rfl ?_
    refine s_off rfl rfl rfl rfl rfl ?_
    refine s_off rfl rfl rfl rfl rfl ?_
    refine s_off rfl rfl rfl rfl rfl ?_
    refine s_rd (r_pickF rfl rfl) rfl ?_
    refine mv1 rfl rfl ?_
    refine s_off rfl rfl rfl rfl rfl ?_
    refine s_off rfl rfl rfl rfl rfl ?_
    refine s_off rfl rfl rfl rfl rfl ?_
    refine s_off rfl rfl rfl rfl rfl ?_
    refine s_off rfl rfl rfl rfl rfl ?_
    refine s_rd (r_pickF rfl rfl) rfl ?_
    refine mv1 rfl rfl ?_
    refine s_off rfl rfl rfl rfl rfl ?_
    refine s_off rfl rfl rfl rfl rfl ?_
    refine s_off rfl rfl rfl rfl rfl ?_
    refine s_off rfl rfl rfl rfl rfl ?_
    refine s_off rfl rfl rfl rfl rfl ?_
    refine s_rd (r_pickF rfl rfl) rfl ?_
    refine as1 rfl rfl ?_
    refine l_nil (n_then (ref_ret ?_))
    exact fin1 (.inl rfl) () [] rfl trivial rfl (rv_tmp rfl)
  refine s_off rfl rfl rfl rfl rfl ?_
  refine s_off rfl rfl rfl rfl rfl ?_
  refine s_off rfl rfl rfl rfl rfl ?_
  refine s_off rfl rfl rfl rfl rfl ?_
  refine s_off rfl rfl rfl rfl rfl ?_
  refine s_rd (r_pickF rfl rfl) rfl ?_
  refine mv1 rfl rfl ?_
  refine s_off rfl rfl rfl rfl rfl ?_
  refine s_off rfl rfl rfl rfl rfl ?_
  refine s_off rfl rfl rfl rfl rfl ?_
  refine s_off rfl rfl rfl rfl rfl ?_
  refine s_off rfl rfl rfl rfl rfl ?_
  refine s_rd (r_pickF rfl rfl) rfl ?_
  refine mv1 rfl rfl ?_
  refine s_off rfl rfl rfl rfl rfl ?_
  refine s_off rfl rfl rfl rfl rfl ?_
  refine s_off rfl rfl rfl rfl rfl ?_
  refine s_off rfl rfl rfl rfl rfl ?_
  refine s_off rfl rfl rfl rfl rfl ?_
  refine s_rd (r_pickF rfl rfl) rfl ?_
  refine mv1 rfl rfl ?_
  refine s_off rfl rfl rfl rfl rfl ?_
  refine s_off rfl rfl rfl rfl rfl ?_
  refine s_off rfl rfl rfl rfl rfl ?_
  refine s_off rfl rfl rfl rfl rfl ?_
  refine s_off rfl rfl rfl rfl rfl ?_
  refine s_rd (r_pickF rfl rfl) rfl ?_
  refine mv1 rfl rfl ?_
  refine s_off rfl rfl rfl rfl rfl ?_
  refine s_off rfl rfl rfl rfl rfl ?_
  refine s_off rfl rfl rfl rfl rfl ?_
  refine s_off rfl rfl rfl rfl rfl ?_
  refine s_off rfl rfl rfl rfl rfl ?_
  refine s_rd (r_pickF rfl rfl) rfl ?_
  refine as1 rfl rfl ?_
  refine l_nil (n_then (ref_ret ?_))
  exact fin1 (.inl rfl) () [] rfl trivial rfl (rv_tmp rfl)

/-! deliberation/deliberationlaw29.ChannelSteps -/
noncomputable def law29_ChannelSteps_l1 (odd_3 : T_api_NetEvent) (s64 : Int × T_deliberationkeep_Src × T_api_Channel) : Option (Sum ((Sum (Bool) (T_api_Channel))) (Int × T_deliberationkeep_Src × T_api_Channel)) :=
  joinM (fun j68 : Bool × Bool =>
      Option.bind (law29_event_m s64.2.1 s64.2.2) fun t71 =>
      joinM (fun j74 : T_api_NetEvent =>
          Option.bind (channel_Step_m s64.2.2 j74) fun t77 =>
          Option.bind (ref29_Step_m s64.2.2 j74) fun t79 =>
          bif t77.2 != t79.2 then
            some (Sum.inl (Sum.inl false))
          else
            Option.bind (ref29_Same_m t77.1 t79.1) fun t81 =>
            bif !t81 then
              some (Sum.inl (Sum.inl false))
            else
              Option.bind (channel_Done_m s64.2.2) fun t82 =>
              Option.bind (ref29_Done_m s64.2.2) fun t83 =>
              bif !(t82 == t83) then
                some (Sum.inl (Sum.inl false))
              else
                bif t79.2 == 0 then
                  letM (iadd .i64 s64.1 1) fun i86 =>
                  some (Sum.inr (i86, t71.2, t77.1))
                else
                  letM (iadd .i64 s64.1 1) fun i87 =>
                  some (Sum.inr (i87, t71.2, s64.2.2))) fun k76 =>
      bif s64.1 == 3 then
        k76 odd_3
      else
        k76 t71.1) fun k70 =>
  bif decide (s64.1 < 40) then
    bif decide (s64.1 < 4) then
      k70 (true, true)
    else
      Option.bind (keep_Src_More_m s64.2.1) fun t66 =>
      bif t66 then
        k70 (false, t66)
      else
        some (Sum.inl (Sum.inr s64.2.2))
  else
    some (Sum.inl (Sum.inr s64.2.2))

noncomputable def law29_ChannelSteps_m (items_0 : (List Int)) (window_1 : Int) (l_2 : (List Int)) (odd_3 : T_api_NetEvent) : Option (Bool) :=
  bif decide ((items_0.length : Int) > 100) then
    Option.bind (law29_awake_m ) fun t3 =>
    some t3
  else
    Option.bind (keep_New_m l_2) fun s4 =>
    Option.bind (channel_New_m items_0 window_1) fun t6 =>
    Option.bind (ref29_New_m items_0 window_1) fun t8 =>
    bif t6.2 != t8.2 then
      some false
    else
      Option.bind (ref29_Same_m t6.1 t8.1) fun t10 =>
      bif !t10 then
        some false
      else
        Option.bind (keep_Src_Range_m s4 0 6) fun t13 =>
        Option.bind (slM items_0 0 (imin (items_0.length : Int) t13.1)) fun t14 =>
        Option.bind (keep_Src_Range_m t13.2 1 4) fun t15 =>
        Option.bind (channel_New_m t14 t15.1) fun t16 =>
        Option.bind (loopC (law29_ChannelSteps_l1 odd_3) (0, t15.2, t16.1)) (sumK (fun a : Bool => some a) fun q88 : T_api_Channel =>
          Option.bind (channel_Finish_m q88) fun t90 =>
          Option.bind (ref29_Finish_m q88) fun t92 =>
          bif t90.2 == t92.2 then
            Option.bind (ref29_Same_m t90.1 t92.1) fun t94 =>
            bif t94 then
              Option.bind (channel_Same_m q88 q88) fun t95 =>
              bif t95 then
                Option.bind (channel_Same_m t90.1 q88) fun t96 =>
                Option.bind (ref29_Same_m t92.1 q88) fun t97 =>
                bif t96 == t97 then
                  Option.bind (law29_awake_m ) fun t98 =>
                  some t98
                else
                  some false
              else
                some false
            else
              some false
          else
            some false)

theorem law29_ChannelSteps_ok {items_0 : (List Int)} {window_1 : Int} {l_2 : (List Int)} {odd_3 : T_api_NetEvent} {r : Bool} (hm : law29_ChannelSteps_m items_0 window_1 l_2 odd_3 = some r) :
    FnOk prog 6 [slv (rI .i64) items_0, iv .i64 window_1, slv (rI .i64) l_2, ag [iv .i64 odd_3.Kind, iv .i64 odd_3.N]] [] (fun (x : Unit) => [bv r]) (fun (x : Unit) => []) := by
  refine fn_ok (fn := Try.f6) (N := 150) (res := fun r x => [bv r]) (Ω1 := fun r x => []) Try.func6 rfl rfl hm rfl (fun E hM => ?_)
  unfold law29_ChannelSteps_m
  refine ref_seq (ref_region ?_)
  refine s_st (s_box (part_agO (ψs := [iv .i64 odd_3.Kind, iv .i64 odd_3.N]) rfl ⟨.inl iv_at, .inl iv_at, trivial⟩)) rfl (fun b1 => ?_)
  refine as1 rfl rfl ?_
  refine l_nil (n_then (ref_seq (ref_seq (ref_region ?_))))
  refine mv1 rfl rfl ?_
  refine s_rd (r_len Try.underlying22 rfl) rfl ?_
  refine s_rd (r_gtr rfl rfl) rfl ?_
  refine l_nil (n_then ?_)
  refine ref_cond rfl (fun hb2 => ?_) (fun hb2 => ?_)
  · refine ref_seq (ref_region ?_)
    refine pull fun t3 h_t3 => ?_
    refine s_st (s_call (ψ := fun (_ : Unit) => bv t3) (args := []) Try.call7 rfl (law29_awake_ok h_t3) trivial (fun _ _ _ _ h => h)) rfl (fun _ => ?_)
    refine as1 rfl rfl ?_
    refine l_nil (n_then (ref_ret (r_then ?_)))
    exact fin1 (.inl rfl) () [] rfl trivial rfl (rv_tmp rfl)
  refine ref_skip (n_then (ref_seq (ref_region ?_)))
  refine mv1 rfl rfl ?_
  refine pull fun s4 h_s4 => ?_
  refine s_st (s_call (ψ := fun (x5 : Nat) => pv (ptr x5 0)) (args := [.tmp 30]) Try.call8 rfl (keep_New_ok h_s4) ⟨arg rfl, trivial⟩ (fun _ _ _ _ h => h)) rfl (fun x5 => ?_)
  refine as1 rfl rfl ?_
  refine l_nil (n_then (ref_seq (ref_region ?_)))
  refine mv1 rfl rfl ?_
  refine mv1 rfl rfl ?_
  refine pull fun t6 h_t6 => ?_
  refine s_st (s_call (ψ := fun (_ : Unit) => tup [ag [slv (rI .i64) t6.1.Items, iv .i64 t6.1.Window, iv .i64 t6.1.Base, slv (rI .i64) t6.1.Received, slv rT_api_Packet t6.1.Held, slv rT_api_Packet t6.1.Flight], iv .i64 t6.2]) (args := [.tmp 33, .tmp 34]) Try.call9 rfl (channel_New_ok h_t6) ⟨arg rfl, arg rfl, trivial⟩ (fun _ _ _ _ h => h)) rfl (fun _ => ?_)
  refine mv1 rfl rfl ?_
  refine s_rd (r_extract rfl rfl) rfl ?_
  refine s_rd (r_extract rfl rfl) rfl ?_
  refine s_st (s_alloc zt_28) rfl (fun b7 => ?_)
  refine s_st0 (s_cstore (out := [slv (rI .i64) t6.1.Items, iv .i64 t6.1.Window, iv .i64 t6.1.Base, slv (rI .i64) t6.1.Received, slv rT_api_Packet t6.1.Held, slv rT_api_Packet t6.1.Flight]) Try.sizeOf28 rfl (j := 2) rfl (part_agO (ψs := [slv (rI .i64) t6.1.Items, iv .i64 t6.1.Window, iv .i64 t6.1.Base, slv (rI .i64) t6.1.Received, slv rT_api_Packet t6.1.Held, slv rT_api_Packet t6.1.Flight]) rfl ⟨.inl slv_at, .inl iv_at, .inl iv_at, .inl slv_at, .inl slv_at, .inl slv_at, trivial⟩) rfl rfl rfl) (fun _ => ?_)
  refine as1 rfl rfl ?_
  refine l_nil ?_
  refine b_of (nrm [oc b1 [iv .i64 odd_3.Kind, iv .i64 odd_3.N], oc x5 [slv (rI .i64) s4.L, iv .i64 s4.At], oc b7 [slv (rI .i64) t6.1.Items, iv .i64 t6.1.Window, iv .i64 t6.1.Base, slv (rI .i64) t6.1.Received, slv rT_api_Packet t6.1.Held, slv rT_api_Packet t6.1.Flight]] rfl) ?_
  refine n_then (ref_seq (ref_region ?_))
  refine mv1 rfl rfl ?_
  refine mv1 rfl rfl ?_
  refine pull fun t8 h_t8 => ?_
  refine s_st (s_call (ψ := fun (_ : Unit) => tup [ag [slv (rI .i64) t8.1.Items, iv .i64 t8.1.Window, iv .i64 t8.1.Base, slv (rI .i64) t8.1.Received, slv rT_api_Packet t8.1.Held, slv rT_api_Packet t8.1.Flight], iv .i64 t8.2]) (args := [.tmp 39, .tmp 40]) Try.call18 rfl (ref29_New_ok h_t8) ⟨arg rfl, arg rfl, trivial⟩ (fun _ _ _ _ h => h)) rfl (fun _ => ?_)
  refine mv1 rfl rfl ?_
  refine s_rd (r_extract rfl rfl) rfl ?_
  refine s_rd (r_extract rfl rfl) rfl ?_
  refine s_st (s_alloc zt_28) rfl (fun b9 => ?_)
  refine s_st0 (s_cstore (out := [slv (rI .i64) t8.1.Items, iv .i64 t8.1.Window, iv .i64 t8.1.Base, slv (rI .i64) t8.1.Received, slv rT_api_Packet t8.1.Held, slv rT_api_Packet t8.1.Flight]) Try.sizeOf28 rfl (j := 3) rfl (part_agO (ψs := [slv (rI .i64) t8.1.Items, iv .i64 t8.1.Window, iv .i64 t8.1.Base, slv (rI .i64) t8.1.Received, slv rT_api_Packet t8.1.Held, slv rT_api_Packet t8.1.Flight]) rfl ⟨.inl slv_at, .inl iv_at, .inl iv_at, .inl slv_at, .inl slv_at, .inl slv_at, trivial⟩) rfl rfl rfl) (fun _ => ?_)
  refine as1 rfl rfl ?_
  refine l_nil (n_then (ref_seq (ref_seq (ref_region ?_))))
  refine mv1 rfl rfl ?_
  refine mv1 rfl rfl ?_
  refine s_rd (r_neq rfl rfl) rfl ?_
  refine mv1 rfl rfl ?_
  refine b_split (t := 47) rfl (fun _ => ?_) (fun _ => ?_)
  · refine s_off rfl rfl rfl rfl rfl ?_
    refine s_off rfl rfl rfl rfl rfl ?_
    refine s_off rfl rfl rfl rfl rfl ?_
    refine s_off rfl rfl rfl rfl rfl ?_
    refine s_rd (r_pickT rfl rfl) rfl ?_
    refine l_nil (n_then ?_)
    refine ref_condT rfl rfl ?_
    refine ref_seq (ref_region ?_)
    refine as1 rfl rfl ?_
    refine l_nil (n_then (ref_ret (r_then ?_)))
    exact fin1 (.inl rfl) () [] rfl trivial rfl (rv_tmp rfl)
  refine s_on rfl rfl rfl ?_
  refine s_rd (r_cloadS Try.isAgg28 Try.sizeOf28 rfl (j := 2) rfl rfl rfl) rfl ?_
  refine s_on rfl rfl rfl ?_
  refine s_rd (r_cloadS Try.isAgg28 Try.sizeOf28 rfl (j := 3) rfl rfl rfl) rfl ?_
  refine s_on rfl rfl rfl ?_
  refine pull fun t10 h_t10 => ?_
  refine s_st (s_call (ψ := fun (_ : Unit) => bv t10) (args := [.tmp 48, .tmp 49]) Try.call19 rfl (ref29_Same_ok h_t10) ⟨arg rfl, arg rfl, trivial⟩ (fun _ _ _ _ h => h)) rfl (fun _ => ?_)
  refine s_on rfl rfl rfl ?_
  refine s_rd (r_not rfl) rfl ?_
  refine s_rd (r_pickF rfl rfl) rfl ?_
  refine l_nil ?_
  refine b_of (nrm [oc b1 [iv .i64 odd_3.Kind, iv .i64 odd_3.N], oc x5 [slv (rI .i64) s4.L, iv .i64 s4.At], oc b7 [slv (rI .i64) t6.1.Items, iv .i64 t6.1.Window, iv .i64 t6.1.Base, slv (rI .i64) t6.1.Received, slv rT_api_Packet t6.1.Held, slv rT_api_Packet t6.1.Flight], oc b9 [slv (rI .i64) t8.1.Items, iv .i64 t8.1.Window, iv .i64 t8.1.Base, slv (rI .i64) t8.1.Received, slv rT_api_Packet t8.1.Held, slv rT_api_Packet t8.1.Flight]] rfl) ?_
  refine n_then ?_
  refine ref_cond rfl (fun hb11 => ?_) (fun hb11 => ?_)
  · refine ref_seq (ref_region ?_)
    refine as1 rfl rfl ?_
    refine l_nil (n_then (ref_ret (r_then ?_)))
    exact fin1 (.inl rfl) () [] rfl trivial rfl (rv_tmp rfl)
  refine ref_skip (n_then (ref_seq ?_))
  refine pull fun t13 h_t13 => ?_
  refine pull fun t14 h_t14 => ?_
  refine pull fun t15 h_t15 => ?_
  refine pull fun t16 h_t16 => ?_
  refine ref_drawI 1 [⟨[], [], [], [], [], fun us u => slv (rI .i64) items_0, fun us u => []⟩, ⟨[], [], [], [], [], fun us u => slv (rI .i64) items_0, fun us u => []⟩, ⟨[1], [], [], [], [], fun us u => iv .i64 (items_0.length : Int), fun us u => []⟩, ⟨[], [], [], [], [], fun us u => pv (ptr x5 0), fun us u => []⟩, ⟨[3], [], [1], [1], [1], fun us u => iv .i64 t13.1, fun us u => [oc x5 [slv (rI .i64) t13.2.L, iv .i64 t13.2.At]]⟩, ⟨[1, 2, 3, 4], [], [], [], [], fun us u => iv .i64 (imin (items_0.length : Int) t13.1), fun us u => []⟩, ⟨[0, 1, 2, 3, 4, 5], [], [], [], [], fun us u => slv (rI .i64) t14, fun us u => []⟩, ⟨[], [], [], [], [], fun us u => pv (ptr x5 0), fun us u => []⟩, ⟨[3, 4, 7], [], [1], [1], [1], fun us u => iv .i64 t15.1, fun us u => [oc x5 [slv (rI .i64) t15.2.L, iv .i64 t15.2.At]]⟩, ⟨[0, 1, 2, 3, 4, 5, 6, 7, 8], [], [], [], [], fun us u => tup [ag [slv (rI .i64) t16.1.Items, iv .i64 t16.1.Window, iv .i64 t16.1.Base, slv (rI .i64) t16.1.Received, slv rT_api_Packet t16.1.Held, slv rT_api_Packet t16.1.Flight], iv .i64 t16.2], fun us u => []⟩, ⟨[0, 1, 2, 3, 4, 5, 6, 7, 8, 9], [], [], [], [], fun us u => tup [ag [slv (rI .i64) t16.1.Items, iv .i64 t16.1.Window, iv .i64 t16.1.Base, slv (rI .i64) t16.1.Received, slv rT_api_Packet t16.1.Held, slv rT_api_Packet t16.1.Flight], iv .i64 t16.2], fun us u => []⟩, ⟨[0, 1, 2, 3, 4, 5, 6, 7, 8, 9, 10], [], [], [], [], fun us u => ag [slv (rI .i64) t16.1.Items, iv .i64 t16.1.Window, iv .i64 t16.1.Base, slv (rI .i64) t16.1.Received, slv rT_api_Packet t16.1.Held, slv rT_api_Packet t16.1.Flight], fun us u => []⟩, ⟨[0, 1, 2, 3, 4, 5, 6, 7, 8, 9, 10], [], [], [], [], fun us u => iv .i64 t16.2, fun us u => []⟩, ⟨[], [], [4], [4], [], fun us u => pv (ptr u.Nn 0), fun us u => [oc u.Nn [pv (.slice none 0 0), iv .i64 0, iv .i64 0, pv (.slice none 0 0), pv (.slice none 0 0), pv (.slice none 0 0)]]⟩, ⟨[0, 1, 2, 3, 4, 5, 6, 7, 8, 9, 10, 11, 13], [13], [4], [4], [4], fun us u => pv undef, fun us u => [oc (us.getD 0 .none).Nn [slv (rI .i64) t16.1.Items, iv .i64 t16.1.Window, iv .i64 t16.1.Base, slv (rI .i64) t16.1.Received, slv rT_api_Packet t16.1.Held, slv rT_api_Packet t16.1.Flight]]⟩, ⟨[0, 1, 2, 3, 4, 5, 6, 7, 8, 9, 10, 11, 12, 13, 14], [], [], [], [], fun us u => iv .i64 t16.2, fun us u => []⟩] (fun χ12 => [(7, pv (ptr b1 0)), (9, pv (ptr x5 0)), (14, pv (ptr (χ12 13).Nn 0))]) (fun χ12 => [oc b1 [iv .i64 odd_3.Kind, iv .i64 odd_3.N], oc x5 [slv (rI .i64) t15.2.L, iv .i64 t15.2.At], oc b7 [slv (rI .i64) t6.1.Items, iv .i64 t6.1.Window, iv .i64 t6.1.Base, slv (rI .i64) t6.1.Received, slv rT_api_Packet t6.1.Held, slv rT_api_Packet t6.1.Flight], oc b9 [slv (rI .i64) t8.1.Items, iv .i64 t8.1.Window, iv .i64 t8.1.Base, slv (rI .i64) t8.1.Received, slv rT_api_Packet t8.1.Held, slv rT_api_Packet t8.1.Flight], oc (χ12 13).Nn [slv (rI .i64) t16.1.Items, iv .i64 t16.1.Window, iv .i64 t16.1.Base, slv (rI .i64) t16.1.Received, slv rT_api_Packet t16.1.Held, slv rT_api_Packet t16.1.Flight]]) rfl (by kernel_rfl) ⟨fun χ12 Ω _ => St.toR (r_move rfl) (fun _ => rfl) (fun _ => rfl), (by intro _ h; cases h; rfl), ⟨fun χ12 Ω _ => St.toR (r_move rfl) (fun _ => rfl) (fun _ => rfl), (by intro _ h; cases h; rfl), ⟨fun χ12 Ω _ => St.toR (r_len Try.underlying22 rfl) (fun _ => rfl) (fun _ => rfl), (by intro _ h; cases h; rfl), ⟨fun χ12 Ω _ => St.toR (r_move rfl) (fun _ => rfl) (fun _ => rfl), (by intro _ h; cases h; rfl), ⟨fun χ12 Ω ⟨h1, _⟩ => St.to XU.U XU.hU (St.placeL [] (s_callC [1] [true] (fun (_ : Unit) => [oc x5 [slv (rI .i64) t13.2.L, iv .i64 t13.2.At]]) (fun (_ : Unit) => []) (fun (_ : Unit) => iv .i64 t13.1) (args := [.tmp 57, .const (.int .i64 (0)), .const (.int .i64 (6))]) (caps := []) Try.call10 rfl (keep_Src_Range_ok h_t13) ⟨h1, rfl, trivial⟩ (fun _ => rfl) (fun _ => trivial) (fun _ => rfl) ⟨arg rfl, arg rfl, arg rfl, trivial⟩ (fun _ _ _ _ h => h)) (fun _ => rfl) (fun _ => trivial)) (fun _ => rfl) (fun _ => rfl), (by intro _ h; cases h; rfl), ⟨fun χ12 Ω _ => St.toR (r_min rfl rfl) (fun _ => rfl) (fun _ => rfl), (by intro _ h; cases h; rfl), ⟨fun χ12 Ω _ => St.toR (r_slice h_t14 Try.underlying22 el_3 rfl .dft (.of rfl)) (fun _ => rfl) (fun _ => rfl), (by intro _ h; cases h; rfl), ⟨fun χ12 Ω _ => St.toR (r_move rfl) (fun _ => rfl) (fun _ => rfl), (by intro _ h; cases h; rfl), ⟨fun χ12 Ω ⟨h1, _⟩ => St.to XU.U XU.hU (St.placeL [] (s_callC [1] [true] (fun (_ : Unit) => [oc x5 [slv (rI .i64) t15.2.L, iv .i64 t15.2.At]]) (fun (_ : Unit) => []) (fun (_ : Unit) => iv .i64 t15.1) (args := [.tmp 61, .const (.int .i64 (1)), .const (.int .i64 (4))]) (caps := []) Try.call10 rfl (keep_Src_Range_ok h_t15) ⟨h1, rfl, trivial⟩ (fun _ => rfl) (fun _ => trivial) (fun _ => rfl) ⟨arg rfl, arg rfl, arg rfl, trivial⟩ (fun _ _ _ _ h => h)) (fun _ => rfl) (fun _ => trivial)) (fun _ => rfl) (fun _ => rfl), (by intro _ h; cases h; rfl), ⟨fun χ12 Ω _ => St.to XU.U XU.hU (St.placeL [] (s_call (ψ := fun (_ : Unit) => tup [ag [slv (rI .i64) t16.1.Items, iv .i64 t16.1.Window, iv .i64 t16.1.Base, slv (rI .i64) t16.1.Received, slv rT_api_Packet t16.1.Held, slv rT_api_Packet t16.1.Flight], iv .i64 t16.2]) (args := [.tmp 60, .tmp 62]) Try.call9 rfl (channel_New_ok h_t16) ⟨arg rfl, arg rfl, trivial⟩ (fun _ _ _ _ h => h)) (fun _ => rfl) (fun _ => trivial)) (fun _ => rfl) (fun _ => rfl), (by intro _ h; cases h; rfl), ⟨fun χ12 Ω _ => St.toR (r_move rfl) (fun _ => rfl) (fun _ => rfl), (by intro _ h; cases h; rfl), ⟨fun χ12 Ω _ => St.toR (r_extract rfl rfl) (fun _ => rfl) (fun _ => rfl), (by intro _ h; cases h; rfl), ⟨fun χ12 Ω _ => St.toR (r_extract rfl rfl) (fun _ => rfl) (fun _ => rfl), (by intro _ h; cases h; rfl), ⟨fun χ12 Ω ⟨h4, _⟩ => St.to XU.Nn XU.hN (St.placeL (os := fun _ => [_]) [4] (s_alloc zt_28) (fun _ => rfl) (fun _ => ⟨h4, rfl, trivial⟩)) (fun _ => rfl) (fun _ => rfl), (by intro _ h; cases h; rfl), ⟨fun χ12 Ω ⟨h4, _⟩ => St.to XU.U XU.hU (s_cstore (out := [slv (rI .i64) t16.1.Items, iv .i64 t16.1.Window, iv .i64 t16.1.Base, slv (rI .i64) t16.1.Received, slv rT_api_Packet t16.1.Held, slv rT_api_Packet t16.1.Flight]) Try.sizeOf28 rfl (j := 4) h4 (part_agO (ψs := [slv (rI .i64) t16.1.Items, iv .i64 t16.1.Window, iv .i64 t16.1.Base, slv (rI .i64) t16.1.Received, slv rT_api_Packet t16.1.Held, slv rT_api_Packet t16.1.Flight]) rfl ⟨.inl slv_at, .inl iv_at, .inl iv_at, .inl slv_at, .inl slv_at, .inl slv_at, trivial⟩) rfl rfl rfl) (fun _ => rfl) (fun _ => rfl), (by intro _ h; cases h), ⟨fun χ12 Ω _ => St.toR (r_assign rfl) (fun _ => rfl) (fun _ => rfl), (by intro _ h; cases h; rfl), trivial⟩⟩⟩⟩⟩⟩⟩⟩⟩⟩⟩⟩⟩⟩⟩⟩ (fun _ => ⟨rfl, rfl, rfl, trivial⟩) (fun _ => rfl) (fun χ12 => ?_)
  refine n_then (ref_seq (ref_seq (ref_region ?_)))
  refine as1 rfl rfl ?_
  refine l_nil (n_then ?_)
  refine ref_loopX (f := (law29_ChannelSteps_l1 odd_3)) (Γl := (fun (s64 : Int × T_deliberationkeep_Src × T_api_Channel) (x65 : Unit) => [(7, pv (ptr b1 0)), (9, pv (ptr x5 0)), (14, pv (ptr (χ12 13).Nn 0)), (16, iv .i64 s64.1)])) (Ωl := (fun (s64 : Int × T_deliberationkeep_Src × T_api_Channel) (x65 : Unit) => [oc b1 [iv .i64 odd_3.Kind, iv .i64 odd_3.N], oc x5 [slv (rI .i64) s64.2.1.L, iv .i64 s64.2.1.At], oc (χ12 13).Nn [slv (rI .i64) s64.2.2.Items, iv .i64 s64.2.2.Window, iv .i64 s64.2.2.Base, slv (rI .i64) s64.2.2.Received, slv rT_api_Packet s64.2.2.Held, slv rT_api_Packet s64.2.2.Flight]])) (Γb := (fun (q88 : T_api_Channel) (y89 : Unit) => [(14, pv (ptr (χ12 13).Nn 0))])) (Ωb := (fun (q88 : T_api_Channel) (y89 : Unit) => [oc (χ12 13).Nn [slv (rI .i64) q88.Items, iv .i64 q88.Window, iv .i64 q88.Base, slv (rI .i64) q88.Received, slv rT_api_Packet q88.Held, slv rT_api_Packet q88.Flight]])) (kr := (fun a : Bool => some a)) (0, t15.2, t16.1) () (weak [0, 1, 4] ⟨rfl, rfl, rfl, rfl, trivial⟩ ⟨rfl, rfl, rfl, trivial⟩) (fun s64 x65 => ?_) (fun q88 y89 => ?_)
  · unfold law29_ChannelSteps_l1
    refine ref_seq ?_
    refine ref_join (fun (j68 : Bool × Bool) (x69 : Unit) => [(7, pv (ptr b1 0)), (9, pv (ptr x5 0)), (14, pv (ptr (χ12 13).Nn 0)), (16, iv .i64 s64.1), (69, iv .i64 s64.1), (70, bv (decide (s64.1 < 4))), (71, bv j68.1), (74, bv j68.2)]) (fun (j68 : Bool × Bool) (x69 : Unit) => [oc b1 [iv .i64 odd_3.Kind, iv .i64 odd_3.N], oc x5 [slv (rI .i64) s64.2.1.L, iv .i64 s64.2.1.At], oc (χ12 13).Nn [slv (rI .i64) s64.2.2.Items, iv .i64 s64.2.2.Window, iv .i64 s64.2.2.Base, slv (rI .i64) s64.2.2.Received, slv rT_api_Packet s64.2.2.Held, slv rT_api_Packet s64.2.2.Flight]]) (fun k70 hk70 => ?_) (fun j68 x69 => ?_)
    · refine ref_seq (ref_region ?_)
      refine mv1 rfl rfl ?_
      refine s_rd (r_lss rfl rfl) rfl ?_
      refine mv1 rfl rfl ?_
      refine b_split (t := 68) rfl (fun _ => ?_) (fun _ => ?_)
      · refine s_on rfl rfl rfl ?_
        refine mv1 rfl rfl ?_
        refine s_on rfl rfl rfl ?_
        refine s_rd (r_lss rfl rfl) rfl ?_
        refine s_on rfl rfl rfl ?_
        refine mv1 rfl rfl ?_
        refine b_split (t := 71) rfl (fun _ => ?_) (fun _ => ?_)
        · refine s_off rfl rfl rfl rfl rfl ?_
          refine s_off rfl rfl rfl rfl rfl ?_
          refine s_on rfl rfl rfl ?_
          refine s_rd (r_pickT rfl rfl) rfl ?_
          refine s_rd (r_pickT rfl rfl) rfl ?_
          refine l_nil (n_then ?_)
          refine ref_condT rfl rfl ?_
          refine ref_skip ?_
          exact b_to (hk70 (true, true) ()) (weak [0, 1, 2] ⟨rfl, rfl, rfl, rfl, rfl, rfl, rfl, rfl, trivial⟩ ⟨rfl, rfl, rfl, trivial⟩)
        refine s_on rfl rfl rfl ?_
        refine mv1 rfl rfl ?_
        refine s_on rfl rfl rfl ?_
        refine pull fun t66 h_t66 => ?_
        refine s_st (s_callC [1] [true] (fun (_ : Unit) => [oc x5 [slv (rI .i64) s64.2.1.L, iv .i64 s64.2.1.At]]) (fun (_ : Unit) => []) (fun (_ : Unit) => bv t66) (args := [.tmp 72]) (caps := []) Try.call11 rfl (keep_Src_More_ok h_t66) ⟨rfl, rfl, trivial⟩ (fun _ => rfl) (fun _ => trivial) (fun _ => rfl) ⟨arg rfl, trivial⟩ (fun _ _ _ _ h => h)) rfl (fun _ => ?_)
        refine s_on rfl rfl rfl ?_
        refine s_rd (r_pickF rfl rfl) rfl ?_
        refine s_rd (r_pickT rfl rfl) rfl ?_
        refine l_nil (n_then ?_)
        refine ref_cond rfl (fun hb67 => ?_) (fun hb67 => ?_)
        · refine ref_skip ?_
          exact b_to (hk70 (false, t66) ()) (weak [0, 1, 2] ⟨rfl, rfl, rfl, rfl, rfl, rfl, rfl, rfl, trivial⟩ ⟨rfl, rfl, rfl, trivial⟩)
        refine ref_exit (x_then ?_)
        exact brkX () (weak [2] ⟨rfl, trivial⟩ ⟨rfl, trivial⟩)
      refine s_off rfl rfl rfl rfl rfl ?_
      refine s_off rfl rfl rfl rfl rfl ?_
      refine s_off rfl rfl rfl rfl rfl ?_
      refine s_offU rfl rfl rfl ?_
      refine s_offU rfl rfl rfl ?_
      refine s_off rfl rfl rfl rfl rfl ?_
      refine s_rd (r_pickF rfl rfl) rfl ?_
      refine l_nil (n_then ?_)
      refine ref_condF rfl rfl ?_
      refine ref_exit (x_then ?_)
      exact brkX () (weak [2] ⟨rfl, trivial⟩ ⟨rfl, trivial⟩)
    refine n_then (ref_seq (ref_block (ref_seq (ref_region ?_))))
    refine mv1 rfl rfl ?_
    refine s_rd (r_cloadS Try.isAgg28 Try.sizeOf28 rfl (j := 2) rfl rfl rfl) rfl ?_
    refine pull fun t71 h_t71 => ?_
    refine s_st (s_callC [1] [true] (fun (_ : Unit) => [oc x5 [slv (rI .i64) t71.2.L, iv .i64 t71.2.At]]) (fun (_ : Unit) => []) (fun (_ : Unit) => ag [iv .i64 t71.1.Kind, iv .i64 t71.1.N]) (args := [.tmp 78, .tmp 79]) (caps := []) Try.call13 rfl (law29_event_ok h_t71) ⟨rfl, rfl, trivial⟩ (fun _ => rfl) (fun _ => trivial) (fun _ => rfl) ⟨arg rfl, arg rfl, trivial⟩ (fun _ _ _ _ h => h)) rfl (fun _ => ?_)
    refine s_st (s_alloc zt_35) rfl (fun b72 => ?_)
    refine s_st0 (s_cstore (out := [iv .i64 t71.1.Kind, iv .i64 t71.1.N]) Try.sizeOf35 rfl (j := 3) rfl (part_agO (ψs := [iv .i64 t71.1.Kind, iv .i64 t71.1.N]) rfl ⟨.inl iv_at, .inl iv_at, trivial⟩) rfl rfl rfl) (fun _ => ?_)
    refine l_nil (n_then (ref_seq ?_))
    refine ref_join (fun (j74 : T_api_NetEvent) (x75 : Unit) => [(7, pv (ptr b1 0)), (9, pv (ptr x5 0)), (14, pv (ptr (χ12 13).Nn 0)), (16, iv .i64 s64.1), (17, pv (ptr b72 0)), (69, iv .i64 s64.1), (70, bv (decide (s64.1 < 4))), (71, bv j68.1), (74, bv j68.2)]) (fun (j74 : T_api_NetEvent) (x75 : Unit) => [oc b1 [iv .i64 odd_3.Kind, iv .i64 odd_3.N], oc x5 [slv (rI .i64) t71.2.L, iv .i64 t71.2.At], oc (χ12 13).Nn [slv (rI .i64) s64.2.2.Items, iv .i64 s64.2.2.Window, iv .i64 s64.2.2.Base, slv (rI .i64) s64.2.2.Received, slv rT_api_Packet s64.2.2.Held, slv rT_api_Packet s64.2.2.Flight], oc b72 [iv .i64 j74.Kind, iv .i64 j74.N]]) (fun k76 hk76 => ?_) (fun j74 x75 => ?_)
    · refine ref_seq (ref_region ?_)
      refine mv1 rfl rfl ?_
      refine s_rd (r_eql rfl rfl) rfl ?_
      refine l_nil (n_then ?_)
      refine ref_cond rfl (fun hb73 => ?_) (fun hb73 => ?_)
      · refine ref_region ?_
        refine s_rd (r_cloadS Try.isAgg35 Try.sizeOf35 rfl (j := 0) rfl rfl rfl) rfl ?_
        refine s_st0 (s_cstore (out := [iv .i64 odd_3.Kind, iv .i64 odd_3.N]) Try.sizeOf35 rfl (j := 3) rfl (part_agO (ψs := [iv .i64 odd_3.Kind, iv .i64 odd_3.N]) rfl ⟨.inl iv_at, .inl iv_at, trivial⟩) rfl rfl rfl) (fun _ => ?_)
        refine l_nil ?_
        refine b_of (nrm [oc b1 [iv .i64 odd_3.Kind, iv .i64 odd_3.N], oc x5 [slv (rI .i64) t71.2.L, iv .i64 t71.2.At], oc (χ12 13).Nn [slv (rI .i64) s64.2.2.Items, iv .i64 s64.2.2.Window, iv .i64 s64.2.2.Base, slv (rI .i64) s64.2.2.Received, slv rT_api_Packet s64.2.2.Held, slv rT_api_Packet s64.2.2.Flight], oc b72 [iv .i64 odd_3.Kind, iv .i64 odd_3.N]] rfl) ?_
        exact b_to (hk76 odd_3 ()) (weak [0, 1, 2, 3] ⟨rfl, rfl, rfl, rfl, rfl, rfl, rfl, rfl, rfl, trivial⟩ ⟨rfl, rfl, rfl, rfl, trivial⟩)
      refine ref_skip ?_
      exact b_to (hk76 t71.1 ()) (weak [0, 1, 2, 3] ⟨rfl, rfl, rfl, rfl, rfl, rfl, rfl, rfl, rfl, trivial⟩ ⟨rfl, rfl, rfl, rfl, trivial⟩)
    refine n_then (ref_seq (ref_region ?_))
    refine s_rd (r_cloadS Try.isAgg28 Try.sizeOf28 rfl (j := 2) rfl rfl rfl) rfl ?_
    refine s_rd (r_cloadS Try.isAgg35 Try.sizeOf35 rfl (j := 3) rfl rfl rfl) rfl ?_
    refine pull fun t77 h_t77 => ?_
    refine s_st (s_call (ψ := fun (_ : Unit) => tup [ag [slv (rI .i64) t77.1.Items, iv .i64 t77.1.Window, iv .i64 t77.1.Base, slv (rI .i64) t77.1.Received, slv rT_api_Packet t77.1.Held, slv rT_api_Packet t77.1.Flight], iv .i64 t77.2]) (args := [.tmp 85, .tmp 86]) Try.call12 rfl (channel_Step_ok h_t77) ⟨arg rfl, arg rfl, trivial⟩ (fun _ _ _ _ h => h)) rfl (fun _ => ?_)
    refine mv1 rfl rfl ?_
    refine s_rd (r_extract rfl rfl) rfl ?_
    refine s_rd (r_extract rfl rfl) rfl ?_
    refine s_st (s_alloc zt_28) rfl (fun b78 => ?_)
    refine s_st0 (s_cstore (out := [slv (rI .i64) t77.1.Items, iv .i64 t77.1.Window, iv .i64 t77.1.Base, slv (rI .i64) t77.1.Received, slv rT_api_Packet t77.1.Held, slv rT_api_Packet t77.1.Flight]) Try.sizeOf28 rfl (j := 4) rfl (part_agO (ψs := [slv (rI .i64) t77.1.Items, iv .i64 t77.1.Window, iv .i64 t77.1.Base, slv (rI .i64) t77.1.Received, slv rT_api_Packet t77.1.Held, slv rT_api_Packet t77.1.Flight]) rfl ⟨.inl slv_at, .inl iv_at, .inl iv_at, .inl slv_at, .inl slv_at, .inl slv_at, trivial⟩) rfl rfl rfl) (fun _ => ?_)
    refine as1 rfl rfl ?_
    refine l_nil (n_then (ref_seq (ref_region ?_)))
    refine s_rd (r_cloadS Try.isAgg28 Try.sizeOf28 rfl (j := 2) rfl rfl rfl) rfl ?_
    refine s_rd (r_cloadS Try.isAgg35 Try.sizeOf35 rfl (j := 3) rfl rfl rfl) rfl ?_
    refine pull fun t79 h_t79 => ?_
    refine s_st (s_call (ψ := fun (_ : Unit) => tup [ag [slv (rI .i64) t79.1.Items, iv .i64 t79.1.Window, iv .i64 t79.1.Base, slv (rI .i64) t79.1.Received, slv rT_api_Packet t79.1.Held, slv rT_api_Packet t79.1.Flight], iv .i64 t79.2]) (args := [.tmp 91, .tmp 92]) Try.call20 rfl (ref29_Step_ok h_t79) ⟨arg rfl, arg rfl, trivial⟩ (fun _ _ _ _ h => h)) rfl (fun _ => ?_)
    refine mv1 rfl rfl ?_
    refine s_rd (r_extract rfl rfl) rfl ?_
    refine s_rd (r_extract rfl rfl) rfl ?_
    refine s_st (s_alloc zt_28) rfl (fun b80 => ?_)
    refine s_st0 (s_cstore (out := [slv (rI .i64) t79.1.Items, iv .i64 t79.1.Window, iv .i64 t79.1.Base, slv (rI .i64) t79.1.Received, slv rT_api_Packet t79.1.Held, slv rT_api_Packet t79.1.Flight]) Try.sizeOf28 rfl (j := 5) rfl (part_agO (ψs := [slv (rI .i64) t79.1.Items, iv .i64 t79.1.Window, iv .i64 t79.1.Base, slv (rI .i64) t79.1.Received, slv rT_api_Packet t79.1.Held, slv rT_api_Packet t79.1.Flight]) rfl ⟨.inl slv_at, .inl iv_at, .inl iv_at, .inl slv_at, .inl slv_at, .inl slv_at, trivial⟩) rfl rfl rfl) (fun _ => ?_)
    refine as1 rfl rfl ?_
    refine l_nil ?_
    refine b_of (nrm [oc b1 [iv .i64 odd_3.Kind, iv .i64 odd_3.N], oc x5 [slv (rI .i64) t71.2.L, iv .i64 t71.2.At], oc (χ12 13).Nn [slv (rI .i64) s64.2.2.Items, iv .i64 s64.2.2.Window, iv .i64 s64.2.2.Base, slv (rI .i64) s64.2.2.Received, slv rT_api_Packet s64.2.2.Held, slv rT_api_Packet s64.2.2.Flight], oc b72 [iv .i64 j74.Kind, iv .i64 j74.N], oc b78 [slv (rI .i64) t77.1.Items, iv .i64 t77.1.Window, iv .i64 t77.1.Base, slv (rI .i64) t77.1.Received, slv rT_api_Packet t77.1.Held, slv rT_api_Packet t77.1.Flight], oc b80 [slv (rI .i64) t79.1.Items, iv .i64 t79.1.Window, iv .i64 t79.1.Base, slv (rI .i64) t79.1.Received, slv rT_api_Packet t79.1.Held, slv rT_api_Packet t79.1.Flight]] rfl) ?_
    refine n_then (ref_seq (ref_seq ?_))
    refine ref_draw [0, 1, 2, 3, 4, 5, 7, 8, 9, 10, 12, 14, 15] rfl (by kernel_rfl) (fun hok => ?_)
    refine a_rd (i := 0) hok rfl (by kernel_rfl) rfl (r_move rfl) rfl ?_
    refine a_rd (i := 1) hok rfl (by kernel_rfl) rfl (r_move rfl) rfl ?_
    refine a_rd (i := 2) hok rfl (by kernel_rfl) rfl (r_neq rfl rfl) rfl ?_
    refine a_rd (i := 3) hok rfl (by kernel_rfl) rfl (r_move rfl) rfl ?_
    refine b_split (t := 99) rfl (fun _ => ?_) (fun _ => ?_)
    · refine a_off (i := 4) hok rfl rfl rfl rfl rfl (by kernel_rfl) rfl rfl ?_
      refine a_off (i := 5) hok rfl rfl rfl rfl rfl (by kernel_rfl) rfl rfl ?_
      refine a_next hok 6 [] (by kernel_rfl) ?_ trivial
      refine a_stOff (i := 6) hok rfl rfl rfl rfl rfl rfl (by intro _ h; cases h; rfl) ⟨trivial, ⟨trivial, ⟨trivial, ⟨trivial, ⟨trivial, ⟨trivial, trivial⟩⟩⟩⟩⟩⟩ ?_
      refine a_off (i := 7) hok rfl rfl rfl rfl rfl (by kernel_rfl) rfl rfl ?_
      refine a_rd (i := 8) hok rfl (by kernel_rfl) rfl (r_pickT rfl rfl) rfl ?_
      refine a_rd (i := 9) hok rfl (by kernel_rfl) rfl (r_move rfl) rfl ?_
      refine a_off (i := 10) hok rfl rfl rfl rfl rfl (by kernel_rfl) rfl rfl ?_
      refine a_off (i := 12) hok rfl rfl rfl rfl rfl (by kernel_rfl) rfl rfl ?_
      refine a_next hok 11 [] (by kernel_rfl) ?_ trivial
      refine a_stOff (i := 11) hok rfl rfl rfl rfl rfl rfl (by intro _ h; cases h; rfl) ⟨trivial, ⟨trivial, ⟨trivial, ⟨trivial, ⟨trivial, ⟨trivial, ⟨trivial, ⟨trivial, ⟨trivial, ⟨trivial, ⟨trivial, trivial⟩⟩⟩⟩⟩⟩⟩⟩⟩⟩⟩ ?_
      refine a_next hok 13 [] (by kernel_rfl) ?_ trivial
      refine a_stOff (i := 13) hok rfl rfl rfl rfl rfl rfl (by intro _ h; cases h; rfl) ⟨trivial, ⟨trivial, ⟨trivial, ⟨trivial, ⟨trivial, ⟨trivial, ⟨trivial, ⟨trivial, ⟨trivial, ⟨trivial, ⟨trivial, trivial⟩⟩⟩⟩⟩⟩⟩⟩⟩⟩⟩ ?_
      refine a_off (i := 14) hok rfl rfl rfl rfl rfl (by kernel_rfl) rfl rfl ?_
      refine a_rd (i := 15) hok rfl (by kernel_rfl) rfl (r_pickT rfl rfl) rfl ?_
      refine a_fin hok (by kernel_rfl) ?_
      refine n_then ?_
      refine ref_condT rfl rfl ?_
      refine ref_seq (ref_region ?_)
      refine as1 rfl rfl ?_
      refine l_nil (n_then (ref_ret (r_then (r_block (r_then ?_)))))
      refine retX ?_
      refine r_block (r_then ?_)
      exact fin1 (.inl rfl) () [] rfl trivial rfl (rv_tmp rfl)
    refine a_rdOn (i := 4) hok rfl rfl rfl rfl (by kernel_rfl) rfl (r_cloadS Try.isAgg28 Try.sizeOf28 rfl (j := 4) rfl rfl rfl) rfl ?_
    refine a_rdOn (i := 5) hok rfl rfl rfl rfl (by kernel_rfl) rfl (r_cloadS Try.isAgg28 Try.sizeOf28 rfl (j := 5) rfl rfl rfl) rfl ?_
    refine pull fun t81 h_t81 => ?_
    refine a_next hok 6 [] (by kernel_rfl) ?_ trivial
    refine a_stOn (i := 6) hok rfl rfl rfl rfl rfl (s_call (ψ := fun (_ : Unit) => bv t81) (args := [.tmp 100, .tmp 101]) Try.call19 rfl (ref29_Same_ok h_t81) ⟨arg rfl, arg rfl, trivial⟩ (fun _ _ _ _ h => h)) (by intro _ h; cases h; rfl) (fun _ => ⟨trivial, ⟨trivial, ⟨trivial, ⟨trivial, ⟨trivial, ⟨trivial, trivial⟩⟩⟩⟩⟩⟩) (fun _ => ?_)
    refine a_rdOn (i := 7) hok rfl rfl rfl rfl (by kernel_rfl) rfl (r_not rfl) rfl ?_
    refine a_rd (i := 8) hok rfl (by kernel_rfl) rfl (r_pickF rfl rfl) rfl ?_
    refine a_rd (i := 9) hok rfl (by kernel_rfl) rfl (r_move rfl) rfl ?_
    refine b_split (t := 105) rfl (fun _ => ?_) (fun _ => ?_)
    · refine a_off (i := 10) hok rfl rfl rfl rfl rfl (by kernel_rfl) rfl rfl ?_
      refine a_off (i := 12) hok rfl rfl rfl rfl rfl (by kernel_rfl) rfl rfl ?_
      refine a_next hok 11 [] (by kernel_rfl) ?_ trivial
      refine a_stOff (i := 11) hok rfl rfl rfl rfl rfl rfl (by intro _ h; cases h; rfl) ⟨trivial, ⟨trivial, ⟨trivial, ⟨trivial, ⟨trivial, ⟨⟨⟨rfl, rfl⟩, trivial⟩, ⟨⟨⟨rfl, rfl⟩, trivial⟩, ⟨trivial, ⟨trivial, ⟨trivial, ⟨trivial, trivial⟩⟩⟩⟩⟩⟩⟩⟩⟩⟩⟩ ?_
      refine a_next hok 13 [] (by kernel_rfl) ?_ trivial
      refine a_stOff (i := 13) hok rfl rfl rfl rfl rfl rfl (by intro _ h; cases h; rfl) ⟨trivial, ⟨trivial, ⟨trivial, ⟨trivial, ⟨trivial, ⟨⟨⟨rfl, rfl⟩, trivial⟩, ⟨⟨⟨rfl, rfl⟩, trivial⟩, ⟨trivial, ⟨trivial, ⟨trivial, ⟨trivial, trivial⟩⟩⟩⟩⟩⟩⟩⟩⟩⟩⟩ ?_
      refine a_off (i := 14) hok rfl rfl rfl rfl rfl (by kernel_rfl) rfl rfl ?_
      refine a_rd (i := 15) hok rfl (by kernel_rfl) rfl (r_pickT rfl rfl) rfl ?_
      refine a_fin hok (by kernel_rfl) ?_
      refine n_then ?_
      refine ref_condT rfl rfl ?_
      refine ref_seq (ref_region ?_)
      refine as1 rfl rfl ?_
      refine l_nil (n_then (ref_ret (r_then (r_block (r_then ?_)))))
      refine retX ?_
      refine r_block (r_then ?_)
      exact fin1 (.inl rfl) () [] rfl trivial rfl (rv_tmp rfl)
    refine a_rdOn (i := 10) hok rfl rfl rfl rfl (by kernel_rfl) rfl (r_cloadS Try.isAgg28 Try.sizeOf28 rfl (j := 2) rfl rfl rfl) rfl ?_
    refine a_rdOn (i := 12) hok rfl rfl rfl rfl (by kernel_rfl) rfl (r_cloadS Try.isAgg28 Try.sizeOf28 rfl (j := 2) rfl rfl rfl) rfl ?_
    refine pull fun t82 h_t82 => ?_
    refine a_next hok 11 [] (by kernel_rfl) ?_ trivial
    refine a_stOn (i := 11) hok rfl rfl rfl rfl rfl (s_call (ψ := fun (_ : Unit) => bv t82) (args := [.tmp 106]) Try.call17 rfl (channel_Done_ok h_t82) ⟨arg rfl, trivial⟩ (fun _ _ _ _ h => h)) (by intro _ h; cases h; rfl) (fun _ => ⟨⟨⟨rfl, rfl⟩, trivial⟩, ⟨trivial, ⟨trivial, ⟨trivial, ⟨trivial, ⟨⟨⟨rfl, rfl⟩, trivial⟩, ⟨⟨⟨rfl, rfl⟩, trivial⟩, ⟨trivial, ⟨trivial, ⟨trivial, ⟨trivial, trivial⟩⟩⟩⟩⟩⟩⟩⟩⟩⟩⟩) (fun _ => ?_)
    refine pull fun t83 h_t83 => ?_
    refine a_next hok 13 [] (by kernel_rfl) ?_ trivial
    refine a_stOn (i := 13) hok rfl rfl rfl rfl rfl (s_call (ψ := fun (_ : Unit) => bv t83) (args := [.tmp 108]) Try.call21 rfl (ref29_Done_ok h_t83) ⟨arg rfl, trivial⟩ (fun _ _ _ _ h => h)) (by intro _ h; cases h; rfl) (fun _ => ⟨trivial, ⟨⟨⟨rfl, rfl⟩, trivial⟩, ⟨trivial, ⟨trivial, ⟨trivial, ⟨⟨⟨rfl, rfl⟩, trivial⟩, ⟨⟨⟨rfl, rfl⟩, trivial⟩, ⟨trivial, ⟨trivial, ⟨trivial, ⟨trivial, trivial⟩⟩⟩⟩⟩⟩⟩⟩⟩⟩⟩) (fun _ => ?_)
    refine a_rdOn (i := 14) hok rfl rfl rfl rfl (by kernel_rfl) rfl (r_bneq Try.underlying4 rfl rfl) rfl ?_
    refine a_rd (i := 15) hok rfl (by kernel_rfl) rfl (r_pickF rfl rfl) rfl ?_
    refine a_fin hok (by kernel_rfl) ?_
    refine n_then ?_
    refine ref_cond rfl (fun hb84 => ?_) (fun hb84 => ?_)
    · refine ref_seq (ref_region ?_)
      refine as1 rfl rfl ?_
      refine l_nil (n_then (ref_ret (r_then (r_block (r_then ?_)))))
      refine retX ?_
      refine r_block (r_then ?_)
      exact fin1 (.inl rfl) () [] rfl trivial rfl (rv_tmp rfl)
    refine ref_skip (n_then (ref_seq (ref_region ?_)))
    refine mv1 rfl rfl ?_
    refine s_rd (r_eql rfl rfl) rfl ?_
    refine l_nil (n_then ?_)
    refine ref_cond rfl (fun hb85 => ?_) (fun hb85 => ?_)
    · refine ref_region ?_
      refine s_rd (r_cloadS Try.isAgg28 Try.sizeOf28 rfl (j := 4) rfl rfl rfl) rfl ?_
      refine s_st0 (s_cstore (out := [slv (rI .i64) t77.1.Items, iv .i64 t77.1.Window, iv .i64 t77.1.Base, slv (rI .i64) t77.1.Received, slv rT_api_Packet t77.1.Held, slv rT_api_Packet t77.1.Flight]) Try.sizeOf28 rfl (j := 2) rfl (part_agO (ψs := [slv (rI .i64) t77.1.Items, iv .i64 t77.1.Window, iv .i64 t77.1.Base, slv (rI .i64) t77.1.Received, slv rT_api_Packet t77.1.Held, slv rT_api_Packet t77.1.Flight]) rfl ⟨.inl slv_at, .inl iv_at, .inl iv_at, .inl slv_at, .inl slv_at, .inl slv_at, trivial⟩) rfl rfl rfl) (fun _ => ?_)
      refine l_nil ?_
      refine b_of (nrm [oc b1 [iv .i64 odd_3.Kind, iv .i64 odd_3.N], oc x5 [slv (rI .i64) t71.2.L, iv .i64 t71.2.At], oc (χ12 13).Nn [slv (rI .i64) t77.1.Items, iv .i64 t77.1.Window, iv .i64 t77.1.Base, slv (rI .i64) t77.1.Received, slv rT_api_Packet t77.1.Held, slv rT_api_Packet t77.1.Flight], oc b72 [iv .i64 j74.Kind, iv .i64 j74.N], oc b78 [slv (rI .i64) t77.1.Items, iv .i64 t77.1.Window, iv .i64 t77.1.Base, slv (rI .i64) t77.1.Received, slv rT_api_Packet t77.1.Held, slv rT_api_Packet t77.1.Flight], oc b80 [slv (rI .i64) t79.1.Items, iv .i64 t79.1.Window, iv .i64 t79.1.Base, slv (rI .i64) t79.1.Received, slv rT_api_Packet t79.1.Held, slv rT_api_Packet t79.1.Flight]] rfl) ?_
      refine n_block (n_then (ref_region ?_))
      refine mv1 rfl rfl ?_
      refine s_rd (r_add rfl rfl) rfl ?_
      refine as1 rfl rfl ?_
      refine b_let (f := iv .i64) (t := 16) rfl fun i86 => ?_
      refine l_nil ?_
      exact goX () (weak [0, 1, 2] ⟨rfl, rfl, rfl, rfl, trivial⟩ ⟨rfl, rfl, rfl, trivial⟩)
    refine ref_skip (n_block (n_then (ref_region ?_)))
    refine mv1 rfl rfl ?_
    refine s_rd (r_add rfl rfl) rfl ?_
    refine as1 rfl rfl ?_
    refine b_let (f := iv .i64) (t := 16) rfl fun i87 => ?_
    refine l_nil ?_
    exact goX () (weak [0, 1, 2] ⟨rfl, rfl, rfl, rfl, trivial⟩ ⟨rfl, rfl, rfl, trivial⟩)
  refine n_then (ref_seq (ref_region ?_))
  refine s_rd (r_cloadS Try.isAgg28 Try.sizeOf28 rfl (j := 0) rfl rfl rfl) rfl ?_
  refine pull fun t90 h_t90 => ?_
  refine s_st (s_call (ψ := fun (_ : Unit) => tup [ag [slv (rI .i64) t90.1.Items, iv .i64 t90.1.Window, iv .i64 t90.1.Base, slv (rI .i64) t90.1.Received, slv rT_api_Packet t90.1.Held, slv rT_api_Packet t90.1.Flight], iv .i64 t90.2]) (args := [.tmp 116]) Try.call16 rfl (channel_Finish_ok h_t90) ⟨arg rfl, trivial⟩ (fun _ _ _ _ h => h)) rfl (fun _ => ?_)
  refine mv1 rfl rfl ?_
  refine s_rd (r_extract rfl rfl) rfl ?_
  refine s_rd (r_extract rfl rfl) rfl ?_
  refine s_st (s_alloc zt_28) rfl (fun b91 => ?_)
  refine s_st0 (s_cstore (out := [slv (rI .i64) t90.1.Items, iv .i64 t90.1.Window, iv .i64 t90.1.Base, slv (rI .i64) t90.1.Received, slv rT_api_Packet t90.1.Held, slv rT_api_Packet t90.1.Flight]) Try.sizeOf28 rfl (j := 1) rfl (part_agO (ψs := [slv (rI .i64) t90.1.Items, iv .i64 t90.1.Window, iv .i64 t90.1.Base, slv (rI .i64) t90.1.Received, slv rT_api_Packet t90.1.Held, slv rT_api_Packet t90.1.Flight]) rfl ⟨.inl slv_at, .inl iv_at, .inl iv_at, .inl slv_at, .inl slv_at, .inl slv_at, trivial⟩) rfl rfl rfl) (fun _ => ?_)
  refine as1 rfl rfl ?_
  refine l_nil (n_then (ref_seq (ref_region ?_)))
  refine s_rd (r_cloadS Try.isAgg28 Try.sizeOf28 rfl (j := 0) rfl rfl rfl) rfl ?_
  refine pull fun t92 h_t92 => ?_
  refine s_st (s_call (ψ := fun (_ : Unit) => tup [ag [slv (rI .i64) t92.1.Items, iv .i64 t92.1.Window, iv .i64 t92.1.Base, slv (rI .i64) t92.1.Received, slv rT_api_Packet t92.1.Held, slv rT_api_Packet t92.1.Flight], iv .i64 t92.2]) (args := [.tmp 121]) Try.call22 rfl (ref29_Finish_ok h_t92) ⟨arg rfl, trivial⟩ (fun _ _ _ _ h => h)) rfl (fun _ => ?_)
  refine mv1 rfl rfl ?_
  refine s_rd (r_extract rfl rfl) rfl ?_
  refine s_rd (r_extract rfl rfl) rfl ?_
  refine s_st (s_alloc zt_28) rfl (fun b93 => ?_)
  refine s_st0 (s_cstore (out := [slv (rI .i64) t92.1.Items, iv .i64 t92.1.Window, iv .i64 t92.1.Base, slv (rI .i64) t92.1.Received, slv rT_api_Packet t92.1.Held, slv rT_api_Packet t92.1.Flight]) Try.sizeOf28 rfl (j := 2) rfl (part_agO (ψs := [slv (rI .i64) t92.1.Items, iv .i64 t92.1.Window, iv .i64 t92.1.Base, slv (rI .i64) t92.1.Received, slv rT_api_Packet t92.1.Held, slv rT_api_Packet t92.1.Flight]) rfl ⟨.inl slv_at, .inl iv_at, .inl iv_at, .inl slv_at, .inl slv_at, .inl slv_at, trivial⟩) rfl rfl rfl) (fun _ => ?_)
  refine as1 rfl rfl ?_
  refine l_nil ?_
  refine b_of (nrm [oc (χ12 13).Nn [slv (rI .i64) q88.Items, iv .i64 q88.Window, iv .i64 q88.Base, slv (rI .i64) q88.Received, slv rT_api_Packet q88.Held, slv rT_api_Packet q88.Flight], oc b91 [slv (rI .i64) t90.1.Items, iv .i64 t90.1.Window, iv .i64 t90.1.Base, slv (rI .i64) t90.1.Received, slv rT_api_Packet t90.1.Held, slv rT_api_Packet t90.1.Flight], oc b93 [slv (rI .i64) t92.1.Items, iv .i64 t92.1.Window, iv .i64 t92.1.Base, slv (rI .i64) t92.1.Received, slv rT_api_Packet t92.1.Held, slv rT_api_Packet t92.1.Flight]] rfl) ?_
  refine n_then (ref_seq ?_)
  refine ref_draw [0, 1, 2, 3, 4, 5, 7, 8, 9, 10, 12, 13, 14, 15, 17, 18, 20, 21, 22, 24] rfl (by kernel_rfl) (fun hok => ?_)
  refine a_rd (i := 0) hok rfl (by kernel_rfl) rfl (r_move rfl) rfl ?_
  refine a_rd (i := 1) hok rfl (by kernel_rfl) rfl (r_move rfl) rfl ?_
  refine a_rd (i := 2) hok rfl (by kernel_rfl) rfl (r_eql rfl rfl) rfl ?_
  refine a_rd (i := 3) hok rfl (by kernel_rfl) rfl (r_move rfl) rfl ?_
  refine b_split (t := 128) rfl (fun _ => ?_) (fun _ => ?_)
  · refine a_rdOn (i := 4) hok rfl rfl rfl rfl (by kernel_rfl) rfl (r_cloadS Try.isAgg28 Try.sizeOf28 rfl (j := 1) rfl rfl rfl) rfl ?_
    refine a_rdOn (i := 5) hok rfl rfl rfl rfl (by kernel_rfl) rfl (r_cloadS Try.isAgg28 Try.sizeOf28 rfl (j := 2) rfl rfl rfl) rfl ?_
    refine pull fun t94 h_t94 => ?_
    refine a_next hok 6 [] (by kernel_rfl) ?_ trivial
    refine a_stOn (i := 6) hok rfl rfl rfl rfl rfl (s_call (ψ := fun (_ : Unit) => bv t94) (args := [.tmp 129, .tmp 130]) Try.call19 rfl (ref29_Same_ok h_t94) ⟨arg rfl, arg rfl, trivial⟩ (fun _ _ _ _ h => h)) (by intro _ h; cases h; rfl) (fun _ => ⟨trivial, ⟨trivial, ⟨trivial, ⟨trivial, ⟨trivial, ⟨trivial, trivial⟩⟩⟩⟩⟩⟩) (fun _ => ?_)
    refine a_rd (i := 7) hok rfl (by kernel_rfl) rfl (r_pickT rfl rfl) rfl ?_
    refine a_rd (i := 8) hok rfl (by kernel_rfl) rfl (r_move rfl) rfl ?_
    refine b_split (t := 133) rfl (fun _ => ?_) (fun _ => ?_)
    · refine a_rdOn (i := 9) hok rfl rfl rfl rfl (by kernel_rfl) rfl (r_cloadS Try.isAgg28 Try.sizeOf28 rfl (j := 0) rfl rfl rfl) rfl ?_
      refine a_rdOn (i := 10) hok rfl rfl rfl rfl (by kernel_rfl) rfl (r_cloadS Try.isAgg28 Try.sizeOf28 rfl (j := 0) rfl rfl rfl) rfl ?_
      refine pull fun t95 h_t95 => ?_
      refine a_next hok 11 [] (by kernel_rfl) ?_ trivial
      refine a_stOn (i := 11) hok rfl rfl rfl rfl rfl (s_call (ψ := fun (_ : Unit) => bv t95) (args := [.tmp 134, .tmp 135]) Try.call23 rfl (channel_Same_ok h_t95) ⟨arg rfl, arg rfl, trivial⟩ (fun _ _ _ _ h => h)) (by intro _ h; cases h; rfl) (fun _ => ⟨trivial, ⟨trivial, ⟨trivial, ⟨trivial, ⟨⟨⟨rfl, rfl⟩, trivial⟩, ⟨⟨⟨rfl, rfl⟩, trivial⟩, ⟨trivial, ⟨trivial, ⟨trivial, ⟨trivial, trivial⟩⟩⟩⟩⟩⟩⟩⟩⟩⟩) (fun _ => ?_)
      refine a_rd (i := 12) hok rfl (by kernel_rfl) rfl (r_pickT rfl rfl) rfl ?_
      refine a_rd (i := 13) hok rfl (by kernel_rfl) rfl (r_move rfl) rfl ?_
      refine b_split (t := 138) rfl (fun _ => ?_) (fun _ => ?_)
      · refine a_rdOn (i := 14) hok rfl rfl rfl rfl (by kernel_rfl) rfl (r_cloadS Try.isAgg28 Try.sizeOf28 rfl (j := 1) rfl rfl rfl) rfl ?_
        refine a_rdOn (i := 15) hok rfl rfl rfl rfl (by kernel_rfl) rfl (r_cloadS Try.isAgg28 Try.sizeOf28 rfl (j := 0) rfl rfl rfl) rfl ?_
        refine a_rdOn (i := 17) hok rfl rfl rfl rfl (by kernel_rfl) rfl (r_cloadS Try.isAgg28 Try.sizeOf28 rfl (j := 2) rfl rfl rfl) rfl ?_
        refine a_rdOn (i := 18) hok rfl rfl rfl rfl (by kernel_rfl) rfl (r_cloadS Try.isAgg28 Try.sizeOf28 rfl (j := 0) rfl rfl rfl) rfl ?_
        refine pull fun t96 h_t96 => ?_
        refine a_next hok 16 [] (by kernel_rfl) ?_ trivial
        refine a_stOn (i := 16) hok rfl rfl rfl rfl rfl (s_call (ψ := fun (_ : Unit) => bv t96) (args := [.tmp 139, .tmp 140]) Try.call23 rfl (channel_Same_ok h_t96) ⟨arg rfl, arg rfl, trivial⟩ (fun _ _ _ _ h => h)) (by intro _ h; cases h; rfl) (fun _ => ⟨⟨⟨rfl, rfl⟩, trivial⟩, ⟨⟨⟨rfl, rfl⟩, trivial⟩, ⟨trivial, ⟨trivial, ⟨trivial, ⟨trivial, ⟨⟨⟨rfl, rfl⟩, trivial⟩, ⟨⟨⟨rfl, rfl⟩, trivial⟩, ⟨trivial, ⟨trivial, ⟨⟨⟨rfl, rfl⟩, trivial⟩, ⟨⟨⟨rfl, rfl⟩, trivial⟩, ⟨trivial, ⟨trivial, ⟨trivial, ⟨trivial, trivial⟩⟩⟩⟩⟩⟩⟩⟩⟩⟩⟩⟩⟩⟩⟩⟩) (fun _ => ?_)
        refine pull fun t97 h_t97 => ?_
        refine a_next hok 19 [] (by kernel_rfl) ?_ trivial
        refine a_stOn (i := 19) hok rfl rfl rfl rfl rfl (s_call (ψ := fun (_ : Unit) => bv t97) (args := [.tmp 142, .tmp 143]) Try.call19 rfl (ref29_Same_ok h_t97) ⟨arg rfl, arg rfl, trivial⟩ (fun _ _ _ _ h => h)) (by intro _ h; cases h; rfl) (fun _ => ⟨trivial, ⟨trivial, ⟨⟨⟨rfl, rfl⟩, trivial⟩, ⟨⟨⟨rfl, rfl⟩, trivial⟩, ⟨trivial, ⟨trivial, ⟨⟨⟨rfl, rfl⟩, trivial⟩, ⟨⟨⟨rfl, rfl⟩, trivial⟩, ⟨trivial, ⟨trivial, ⟨⟨⟨rfl, rfl⟩, trivial⟩, ⟨⟨⟨rfl, rfl⟩, trivial⟩, ⟨trivial, ⟨trivial, ⟨trivial, ⟨trivial, trivial⟩⟩⟩⟩⟩⟩⟩⟩⟩⟩⟩⟩⟩⟩⟩⟩) (fun _ => ?_)
        refine a_rdOn (i := 20) hok rfl rfl rfl rfl (by kernel_rfl) rfl (r_beql Try.underlying4 rfl rfl) rfl ?_
        refine a_rd (i := 21) hok rfl (by kernel_rfl) rfl (r_pickT rfl rfl) rfl ?_
        refine a_rd (i := 22) hok rfl (by kernel_rfl) rfl (r_move rfl) rfl ?_
        refine b_split (t := 147) rfl (fun _ => ?_) (fun _ => ?_)
        · refine pull fun t98 h_t98 => ?_
          refine a_next hok 23 [] (by kernel_rfl) ?_ trivial
          refine a_stOn (i := 23) hok rfl rfl rfl rfl rfl (s_call (ψ := fun (_ : Unit) => bv t98) (args := []) Try.call7 rfl (law29_awake_ok h_t98) trivial (fun _ _ _ _ h => h)) (by intro _ h; cases h; rfl) (fun _ => ⟨trivial, ⟨trivial, ⟨trivial, ⟨⟨⟨rfl, rfl⟩, trivial⟩, ⟨⟨⟨rfl, rfl⟩, trivial⟩, ⟨⟨⟨rfl, rfl⟩, trivial⟩, ⟨⟨⟨rfl, rfl⟩, trivial⟩, ⟨trivial, ⟨trivial, ⟨⟨⟨rfl, rfl⟩, trivial⟩, ⟨⟨⟨rfl, rfl⟩, trivial⟩, ⟨trivial, ⟨trivial, ⟨⟨⟨rfl, rfl⟩, trivial⟩, ⟨⟨⟨rfl, rfl⟩, trivial⟩, ⟨trivial, ⟨trivial, ⟨trivial, ⟨trivial, trivial⟩⟩⟩⟩⟩⟩⟩⟩⟩⟩⟩⟩⟩⟩⟩⟩⟩⟩⟩) (fun _ => ?_)
          refine a_rd (i := 24) hok rfl (by kernel_rfl) rfl (r_pickT rfl rfl) rfl ?_
          refine a_next hok 25 [] (by kernel_rfl) ?_ trivial
          refine a_st (i := 25) hok rfl rfl (St.ofRd (r_assign rfl)) (by intro _ h; cases h; rfl) (fun _ => ⟨trivial, ⟨trivial, ⟨trivial, ⟨trivial, ⟨trivial, ⟨trivial, ⟨trivial, ⟨trivial, ⟨trivial, ⟨trivial, ⟨trivial, ⟨trivial, ⟨trivial, ⟨trivial, ⟨trivial, ⟨trivial, ⟨trivial, ⟨trivial, ⟨trivial, ⟨trivial, trivial⟩⟩⟩⟩⟩⟩⟩⟩⟩⟩⟩⟩⟩⟩⟩⟩⟩⟩⟩⟩) (fun _ => ?_)
          refine a_fin hok (by kernel_rfl) ?_
          refine b_of (nrm [oc (χ12 13).Nn [slv (rI .i64) q88.Items, iv .i64 q88.Window, iv .i64 q88.Base, slv (rI .i64) q88.Received, slv rT_api_Packet q88.Held, slv rT_api_Packet q88.Flight], oc b91 [slv (rI .i64) t90.1.Items, iv .i64 t90.1.Window, iv .i64 t90.1.Base, slv (rI .i64) t90.1.Received, slv rT_api_Packet t90.1.Held, slv rT_api_Packet t90.1.Flight], oc b93 [slv (rI .i64) t92.1.Items, iv .i64 t92.1.Window, iv .i64 t92.1.Base, slv (rI .i64) t92.1.Received, slv rT_api_Packet t92.1.Held, slv rT_api_Packet t92.1.Flight]] rfl) ?_
          refine n_then (ref_ret ?_)
          exact fin1 (.inl rfl) () [] rfl trivial rfl (rv_tmp rfl)
        refine a_next hok 23 [] (by kernel_rfl) ?_ trivial
        refine a_stOff (i := 23) hok rfl rfl rfl rfl rfl rfl (by intro _ h; cases h; rfl) ⟨trivial, ⟨trivial, ⟨trivial, ⟨⟨⟨rfl, rfl⟩, trivial⟩, ⟨⟨⟨rfl, rfl⟩, trivial⟩, ⟨⟨⟨rfl, rfl⟩, trivial⟩, ⟨⟨⟨rfl, rfl⟩, trivial⟩, ⟨trivial, ⟨trivial, ⟨⟨⟨rfl, rfl⟩, trivial⟩, ⟨⟨⟨rfl, rfl⟩, trivial⟩, ⟨trivial, ⟨trivial, ⟨⟨⟨rfl, rfl⟩, trivial⟩, ⟨⟨⟨rfl, rfl⟩, trivial⟩, ⟨trivial, ⟨trivial, ⟨trivial, ⟨trivial, trivial⟩⟩⟩⟩⟩⟩⟩⟩⟩⟩⟩⟩⟩⟩⟩⟩⟩⟩⟩ ?_
        refine a_rd (i := 24) hok rfl (by kernel_rfl) rfl (r_pickF rfl rfl) rfl ?_
        refine a_next hok 25 [] (by kernel_rfl) ?_ trivial
        refine a_st (i := 25) hok rfl rfl (St.ofRd (r_assign rfl)) (by intro _ h; cases h; rfl) (fun _ => ⟨trivial, ⟨trivial, ⟨trivial, ⟨trivial, ⟨trivial, ⟨trivial, ⟨trivial, ⟨trivial, ⟨trivial, ⟨trivial, ⟨trivial, ⟨trivial, ⟨trivial, ⟨trivial, ⟨trivial, ⟨trivial, ⟨trivial, ⟨trivial, ⟨trivial, ⟨trivial, trivial⟩⟩⟩⟩⟩⟩⟩⟩⟩⟩⟩⟩⟩⟩⟩⟩⟩⟩⟩⟩) (fun _ => ?_)
        refine a_fin hok (by kernel_rfl) ?_
        refine b_of (nrm [oc (χ12 13).Nn [slv (rI .i64) q88.Items, iv .i64 q88.Window, iv .i64 q88.Base, slv (rI .i64) q88.Received, slv rT_api_Packet q88.Held, slv rT_api_Packet q88.Flight], oc b91 [slv (rI .i64) t90.1.Items, iv .i64 t90.1.Window, iv .i64 t90.1.Base, slv (rI .i64) t90.1.Received, slv rT_api_Packet t90.1.Held, slv rT_api_Packet t90.1.Flight], oc b93 [slv (rI .i64) t92.1.Items, iv .i64 t92.1.Window, iv .i64 t92.1.Base, slv (rI .i64) t92.1.Received, slv rT_api_Packet t92.1.Held, slv rT_api_Packet t92.1.Flight]] rfl) ?_
        refine n_then (ref_ret ?_)
        exact fin1 (.inl rfl) () [] rfl trivial rfl (rv_tmp rfl)
      refine a_off (i := 14) hok rfl rfl rfl rfl rfl (by kernel_rfl) rfl rfl ?_
      refine a_off (i := 15) hok rfl rfl rfl rfl rfl (by kernel_rfl) rfl rfl ?_
      refine a_off (i := 17) hok rfl rfl rfl rfl rfl (by kernel_rfl) rfl rfl ?_
      refine a_off (i := 18) hok rfl rfl rfl rfl rfl (by kernel_rfl) rfl rfl ?_
      refine a_next hok 16 [] (by kernel_rfl) ?_ trivial
      refine a_stOff (i := 16) hok rfl rfl rfl rfl rfl rfl (by intro _ h; cases h; rfl) ⟨trivial, ⟨trivial, ⟨trivial, ⟨trivial, ⟨trivial, ⟨trivial, ⟨⟨⟨rfl, rfl⟩, trivial⟩, ⟨⟨⟨rfl, rfl⟩, trivial⟩, ⟨trivial, ⟨trivial, ⟨⟨⟨rfl, rfl⟩, trivial⟩, ⟨⟨⟨rfl, rfl⟩, trivial⟩, ⟨trivial, ⟨trivial, ⟨trivial, ⟨trivial, trivial⟩⟩⟩⟩⟩⟩⟩⟩⟩⟩⟩⟩⟩⟩⟩⟩ ?_
      refine a_next hok 19 [] (by kernel_rfl) ?_ trivial
      refine a_stOff (i := 19) hok rfl rfl rfl rfl rfl rfl (by intro _ h; cases h; rfl) ⟨trivial, ⟨trivial, ⟨trivial, ⟨trivial, ⟨trivial, ⟨trivial, ⟨⟨⟨rfl, rfl⟩, trivial⟩, ⟨⟨⟨rfl, rfl⟩, trivial⟩, ⟨trivial, ⟨trivial, ⟨⟨⟨rfl, rfl⟩, trivial⟩, ⟨⟨⟨rfl, rfl⟩, trivial⟩, ⟨trivial, ⟨trivial, ⟨trivial, ⟨trivial, trivial⟩⟩⟩⟩⟩⟩⟩⟩⟩⟩⟩⟩⟩⟩⟩⟩ ?_
      refine a_off (i := 20) hok rfl rfl rfl rfl rfl (by kernel_rfl) rfl rfl ?_
      refine a_rd (i := 21) hok rfl (by kernel_rfl) rfl (r_pickF rfl rfl) rfl ?_
      refine a_rd (i := 22) hok rfl (by kernel_rfl) rfl (r_move rfl) rfl ?_
      refine a_next hok 23 [] (by kernel_rfl) ?_ trivial
      refine a_stOff (i := 23) hok rfl rfl rfl rfl rfl rfl (by intro _ h; cases h; rfl) ⟨trivial, ⟨trivial, ⟨trivial, ⟨trivial, ⟨trivial, ⟨trivial, ⟨trivial, ⟨trivial, ⟨trivial, ⟨⟨⟨rfl, rfl⟩, trivial⟩, ⟨⟨⟨rfl, rfl⟩, trivial⟩, ⟨trivial, ⟨trivial, ⟨⟨⟨rfl, rfl⟩, trivial⟩, ⟨⟨⟨rfl, rfl⟩, trivial⟩, ⟨trivial, ⟨trivial, ⟨trivial, ⟨trivial, trivial⟩⟩⟩⟩⟩⟩⟩⟩⟩⟩⟩⟩⟩⟩⟩⟩⟩⟩⟩ ?_
      refine a_rd (i := 24) hok rfl (by kernel_rfl) rfl (r_pickF rfl rfl) rfl ?_
      refine a_next hok 25 [] (by kernel_rfl) ?_ trivial
      refine a_st (i := 25) hok rfl rfl (St.ofRd (r_assign rfl)) (by intro _ h; cases h; rfl) (fun _ => ⟨trivial, ⟨trivial, ⟨trivial, ⟨trivial, ⟨trivial, ⟨trivial, ⟨trivial, ⟨trivial, ⟨trivial, ⟨trivial, ⟨trivial, ⟨trivial, ⟨trivial, ⟨trivial, ⟨trivial, ⟨trivial, ⟨trivial, ⟨trivial, ⟨trivial, ⟨trivial, trivial⟩⟩⟩⟩⟩⟩⟩⟩⟩⟩⟩⟩⟩⟩⟩⟩⟩⟩⟩⟩) (fun _ => ?_)
      refine a_fin hok (by kernel_rfl) ?_
      refine n_then (ref_ret ?_)
      exact fin1 (.inl rfl) () [] rfl trivial rfl (rv_tmp rfl)
    refine a_off (i := 9) hok rfl rfl rfl rfl rfl (by kernel_rfl) rfl rfl ?_
    refine a_off (i := 10) hok rfl rfl rfl rfl rfl (by kernel_rfl) rfl rfl ?_
    refine a_next hok 11 [] (by kernel_rfl) ?_ trivial
    refine a_stOff (i := 11) hok rfl rfl rfl rfl rfl rfl (by intro _ h; cases h; rfl) ⟨trivial, ⟨trivial, ⟨trivial, ⟨trivial, ⟨⟨⟨rfl, rfl⟩, trivial⟩, ⟨⟨⟨rfl, rfl⟩, trivial⟩, ⟨trivial, ⟨trivial, ⟨trivial, ⟨trivial, trivial⟩⟩⟩⟩⟩⟩⟩⟩⟩⟩ ?_
    refine a_rd (i := 12) hok rfl (by kernel_rfl) rfl (r_pickF rfl rfl) rfl ?_
    refine a_rd (i := 13) hok rfl (by kernel_rfl) rfl (r_move rfl) rfl ?_
    refine a_off (i := 14) hok rfl rfl rfl rfl rfl (by kernel_rfl) rfl rfl ?_
    refine a_off (i := 15) hok rfl rfl rfl rfl rfl (by kernel_rfl) rfl rfl ?_
    refine a_off (i := 17) hok rfl rfl rfl rfl rfl (by kernel_rfl) rfl rfl ?_
    refine a_off (i := 18) hok rfl rfl rfl rfl rfl (by kernel_rfl) rfl rfl ?_
    refine a_next hok 16 [] (by kernel_rfl) ?_ trivial
    refine a_stOff (i := 16) hok rfl rfl rfl rfl rfl rfl (by intro _ h; cases h; rfl) ⟨trivial, ⟨trivial, ⟨trivial, ⟨trivial, ⟨trivial, ⟨trivial, ⟨trivial, ⟨trivial, ⟨trivial, ⟨trivial, ⟨⟨⟨rfl, rfl⟩, trivial⟩, ⟨⟨⟨rfl, rfl⟩, trivial⟩, ⟨trivial, ⟨trivial, ⟨trivial, ⟨trivial, trivial⟩⟩⟩⟩⟩⟩⟩⟩⟩⟩⟩⟩⟩⟩⟩⟩ ?_
    refine a_next hok 19 [] (by kernel_rfl) ?_ trivial
    refine a_stOff (i := 19) hok rfl rfl rfl rfl rfl rfl (by intro _ h; cases h; rfl) ⟨trivial, ⟨trivial, ⟨trivial, ⟨trivial, ⟨trivial, ⟨trivial, ⟨trivial, ⟨trivial, ⟨trivial, ⟨trivial, ⟨⟨⟨rfl, rfl⟩, trivial⟩, ⟨⟨⟨rfl, rfl⟩, trivial⟩, ⟨trivial, ⟨trivial, ⟨trivial, ⟨trivial, trivial⟩⟩⟩⟩⟩⟩⟩⟩⟩⟩⟩⟩⟩⟩⟩⟩ ?_
    refine a_off (i := 20) hok rfl rfl rfl rfl rfl (by kernel_rfl) rfl rfl ?_
    refine a_rd (i := 21) hok rfl (by kernel_rfl) rfl (r_pickF rfl rfl) rfl ?_
    refine a_rd (i := 22) hok rfl (by kernel_rfl) rfl (r_move rfl) rfl ?_
    refine a_next hok 23 [] (by kernel_rfl) ?_ trivial
    refine a_stOff (i := 23) hok rfl rfl rfl rfl rfl rfl (by intro _ h; cases h; rfl) ⟨trivial, ⟨trivial, ⟨trivial, ⟨trivial, ⟨trivial, ⟨trivial, ⟨trivial, ⟨trivial, ⟨trivial, ⟨trivial, ⟨trivial, ⟨trivial, ⟨trivial, ⟨⟨⟨rfl, rfl⟩, trivial⟩, ⟨⟨⟨rfl, rfl⟩, trivial⟩, ⟨trivial, ⟨trivial, ⟨trivial, ⟨trivial, trivial⟩⟩⟩⟩⟩⟩⟩⟩⟩⟩⟩⟩⟩⟩⟩⟩⟩⟩⟩ ?_
    refine a_rd (i := 24) hok rfl (by kernel_rfl) rfl (r_pickF rfl rfl) rfl ?_
    refine a_next hok 25 [] (by kernel_rfl) ?_ trivial
    refine a_st (i := 25) hok rfl rfl (St.ofRd (r_assign rfl)) (by intro _ h; cases h; rfl) (fun _ => ⟨trivial, ⟨trivial, ⟨trivial, ⟨trivial, ⟨trivial, ⟨trivial, ⟨trivial, ⟨trivial, ⟨trivial, ⟨trivial, ⟨trivial, ⟨trivial, ⟨trivial, ⟨trivial, ⟨trivial, ⟨trivial, ⟨trivial, ⟨trivial, ⟨trivial, ⟨trivial, trivial⟩⟩⟩⟩⟩⟩⟩⟩⟩⟩⟩⟩⟩⟩⟩⟩⟩⟩⟩⟩) (fun _ => ?_)
    refine a_fin hok (by kernel_rfl) ?_
    refine n_then (ref_ret ?_)
    exact fin1 (.inl rfl) () [] rfl trivial rfl (rv_tmp rfl)
  refine a_off (i := 4) hok rfl rfl rfl rfl rfl (by kernel_rfl) rfl rfl ?_
  refine a_off (i := 5) hok rfl rfl rfl rfl rfl (by kernel_rfl) rfl rfl ?_
  refine a_next hok 6 [] (by kernel_rfl) ?_ trivial
  refine a_stOff (i := 6) hok rfl rfl rfl rfl rfl rfl (by intro _ h; cases h; rfl) ⟨trivial, ⟨trivial, ⟨trivial, ⟨trivial, ⟨trivial, ⟨trivial, trivial⟩⟩⟩⟩⟩⟩ ?_
  refine a_rd (i := 7) hok rfl (by kernel_rfl) rfl (r_pickF rfl rfl) rfl ?_
  refine a_rd (i := 8) hok rfl (by kernel_rfl) rfl (r_move rfl) rfl ?_
  refine a_off (i := 9) hok rfl rfl rfl rfl rfl (by kernel_rfl) rfl rfl ?_
  refine a_off (i := 10) hok rfl rfl rfl rfl rfl (by kernel_rfl) rfl rfl ?_
  refine a_next hok 11 [] (by kernel_rfl) ?_ trivial
  refine a_stOff (i := 11) hok rfl rfl rfl rfl rfl rfl (by intro _ h; cases h; rfl) ⟨trivial, ⟨trivial, ⟨trivial, ⟨trivial, ⟨trivial, ⟨trivial, ⟨trivial, ⟨trivial, ⟨trivial, ⟨trivial, trivial⟩⟩⟩⟩⟩⟩⟩⟩⟩⟩ ?_
  refine a_rd (i := 12) hok rfl (by kernel_rfl) rfl (r_pickF rfl rfl) rfl ?_
  refine a_rd (i := 13) hok rfl (by kernel_rfl) rfl (r_move rfl) rfl ?_
  refine a_off (i := 14) hok rfl rfl rfl rfl rfl (by kernel_rfl) rfl rfl ?_
  refine a_off (i := 15) hok rfl rfl rfl rfl rfl (by kernel_rfl) rfl rfl ?_
  refine a_off (i := 17) hok rfl rfl rfl rfl rfl (by kernel_rfl) rfl rfl ?_
  refine a_off (i := 18) hok rfl rfl rfl rfl rfl (by kernel_rfl) rfl rfl ?_
  refine a_next hok 16 [] (by kernel_rfl) ?_ trivial
  refine a_stOff (i := 16) hok rfl rfl rfl rfl rfl rfl (by intro _ h; cases h; rfl) ⟨trivial, ⟨trivial, ⟨trivial, ⟨trivial, ⟨trivial, ⟨trivial, ⟨trivial, ⟨trivial, ⟨trivial, ⟨trivial, ⟨trivial, ⟨trivial, ⟨trivial, ⟨trivial, ⟨trivial, ⟨trivial, trivial⟩⟩⟩⟩⟩⟩⟩⟩⟩⟩⟩⟩⟩⟩⟩⟩ ?_
  refine a_next hok 19 [] (by kernel_rfl) ?_ trivial
  refine a_stOff (i := 19) hok rfl rfl rfl rfl rfl rfl (by intro _ h; cases h; rfl) ⟨trivial, ⟨trivial, ⟨trivial, ⟨trivial, ⟨trivial, ⟨trivial, ⟨trivial, ⟨trivial, ⟨trivial, ⟨trivial, ⟨trivial, ⟨trivial, ⟨trivial, ⟨trivial, ⟨trivial, ⟨trivial, trivial⟩⟩⟩⟩⟩⟩⟩⟩⟩⟩⟩⟩⟩⟩⟩⟩ ?_
  refine a_off (i := 20) hok rfl rfl rfl rfl rfl (by kernel_rfl) rfl rfl ?_
  refine a_rd (i := 21) hok rfl (by kernel_rfl) rfl (r_pickF rfl rfl) rfl ?_
  refine a_rd (i := 22) hok rfl (by kernel_rfl) rfl (r_move rfl) rfl ?_
  refine a_next hok 23 [] (by kernel_rfl) ?_ trivial
  refine a_stOff (i := 23) hok rfl rfl rfl rfl rfl rfl (by intro _ h; cases h; rfl) ⟨trivial, ⟨trivial, ⟨trivial, ⟨trivial, ⟨trivial, ⟨trivial, ⟨trivial, ⟨trivial, ⟨trivial, ⟨trivial, ⟨trivial, ⟨trivial, ⟨trivial, ⟨trivial, ⟨trivial, ⟨trivial, ⟨trivial, ⟨trivial, ⟨trivial, trivial⟩⟩⟩⟩⟩⟩⟩⟩⟩⟩⟩⟩⟩⟩⟩⟩⟩⟩⟩ ?_
  refine a_rd (i := 24) hok rfl (by kernel_rfl) rfl (r_pickF rfl rfl) rfl ?_
  refine a_next hok 25 [] (by kernel_rfl) ?_ trivial
  refine a_st (i := 25) hok rfl rfl (St.ofRd (r_assign rfl)) (by intro _ h; cases h; rfl) (fun _ => ⟨trivial, ⟨trivial, ⟨trivial, ⟨trivial, ⟨trivial, ⟨trivial, ⟨trivial, ⟨trivial, ⟨trivial, ⟨trivial, ⟨trivial, ⟨trivial, ⟨trivial, ⟨trivial, ⟨trivial, ⟨trivial, ⟨trivial, ⟨trivial, ⟨trivial, ⟨trivial, trivial⟩⟩⟩⟩⟩⟩⟩⟩⟩⟩⟩⟩⟩⟩⟩⟩⟩⟩⟩⟩) (fun _ => ?_)
  refine a_fin hok (by kernel_rfl) ?_
  refine n_then (ref_ret ?_)
  exact fin1 (.inl rfl) () [] rfl trivial rfl (rv_tmp rfl)

end Go.Dc
