/- Part LAW29.A1 of a proof: lemmas. -/
import Derived.Test.YtnbclhmodbmdhaaLAW29A0
import Derived.Test.YtnbclhmodbmdhaaProg
set_option linter.unusedVariables false
set_option maxRecDepth 100000
set_option maxHeartbeats 4000000
namespace Go.Dc
open Go.Proofs
open Go.Proofs.Try (prog)

/-! deliberation/deliberationlaw29.ChannelPrefix -/
noncomputable def law29_ChannelPrefix_l1 (items_0 : (List Int)) (s24 : Int × T_deliberationkeep_Src × T_api_Channel) : Option (Sum ((Sum (Bool) (Unit))) (Int × T_deliberationkeep_Src × T_api_Channel)) :=
  joinM (fun j28 : Bool × Bool =>
      Option.bind (law29_event_m s24.2.1 s24.2.2) fun t32 =>
      Option.bind (channel_Step_m s24.2.2 t32.1) fun t33 =>
      bif t33.2 != 0 then
        letM (iadd .i64 s24.1 1) fun i39 =>
        some (Sum.inr (i39, t32.2, s24.2.2))
      else
        bif decide ((t33.1.Received.length : Int) > (items_0.length : Int)) then
          some (Sum.inl (Sum.inl false))
        else
          Option.bind (slM items_0 0 (t33.1.Received.length : Int)) fun t36 =>
          Option.bind (keep_Ints_m t33.1.Received t36) fun t37 =>
          bif !t37 then
            some (Sum.inl (Sum.inl false))
          else
            bif decide (t33.1.Base > (t33.1.Received.length : Int)) then
              some (Sum.inl (Sum.inl false))
            else
              bif decide (t33.1.Base < s24.2.2.Base) then
                some (Sum.inl (Sum.inl false))
              else
                bif decide ((t33.1.Received.length : Int) < (s24.2.2.Received.length : Int)) then
                  some (Sum.inl (Sum.inl false))
                else
                  bif decide ((t33.1.Held.length : Int) ≥ t33.1.Window) then
                    some (Sum.inl (Sum.inl false))
                  else
                    letM (iadd .i64 s24.1 1) fun i40 =>
                    some (Sum.inr (i40, t32.2, t33.1))) fun k30 =>
  bif decide (s24.1 < 60) then
    bif decide (s24.1 < 4) then
      k30 (true, true)
    else
      Option.bind (keep_Src_More_m s24.2.1) fun t26 =>
      bif t26 then
        k30 (false, t26)
      else
        some (Sum.inl (Sum.inr ()))
  else
    some (Sum.inl (Sum.inr ()))

noncomputable def law29_ChannelPrefix_m (items_0 : (List Int)) (l_1 : (List Int)) : Option (Bool) :=
  bif decide ((items_0.length : Int) > 60) then
    Option.bind (law29_awake_m ) fun t2 =>
    some t2
  else
    Option.bind (keep_New_m l_1) fun s3 =>
    Option.bind (keep_Src_Range_m s3 1 8) fun t5 =>
    Option.bind (channel_New_m items_0 t5.1) fun t6 =>
    bif t6.2 != 0 then
      some false
    else
      Option.bind (loopC (law29_ChannelPrefix_l1 items_0) (0, t5.2, t6.1)) (sumK (fun a : Bool => some a) fun q41 : Unit =>
        Option.bind (law29_awake_m ) fun t43 =>
        some t43)

theorem law29_ChannelPrefix_ok {items_0 : (List Int)} {l_1 : (List Int)} {r : Bool} (hm : law29_ChannelPrefix_m items_0 l_1 = some r) :
    FnOk prog 3 [slv (rI .i64) items_0, slv (rI .i64) l_1] [] (fun (x : Unit) => [bv r]) (fun (x : Unit) => []) := by
  refine fn_ok (fn := Try.f3) (N := 99) (res := fun r x => [bv r]) (Ω1 := fun r x => []) Try.func3 rfl rfl hm rfl (fun E hM => ?_)
  unfold law29_ChannelPrefix_m
  refine ref_seq (ref_region ?_)
  refine as1 rfl rfl ?_
  refine l_nil (n_then (ref_seq (ref_seq (ref_region ?_))))
  refine mv1 rfl rfl ?_
  refine s_rd (r_len Try.underlying22 rfl) rfl ?_
  refine s_rd (r_gtr rfl rfl) rfl ?_
  refine l_nil (n_then ?_)
  refine ref_cond rfl (fun hb1 => ?_) (fun hb1 => ?_)
  · refine ref_seq (ref_region ?_)
    refine pull fun t2 h_t2 => ?_
    refine s_st (s_call (ψ := fun (_ : Unit) => bv t2) (args := []) Try.call7 rfl (law29_awake_ok h_t2) trivial (fun _ _ _ _ h => h)) rfl (fun _ => ?_)
    refine as1 rfl rfl ?_
    refine l_nil (n_then (ref_ret (r_then ?_)))
    exact fin1 (.inl rfl) () [] rfl trivial rfl (rv_tmp rfl)
  refine ref_skip (n_then (ref_seq (ref_region ?_)))
  refine mv1 rfl rfl ?_
  refine pull fun s3 h_s3 => ?_
  refine s_st (s_call (ψ := fun (x4 : Nat) => pv (ptr x4 0)) (args := [.tmp 15]) Try.call8 rfl (keep_New_ok h_s3) ⟨arg rfl, trivial⟩ (fun _ _ _ _ h => h)) rfl (fun x4 => ?_)
  refine as1 rfl rfl ?_
  refine l_nil (n_then (ref_seq (ref_region ?_)))
  refine mv1 rfl rfl ?_
  refine mv1 rfl rfl ?_
  refine pull fun t5 h_t5 => ?_
  refine s_st (s_callC [0] [true] (fun (_ : Unit) => [oc x4 [slv (rI .i64) t5.2.L, iv .i64 t5.2.At]]) (fun (_ : Unit) => []) (fun (_ : Unit) => iv .i64 t5.1) (args := [.tmp 19, .const (.int .i64 (1)), .const (.int .i64 (8))]) (caps := []) Try.call10 rfl (keep_Src_Range_ok h_t5) ⟨rfl, rfl, trivial⟩ (fun _ => rfl) (fun _ => trivial) (fun _ => rfl) ⟨arg rfl, arg rfl, arg rfl, trivial⟩ (fun _ _ _ _ h => h)) rfl (fun _ => ?_)
  refine pull fun t6 h_t6 => ?_
  refine s_st (s_call (ψ := fun (_ : Unit) => tup [ag [slv (rI .i64) t6.1.Items, iv .i64 t6.1.Window, iv .i64 t6.1.Base, slv (rI .i64) t6.1.Received, slv rT_api_Packet t6.1.Held, slv rT_api_Packet t6.1.Flight], iv .i64 t6.2]) (args := [.tmp 18, .tmp 20]) Try.call9 rfl (channel_New_ok h_t6) ⟨arg rfl, arg rfl, trivial⟩ (fun _ _ _ _ h => h)) rfl (fun _ => ?_)
  refine mv1 rfl rfl ?_
  refine s_rd (r_extract rfl rfl) rfl ?_
  refine s_rd (r_extract rfl rfl) rfl ?_
  refine s_st (s_alloc zt_28) rfl (fun b7 => ?_)
  refine s_st0 (s_cstore (out := [slv (rI .i64) t6.1.Items, iv .i64 t6.1.Window, iv .i64 t6.1.Base, slv (rI .i64) t6.1.Received, slv rT_api_Packet t6.1.Held, slv rT_api_Packet t6.1.Flight]) Try.sizeOf28 rfl (j := 1) rfl (part_agO (ψs := [slv (rI .i64) t6.1.Items, iv .i64 t6.1.Window, iv .i64 t6.1.Base, slv (rI .i64) t6.1.Received, slv rT_api_Packet t6.1.Held, slv rT_api_Packet t6.1.Flight]) rfl ⟨.inl slv_at, .inl iv_at, .inl iv_at, .inl slv_at, .inl slv_at, .inl slv_at, trivial⟩) rfl rfl rfl) (fun _ => ?_)
  refine as1 rfl rfl ?_
  refine l_nil ?_
  refine b_of (nrm [oc x4 [slv (rI .i64) t5.2.L, iv .i64 t5.2.At], oc b7 [slv (rI .i64) t6.1.Items, iv .i64 t6.1.Window, iv .i64 t6.1.Base, slv (rI .i64) t6.1.Received, slv rT_api_Packet t6.1.Held, slv rT_api_Packet t6.1.Flight]] rfl) ?_
  refine n_then (ref_seq (ref_seq (ref_region ?_)))
  refine mv1 rfl rfl ?_
  refine s_rd (r_neq rfl rfl) rfl ?_
  refine l_nil (n_then ?_)
  refine ref_cond rfl (fun hb8 => ?_) (fun hb8 => ?_)
  · refine ref_seq (ref_region ?_)
    refine as1 rfl rfl ?_
    refine l_nil (n_then (ref_ret (r_then ?_)))
    exact fin1 (.inl rfl) () [] rfl trivial rfl (rv_tmp rfl)
  refine ref_skip (n_then (ref_seq (ref_seq (ref_region ?_))))
  refine as1 rfl rfl ?_
  refine l_nil (n_then ?_)
  refine ref_loopX (f := (law29_ChannelPrefix_l1 items_0)) (Γl := (fun (s24 : Int × T_deliberationkeep_Src × T_api_Channel) (x25 : Unit) => [(0, slv (rI .i64) items_0), (5, pv (ptr x4 0)), (6, pv (ptr b7 0)), (8, iv .i64 s24.1)])) (Ωl := (fun (s24 : Int × T_deliberationkeep_Src × T_api_Channel) (x25 : Unit) => [oc x4 [slv (rI .i64) s24.2.1.L, iv .i64 s24.2.1.At], oc b7 [slv (rI .i64) s24.2.2.Items, iv .i64 s24.2.2.Window, iv .i64 s24.2.2.Base, slv (rI .i64) s24.2.2.Received, slv rT_api_Packet s24.2.2.Held, slv rT_api_Packet s24.2.2.Flight]])) (Γb := (fun (q41 : Unit) (y42 : Unit) => [])) (Ωb := (fun (q41 : Unit) (y42 : Unit) => [])) (kr := (fun a : Bool => some a)) (0, t5.2, t6.1) () (weak [0, 1] ⟨rfl, rfl, rfl, rfl, trivial⟩ ⟨rfl, rfl, trivial⟩) (fun s24 x25 => ?_) (fun q41 y42 => ?_)
  · unfold law29_ChannelPrefix_l1
    refine ref_seq ?_
    refine ref_join (fun (j28 : Bool × Bool) (x29 : Unit) => [(0, slv (rI .i64) items_0), (5, pv (ptr x4 0)), (6, pv (ptr b7 0)), (8, iv .i64 s24.1), (29, iv .i64 s24.1), (30, bv (decide (s24.1 < 4))), (31, bv j28.1), (34, bv j28.2)]) (fun (j28 : Bool × Bool) (x29 : Unit) => [oc x4 [slv (rI .i64) s24.2.1.L, iv .i64 s24.2.1.At], oc b7 [slv (rI .i64) s24.2.2.Items, iv .i64 s24.2.2.Window, iv .i64 s24.2.2.Base, slv (rI .i64) s24.2.2.Received, slv rT_api_Packet s24.2.2.Held, slv rT_api_Packet s24.2.2.Flight]]) (fun k30 hk30 => ?_) (fun j28 x29 => ?_)
    · refine ref_seq (ref_region ?_)
      refine mv1 rfl rfl ?_
      refine s_rd (r_lss rfl rfl) rfl ?_
      refine mv1 rfl rfl ?_
      refine b_split (t := 28) rfl (fun _ => ?_) (fun _ => ?_)
      · refine s_on rfl rfl rfl ?_
        refine mv1 rfl rfl ?_
        refine s_on rfl rfl rfl ?_
        refine s_rd (r_lss rfl rfl) rfl ?_
        refine s_on rfl rfl rfl ?_
        refine mv1 rfl rfl ?_
        refine b_split (t := 31) rfl (fun _ => ?_) (fun _ => ?_)
        · refine s_off rfl rfl rfl rfl rfl ?_
          refine s_off rfl rfl rfl rfl rfl ?_
          refine s_on rfl rfl rfl ?_
          refine s_rd (r_pickT rfl rfl) rfl ?_
          refine s_rd (r_pickT rfl rfl) rfl ?_
          refine l_nil (n_then ?_)
          refine ref_condT rfl rfl ?_
          refine ref_skip ?_
          exact b_to (hk30 (true, true) ()) (weak [0, 1] ⟨rfl, rfl, rfl, rfl, rfl, rfl, rfl, rfl, trivial⟩ ⟨rfl, rfl, trivial⟩)
        refine s_on rfl rfl rfl ?_
        refine mv1 rfl rfl ?_
        refine s_on rfl rfl rfl ?_
        refine pull fun t26 h_t26 => ?_
        refine s_st (s_callC [0] [true] (fun (_ : Unit) => [oc x4 [slv (rI .i64) s24.2.1.L, iv .i64 s24.2.1.At]]) (fun (_ : Unit) => []) (fun (_ : Unit) => bv t26) (args := [.tmp 32]) (caps := []) Try.call11 rfl (keep_Src_More_ok h_t26) ⟨rfl, rfl, trivial⟩ (fun _ => rfl) (fun _ => trivial) (fun _ => rfl) ⟨arg rfl, trivial⟩ (fun _ _ _ _ h => h)) rfl (fun _ => ?_)
        refine s_on rfl rfl rfl ?_
        refine s_rd (r_pickF rfl rfl) rfl ?_
        refine s_rd (r_pickT rfl rfl) rfl ?_
        refine l_nil (n_then ?_)
        refine ref_cond rfl (fun hb27 => ?_) (fun hb27 => ?_)
        · refine ref_skip ?_
          exact b_to (hk30 (false, t26) ()) (weak [0, 1] ⟨rfl, rfl, rfl, rfl, rfl, rfl, rfl, rfl, trivial⟩ ⟨rfl, rfl, trivial⟩)
        refine ref_exit (x_then ?_)
        exact brkX () (weak [] trivial trivial)
      refine s_off rfl rfl rfl rfl rfl ?_
      refine s_off rfl rfl rfl rfl rfl ?_
      refine s_off rfl rfl rfl rfl rfl ?_
      refine s_offU rfl rfl rfl ?_
      refine s_offU rfl rfl rfl ?_
      refine s_off rfl rfl rfl rfl rfl ?_
      refine s_rd (r_pickF rfl rfl) rfl ?_
      refine l_nil (n_then ?_)
      refine ref_condF rfl rfl ?_
      refine ref_exit (x_then ?_)
      exact brkX () (weak [] trivial trivial)
    refine n_then (ref_seq (ref_block (ref_seq ?_)))
    refine pull fun t32 h_t32 => ?_
    refine pull fun t33 h_t33 => ?_
    refine ref_drawI 1 [⟨[], [], [], [1], [], fun us u => ag [slv (rI .i64) s24.2.2.Items, iv .i64 s24.2.2.Window, iv .i64 s24.2.2.Base, slv (rI .i64) s24.2.2.Received, slv rT_api_Packet s24.2.2.Held, slv rT_api_Packet s24.2.2.Flight], fun us u => []⟩, ⟨[], [], [], [], [], fun us u => pv (ptr x4 0), fun us u => []⟩, ⟨[], [], [], [1], [], fun us u => ag [slv (rI .i64) s24.2.2.Items, iv .i64 s24.2.2.Window, iv .i64 s24.2.2.Base, slv (rI .i64) s24.2.2.Received, slv rT_api_Packet s24.2.2.Held, slv rT_api_Packet s24.2.2.Flight], fun us u => []⟩, ⟨[1, 2], [], [0], [0], [0], fun us u => ag [iv .i64 t32.1.Kind, iv .i64 t32.1.N], fun us u => [oc x4 [slv (rI .i64) t32.2.L, iv .i64 t32.2.At]]⟩, ⟨[0, 1, 2, 3], [], [], [], [], fun us u => tup [ag [slv (rI .i64) t33.1.Items, iv .i64 t33.1.Window, iv .i64 t33.1.Base, slv (rI .i64) t33.1.Received, slv rT_api_Packet t33.1.Held, slv rT_api_Packet t33.1.Flight], iv .i64 t33.2], fun us u => []⟩, ⟨[0, 1, 2, 3, 4], [], [], [], [], fun us u => tup [ag [slv (rI .i64) t33.1.Items, iv .i64 t33.1.Window, iv .i64 t33.1.Base, slv (rI .i64) t33.1.Received, slv rT_api_Packet t33.1.Held, slv rT_api_Packet t33.1.Flight], iv .i64 t33.2], fun us u => []⟩, ⟨[0, 1, 2, 3, 4, 5], [], [], [], [], fun us u => ag [slv (rI .i64) t33.1.Items, iv .i64 t33.1.Window, iv .i64 t33.1.Base, slv (rI .i64) t33.1.Received, slv rT_api_Packet t33.1.Held, slv rT_api_Packet t33.1.Flight], fun us u => []⟩, ⟨[0, 1, 2, 3, 4, 5], [], [], [], [], fun us u => iv .i64 t33.2, fun us u => []⟩, ⟨[], [], [2], [2], [], fun us u => pv (ptr u.Nn 0), fun us u => [oc u.Nn [pv (.slice none 0 0), iv .i64 0, iv .i64 0, pv (.slice none 0 0), pv (.slice none 0 0), pv (.slice none 0 0)]]⟩, ⟨[0, 1, 2, 3, 4, 5, 6, 8], [8], [2], [2], [2], fun us u => pv undef, fun us u => [oc (us.getD 0 .none).Nn [slv (rI .i64) t33.1.Items, iv .i64 t33.1.Window, iv .i64 t33.1.Base, slv (rI .i64) t33.1.Received, slv rT_api_Packet t33.1.Held, slv rT_api_Packet t33.1.Flight]]⟩, ⟨[0, 1, 2, 3, 4, 5, 6, 7, 8, 9], [], [], [], [], fun us u => iv .i64 t33.2, fun us u => []⟩] (fun χ31 => [(0, slv (rI .i64) items_0), (5, pv (ptr x4 0)), (6, pv (ptr b7 0)), (8, iv .i64 s24.1), (9, pv (ptr (χ31 8).Nn 0)), (10, iv .i64 t33.2), (29, iv .i64 s24.1), (30, bv (decide (s24.1 < 4))), (31, bv j28.1), (34, bv j28.2)]) (fun χ31 => [oc x4 [slv (rI .i64) t32.2.L, iv .i64 t32.2.At], oc b7 [slv (rI .i64) s24.2.2.Items, iv .i64 s24.2.2.Window, iv .i64 s24.2.2.Base, slv (rI .i64) s24.2.2.Received, slv rT_api_Packet s24.2.2.Held, slv rT_api_Packet s24.2.2.Flight], oc (χ31 8).Nn [slv (rI .i64) t33.1.Items, iv .i64 t33.1.Window, iv .i64 t33.1.Base, slv (rI .i64) t33.1.Received, slv rT_api_Packet t33.1.Held, slv rT_api_Packet t33.1.Flight]]) rfl (by kernel_rfl) ⟨fun χ31 Ω ⟨h1, _⟩ => St.toR (r_cloadS Try.isAgg28 Try.sizeOf28 rfl (j := 1) h1 rfl rfl) (fun _ => rfl) (fun _ => rfl), (by intro _ h; cases h; rfl), ⟨fun χ31 Ω _ => St.toR (r_move rfl) (fun _ => rfl) (fun _ => rfl), (by intro _ h; cases h; rfl), ⟨fun χ31 Ω ⟨h1, _⟩ => St.toR (r_cloadS Try.isAgg28 Try.sizeOf28 rfl (j := 1) h1 rfl rfl) (fun _ => rfl) (fun _ => rfl), (by intro _ h; cases h; rfl), ⟨fun χ31 Ω ⟨h0, _⟩ => St.to XU.U XU.hU (St.placeL [] (s_callC [0] [true] (fun (_ : Unit) => [oc x4 [slv (rI .i64) t32.2.L, iv .i64 t32.2.At]]) (fun (_ : Unit) => []) (fun (_ : Unit) => ag [iv .i64 t32.1.Kind, iv .i64 t32.1.N]) (args := [.tmp 40, .tmp 41]) (caps := []) Try.call13 rfl (law29_event_ok h_t32) ⟨h0, rfl, trivial⟩ (fun _ => rfl) (fun _ => trivial) (fun _ => rfl) ⟨arg rfl, arg rfl, trivial⟩ (fun _ _ _ _ h => h)) (fun _ => rfl) (fun _ => trivial)) (fun _ => rfl) (fun _ => rfl), (by intro _ h; cases h; rfl), ⟨fun χ31 Ω _ => St.to XU.U XU.hU (St.placeL [] (s_call (ψ := fun (_ : Unit) => tup [ag [slv (rI .i64) t33.1.Items, iv .i64 t33.1.Window, iv .i64 t33.1.Base, slv (rI .i64) t33.1.Received, slv rT_api_Packet t33.1.Held, slv rT_api_Packet t33.1.Flight], iv .i64 t33.2]) (args := [.tmp 39, .tmp 42]) Try.call12 rfl (channel_Step_ok h_t33) ⟨arg rfl, arg rfl, trivial⟩ (fun _ _ _ _ h => h)) (fun _ => rfl) (fun _ => trivial)) (fun _ => rfl) (fun _ => rfl), (by intro _ h; cases h; rfl), ⟨fun χ31 Ω _ => St.toR (r_move rfl) (fun _ => rfl) (fun _ => rfl), (by intro _ h; cases h; rfl), ⟨fun χ31 Ω _ => St.toR (r_extract rfl rfl) (fun _ => rfl) (fun _ => rfl), (by intro _ h; cases h; rfl), ⟨fun χ31 Ω _ => St.toR (r_extract rfl rfl) (fun _ => rfl) (fun _ => rfl), (by intro _ h; cases h; rfl), ⟨fun χ31 Ω ⟨h2, _⟩ => St.to XU.Nn XU.hN (St.placeL (os := fun _ => [_]) [2] (s_alloc zt_28) (fun _ => rfl) (fun _ => ⟨h2, rfl, trivial⟩)) (fun _ => rfl) (fun _ => rfl), (by intro _ h; cases h; rfl), ⟨fun χ31 Ω ⟨h2, _⟩ => St.to XU.U XU.hU (s_cstore (out := [slv (rI .i64) t33.1.Items, iv .i64 t33.1.Window, iv .i64 t33.1.Base, slv (rI .i64) t33.1.Received, slv rT_api_Packet t33.1.Held, slv rT_api_Packet t33.1.Flight]) Try.sizeOf28 rfl (j := 2) h2 (part_agO (ψs := [slv (rI .i64) t33.1.Items, iv .i64 t33.1.Window, iv .i64 t33.1.Base, slv (rI .i64) t33.1.Received, slv rT_api_Packet t33.1.Held, slv rT_api_Packet t33.1.Flight]) rfl ⟨.inl slv_at, .inl iv_at, .inl iv_at, .inl slv_at, .inl slv_at, .inl slv_at, trivial⟩) rfl rfl rfl) (fun _ => rfl) (fun _ => rfl), (by intro _ h; cases h), ⟨fun χ31 Ω _ => St.toR (r_assign rfl) (fun _ => rfl) (fun _ => rfl), (by intro _ h; cases h; rfl), trivial⟩⟩⟩⟩⟩⟩⟩⟩⟩⟩⟩ (fun _ => ⟨rfl, rfl, rfl, rfl, rfl, rfl, rfl, rfl, rfl, rfl, trivial⟩) (fun _ => rfl) (fun χ31 => ?_)
    refine n_then (ref_seq (ref_seq (ref_region ?_)))
    refine mv1 rfl rfl ?_
    refine s_rd (r_neq rfl rfl) rfl ?_
    refine l_nil (n_then ?_)
    refine ref_cond rfl (fun hb35 => ?_) (fun hb35 => ?_)
    · refine ref_exit (x_then (x_eq (n_then (ref_region ?_))))
      refine mv1 rfl rfl ?_
      refine s_rd (r_add rfl rfl) rfl ?_
      refine as1 rfl rfl ?_
      refine b_let (f := iv .i64) (t := 8) rfl fun i39 => ?_
      refine l_nil ?_
      exact goX () (weak [0, 1] ⟨rfl, rfl, rfl, rfl, trivial⟩ ⟨rfl, rfl, trivial⟩)
    refine ref_skip (n_then (ref_seq (ref_seq ?_)))
    refine ref_draw [0, 1, 2, 3, 4, 5, 6, 7, 8, 9, 10, 11, 12, 13, 15, 16, 17, 18, 19, 20, 21, 22, 23, 24, 25, 26, 27, 28, 29, 30, 31, 32, 33, 34, 35, 36, 37, 38, 39, 40, 41, 42, 43, 44, 45, 46, 47, 48] rfl (by kernel_rfl) (fun hok => ?_)
    refine a_rd (i := 0) hok rfl (by kernel_rfl) rfl (r_faddr (fo := 3) Try.underlying28 rfl rfl Try.sizeOf22 rfl) rfl ?_
    refine a_rd (i := 1) hok rfl (by kernel_rfl) rfl (r_cload Try.isAgg22 rfl (j := 2) rfl rfl) rfl ?_
    refine a_rd (i := 2) hok rfl (by kernel_rfl) rfl (r_len Try.underlying22 rfl) rfl ?_
    refine a_rd (i := 3) hok rfl (by kernel_rfl) rfl (r_move rfl) rfl ?_
    refine a_rd (i := 4) hok rfl (by kernel_rfl) rfl (r_len Try.underlying22 rfl) rfl ?_
    refine a_rd (i := 5) hok rfl (by kernel_rfl) rfl (r_gtr rfl rfl) rfl ?_
    refine a_rd (i := 6) hok rfl (by kernel_rfl) rfl (r_move rfl) rfl ?_
    refine b_split (t := 54) rfl (fun _ => ?_) (fun _ => ?_)
    · refine a_off (i := 7) hok rfl rfl rfl rfl rfl (by kernel_rfl) rfl rfl ?_
      refine a_off (i := 8) hok rfl rfl rfl rfl rfl (by kernel_rfl) rfl rfl ?_
      refine a_off (i := 9) hok rfl rfl rfl rfl rfl (by kernel_rfl) rfl rfl ?_
      refine a_off (i := 10) hok rfl rfl rfl rfl rfl (by kernel_rfl) rfl rfl ?_
      refine a_off (i := 11) hok rfl rfl rfl rfl rfl (by kernel_rfl) rfl rfl ?_
      refine a_off (i := 12) hok rfl rfl rfl rfl rfl (by kernel_rfl) rfl rfl ?_
      refine a_off (i := 13) hok rfl rfl rfl rfl rfl (by kernel_rfl) rfl rfl ?_
      refine a_next hok 14 [] (by kernel_rfl) ?_ trivial
      refine a_stOff (i := 14) hok rfl rfl rfl rfl rfl rfl (by intro _ h; cases h; rfl) ⟨trivial, ⟨trivial, ⟨trivial, ⟨trivial, ⟨trivial, ⟨trivial, ⟨trivial, ⟨trivial, ⟨trivial, ⟨trivial, ⟨trivial, ⟨trivial, ⟨⟨⟨rfl, rfl⟩, trivial⟩, ⟨trivial, trivial⟩⟩⟩⟩⟩⟩⟩⟩⟩⟩⟩⟩⟩⟩ ?_
      refine a_off (i := 15) hok rfl rfl rfl rfl rfl (by kernel_rfl) rfl rfl ?_
      refine a_rd (i := 16) hok rfl (by kernel_rfl) rfl (r_pickT rfl rfl) rfl ?_
      refine a_rd (i := 17) hok rfl (by kernel_rfl) rfl (r_move rfl) rfl ?_
      refine a_off (i := 18) hok rfl rfl rfl rfl rfl (by kernel_rfl) rfl rfl ?_
      refine a_off (i := 19) hok rfl rfl rfl rfl rfl (by kernel_rfl) rfl rfl ?_
      refine a_off (i := 20) hok rfl rfl rfl rfl rfl (by kernel_rfl) rfl rfl ?_
      refine a_off (i := 21) hok rfl rfl rfl rfl rfl (by kernel_rfl) rfl rfl ?_
      refine a_off (i := 22) hok rfl rfl rfl rfl rfl (by kernel_rfl) rfl rfl ?_
      refine a_off (i := 23) hok rfl rfl rfl rfl rfl (by kernel_rfl) rfl rfl ?_
      refine a_rd (i := 24) hok rfl (by kernel_rfl) rfl (r_pickT rfl rfl) rfl ?_
      refine a_rd (i := 25) hok rfl (by kernel_rfl) rfl (r_move rfl) rfl ?_
      refine a_off (i := 26) hok rfl rfl rfl rfl rfl (by kernel_rfl) rfl rfl ?_
      refine a_off (i := 27) hok rfl rfl rfl rfl rfl (by kernel_rfl) rfl rfl ?_
      refine a_off (i := 28) hok rfl rfl rfl rfl rfl (by kernel_rfl) rfl rfl ?_
      refine a_off (i := 29) hok rfl rfl rfl rfl rfl (by kernel_rfl) rfl rfl ?_
      refine a_off (i := 30) hok rfl rfl rfl rfl rfl (by kernel_rfl) rfl rfl ?_
      refine a_rd (i := 31) hok rfl (by kernel_rfl) rfl (r_pickT rfl rfl) rfl ?_
      refine a_rd (i := 32) hok rfl (by kernel_rfl) rfl (r_move rfl) rfl ?_
      refine a_off (i := 33) hok rfl rfl rfl rfl rfl (by kernel_rfl) rfl rfl ?_
      refine a_off (i := 34) hok rfl rfl rfl rfl rfl (by kernel_rfl) rfl rfl ?_
      refine a_off (i := 35) hok rfl rfl rfl rfl rfl (by kernel_rfl) rfl rfl ?_
      refine a_off (i := 36) hok rfl rfl rfl rfl rfl (by kernel_rfl) rfl rfl ?_
      refine a_off (i := 37) hok rfl rfl rfl rfl rfl (by kernel_rfl) rfl rfl ?_
      refine a_off (i := 38) hok rfl rfl rfl rfl rfl (by kernel_rfl) rfl rfl ?_
      refine a_off (i := 39) hok rfl rfl rfl rfl rfl (by kernel_rfl) rfl rfl ?_
      refine a_rd (i := 40) hok rfl (by kernel_rfl) rfl (r_pickT rfl rfl) rfl ?_
      refine a_rd (i := 41) hok rfl (by kernel_rfl) rfl (r_move rfl) rfl ?_
      refine a_off (i := 42) hok rfl rfl rfl rfl rfl (by kernel_rfl) rfl rfl ?_
      refine a_off (i := 43) hok rfl rfl rfl rfl rfl (by kernel_rfl) rfl rfl ?_
      refine a_off (i := 44) hok rfl rfl rfl rfl rfl (by kernel_rfl) rfl rfl ?_
      refine a_off (i := 45) hok rfl rfl rfl rfl rfl (by kernel_rfl) rfl rfl ?_
      refine a_off (i := 46) hok rfl rfl rfl rfl rfl (by kernel_rfl) rfl rfl ?_
      refine a_off (i := 47) hok rfl rfl rfl rfl rfl (by kernel_rfl) rfl rfl ?_
      refine a_rd (i := 48) hok rfl (by kernel_rfl) rfl (r_pickT rfl rfl) rfl ?_
      refine a_fin hok (by kernel_rfl) ?_
      refine n_then ?_
      refine ref_condT rfl rfl ?_
      refine ref_seq (ref_region ?_)
      refine as1 rfl rfl ?_
      refine l_nil (n_then (ref_ret (r_then (r_block (r_then ?_)))))
      refine retX ?_
      refine r_block (r_then ?_)
      exact fin1 (.inl rfl) () [] rfl trivial rfl (rv_tmp rfl)
    refine a_rdOn (i := 7) hok rfl rfl rfl rfl (by kernel_rfl) rfl (r_faddr (fo := 3) Try.underlying28 rfl rfl Try.sizeOf22 rfl) rfl ?_
    refine a_rdOn (i := 8) hok rfl rfl rfl rfl (by kernel_rfl) rfl (r_cload Try.isAgg22 rfl (j := 2) rfl rfl) rfl ?_
    refine a_rdOn (i := 9) hok rfl rfl rfl rfl (by kernel_rfl) rfl (r_move rfl) rfl ?_
    refine a_rdOn (i := 10) hok rfl rfl rfl rfl (by kernel_rfl) rfl (r_faddr (fo := 3) Try.underlying28 rfl rfl Try.sizeOf22 rfl) rfl ?_
    refine a_rdOn (i := 11) hok rfl rfl rfl rfl (by kernel_rfl) rfl (r_cload Try.isAgg22 rfl (j := 2) rfl rfl) rfl ?_
    refine a_rdOn (i := 12) hok rfl rfl rfl rfl (by kernel_rfl) rfl (r_len Try.underlying22 rfl) rfl ?_
    refine pull fun t36 h_t36 => ?_
    refine a_rdOn (i := 13) hok rfl rfl rfl rfl (by kernel_rfl) rfl (r_slice h_t36 Try.underlying22 el_3 rfl .dft (.of rfl)) rfl ?_
    refine pull fun t37 h_t37 => ?_
    refine a_next hok 14 [] (by kernel_rfl) ?_ trivial
    refine a_stOn (i := 14) hok rfl rfl rfl rfl rfl (s_call (ψ := fun (_ : Unit) => bv t37) (args := [.tmp 56, .tmp 61]) Try.call14 rfl (keep_Ints_ok h_t37) ⟨arg rfl, arg rfl, trivial⟩ (fun _ _ _ _ h => h)) (by intro _ h; cases h; rfl) (fun _ => ⟨trivial, ⟨trivial, ⟨⟨⟨rfl, rfl⟩, trivial⟩, ⟨trivial, ⟨trivial, ⟨trivial, ⟨trivial, ⟨trivial, ⟨trivial, ⟨trivial, ⟨trivial, ⟨trivial, ⟨⟨⟨rfl, rfl⟩, trivial⟩, ⟨trivial, trivial⟩⟩⟩⟩⟩⟩⟩⟩⟩⟩⟩⟩⟩⟩) (fun _ => ?_)
    refine a_rdOn (i := 15) hok rfl rfl rfl rfl (by kernel_rfl) rfl (r_not rfl) rfl ?_
    refine a_rd (i := 16) hok rfl (by kernel_rfl) rfl (r_pickF rfl rfl) rfl ?_
    refine a_rd (i := 17) hok rfl (by kernel_rfl) rfl (r_move rfl) rfl ?_
    refine b_split (t := 65) rfl (fun _ => ?_) (fun _ => ?_)
    · refine a_off (i := 18) hok rfl rfl rfl rfl rfl (by kernel_rfl) rfl rfl ?_
      refine a_off (i := 19) hok rfl rfl rfl rfl rfl (by kernel_rfl) rfl rfl ?_
      refine a_off (i := 20) hok rfl rfl rfl rfl rfl (by kernel_rfl) rfl rfl ?_
      refine a_off (i := 21) hok rfl rfl rfl rfl rfl (by kernel_rfl) rfl rfl ?_
      refine a_off (i := 22) hok rfl rfl rfl rfl rfl (by kernel_rfl) rfl rfl ?_
      refine a_off (i := 23) hok rfl rfl rfl rfl rfl (by kernel_rfl) rfl rfl ?_
      refine a_rd (i := 24) hok rfl (by kernel_rfl) rfl (r_pickT rfl rfl) rfl ?_
      refine a_rd (i := 25) hok rfl (by kernel_rfl) rfl (r_move rfl) rfl ?_
      refine a_off (i := 26) hok rfl rfl rfl rfl rfl (by kernel_rfl) rfl rfl ?_
      refine a_off (i := 27) hok rfl rfl rfl rfl rfl (by kernel_rfl) rfl rfl ?_
      refine a_off (i := 28) hok rfl rfl rfl rfl rfl (by kernel_rfl) rfl rfl ?_
      refine a_off (i := 29) hok rfl rfl rfl rfl rfl (by kernel_rfl) rfl rfl ?_
      refine a_off (i := 30) hok rfl rfl rfl rfl rfl (by kernel_rfl) rfl rfl ?_
      refine a_rd (i := 31) hok rfl (by kernel_rfl) rfl (r_pickT rfl rfl) rfl ?_
      refine a_rd (i := 32) hok rfl (by kernel_rfl) rfl (r_move rfl) rfl ?_
      refine a_off (i := 33) hok rfl rfl rfl rfl rfl (by kernel_rfl) rfl rfl ?_
      refine a_off (i := 34) hok rfl rfl rfl rfl rfl (by kernel_rfl) rfl rfl ?_
      refine a_off (i := 35) hok rfl rfl rfl rfl rfl (by kernel_rfl) rfl rfl ?_
      refine a_off (i := 36) hok rfl rfl rfl rfl rfl (by kernel_rfl) rfl rfl ?_
      refine a_off (i := 37) hok rfl rfl rfl rfl rfl (by kernel_rfl) rfl rfl ?_
      refine a_off (i := 38) hok rfl rfl rfl rfl rfl (by kernel_rfl) rfl rfl ?_
      refine a_off (i := 39) hok rfl rfl rfl rfl rfl (by kernel_rfl) rfl rfl ?_
      refine a_rd (i := 40) hok rfl (by kernel_rfl) rfl (r_pickT rfl rfl) rfl ?_
      refine a_rd (i := 41) hok rfl (by kernel_rfl) rfl (r_move rfl) rfl ?_
      refine a_off (i := 42) hok rfl rfl rfl rfl rfl (by kernel_rfl) rfl rfl ?_
      refine a_off (i := 43) hok rfl rfl rfl rfl rfl (by kernel_rfl) rfl rfl ?_
      refine a_off (i := 44) hok rfl rfl rfl rfl rfl (by kernel_rfl) rfl rfl ?_
      refine a_off (i := 45) hok rfl rfl rfl rfl rfl (by kernel_rfl) rfl rfl ?_
      refine a_off (i := 46) hok rfl rfl rfl rfl rfl (by kernel_rfl) rfl rfl ?_
      refine a_off (i := 47) hok rfl rfl rfl rfl rfl (by kernel_rfl) rfl rfl ?_
      refine a_rd (i := 48) hok rfl (by kernel_rfl) rfl (r_pickT rfl rfl) rfl ?_
      refine a_fin hok (by kernel_rfl) ?_
      refine n_then ?_
      refine ref_condT rfl rfl ?_
      refine ref_seq (ref_region ?_)
      refine as1 rfl rfl ?_
      refine l_nil (n_then (ref_ret (r_then (r_block (r_then ?_)))))
      refine retX ?_
      refine r_block (r_then ?_)
      exact fin1 (.inl rfl) () [] rfl trivial rfl (rv_tmp rfl)
    refine a_rdOn (i := 18) hok rfl rfl rfl rfl (by kernel_rfl) rfl (r_faddr (fo := 2) Try.underlying28 rfl rfl Try.sizeOf3 rfl) rfl ?_
    refine a_rdOn (i := 19) hok rfl rfl rfl rfl (by kernel_rfl) rfl (r_cload Try.isAgg3 rfl (j := 2) rfl rfl) rfl ?_
    refine a_rdOn (i := 20) hok rfl rfl rfl rfl (by kernel_rfl) rfl (r_faddr (fo := 3) Try.underlying28 rfl rfl Try.sizeOf22 rfl) rfl ?_
    refine a_rdOn (i := 21) hok rfl rfl rfl rfl (by kernel_rfl) rfl (r_cload Try.isAgg22 rfl (j := 2) rfl rfl) rfl ?_
    refine a_rdOn (i := 22) hok rfl rfl rfl rfl (by kernel_rfl) rfl (r_len Try.underlying22 rfl) rfl ?_
    refine a_rdOn (i := 23) hok rfl rfl rfl rfl (by kernel_rfl) rfl (r_gtr rfl rfl) rfl ?_
    refine a_rd (i := 24) hok rfl (by kernel_rfl) rfl (r_pickF rfl rfl) rfl ?_
    refine a_rd (i := 25) hok rfl (by kernel_rfl) rfl (r_move rfl) rfl ?_
    refine b_split (t := 73) rfl (fun _ => ?_) (fun _ => ?_)
    · refine a_off (i := 26) hok rfl rfl rfl rfl rfl (by kernel_rfl) rfl rfl ?_
      refine a_off (i := 27) hok rfl rfl rfl rfl rfl (by kernel_rfl) rfl rfl ?_
      refine a_off (i := 28) hok rfl rfl rfl rfl rfl (by kernel_rfl) rfl rfl ?_
      refine a_off (i := 29) hok rfl rfl rfl rfl rfl (by kernel_rfl) rfl rfl ?_
      refine a_off (i := 30) hok rfl rfl rfl rfl rfl (by kernel_rfl) rfl rfl ?_
      refine a_rd (i := 31) hok rfl (by kernel_rfl) rfl (r_pickT rfl rfl) rfl ?_
      refine a_rd (i := 32) hok rfl (by kernel_rfl) rfl (r_move rfl) rfl ?_
      refine a_off (i := 33) hok rfl rfl rfl rfl rfl (by kernel_rfl) rfl rfl ?_
      refine a_off (i := 34) hok rfl rfl rfl rfl rfl (by kernel_rfl) rfl rfl ?_
      refine a_off (i := 35) hok rfl rfl rfl rfl rfl (by kernel_rfl) rfl rfl ?_
      refine a_off (i := 36) hok rfl rfl rfl rfl rfl (by kernel_rfl) rfl rfl ?_
      refine a_off (i := 37) hok rfl rfl rfl rfl rfl (by kernel_rfl) rfl rfl ?_
      refine a_off (i := 38) hok rfl rfl rfl rfl rfl (by kernel_rfl) rfl rfl ?_
      refine a_off (i := 39) hok rfl rfl rfl rfl rfl (by kernel_rfl) rfl rfl ?_
      refine a_rd (i := 40) hok rfl (by kernel_rfl) rfl (r_pickT rfl rfl) rfl ?_
      refine a_rd (i := 41) hok rfl (by kernel_rfl) rfl (r_move rfl) rfl ?_
      refine a_off (i := 42) hok rfl rfl rfl rfl rfl (by kernel_rfl) rfl rfl ?_
      refine a_off (i := 43) hok rfl rfl rfl rfl rfl (by kernel_rfl) rfl rfl ?_
      refine a_off (i := 44) hok rfl rfl rfl rfl rfl (by kernel_rfl) rfl rfl ?_
      refine a_off (i := 45) hok rfl rfl rfl rfl rfl (by kernel_rfl) rfl rfl ?_
      refine a_off (i := 46) hok rfl rfl rfl rfl rfl (by kernel_rfl) rfl rfl ?_
      refine a_off (i := 47) hok rfl rfl rfl rfl rfl (by kernel_rfl) rfl rfl ?_
      refine a_rd (i := 48) hok rfl (by kernel_rfl) rfl (r_pickT rfl rfl) rfl ?_
      refine a_fin hok (by kernel_rfl) ?_
      refine n_then ?_
      refine ref_condT rfl rfl ?_
      refine ref_seq (ref_region ?_)
      refine as1 rfl rfl ?_
      refine l_nil (n_then (ref_ret (r_then (r_block (r_then ?_)))))
      refine retX ?_
      refine r_block (r_then ?_)
      exact fin1 (.inl rfl) () [] rfl trivial rfl (rv_tmp rfl)
    refine a_rdOn (i := 26) hok rfl rfl rfl rfl (by kernel_rfl) rfl (r_faddr (fo := 2) Try.underlying28 rfl rfl Try.sizeOf3 rfl) rfl ?_
    refine a_rdOn (i := 27) hok rfl rfl rfl rfl (by kernel_rfl) rfl (r_cload Try.isAgg3 rfl (j := 2) rfl rfl) rfl ?_
    refine a_rdOn (i := 28) hok rfl rfl rfl rfl (by kernel_rfl) rfl (r_faddr (fo := 2) Try.underlying28 rfl rfl Try.sizeOf3 rfl) rfl ?_
    refine a_rdOn (i := 29) hok rfl rfl rfl rfl (by kernel_rfl) rfl (r_cload Try.isAgg3 rfl (j := 1) rfl rfl) rfl ?_
    refine a_rdOn (i := 30) hok rfl rfl rfl rfl (by kernel_rfl) rfl (r_lss rfl rfl) rfl ?_
    refine a_rd (i := 31) hok rfl (by kernel_rfl) rfl (r_pickF rfl rfl) rfl ?_
    refine a_rd (i := 32) hok rfl (by kernel_rfl) rfl (r_move rfl) rfl ?_
    refine b_split (t := 80) rfl (fun _ => ?_) (fun _ => ?_)
    · refine a_off (i := 33) hok rfl rfl rfl rfl rfl (by kernel_rfl) rfl rfl ?_
      refine a_off (i := 34) hok rfl rfl rfl rfl rfl (by kernel_rfl) rfl rfl ?_
      refine a_off (i := 35) hok rfl rfl rfl rfl rfl (by kernel_rfl) rfl rfl ?_
      refine a_off (i := 36) hok rfl rfl rfl rfl rfl (by kernel_rfl) rfl rfl ?_
      refine a_off (i := 37) hok rfl rfl rfl rfl rfl (by kernel_rfl) rfl rfl ?_
      refine a_off (i := 38) hok rfl rfl rfl rfl rfl (by kernel_rfl) rfl rfl ?_
      refine a_off (i := 39) hok rfl rfl rfl rfl rfl (by kernel_rfl) rfl rfl ?_
      refine a_rd (i := 40) hok rfl (by kernel_rfl) rfl (r_pickT rfl rfl) rfl ?_
      refine a_rd (i := 41) hok rfl (by kernel_rfl) rfl (r_move rfl) rfl ?_
      refine a_off (i := 42) hok rfl rfl rfl rfl rfl (by kernel_rfl) rfl rfl ?_
      refine a_off (i := 43) hok rfl rfl rfl rfl rfl (by kernel_rfl) rfl rfl ?_
      refine a_off (i := 44) hok rfl rfl rfl rfl rfl (by kernel_rfl) rfl rfl ?_
      refine a_off (i := 45) hok rfl rfl rfl rfl rfl (by kernel_rfl) rfl rfl ?_
      refine a_off (i := 46) hok rfl rfl rfl rfl rfl (by kernel_rfl) rfl rfl ?_
      refine a_off (i := 47) hok rfl rfl rfl rfl rfl (by kernel_rfl) rfl rfl ?_
      refine a_rd (i := 48) hok rfl (by kernel_rfl) rfl (r_pickT rfl rfl) rfl ?_
      refine a_fin hok (by kernel_rfl) ?_
      refine n_then ?_
      refine ref_condT rfl rfl ?_
      refine ref_seq (ref_region ?_)
      refine as1 rfl rfl ?_
      refine l_nil (n_then (ref_ret (r_then (r_block (r_then ?_)))))
      refine retX ?_
      refine r_block (r_then ?_)
      exact fin1 (.inl rfl) () [] rfl trivial rfl (rv_tmp rfl)
    refine a_rdOn (i := 33) hok rfl rfl rfl rfl (by kernel_rfl) rfl (r_faddr (fo := 3) Try.underlying28 rfl rfl Try.sizeOf22 rfl) rfl ?_
    refine a_rdOn (i := 34) hok rfl rfl rfl rfl (by kernel_rfl) rfl (r_cload Try.isAgg22 rfl (j := 2) rfl rfl) rfl ?_
    refine a_rdOn (i := 35) hok rfl rfl rfl rfl (by kernel_rfl) rfl (r_len Try.underlying22 rfl) rfl ?_
    refine a_rdOn (i := 36) hok rfl rfl rfl rfl (by kernel_rfl) rfl (r_faddr (fo := 3) Try.underlying28 rfl rfl Try.sizeOf22 rfl) rfl ?_
    refine a_rdOn (i := 37) hok rfl rfl rfl rfl (by kernel_rfl) rfl (r_cload Try.isAgg22 rfl (j := 1) rfl rfl) rfl ?_
    refine a_rdOn (i := 38) hok rfl rfl rfl rfl (by kernel_rfl) rfl (r_len Try.underlying22 rfl) rfl ?_
    refine a_rdOn (i := 39) hok rfl rfl rfl rfl (by kernel_rfl) rfl (r_lss rfl rfl) rfl ?_
    refine a_rd (i := 40) hok rfl (by kernel_rfl) rfl (r_pickF rfl rfl) rfl ?_
    refine a_rd (i := 41) hok rfl (by kernel_rfl) rfl (r_move rfl) rfl ?_
    refine b_split (t := 89) rfl (fun _ => ?_) (fun _ => ?_)
    · refine a_off (i := 42) hok rfl rfl rfl rfl rfl (by kernel_rfl) rfl rfl ?_
      refine a_off (i := 43) hok rfl rfl rfl rfl rfl (by kernel_rfl) rfl rfl ?_
      refine a_off (i := 44) hok rfl rfl rfl rfl rfl (by kernel_rfl) rfl rfl ?_
      refine a_off (i := 45) hok rfl rfl rfl rfl rfl (by kernel_rfl) rfl rfl ?_
      refine a_off (i := 46) hok rfl rfl rfl rfl rfl (by kernel_rfl) rfl rfl ?_
      refine a_off (i := 47) hok rfl rfl rfl rfl rfl (by kernel_rfl) rfl rfl ?_
      refine a_rd (i := 48) hok rfl (by kernel_rfl) rfl (r_pickT rfl rfl) rfl ?_
      refine a_fin hok (by kernel_rfl) ?_
      refine n_then ?_
      refine ref_condT rfl rfl ?_
      refine ref_seq (ref_region ?_)
      refine as1 rfl rfl ?_
      refine l_nil (n_then (ref_ret (r_then (r_block (r_then ?_)))))
      refine retX ?_
      refine r_block (r_then ?_)
      exact fin1 (.inl rfl) () [] rfl trivial rfl (rv_tmp rfl)
    refine a_rdOn (i := 42) hok rfl rfl rfl rfl (by kernel_rfl) rfl (r_faddr (fo := 4) Try.underlying28 rfl rfl Try.sizeOf26 rfl) rfl ?_
    refine a_rdOn (i := 43) hok rfl rfl rfl rfl (by kernel_rfl) rfl (r_cload Try.isAgg26 rfl (j := 2) rfl rfl) rfl ?_
    refine a_rdOn (i := 44) hok rfl rfl rfl rfl (by kernel_rfl) rfl (r_len Try.underlying26 rfl) rfl ?_
    refine a_rdOn (i := 45) hok rfl rfl rfl rfl (by kernel_rfl) rfl (r_faddr (fo := 1) Try.underlying28 rfl rfl Try.sizeOf3 rfl) rfl ?_
    refine a_rdOn (i := 46) hok rfl rfl rfl rfl (by kernel_rfl) rfl (r_cload Try.isAgg3 rfl (j := 2) rfl rfl) rfl ?_
    refine a_rdOn (i := 47) hok rfl rfl rfl rfl (by kernel_rfl) rfl (r_geq rfl rfl) rfl ?_
    refine a_rd (i := 48) hok rfl (by kernel_rfl) rfl (r_pickF rfl rfl) rfl ?_
    refine a_fin hok (by kernel_rfl) ?_
    refine n_then ?_
    refine ref_cond rfl (fun hb38 => ?_) (fun hb38 => ?_)
    · refine ref_seq (ref_region ?_)
      refine as1 rfl rfl ?_
      refine l_nil (n_then (ref_ret (r_then (r_block (r_then ?_)))))
      refine retX ?_
      refine r_block (r_then ?_)
      exact fin1 (.inl rfl) () [] rfl trivial rfl (rv_tmp rfl)
    refine ref_skip (n_then (ref_region ?_))
    refine s_rd (r_cloadS Try.isAgg28 Try.sizeOf28 rfl (j := 2) rfl rfl rfl) rfl ?_
    refine s_st0 (s_cstore (out := [slv (rI .i64) t33.1.Items, iv .i64 t33.1.Window, iv .i64 t33.1.Base, slv (rI .i64) t33.1.Received, slv rT_api_Packet t33.1.Held, slv rT_api_Packet t33.1.Flight]) Try.sizeOf28 rfl (j := 1) rfl (part_agO (ψs := [slv (rI .i64) t33.1.Items, iv .i64 t33.1.Window, iv .i64 t33.1.Base, slv (rI .i64) t33.1.Received, slv rT_api_Packet t33.1.Held, slv rT_api_Packet t33.1.Flight]) rfl ⟨.inl slv_at, .inl iv_at, .inl iv_at, .inl slv_at, .inl slv_at, .inl slv_at, trivial⟩) rfl rfl rfl) (fun _ => ?_)
    refine l_nil (n_block (n_then (ref_region ?_)))
    refine mv1 rfl rfl ?_
    refine s_rd (r_add rfl rfl) rfl ?_
    refine as1 rfl rfl ?_
    refine b_let (f := iv .i64) (t := 8) rfl fun i40 => ?_
    refine l_nil ?_
    exact goX () (weak [0, 1] ⟨rfl, rfl, rfl, rfl, trivial⟩ ⟨rfl, rfl, trivial⟩)
  refine n_then (ref_seq (ref_region ?_))
  refine pull fun t43 h_t43 => ?_
  refine s_st (s_call (ψ := fun (_ : Unit) => bv t43) (args := []) Try.call7 rfl (law29_awake_ok h_t43) trivial (fun _ _ _ _ h => h)) rfl (fun _ => ?_)
  refine as1 rfl rfl ?_
  refine l_nil (n_then (ref_ret ?_))
  exact fin1 (.inl rfl) () [] rfl trivial rfl (rv_tmp rfl)

/-! deliberation/deliberationlaw29.ChannelRepeats -/
noncomputable def law29_ChannelRepeats_l1  (s29 : Int × T_deliberationkeep_Src × T_api_Channel) : Option (Sum (T_deliberationkeep_Src × T_api_Channel) (Int × T_deliberationkeep_Src × T_api_Channel)) :=
  bif decide (s29.1 < 20) then
    Option.bind (keep_Src_More_m s29.2.1) fun t31 =>
    bif t31 then
      Option.bind (law29_event_m s29.2.1 s29.2.2) fun t34 =>
      Option.bind (channel_Step_m s29.2.2 t34.1) fun t35 =>
      bif t35.2 == 0 then
        letM (iadd .i64 s29.1 1) fun i38 =>
        some (Sum.inr (i38, t34.2, t35.1))
      else
        letM (iadd .i64 s29.1 1) fun i39 =>
        some (Sum.inr (i39, t34.2, s29.2.2))
    else
      some (Sum.inl (s29.2.1, s29.2.2))
  else
    some (Sum.inl (s29.2.1, s29.2.2))

noncomputable def law29_ChannelRepeats_m (items_0 : (List Int)) (l_1 : (List Int)) : Option (Bool) :=
  bif decide ((items_0.length : Int) > 60) then
    Option.bind (law29_awake_m ) fun t2 =>
    some t2
  else
    Option.bind (keep_New_m l_1) fun s3 =>
    Option.bind (keep_Src_Range_m s3 1 8) fun t5 =>
    Option.bind (channel_New_m items_0 t5.1) fun t6 =>
    bif t6.2 != 0 then
      some false
    else
      Option.bind (loopC (law29_ChannelRepeats_l1) (0, t5.2, t6.1)) fun q40 : T_deliberationkeep_Src × T_api_Channel =>
      bif (q40.2.Flight.length : Int) == 0 then
        Option.bind (law29_awake_m ) fun t42 =>
        some t42
      else
        bif decide ((q40.2.Flight.length : Int) > 100) then
          Option.bind (law29_awake_m ) fun t44 =>
          some t44
        else
          Option.bind (keep_Src_N_m q40.1 (q40.2.Flight.length : Int)) fun k45 =>
          Option.bind (channel_Step_m q40.2 (T_api_NetEvent.mk 4 k45.1)) fun t46 =>
          Option.bind (channel_Step_m t46.1 (T_api_NetEvent.mk 2 k45.1)) fun t48 =>
          bif t46.2 != 0 then
            some false
          else
            bif t48.2 != 0 then
              some false
            else
              bif (t46.1.Flight.length : Int) == 0 then
                some false
              else
                bif (t48.1.Flight.length : Int) == 0 then
                  some false
                else
                  Option.bind (channel_Step_m t48.1 (T_api_NetEvent.mk 2 (isub .i64 (q40.2.Flight.length : Int) 1))) fun t51 =>
                  bif t51.2 == 0 then
                    Option.bind (keep_Ints_m t48.1.Received t51.1.Received) fun t53 =>
                    bif t53 then
                      bif (t48.1.Held.length : Int) == (t51.1.Held.length : Int) then
                        bif t48.1.Base == t51.1.Base then
                          Option.bind (law29_awake_m ) fun t54 =>
                          some t54
                        else
                          some false
                      else
                        some false
                    else
                      some false
                  else
                    some false

theorem law29_ChannelRepeats_ok {items_0 : (List Int)} {l_1 : (List Int)} {r : Bool} (hm : law29_ChannelRepeats_m items_0 l_1 = some r) :
    FnOk prog 4 [slv (rI .i64) items_0, slv (rI .i64) l_1] [] (fun (x : Unit) => [bv r]) (fun (x : Unit) => []) := by
  refine fn_ok (fn := Try.f4) (N := 138) (res := fun r x => [bv r]) (Ω1 := fun r x => []) Try.func4 rfl rfl hm rfl (fun E hM => ?_)
  unfold law29_ChannelRepeats_m
  refine ref_seq (ref_region ?_)
  refine as1 rfl rfl ?_
  refine l_nil (n_then (ref_seq (ref_seq (ref_region ?_))))
  refine mv1 rfl rfl ?_
  refine s_rd (r_len Try.underlying22 rfl) rfl ?_
  refine s_rd (r_gtr rfl rfl) rfl ?_
  refine l_nil (n_then ?_)
  refine ref_cond rfl (fun hb1 => ?_) (fun hb1 => ?_)
  · refine ref_seq (ref_region ?_)
    refine pull fun t2 h_t2 => ?_
    refine s_st (s_call (ψ := fun (_ : Unit) => bv t2) (args := []) Try.call7 rfl (law29_awake_ok h_t2) trivial (fun _ _ _ _ h => h)) rfl (fun _ => ?_)
    refine as1 rfl rfl ?_
    refine l_nil (n_then (ref_ret (r_then ?_)))
    exact fin1 (.inl rfl) () [] rfl trivial rfl (rv_tmp rfl)
  refine ref_skip (n_then (ref_seq (ref_region ?_)))
  refine mv1 rfl rfl ?_
  refine pull fun s3 h_s3 => ?_
  refine s_st (s_call (ψ := fun (x4 : Nat) => pv (ptr x4 0)) (args := [.tmp 22]) Try.call8 rfl (keep_New_ok h_s3) ⟨arg rfl, trivial⟩ (fun _ _ _ _ h => h)) rfl (fun x4 => ?_)
  refine as1 rfl rfl ?_
  refine l_nil (n_then (ref_seq (ref_region ?_)))
  refine mv1 rfl rfl ?_
  refine mv1 rfl rfl ?_
  refine pull fun t5 h_t5 => ?_
  refine s_st (s_callC [0] [true] (fun (_ : Unit) => [oc x4 [slv (rI .i64) t5.2.L, iv .i64 t5.2.At]]) (fun (_ : Unit) => []) (fun (_ : Unit) => iv .i64 t5.1) (args := [.tmp 26, .const (.int .i64 (1)), .const (.int .i64 (8))]) (caps := []) Try.call10 rfl (keep_Src_Range_ok h_t5) ⟨rfl, rfl, trivial⟩ (fun _ => rfl) (fun _ => trivial) (fun _ => rfl) ⟨arg rfl, arg rfl, arg rfl, trivial⟩ (fun _ _ _ _ h => h)) rfl (fun _ => ?_)
  refine pull fun t6 h_t6 => ?_
  refine s_st (s_call (ψ := fun (_ : Unit) => tup [ag [slv (rI .i64) t6.1.Items, iv .i64 t6.1.Window, iv .i64 t6.1.Base, slv (rI .i64) t6.1.Received, slv rT_api_Packet t6.1.Held, slv rT_api_Packet t6.1.Flight], iv .i64 t6.2]) (args := [.tmp 25, .tmp 27]) Try.call9 rfl (channel_New_ok h_t6) ⟨arg rfl, arg rfl, trivial⟩ (fun _ _ _ _ h => h)) rfl (fun _ => ?_)
  refine mv1 rfl rfl ?_
  refine s_rd (r_extract rfl rfl) rfl ?_
  refine s_rd (r_extract rfl rfl) rfl ?_
  refine s_st (s_alloc zt_28) rfl (fun b7 => ?_)
  refine s_st0 (s_cstore (out := [slv (rI .i64) t6.1.Items, iv .i64 t6.1.Window, iv .i64 t6.1.Base, slv (rI .i64) t6.1.Received, slv rT_api_Packet t6.1.Held, slv rT_api_Packet t6.1.Flight]) Try.sizeOf28 rfl (j := 1) rfl (part_agO (ψs := [slv (rI .i64) t6.1.Items, iv .i64 t6.1.Window, iv .i64 t6.1.Base, slv (rI .i64) t6.1.Received, slv rT_api_Packet t6.1.Held, slv rT_api_Packet t6.1.Flight]) rfl ⟨.inl slv_at, .inl iv_at, .inl iv_at, .inl slv_at, .inl slv_at, .inl slv_at, trivial⟩) rfl rfl rfl) (fun _ => ?_)
  refine as1 rfl rfl ?_
  refine l_nil ?_
  refine b_of (nrm [oc x4 [slv (rI .i64) t5.2.L, iv .i64 t5.2.At], oc b7 [slv (rI .i64) t6.1.Items, iv .i64 t6.1.Window, iv .i64 t6.1.Base, slv (rI .i64) t6.1.Received, slv rT_api_Packet t6.1.Held, slv rT_api_Packet t6.1.Flight]] rfl) ?_
  refine n_then (ref_seq (ref_seq (ref_region ?_)))
  refine mv1 rfl rfl ?_
  refine s_rd (r_neq rfl rfl) rfl ?_
  refine l_nil (n_then ?_)
  refine ref_cond rfl (fun hb8 => ?_) (fun hb8 => ?_)
  · refine ref_seq (ref_region ?_)
    refine as1 rfl rfl ?_
    refine l_nil (n_then (ref_ret (r_then ?_)))
    exact fin1 (.inl rfl) () [] rfl trivial rfl (rv_tmp rfl)
  refine ref_skip (n_then (ref_seq (ref_seq (ref_region ?_))))
  refine as1 rfl rfl ?_
  refine l_nil (n_then ?_)
  refine ref_loopB (f := (law29_ChannelRepeats_l1)) (Γl := (fun (s29 : Int × T_deliberationkeep_Src × T_api_Channel) (x30 : Unit) => [(5, pv (ptr x4 0)), (6, pv (ptr b7 0)), (8, iv .i64 s29.1)])) (Ωl := (fun (s29 : Int × T_deliberationkeep_Src × T_api_Channel) (x30 : Unit) => [oc x4 [slv (rI .i64) s29.2.1.L, iv .i64 s29.2.1.At], oc b7 [slv (rI .i64) s29.2.2.Items, iv .i64 s29.2.2.Window, iv .i64 s29.2.2.Base, slv (rI .i64) s29.2.2.Received, slv rT_api_Packet s29.2.2.Held, slv rT_api_Packet s29.2.2.Flight]])) (Γb := (fun (q40 : T_deliberationkeep_Src × T_api_Channel) (y41 : Unit) => [(5, pv (ptr x4 0)), (6, pv (ptr b7 0))])) (Ωb := (fun (q40 : T_deliberationkeep_Src × T_api_Channel) (y41 : Unit) => [oc x4 [slv (rI .i64) q40.1.L, iv .i64 q40.1.At], oc b7 [slv (rI .i64) q40.2.Items, iv .i64 q40.2.Window, iv .i64 q40.2.Base, slv (rI .i64) q40.2.Received, slv rT_api_Packet q40.2.Held, slv rT_api_Packet q40.2.Flight]])) (0, t5.2, t6.1) () (weak [0, 1] ⟨rfl, rfl, rfl, trivial⟩ ⟨rfl, rfl, trivial⟩) (fun s29 x30 => ?_) (fun q40 y41 => ?_)
  · unfold law29_ChannelRepeats_l1
    refine ref_seq (ref_seq (ref_region ?_))
    refine mv1 rfl rfl ?_
    refine s_rd (r_lss rfl rfl) rfl ?_
    refine mv1 rfl rfl ?_
    refine b_split (t := 35) rfl (fun _ => ?_) (fun _ => ?_)
    · refine s_on rfl rfl rfl ?_
      refine mv1 rfl rfl ?_
      refine s_on rfl rfl rfl ?_
      refine pull fun t31 h_t31 => ?_
      refine s_st (s_callC [0] [true] (fun (_ : Unit) => [oc x4 [slv (rI .i64) s29.2.1.L, iv .i64 s29.2.1.At]]) (fun (_ : Unit) => []) (fun (_ : Unit) => bv t31) (args := [.tmp 36]) (caps := []) Try.call11 rfl (keep_Src_More_ok h_t31) ⟨rfl, rfl, trivial⟩ (fun _ => rfl) (fun _ => trivial) (fun _ => rfl) ⟨arg rfl, trivial⟩ (fun _ _ _ _ h => h)) rfl (fun _ => ?_)
      refine s_rd (r_pickT rfl rfl) rfl ?_
      refine l_nil (n_then ?_)
      refine ref_cond rfl (fun hb32 => ?_) (fun hb32 => ?_)
      · refine ref_skip (n_then (ref_seq (ref_block (ref_seq ?_))))
        refine pull fun t34 h_t34 => ?_
        refine pull fun t35 h_t35 => ?_
        refine ref_drawI 1 [⟨[], [], [], [1], [], fun us u => ag [slv (rI .i64) s29.2.2.Items, iv .i64 s29.2.2.Window, iv .i64 s29.2.2.Base, slv (rI .i64) s29.2.2.Received, slv rT_api_Packet s29.2.2.Held, slv rT_api_Packet s29.2.2.Flight], fun us u => []⟩, ⟨[], [], [], [], [], fun us u => pv (ptr x4 0), fun us u => []⟩, ⟨[], [], [], [1], [], fun us u => ag [slv (rI .i64) s29.2.2.Items, iv .i64 s29.2.2.Window, iv .i64 s29.2.2.Base, slv (rI .i64) s29.2.2.Received, slv rT_api_Packet s29.2.2.Held, slv rT_api_Packet s29.2.2.Flight], fun us u => []⟩, ⟨[1, 2], [], [0], [0], [0], fun us u => ag [iv .i64 t34.1.Kind, iv .i64 t34.1.N], fun us u => [oc x4 [slv (rI .i64) t34.2.L, iv .i64 t34.2.At]]⟩, ⟨[0, 1, 2, 3], [], [], [], [], fun us u => tup [ag [slv (rI .i64) t35.1.Items, iv .i64 t35.1.Window, iv .i64 t35.1.Base, slv (rI .i64) t35.1.Received, slv rT_api_Packet t35.1.Held, slv rT_api_Packet t35.1.Flight], iv .i64 t35.2], fun us u => []⟩, ⟨[0, 1, 2, 3, 4], [], [], [], [], fun us u => tup [ag [slv (rI .i64) t35.1.Items, iv .i64 t35.1.Window, iv .i64 t35.1.Base, slv (rI .i64) t35.1.Received, slv rT_api_Packet t35.1.Held, slv rT_api_Packet t35.1.Flight], iv .i64 t35.2], fun us u => []⟩, ⟨[0, 1, 2, 3, 4, 5], [], [], [], [], fun us u => ag [slv (rI .i64) t35.1.Items, iv .i64 t35.1.Window, iv .i64 t35.1.Base, slv (rI .i64) t35.1.Received, slv rT_api_Packet t35.1.Held, slv rT_api_Packet t35.1.Flight], fun us u => []⟩, ⟨[0, 1, 2, 3, 4, 5], [], [], [], [], fun us u => iv .i64 t35.2, fun us u => []⟩, ⟨[], [], [2], [2], [], fun us u => pv (ptr u.Nn 0), fun us u => [oc u.Nn [pv (.slice none 0 0), iv .i64 0, iv .i64 0, pv (.slice none 0 0), pv (.slice none 0 0), pv (.slice none 0 0)]]⟩, ⟨[0, 1, 2, 3, 4, 5, 6, 8], [8], [2], [2], [2], fun us u => pv undef, fun us u => [oc (us.getD 0 .none).Nn [slv (rI .i64) t35.1.Items, iv .i64 t35.1.Window, iv .i64 t35.1.Base, slv (rI .i64) t35.1.Received, slv rT_api_Packet t35.1.Held, slv rT_api_Packet t35.1.Flight]]⟩, ⟨[0, 1, 2, 3, 4, 5, 6, 7, 8, 9], [], [], [], [], fun us u => iv .i64 t35.2, fun us u => []⟩] (fun χ33 => [(5, pv (ptr x4 0)), (6, pv (ptr b7 0)), (8, iv .i64 s29.1), (9, pv (ptr (χ33 8).Nn 0)), (10, iv .i64 t35.2), (36, pv (ptr x4 0)), (37, bv t31)]) (fun χ33 => [oc x4 [slv (rI .i64) t34.2.L, iv .i64 t34.2.At], oc b7 [slv (rI .i64) s29.2.2.Items, iv .i64 s29.2.2.Window, iv .i64 s29.2.2.Base, slv (rI .i64) s29.2.2.Received, slv rT_api_Packet s29.2.2.Held, slv rT_api_Packet s29.2.2.Flight], oc (χ33 8).Nn [slv (rI .i64) t35.1.Items, iv .i64 t35.1.Window, iv .i64 t35.1.Base, slv (rI .i64) t35.1.Received, slv rT_api_Packet t35.1.Held, slv rT_api_Packet t35.1.Flight]]) rfl (by kernel_rfl) ⟨fun χ33 Ω ⟨h1, _⟩ => St.toR (r_cloadS Try.isAgg28 Try.sizeOf28 rfl (j := 1) h1 rfl rfl) (fun _ => rfl) (fun _ => rfl), (by intro _ h; cases h; rfl), ⟨fun χ33 Ω _ => St.toR (r_move rfl) (fun _ => rfl) (fun _ => rfl), (by intro _ h; cases h; rfl), ⟨fun χ33 Ω ⟨h1, _⟩ => St.toR (r_cloadS Try.isAgg28 Try.sizeOf28 rfl (j := 1) h1 rfl rfl) (fun _ => rfl) (fun _ => rfl), (by intro _ h; cases h; rfl), ⟨fun χ33 Ω ⟨h0, _⟩ => St.to XU.U XU.hU (St.placeL [] (s_callC [0] [true] (fun (_ : Unit) => [oc x4 [slv (rI .i64) t34.2.L, iv .i64 t34.2.At]]) (fun (_ : Unit) => []) (fun (_ : Unit) => ag [iv .i64 t34.1.Kind, iv .i64 t34.1.N]) (args := [.tmp 43, .tmp 44]) (caps := []) Try.call13 rfl (law29_event_ok h_t34) ⟨h0, rfl, trivial⟩ (fun _ => rfl) (fun _ => trivial) (fun _ => rfl) ⟨arg rfl, arg rfl, trivial⟩ (fun _ _ _ _ h => h)) (fun _ => rfl) (fun _ => trivial)) (fun _ => rfl) (fun _ => rfl), (by intro _ h; cases h; rfl), ⟨fun χ33 Ω _ => St.to XU.U XU.hU (St.placeL [] (s_call (ψ := fun (_ : Unit) => tup [ag [slv (rI .i64) t35.1.Items, iv .i64 t35.1.Window, iv .i64 t35.1.Base, slv (rI .i64) t35.1.Received, slv rT_api_Packet t35.1.Held, slv rT_api_Packet t35.1.Flight], iv .i64 t35.2]) (args := [.tmp 42, .tmp 45]) Try.call12 rfl (channel_Step_ok h_t35) ⟨arg rfl, arg rfl, trivial⟩ (fun _ _ _ _ h => h)) (fun _ => rfl) (fun _ => trivial)) (fun _ => rfl) (fun _ => rfl), (by intro _ h; cases h; rfl), ⟨fun χ33 Ω _ => St.toR (r_move rfl) (fun _ => rfl) (fun _ => rfl), (by intro _ h; cases h; rfl), ⟨fun χ33 Ω _ => St.toR (r_extract rfl rfl) (fun _ => rfl) (fun _ => rfl), (by intro _ h; cases h; rfl), ⟨fun χ33 Ω _ => St.toR (r_extract rfl rfl) (fun _ => rfl) (fun _ => rfl), (by intro _ h; cases h; rfl), ⟨fun χ33 Ω ⟨h2, _⟩ => St.to XU.Nn XU.hN (St.placeL (os := fun _ => [_]) [2] (s_alloc zt_28) (fun _ => rfl) (fun _ => ⟨h2, rfl, trivial⟩)) (fun _ => rfl) (fun _ => rfl), (by intro _ h; cases h; rfl), ⟨fun χ33 Ω ⟨h2, _⟩ => St.to XU.U XU.hU (s_cstore (out := [slv (rI .i64) t35.1.Items, iv .i64 t35.1.Window, iv .i64 t35.1.Base, slv (rI .i64) t35.1.Received, slv rT_api_Packet t35.1.Held, slv rT_api_Packet t35.1.Flight]) Try.sizeOf28 rfl (j := 2) h2 (part_agO (ψs := [slv (rI .i64) t35.1.Items, iv .i64 t35.1.Window, iv .i64 t35.1.Base, slv (rI .i64) t35.1.Received, slv rT_api_Packet t35.1.Held, slv rT_api_Packet t35.1.Flight]) rfl ⟨.inl slv_at, .inl iv_at, .inl iv_at, .inl slv_at, .inl slv_at, .inl slv_at, trivial⟩) rfl rfl rfl) (fun _ => rfl) (fun _ => rfl), (by intro _ h; cases h), ⟨fun χ33 Ω _ => St.toR (r_assign rfl) (fun _ => rfl) (fun _ => rfl), (by intro _ h; cases h; rfl), trivial⟩⟩⟩⟩⟩⟩⟩⟩⟩⟩⟩ (fun _ => ⟨rfl, rfl, rfl, rfl, rfl, rfl, rfl, trivial⟩) (fun _ => rfl) (fun χ33 => ?_)
        refine n_then (ref_seq (ref_region ?_))
        refine mv1 rfl rfl ?_
        refine s_rd (r_eql rfl rfl) rfl ?_
        refine l_nil (n_then ?_)
        refine ref_cond rfl (fun hb37 => ?_) (fun hb37 => ?_)
        · refine ref_region ?_
          refine s_rd (r_cloadS Try.isAgg28 Try.sizeOf28 rfl (j := 2) rfl rfl rfl) rfl ?_
          refine s_st0 (s_cstore (out := [slv (rI .i64) t35.1.Items, iv .i64 t35.1.Window, iv .i64 t35.1.Base, slv (rI .i64) t35.1.Received, slv rT_api_Packet t35.1.Held, slv rT_api_Packet t35.1.Flight]) Try.sizeOf28 rfl (j := 1) rfl (part_agO (ψs := [slv (rI .i64) t35.1.Items, iv .i64 t35.1.Window, iv .i64 t35.1.Base, slv (rI .i64) t35.1.Received, slv rT_api_Packet t35.1.Held, slv rT_api_Packet t35.1.Flight]) rfl ⟨.inl slv_at, .inl iv_at, .inl iv_at, .inl slv_at, .inl slv_at, .inl slv_at, trivial⟩) rfl rfl rfl) (fun _ => ?_)
          refine l_nil (n_block (n_then (ref_region ?_)))
          refine mv1 rfl rfl ?_
          refine s_rd (r_add rfl rfl) rfl ?_
          refine as1 rfl rfl ?_
          refine b_let (f := iv .i64) (t := 8) rfl fun i38 => ?_
          refine l_nil ?_
          exact goB () (weak [0, 1] ⟨rfl, rfl, rfl, trivial⟩ ⟨rfl, rfl, trivial⟩)
        refine ref_skip (n_block (n_then (ref_region ?_)))
        refine mv1 rfl rfl ?_
        refine s_rd (r_add rfl rfl) rfl ?_
        refine as1 rfl rfl ?_
        refine b_let (f := iv .i64) (t := 8) rfl fun i39 => ?_
        refine l_nil ?_
        exact goB () (weak [0, 1] ⟨rfl, rfl, rfl, trivial⟩ ⟨rfl, rfl, trivial⟩)
      refine ref_exit (x_then ?_)
      exact brkB () (weak [0, 1] ⟨rfl, rfl, trivial⟩ ⟨rfl, rfl, trivial⟩)
    refine s_off rfl rfl rfl rfl rfl ?_
    refine s_off rfl rfl rfl rfl rfl ?_
    refine s_rd (r_pickF rfl rfl) rfl ?_
    refine l_nil (n_then ?_)
    refine ref_condF rfl rfl ?_
    refine ref_exit (x_then ?_)
    exact brkB () (weak [0, 1] ⟨rfl, rfl, trivial⟩ ⟨rfl, rfl, trivial⟩)
  refine n_then (ref_seq (ref_seq (ref_region ?_)))
  refine s_rd (r_faddr (fo := 5) Try.underlying28 rfl rfl Try.sizeOf26 rfl) rfl ?_
  refine s_rd (r_cload Try.isAgg26 rfl (j := 1) rfl rfl) rfl ?_
  refine s_rd (r_len Try.underlying26 rfl) rfl ?_
  refine s_rd (r_eql rfl rfl) rfl ?_
  refine mv1 rfl rfl ?_
  refine b_split (t := 56) rfl (fun _ => ?_) (fun _ => ?_)
  · refine s_off rfl rfl rfl rfl rfl ?_
    refine s_off rfl rfl rfl rfl rfl ?_
    refine s_off rfl rfl rfl rfl rfl ?_
    refine s_off rfl rfl rfl rfl rfl ?_
    refine s_rd (r_pickT rfl rfl) rfl ?_
    refine l_nil (n_then ?_)
    refine ref_condT rfl rfl ?_
    refine ref_seq (ref_region ?_)
    refine pull fun t42 h_t42 => ?_
    refine s_st (s_call (ψ := fun (_ : Unit) => bv t42) (args := []) Try.call7 rfl (law29_awake_ok h_t42) trivial (fun _ _ _ _ h => h)) rfl (fun _ => ?_)
    refine as1 rfl rfl ?_
    refine l_nil (n_then (ref_ret (r_then ?_)))
    exact fin1 (.inl rfl) () [] rfl trivial rfl (rv_tmp rfl)
  refine s_on rfl rfl rfl ?_
  refine s_rd (r_faddr (fo := 5) Try.underlying28 rfl rfl Try.sizeOf26 rfl) rfl ?_
  refine s_on rfl rfl rfl ?_
  refine s_rd (r_cload Try.isAgg26 rfl (j := 1) rfl rfl) rfl ?_
  refine s_on rfl rfl rfl ?_
  refine s_rd (r_len Try.underlying26 rfl) rfl ?_
  refine s_on rfl rfl rfl ?_
  refine s_rd (r_gtr rfl rfl) rfl ?_
  refine s_rd (r_pickF rfl rfl) rfl ?_
  refine l_nil (n_then ?_)
  refine ref_cond rfl (fun hb43 => ?_) (fun hb43 => ?_)
  · refine ref_seq (ref_region ?_)
    refine pull fun t44 h_t44 => ?_
    refine s_st (s_call (ψ := fun (_ : Unit) => bv t44) (args := []) Try.call7 rfl (law29_awake_ok h_t44) trivial (fun _ _ _ _ h => h)) rfl (fun _ => ?_)
    refine as1 rfl rfl ?_
    refine l_nil (n_then (ref_ret (r_then ?_)))
    exact fin1 (.inl rfl) () [] rfl trivial rfl (rv_tmp rfl)
  refine ref_skip (n_then (ref_seq (ref_region ?_)))
  refine mv1 rfl rfl ?_
  refine s_rd (r_faddr (fo := 5) Try.underlying28 rfl rfl Try.sizeOf26 rfl) rfl ?_
  refine s_rd (r_cload Try.isAgg26 rfl (j := 1) rfl rfl) rfl ?_
  refine s_rd (r_len Try.underlying26 rfl) rfl ?_
  refine pull fun k45 h_k45 => ?_
  refine s_st (s_callC [0] [true] (fun (_ : Unit) => [oc x4 [slv (rI .i64) k45.2.L, iv .i64 k45.2.At]]) (fun (_ : Unit) => []) (fun (_ : Unit) => iv .i64 k45.1) (args := [.tmp 63, .tmp 66]) (caps := []) Try.call15 rfl (keep_Src_N_ok h_k45) ⟨rfl, rfl, trivial⟩ (fun _ => rfl) (fun _ => trivial) (fun _ => rfl) ⟨arg rfl, arg rfl, trivial⟩ (fun _ _ _ _ h => h)) rfl (fun _ => ?_)
  refine as1 rfl rfl ?_
  refine l_nil (n_then (ref_seq (ref_region ?_)))
  refine s_rd (r_cloadS Try.isAgg28 Try.sizeOf28 rfl (j := 1) rfl rfl rfl) rfl ?_
  refine mv1 rfl rfl ?_
  refine s_rd (r_build (ps := [(0, .const (.int .i64 (4))), (1, .tmp 70)]) (rs := [(0, [iv .i64 4]), (1, [iv .i64 k45.1])]) st_35 zs_35 ⟨rfl, (part_at rfl iv_at), ⟨rfl, (part_at rfl iv_at), trivial⟩⟩ rfl rfl) rfl ?_
  refine pull fun t46 h_t46 => ?_
  refine s_st (s_call (ψ := fun (_ : Unit) => tup [ag [slv (rI .i64) t46.1.Items, iv .i64 t46.1.Window, iv .i64 t46.1.Base, slv (rI .i64) t46.1.Received, slv rT_api_Packet t46.1.Held, slv rT_api_Packet t46.1.Flight], iv .i64 t46.2]) (args := [.tmp 69, .tmp 71]) Try.call12 rfl (channel_Step_ok h_t46) ⟨arg rfl, arg rfl, trivial⟩ (fun _ _ _ _ h => h)) rfl (fun _ => ?_)
  refine mv1 rfl rfl ?_
  refine s_rd (r_extract rfl rfl) rfl ?_
  refine s_rd (r_extract rfl rfl) rfl ?_
  refine s_st (s_alloc zt_28) rfl (fun b47 => ?_)
  refine s_st0 (s_cstore (out := [slv (rI .i64) t46.1.Items, iv .i64 t46.1.Window, iv .i64 t46.1.Base, slv (rI .i64) t46.1.Received, slv rT_api_Packet t46.1.Held, slv rT_api_Packet t46.1.Flight]) Try.sizeOf28 rfl (j := 2) rfl (part_agO (ψs := [slv (rI .i64) t46.1.Items, iv .i64 t46.1.Window, iv .i64 t46.1.Base, slv (rI .i64) t46.1.Received, slv rT_api_Packet t46.1.Held, slv rT_api_Packet t46.1.Flight]) rfl ⟨.inl slv_at, .inl iv_at, .inl iv_at, .inl slv_at, .inl slv_at, .inl slv_at, trivial⟩) rfl rfl rfl) (fun _ => ?_)
  refine as1 rfl rfl ?_
  refine l_nil ?_
  refine b_of (nrm [oc x4 [slv (rI .i64) k45.2.L, iv .i64 k45.2.At], oc b7 [slv (rI .i64) q40.2.Items, iv .i64 q40.2.Window, iv .i64 q40.2.Base, slv (rI .i64) q40.2.Received, slv rT_api_Packet q40.2.Held, slv rT_api_Packet q40.2.Flight], oc b47 [slv (rI .i64) t46.1.Items, iv .i64 t46.1.Window, iv .i64 t46.1.Base, slv (rI .i64) t46.1.Received, slv rT_api_Packet t46.1.Held, slv rT_api_Packet t46.1.Flight]] rfl) ?_
  refine n_then (ref_seq (ref_region ?_))
  refine s_rd (r_cloadS Try.isAgg28 Try.sizeOf28 rfl (j := 2) rfl rfl rfl) rfl ?_
  refine mv1 rfl rfl ?_
  refine s_rd (r_build (ps := [(0, .const (.int .i64 (2))), (1, .tmp 77)]) (rs := [(0, [iv .i64 2]), (1, [iv .i64 k45.1])]) st_35 zs_35 ⟨rfl, (part_at rfl iv_at), ⟨rfl, (part_at rfl iv_at), trivial⟩⟩ rfl rfl) rfl ?_
  refine pull fun t48 h_t48 => ?_
  refine s_st (s_call (ψ := fun (_ : Unit) => tup [ag [slv (rI .i64) t48.1.Items, iv .i64 t48.1.Window, iv .i64 t48.1.Base, slv (rI .i64) t48.1.Received, slv rT_api_Packet t48.1.Held, slv rT_api_Packet t48.1.Flight], iv .i64 t48.2]) (args := [.tmp 76, .tmp 78]) Try.call12 rfl (channel_Step_ok h_t48) ⟨arg rfl, arg rfl, trivial⟩ (fun _ _ _ _ h => h)) rfl (fun _ => ?_)
  refine mv1 rfl rfl ?_
  refine s_rd (r_extract rfl rfl) rfl ?_
  refine s_rd (r_extract rfl rfl) rfl ?_
  refine s_st (s_alloc zt_28) rfl (fun b49 => ?_)
  refine s_st0 (s_cstore (out := [slv (rI .i64) t48.1.Items, iv .i64 t48.1.Window, iv .i64 t48.1.Base, slv (rI .i64) t48.1.Received, slv rT_api_Packet t48.1.Held, slv rT_api_Packet t48.1.Flight]) Try.sizeOf28 rfl (j := 3) rfl (part_agO (ψs := [slv (rI .i64) t48.1.Items, iv .i64 t48.1.Window, iv .i64 t48.1.Base, slv (rI .i64) t48.1.Received, slv rT_api_Packet t48.1.Held, slv rT_api_Packet t48.1.Flight]) rfl ⟨.inl slv_at, .inl iv_at, .inl iv_at, .inl slv_at, .inl slv_at, .inl slv_at, trivial⟩) rfl rfl rfl) (fun _ => ?_)
  refine as1 rfl rfl ?_
  refine l_nil (n_then (ref_seq (ref_seq (ref_region ?_))))
  refine mv1 rfl rfl ?_
  refine s_rd (r_neq rfl rfl) rfl ?_
  refine mv1 rfl rfl ?_
  refine b_split (t := 84) rfl (fun _ => ?_) (fun _ => ?_)
  · refine s_off rfl rfl rfl rfl rfl ?_
    refine s_off rfl rfl rfl rfl rfl ?_
    refine s_rd (r_pickT rfl rfl) rfl ?_
    refine mv1 rfl rfl ?_
    refine s_off rfl rfl rfl rfl rfl ?_
    refine s_off rfl rfl rfl rfl rfl ?_
    refine s_off rfl rfl rfl rfl rfl ?_
    refine s_off rfl rfl rfl rfl rfl ?_
    refine s_rd (r_pickT rfl rfl) rfl ?_
    refine mv1 rfl rfl ?_
    refine s_off rfl rfl rfl rfl rfl ?_
    refine s_off rfl rfl rfl rfl rfl ?_
    refine s_off rfl rfl rfl rfl rfl ?_
    refine s_off rfl rfl rfl rfl rfl ?_
    refine s_rd (r_pickT rfl rfl) rfl ?_
    refine l_nil (n_then ?_)
    refine ref_condT rfl rfl ?_
    refine ref_seq (ref_region ?_)
    refine as1 rfl rfl ?_
    refine l_nil (n_then (ref_ret (r_then ?_)))
    exact fin1 (.inl rfl) () [] rfl trivial rfl (rv_tmp rfl)
  refine s_on rfl rfl rfl ?_
  refine mv1 rfl rfl ?_
  refine s_on rfl rfl rfl ?_
  refine s_rd (r_neq rfl rfl) rfl ?_
  refine s_rd (r_pickF rfl rfl) rfl ?_
  refine mv1 rfl rfl ?_
  refine b_split (t := 88) rfl (fun _ => ?_) (fun _ => ?_)
  · refine s_off rfl rfl rfl rfl rfl ?_
    refine s_off rfl rfl rfl rfl rfl ?_
    refine s_off rfl rfl rfl rfl rfl ?_
    refine s_off rfl rfl rfl rfl rfl ?_
    refine s_rd (r_pickT rfl rfl) rfl ?_
    refine mv1 rfl rfl ?_
    refine s_off rfl rfl rfl rfl rfl ?_
    refine s_off rfl rfl rfl rfl rfl ?_
    refine s_off rfl rfl rfl rfl rfl ?_
    refine s_off rfl rfl rfl rfl rfl ?_
    refine s_rd (r_pickT rfl rfl) rfl ?_
    refine l_nil (n_then ?_)
    refine ref_condT rfl rfl ?_
    refine ref_seq (ref_region ?_)
    refine as1 rfl rfl ?_
    refine l_nil (n_then (ref_ret (r_then ?_)))
    exact fin1 (.inl rfl) () [] rfl trivial rfl (rv_tmp rfl)
  refine s_on rfl rfl rfl ?_
  refine s_rd (r_faddr (fo := 5) Try.underlying28 rfl rfl Try.sizeOf26 rfl) rfl ?_
  refine s_on rfl rfl rfl ?_
  refine s_rd (r_cload Try.isAgg26 rfl (j := 2) rfl rfl) rfl ?_
  refine s_on rfl rfl rfl ?_
  refine s_rd (r_len Try.underlying26 rfl) rfl ?_
  refine s_on rfl rfl rfl ?_
  refine s_rd (r_eql rfl rfl) rfl ?_
  refine s_rd (r_pickF rfl rfl) rfl ?_
  refine mv1 rfl rfl ?_
  refine b_split (t := 94) rfl (fun _ => ?_) (fun _ => ?_)
  · refine s_off rfl rfl rfl rfl rfl ?_
    refine s_off rfl rfl rfl rfl rfl ?_
    refine s_off rfl rfl rfl rfl rfl ?_
    refine s_off rfl rfl rfl rfl rfl ?_
    refine s_rd (r_pickT rfl rfl) rfl ?_
    refine l_nil (n_then ?_)
    refine ref_condT rfl rfl ?_
    refine ref_seq (ref_region ?_)
    refine as1 rfl rfl ?_
    refine l_nil (n_then (ref_ret (r_then ?_)))
    exact fin1 (.inl rfl) () [] rfl trivial rfl (rv_tmp rfl)
  refine s_on rfl rfl rfl ?_
  refine s_rd (r_faddr (fo := 5) Try.underlying28 rfl rfl Try.sizeOf26 rfl) rfl ?_
  refine s_on rfl rfl rfl ?_
  refine s_rd (r_cload Try.isAgg26 rfl (j := 3) rfl rfl) rfl ?_
  refine s_on rfl rfl rfl ?_
  refine s_rd (r_len Try.underlying26 rfl) rfl ?_
  refine s_on rfl rfl rfl ?_
  refine s_rd (r_eql rfl rfl) rfl ?_
  refine s_rd (r_pickF rfl rfl) rfl ?_
  refine l_nil (n_then ?_)
  refine ref_cond rfl (fun hb50 => ?_) (fun hb50 => ?_)
  · refine ref_seq (ref_region ?_)
    refine as1 rfl rfl ?_
    refine l_nil (n_then (ref_ret (r_then ?_)))
    exact fin1 (.inl rfl) () [] rfl trivial rfl (rv_tmp rfl)
  refine ref_skip (n_then (ref_seq (ref_region ?_)))
  refine s_rd (r_cloadS Try.isAgg28 Try.sizeOf28 rfl (j := 3) rfl rfl rfl) rfl ?_
  refine s_rd (r_faddr (fo := 5) Try.underlying28 rfl rfl Try.sizeOf26 rfl) rfl ?_
  refine s_rd (r_cload Try.isAgg26 rfl (j := 1) rfl rfl) rfl ?_
  refine s_rd (r_len Try.underlying26 rfl) rfl ?_
  refine s_rd (r_sub rfl rfl) rfl ?_
  refine s_rd (r_build (ps := [(0, .const (.int .i64 (2))), (1, .tmp 105)]) (rs := [(0, [iv .i64 2]), (1, [iv .i64 (isub .i64 (q40.2.Flight.length : Int) 1)])]) st_35 zs_35 ⟨rfl, (part_at rfl iv_at), ⟨rfl, (part_at rfl iv_at), trivial⟩⟩ rfl rfl) rfl ?_
  refine pull fun t51 h_t51 => ?_
  refine s_st (s_call (ψ := fun (_ : Unit) => tup [ag [slv (rI .i64) t51.1.Items, iv .i64 t51.1.Window, iv .i64 t51.1.Base, slv (rI .i64) t51.1.Received, slv rT_api_Packet t51.1.Held, slv rT_api_Packet t51.1.Flight], iv .i64 t51.2]) (args := [.tmp 101, .tmp 106]) Try.call12 rfl (channel_Step_ok h_t51) ⟨arg rfl, arg rfl, trivial⟩ (fun _ _ _ _ h => h)) rfl (fun _ => ?_)
  refine mv1 rfl rfl ?_
  refine s_rd (r_extract rfl rfl) rfl ?_
  refine s_rd (r_extract rfl rfl) rfl ?_
  refine s_st (s_alloc zt_28) rfl (fun b52 => ?_)
  refine s_st0 (s_cstore (out := [slv (rI .i64) t51.1.Items, iv .i64 t51.1.Window, iv .i64 t51.1.Base, slv (rI .i64) t51.1.Received, slv rT_api_Packet t51.1.Held, slv rT_api_Packet t51.1.Flight]) Try.sizeOf28 rfl (j := 4) rfl (part_agO (ψs := [slv (rI .i64) t51.1.Items, iv .i64 t51.1.Window, iv .i64 t51.1.Base, slv (rI .i64) t51.1.Received, slv rT_api_Packet t51.1.Held, slv rT_api_Packet t51.1.Flight]) rfl ⟨.inl slv_at, .inl iv_at, .inl iv_at, .inl slv_at, .inl slv_at, .inl slv_at, trivial⟩) rfl rfl rfl) (fun _ => ?_)
  refine as1 rfl rfl ?_
  refine l_nil ?_
  refine b_of (nrm [oc x4 [slv (rI .i64) k45.2.L, iv .i64 k45.2.At], oc b7 [slv (rI .i64) q40.2.Items, iv .i64 q40.2.Window, iv .i64 q40.2.Base, slv (rI .i64) q40.2.Received, slv rT_api_Packet q40.2.Held, slv rT_api_Packet q40.2.Flight], oc b47 [slv (rI .i64) t46.1.Items, iv .i64 t46.1.Window, iv .i64 t46.1.Base, slv (rI .i64) t46.1.Received, slv rT_api_Packet t46.1.Held, slv rT_api_Packet t46.1.Flight], oc b49 [slv (rI .i64) t48.1.Items, iv .i64 t48.1.Window, iv .i64 t48.1.Base, slv (rI .i64) t48.1.Received, slv rT_api_Packet t48.1.Held, slv rT_api_Packet t48.1.Flight], oc b52 [slv (rI .i64) t51.1.Items, iv .i64 t51.1.Window, iv .i64 t51.1.Base, slv (rI .i64) t51.1.Received, slv rT_api_Packet t51.1.Held, slv rT_api_Packet t51.1.Flight]] rfl) ?_
  refine n_then (ref_seq (ref_region ?_))
  refine mv1 rfl rfl ?_
  refine s_rd (r_eql rfl rfl) rfl ?_
  refine mv1 rfl rfl ?_
  refine b_split (t := 112) rfl (fun _ => ?_) (fun _ => ?_)
  · refine s_on rfl rfl rfl ?_
    refine s_rd (r_faddr (fo := 3) Try.underlying28 rfl rfl Try.sizeOf22 rfl) rfl ?_
    refine s_on rfl rfl rfl ?_
    refine s_rd (r_cload Try.isAgg22 rfl (j := 3) rfl rfl) rfl ?_
    refine s_on rfl rfl rfl ?_
    refine s_rd (r_faddr (fo := 3) Try.underlying28 rfl rfl Try.sizeOf22 rfl) rfl ?_
    refine s_on rfl rfl rfl ?_
    refine s_rd (r_cload Try.isAgg22 rfl (j := 4) rfl rfl) rfl ?_
    refine s_on rfl rfl rfl ?_
    refine pull fun t53 h_t53 => ?_
    refine s_st (s_call (ψ := fun (_ : Unit) => bv t53) (args := [.tmp 114, .tmp 116]) Try.call14 rfl (keep_Ints_ok h_t53) ⟨arg rfl, arg rfl, trivial⟩ (fun _ _ _ _ h => h)) rfl (fun _ => ?_)
    refine s_rd (r_pickT rfl rfl) rfl ?_
    refine mv1 rfl rfl ?_
    refine b_split (t := 119) rfl (fun _ => ?_) (fun _ => ?_)
    · refine s_on rfl rfl rfl ?_
      refine s_rd (r_faddr (fo := 4) Try.underlying28 rfl rfl Try.sizeOf26 rfl) rfl ?_
      refine s_on rfl rfl rfl ?_
      refine s_rd (r_cload Try.isAgg26 rfl (j := 3) rfl rfl) rfl ?_
      refine s_on rfl rfl rfl ?_
      refine s_rd (r_len Try.underlying26 rfl) rfl ?_
      refine s_on rfl rfl rfl ?_
      refine s_rd (r_faddr (fo := 4) Try.underlying28 rfl rfl Try.sizeOf26 rfl) rfl ?_
      refine s_on rfl rfl rfl ?_
      refine s_rd (r_cload Try.isAgg26 rfl (j := 4) rfl rfl) rfl ?_
      refine s_on rfl rfl rfl ?_
      refine s_rd (r_len Try.underlying26 rfl) rfl ?_
      refine s_on rfl rfl rfl ?_
      refine s_rd (r_eql rfl rfl) rfl ?_
      refine s_rd (r_pickT rfl rfl) rfl ?_
      refine mv1 rfl rfl ?_
      refine b_split (t := 128) rfl (fun _ => ?_) (fun _ => ?_)
      · refine s_on rfl rfl rfl ?_
        refine s_rd (r_faddr (fo := 2) Try.underlying28 rfl rfl Try.sizeOf3 rfl) rfl ?_
        refine s_on rfl rfl rfl ?_
        refine s_rd (r_cload Try.isAgg3 rfl (j := 3) rfl rfl) rfl ?_
        refine s_on rfl rfl rfl ?_
        refine s_rd (r_faddr (fo := 2) Try.underlying28 rfl rfl Try.sizeOf3 rfl) rfl ?_
        refine s_on rfl rfl rfl ?_
        refine s_rd (r_cload Try.isAgg3 rfl (j := 4) rfl rfl) rfl ?_
        refine s_on rfl rfl rfl ?_
        refine s_rd (r_eql rfl rfl) rfl ?_
        refine s_rd (r_pickT rfl rfl) rfl ?_
        refine mv1 rfl rfl ?_
        refine b_split (t := 135) rfl (fun _ => ?_) (fun _ => ?_)
        · refine s_on rfl rfl rfl ?_
          refine pull fun t54 h_t54 => ?_
          refine s_st (s_call (ψ := fun (_ : Unit) => bv t54) (args := []) Try.call7 rfl (law29_awake_ok h_t54) trivial (fun _ _ _ _ h => h)) rfl (fun _ => ?_)
          refine s_rd (r_pickT rfl rfl) rfl ?_
          refine as1 rfl rfl ?_
          refine l_nil (n_then (ref_ret ?_))
          exact fin1 (.inl rfl) () [] rfl trivial rfl (rv_tmp rfl)
        refine s_off rfl rfl rfl rfl rfl ?_
        refine s_rd (r_pickF rfl rfl) rfl ?_
        refine as1 rfl rfl ?_
        refine l_nil (n_then (ref_ret ?_))
        exact fin1 (.inl rfl) () [] rfl trivial rfl (rv_tmp rfl)
      refine s_off rfl rfl rfl rfl rfl ?_
      refine s_off rfl rfl rfl rfl rfl ?_
      refine s_off rfl rfl rfl rfl rfl ?_
      refine s_off rfl rfl rfl rfl rfl ?_
      refine s_off rfl rfl rfl rfl rfl ?_
      refine s_rd (r_pickF rfl rfl) rfl ?_
      refine mv1 rfl rfl ?_
      refine s_off rfl rfl rfl rfl rfl ?_
      refine s_rd (r_pickF rfl rfl) rfl ?_
      refine as1 rfl rfl ?_
      refine l_nil (n_then (ref_ret ?_))
      exact fin1 (.inl rfl) () [] rfl trivial rfl (rv_tmp rfl)
    refine s_off rfl rfl rfl rfl rfl ?_
    refine s_off rfl rfl rfl rfl rfl ?_
    refine s_off rfl rfl rfl rfl rfl ?_
    refine s_off rfl rfl rfl rfl rfl ?_
    refine s_off rfl rfl rfl rfl rfl ?_
    refine s_off rfl rfl rfl rfl rfl ?_
    refine s_off rfl rfl rfl rfl rfl ?_
    refine s_rd (r_pickF rfl rfl) rfl ?_
    refine mv1 rfl rfl ?_
    refine s_off rfl rfl rfl rfl rfl ?_
    refine s_off rfl rfl rfl rfl rfl ?_
    refine s_off rfl rfl rfl rfl rfl ?_
    refine s_off rfl rfl rfl rfl rfl ?_
    refine s_off rfl rfl rfl rfl rfl ?_
    refine s_rd (r_pickF rfl rfl) rfl ?_
    refine mv1 rfl rfl ?_
    refine s_off rfl rfl rfl rfl rfl ?_
    refine s_rd (r_pickF rfl rfl) rfl ?_
    refine as1 rfl rfl ?_
    refine l_nil (n_then (ref_ret ?_))
    exact fin1 (.inl rfl) () [] rfl trivial rfl (rv_tmp rfl)
  refine s_off rfl rfl rfl rfl rfl ?_
  refine s_off rfl rfl rfl rfl rfl ?_
  refine s_off rfl rfl rfl rfl rfl ?_
  refine s_off rfl rfl rfl rfl rfl ?_
  refine s_off rfl rfl rfl rfl rfl ?_
  refine s_rd (r_pickF rfl rfl) rfl ?_
  refine mv1 rfl rfl ?_
  refine s_off rfl rfl rfl rfl rfl ?_
  refine s_off rfl rfl rfl rfl rfl ?_
  refine s_off rfl rfl rfl rfl rfl ?_
  refine s_off rfl rfl rfl rfl rfl ?_
  refine s_off rfl rfl rfl rfl rfl ?_
  refine s_off rfl rfl rfl rfl rfl ?_
  refine s_off rfl rfl rfl rfl rfl ?_
  refine s_rd (r_pickF rfl rfl) rfl ?_
  refine mv1 rfl rfl ?_
  refine s_off rfl rfl rfl rfl rfl ?_
  refine s_off rfl rfl rfl rfl rfl ?_
  refine s_off rfl rfl rfl rfl rfl ?_
  refine s_off rfl rfl rfl rfl rfl ?_
  refine s_off rfl rfl rfl rfl rfl ?_
  refine s_rd (r_pickF rfl rfl) rfl ?_
  refine mv1 rfl rfl ?_
  refine s_off rfl rfl rfl rfl rfl ?_
  refine s_rd (r_pickF rfl rfl) rfl ?_
  refine as1 rfl rfl ?_
  refine l_nil (n_then (ref_ret ?_))
  exact fin1 (.inl rfl) () [] rfl trivial rfl (rv_tmp rfl)

/-! deliberation/channel.Done -/
noncomputable def channel_Done_m (c_0 : T_api_Channel) : Option (Bool) :=
  letM (c_0.Base == (c_0.Items.length : Int)) fun t2 =>
  some t2

theorem channel_Done_ok {c_0 : T_api_Channel} {r : Bool} (hm : channel_Done_m c_0 = some r) :
    FnOk prog 17 [ag [slv (rI .i64) c_0.Items, iv .i64 c_0.Window, iv .i64 c_0.Base, slv (rI .i64) c_0.Received, slv rT_api_Packet c_0.Held, slv rT_api_Packet c_0.Flight]] [] (fun (x : Unit) => [bv r]) (fun (x : Unit) => []) := by
  refine fn_ok (fn := Try.f17) (N := 9) (res := fun r x => [bv r]) (Ω1 := fun r x => []) Try.func17 rfl rfl hm rfl (fun E hM => ?_)
  unfold channel_Done_m
  refine ref_seq (ref_region ?_)
  refine s_st (s_box (part_agO (ψs := [slv (rI .i64) c_0.Items, iv .i64 c_0.Window, iv .i64 c_0.Base, slv (rI .i64) c_0.Received, slv rT_api_Packet c_0.Held, slv rT_api_Packet c_0.Flight]) rfl ⟨.inl slv_at, .inl iv_at, .inl iv_at, .inl slv_at, .inl slv_at, .inl slv_at, trivial⟩)) rfl (fun b1 => ?_)
  refine as1 rfl rfl ?_
  refine l_nil (n_then (ref_seq (ref_region ?_)))
  refine s_rd (r_faddr (fo := 2) Try.underlying28 rfl rfl Try.sizeOf3 rfl) rfl ?_
  refine s_rd (r_cload Try.isAgg3 rfl (j := 0) rfl rfl) rfl ?_
  refine s_rd (r_faddr (fo := 0) Try.underlying28 rfl rfl Try.sizeOf22 rfl) rfl ?_
  refine s_rd (r_cload Try.isAgg22 rfl (j := 0) rfl rfl) rfl ?_
  refine s_rd (r_len Try.underlying22 rfl) rfl ?_
  refine s_rd (r_eql rfl rfl) rfl ?_
  refine as1 rfl rfl ?_
  refine b_let (f := bv) (t := 2) rfl fun t2 => ?_
  refine l_nil (n_then (ref_ret ?_))
  exact fin1 (.inl rfl) () [] rfl trivial rfl (rv_tmp rfl)

/-! deliberation/channel.Finish -/
noncomputable def channel_Finish_l1  (s34 : Int × Int × Int × (List Int) × (List Int) × (List T_api_Packet) × (List T_api_Packet)) : Option (Sum (T_api_Channel × Int) (Int × Int × Int × (List Int) × (List Int) × (List T_api_Packet) × (List T_api_Packet))) :=
  joinM (fun j39 : (List Int) × Int × Int × (List Int) × (List T_api_Packet) × (List T_api_Packet) × Bool =>
      bif j39.2.2.2.2.2.2 then
        some (Sum.inl ((T_api_Channel.mk j39.1 j39.2.1 j39.2.2.1 j39.2.2.2.1 j39.2.2.2.2.1 j39.2.2.2.2.2.1), s34.1))
      else
        Option.bind (channel_line_deliver_m (T_channel_line.mk (T_api_Channel.mk j39.1 j39.2.1 j39.2.2.1 j39.2.2.2.1 j39.2.2.2.2.1 j39.2.2.2.2.2.1)) 0) fun t43 =>
        Option.bind (channel_line_deliver_m t43 0) fun t45 =>
        letM (iadd .i64 s34.1 1) fun rounds47 =>
        bif t45.c.Base == j39.2.2.1 then
          some (Sum.inl (t45.c, rounds47))
        else
          some (Sum.inr (rounds47, t45.c.Window, t45.c.Base, t45.c.Items, t45.c.Received, t45.c.Held, t45.c.Flight))) fun k41 =>
  Option.bind (channel_Done_m (T_api_Channel.mk s34.2.2.2.1 s34.2.1 s34.2.2.1 s34.2.2.2.2.1 s34.2.2.2.2.2.1 [])) fun t36 =>
  bif t36 then
    k41 (s34.2.2.2.1, s34.2.1, s34.2.2.1, s34.2.2.2.2.1, s34.2.2.2.2.2.1, [], true)
  else
    Option.bind (channel_line_send_m (T_channel_line.mk (T_api_Channel.mk s34.2.2.2.1 s34.2.1 s34.2.2.1 s34.2.2.2.2.1 s34.2.2.2.2.2.1 [])) 0) fun t37 =>
    k41 (t37.2.c.Items, t37.2.c.Window, t37.2.c.Base, t37.2.c.Received, t37.2.c.Held, t37.2.c.Flight, t37.1 != 0)

noncomputable def channel_Finish_m (c_0 : T_api_Channel) : Option (T_api_Channel × Int) :=
  Option.bind (channel_copied_m c_0) fun l3 =>
  Option.bind (loopC (channel_Finish_l1) (0, l3.c.Window, l3.c.Base, l3.c.Items, l3.c.Received, l3.c.Held, l3.c.Flight)) (fun a : T_api_Channel × Int => some a)

theorem channel_Finish_ok {c_0 : T_api_Channel} {r : T_api_Channel × Int} (hm : channel_Finish_m c_0 = some r) :
    FnOk prog 16 [ag [slv (rI .i64) c_0.Items, iv .i64 c_0.Window, iv .i64 c_0.Base, slv (rI .i64) c_0.Received, slv rT_api_Packet c_0.Held, slv rT_api_Packet c_0.Flight]] [] (fun (x : Unit) => [ag [slv (rI .i64) r.1.Items, iv .i64 r.1.Window, iv .i64 r.1.Base, slv (rI .i64) r.1.Received, slv rT_api_Packet r.1.Held, slv rT_api_Packet r.1.Flight], iv .i64 r.2]) (fun (x : Unit) => []) := by
  refine fn_ok (fn := Try.f16) (N := 51) (res := fun r x => [ag [slv (rI .i64) r.1.Items, iv .i64 r.1.Window, iv .i64 r.1.Base, slv (rI .i64) r.1.Received, slv rT_api_Packet r.1.Held, slv rT_api_Packet r.1.Flight], iv .i64 r.2]) (Ω1 := fun r x => []) Try.func16 rfl rfl hm rfl (fun E hM => ?_)
  unfold channel_Finish_m
  refine ref_seq (ref_region ?_)
  refine s_st (s_box (part_agO (ψs := [slv (rI .i64) c_0.Items, iv .i64 c_0.Window, iv .i64 c_0.Base, slv (rI .i64) c_0.Received, slv rT_api_Packet c_0.Held, slv rT_api_Packet c_0.Flight]) rfl ⟨.inl slv_at, .inl iv_at, .inl iv_at, .inl slv_at, .inl slv_at, .inl slv_at, trivial⟩)) rfl (fun b1 => ?_)
  refine s_st (s_alloc zt_28) rfl (fun b2 => ?_)
  refine as1 rfl rfl ?_
  refine l_nil (n_then (ref_seq (ref_region ?_)))
  refine s_rd (r_cloadS Try.isAgg28 Try.sizeOf28 rfl (j := 0) rfl rfl rfl) rfl ?_
  refine pull fun l3 h_l3 => ?_
  refine s_st (s_call (ψ := fun (x4 : Nat × (Value × List Nat) × (Value × List Nat) × (Value × List Nat) × (Value × List Nat)) => pv (ptr x4.1 0)) (args := [.tmp 7]) Try.call25 rfl (channel_copied_ok h_l3) ⟨arg rfl, trivial⟩ (fun _ _ _ _ h => h)) rfl (fun x4 => ?_)
  refine as1 rfl rfl ?_
  refine l_nil (n_then (ref_seq (ref_region ?_)))
  refine as1 rfl rfl ?_
  refine l_nil (n_then ?_)
  refine ref_block (ref_loop (f := (channel_Finish_l1)) (Γl := (fun (s34 : Int × Int × Int × (List Int) × (List Int) × (List T_api_Packet) × (List T_api_Packet)) (x35 : (Value × List Nat) × (Value × List Nat) × (Value × List Nat)) => [(2, pv (ptr b2 0)), (4, pv (ptr x4.1 0)), (5, iv .i64 s34.1)])) (Ωl := (fun (s34 : Int × Int × Int × (List Int) × (List Int) × (List T_api_Packet) × (List T_api_Packet)) (x35 : (Value × List Nat) × (Value × List Nat) × (Value × List Nat)) => [oc b2 [pv (.slice none 0 0), iv .i64 0, iv .i64 0, pv (.slice none 0 0), pv (.slice none 0 0), pv (.slice none 0 0)], oc x4.1 [pv x4.2.1.1, iv .i64 s34.2.1, iv .i64 s34.2.2.1, pv x35.1.1, pv x35.2.1.1, pv x35.2.2.1], oa (rI .i64) x4.2.1.1 x4.2.1.2 s34.2.2.2.1, oa (rI .i64) x35.1.1 x35.1.2 s34.2.2.2.2.1, oa rT_api_Packet x35.2.1.1 x35.2.1.2 s34.2.2.2.2.2.1, oa rT_api_Packet x35.2.2.1 x35.2.2.2 s34.2.2.2.2.2.2])) (k := (fun a : T_api_Channel × Int => some a)) (0, l3.c.Window, l3.c.Base, l3.c.Items, l3.c.Received, l3.c.Held, l3.c.Flight) (x4.2.2.1, x4.2.2.2.1, x4.2.2.2.2) (weak [1, 2, 3, 4, 5, 6] ⟨rfl, rfl, rfl, trivial⟩ ⟨rfl, rfl, rfl, rfl, rfl, rfl, trivial⟩) (fun s34 x35 => ?_))
  · unfold channel_Finish_l1
    refine ref_block (ref_seq (ref_region ?_))
    refine mv1 rfl rfl ?_
    refine s_rd (r_nilc rfl) rfl ?_
    refine s_rd (r_faddr (fo := 0) Try.underlying51 rfl rfl Try.sizeOf28 rfl) rfl ?_
    refine s_rd (r_faddr (fo := 5) Try.underlying28 rfl rfl Try.sizeOf26 rfl) rfl ?_
    refine s_st0 (s_cstore (out := [pv x4.2.1.1, iv .i64 s34.2.1, iv .i64 s34.2.2.1, pv x35.1.1, pv x35.2.1.1, pv (.slice none 0 0)]) Try.sizeOf26 rfl (j := 1) rfl (part_at (φ := pv (.slice none 0 0)) rfl (pv_at rfl)) rfl rfl rfl) (fun _ => ?_)
    refine l_nil ?_
    refine b_of (nrm [oc b2 [pv (.slice none 0 0), iv .i64 0, iv .i64 0, pv (.slice none 0 0), pv (.slice none 0 0), pv (.slice none 0 0)], oc x4.1 [pv x4.2.1.1, iv .i64 s34.2.1, iv .i64 s34.2.2.1, pv x35.1.1, pv x35.2.1.1, pv (.slice none 0 0)], oa (rI .i64) x4.2.1.1 x4.2.1.2 s34.2.2.2.1, oa (rI .i64) x35.1.1 x35.1.2 s34.2.2.2.2.1, oa rT_api_Packet x35.2.1.1 x35.2.1.2 s34.2.2.2.2.2.1, oa rT_api_Packet x35.2.2.1 x35.2.2.2 s34.2.2.2.2.2.2] rfl) ?_
    refine n_then (ref_seq (ref_seq ?_))
    refine ref_join (fun (j39 : (List Int) × Int × Int × (List Int) × (List T_api_Packet) × (List T_api_Packet) × Bool) (x40 : (Value × List Nat)) => [(2, pv (ptr b2 0)), (4, pv (ptr x4.1 0)), (5, iv .i64 s34.1), (22, bv j39.2.2.2.2.2.2)]) (fun (j39 : (List Int) × Int × Int × (List Int) × (List T_api_Packet) × (List T_api_Packet) × Bool) (x40 : (Value × List Nat)) => [oc b2 [pv (.slice none 0 0), iv .i64 0, iv .i64 0, pv (.slice none 0 0), pv (.slice none 0 0), pv (.slice none 0 0)], oc x4.1 [pv x4.2.1.1, iv .i64 j39.2.1, iv .i64 j39.2.2.1, pv x35.1.1, pv x35.2.1.1, pv x40.1], oa (rI .i64) x4.2.1.1 x4.2.1.2 j39.1, oa (rI .i64) x35.1.1 x35.1.2 j39.2.2.2.1, oa rT_api_Packet x35.2.1.1 x35.2.1.2 j39.2.2.2.2.1, oa rT_api_Packet x40.1 x40.2 j39.2.2.2.2.2.1]) (fun k41 hk41 => ?_) (fun j39 x40 => ?_)
    · refine ref_region ?_
      refine mv1 rfl rfl ?_
      refine s_rd (r_nilc rfl) rfl ?_
      refine s_rd (r_faddr (fo := 0) Try.underlying51 rfl rfl Try.sizeOf28 rfl) rfl ?_
      refine s_rd (r_cloadS Try.isAgg28 Try.sizeOf28 rfl (j := 1) rfl rfl rfl) rfl ?_
      refine pull fun t36 h_t36 => ?_
      refine s_st (s_callB (ψ := fun (_ : Unit) => bv t36) (args := [.tmp 16]) Try.call17 rfl (channel_Done_ok h_t36) ⟨argAG (ψs := [slv (rI .i64) s34.2.2.2.1, iv .i64 s34.2.1, iv .i64 s34.2.2.1, slv (rI .i64) s34.2.2.2.2.1, slv rT_api_Packet s34.2.2.2.2.2.1, slv rT_api_Packet []]) rfl ⟨.inr (.inl ⟨_, _, _, _, _, 2, rfl, rfl, rfl⟩), .inl rfl, .inl rfl, .inr (.inl ⟨_, _, _, _, _, 3, rfl, rfl, rfl⟩), .inr (.inl ⟨_, _, _, _, _, 4, rfl, rfl, rfl⟩), .inr (.inr ⟨_, _, rfl, rfl⟩), trivial⟩, trivial⟩ (fun _ _ _ _ _ h => h)) rfl (fun _ => ?_)
      refine mv1 rfl rfl ?_
      refine b_split (t := 18) rfl (fun _ => ?_) (fun _ => ?_)
      · refine s_off rfl rfl rfl rfl rfl ?_
        refine s_off rfl rfl rfl rfl rfl ?_
        refine s_off rfl rfl rfl rfl rfl ?_
        refine s_rd (r_pickT rfl rfl) rfl ?_
        refine l_nil ?_
        refine b_of (own_nil rT_api_Packet) ?_
        exact b_to (hk41 (s34.2.2.2.1, s34.2.1, s34.2.2.1, s34.2.2.2.2.1, s34.2.2.2.2.2.1, [], true) ((.slice none 0 0), [])) (weak [0, 1, 2, 3, 4, 6] ⟨rfl, rfl, rfl, rfl, trivial⟩ ⟨rfl, rfl, rfl, rfl, rfl, rfl, trivial⟩)
      refine s_on rfl rfl rfl ?_
      refine mv1 rfl rfl ?_
      refine s_on rfl rfl rfl ?_
      refine b_of (own_nil rT_api_Packet) ?_
      refine pull fun t37 h_t37 => ?_
      refine s_st (s_callC [1, 2, 3, 4, 6] [true, true, true, true, true] (fun (x38 : (Value × List Nat)) => [oc x4.1 [pv x4.2.1.1, iv .i64 t37.2.c.Window, iv .i64 t37.2.c.Base, pv x35.1.1, pv x35.2.1.1, pv x38.1], oa (rI .i64) x4.2.1.1 x4.2.1.2 t37.2.c.Items, oa (rI .i64) x35.1.1 x35.1.2 t37.2.c.Received, oa rT_api_Packet x35.2.1.1 x35.2.1.2 t37.2.c.Held, oa rT_api_Packet x38.1 x38.2 t37.2.c.Flight]) (fun (x38 : (Value × List Nat)) => []) (fun (x38 : (Value × List Nat)) => iv .i64 t37.1) (args := [.tmp 19, .const (.int .i64 (0))]) (caps := []) Try.call26 rfl (channel_line_send_ok (h_4 := ((.slice none 0 0), [])) h_t37) ⟨rfl, rfl, ⟨rfl, rfl, ⟨rfl, rfl, ⟨rfl, rfl, ⟨rfl, rfl, trivial⟩⟩⟩⟩⟩ (fun _ => rfl) (fun _ => trivial) (fun _ => rfl) ⟨arg rfl, arg rfl, trivial⟩ (fun _ _ _ _ h => h)) rfl (fun x38 => ?_)
      refine s_on rfl rfl rfl ?_
      refine s_rd (r_neq rfl rfl) rfl ?_
      refine s_rd (r_pickF rfl rfl) rfl ?_
      refine l_nil ?_
      exact b_to (hk41 (t37.2.c.Items, t37.2.c.Window, t37.2.c.Base, t37.2.c.Received, t37.2.c.Held, t37.2.c.Flight, t37.1 != 0) x38) (weak [0, 1, 2, 3, 4, 6] ⟨rfl, rfl, rfl, rfl, trivial⟩ ⟨rfl, rfl, rfl, rfl, rfl, rfl, trivial⟩)
    refine n_then ?_
    refine ref_cond rfl (fun hb42 => ?_) (fun hb42 => ?_)
    · refine ref_seq (ref_region ?_)
      refine mv1 rfl rfl ?_
      refine s_rd (r_nilc rfl) rfl ?_
      refine s_rd (r_faddr (fo := 0) Try.underlying51 rfl rfl Try.sizeOf28 rfl) rfl ?_
      refine s_rd (r_cloadS Try.isAgg28 Try.sizeOf28 rfl (j := 1) rfl rfl rfl) rfl ?_
      refine mv1 rfl rfl ?_
      refine s_st0 (s_cstore (out := [pv x4.2.1.1, iv .i64 j39.2.1, iv .i64 j39.2.2.1, pv x35.1.1, pv x35.2.1.1, pv x40.1]) Try.sizeOf28 rfl (j := 0) rfl (part_agO (ψs := [pv x4.2.1.1, iv .i64 j39.2.1, iv .i64 j39.2.2.1, pv x35.1.1, pv x35.2.1.1, pv x40.1]) rfl ⟨.inr ⟨_, _, _, _, _, 2, rfl, rfl⟩, .inl iv_at, .inl iv_at, .inr ⟨_, _, _, _, _, 3, rfl, rfl⟩, .inr ⟨_, _, _, _, _, 4, rfl, rfl⟩, .inr ⟨_, _, _, _, _, 5, rfl, rfl⟩, trivial⟩) rfl rfl rfl) (fun _ => ?_)
      refine as1 rfl rfl ?_
      refine l_nil (n_then (ref_ret (r_then (r_block ?_))))
      refine r_loop ?_
      refine r_block ?_
      refine b_of (frzGL [(26, ag [slv (rI .i64) j39.1, iv .i64 j39.2.1, iv .i64 j39.2.2.1, pv x35.1.1, pv x35.2.1.1, pv x40.1])] [(0, b2, [slv (rI .i64) j39.1, iv .i64 j39.2.1, iv .i64 j39.2.2.1, pv x35.1.1, pv x35.2.1.1, pv x40.1]), (1, x4.1, [slv (rI .i64) j39.1, iv .i64 j39.2.1, iv .i64 j39.2.2.1, pv x35.1.1, pv x35.2.1.1, pv x40.1])] (j := 2) rfl ⟨⟨_, rfl, .inr ⟨_, _, rfl, rfl, ⟨.inr ⟨rfl, rfl⟩, .inl rfl, .inl rfl, .inl rfl, .inl rfl, .inl rfl, trivial⟩⟩⟩, trivial⟩ ⟨⟨_, rfl, ⟨.inr ⟨rfl, rfl⟩, .inl rfl, .inl rfl, .inl rfl, .inl rfl, .inl rfl, trivial⟩⟩, ⟨_, rfl, ⟨.inr ⟨rfl, rfl⟩, .inl rfl, .inl rfl, .inl rfl, .inl rfl, .inl rfl, trivial⟩⟩, trivial⟩) ?_
      refine b_of (nrm [oc b2 [slv (rI .i64) j39.1, iv .i64 j39.2.1, iv .i64 j39.2.2.1, pv x35.1.1, pv x35.2.1.1, pv x40.1], oc x4.1 [slv (rI .i64) j39.1, iv .i64 j39.2.1, iv .i64 j39.2.2.1, pv x35.1.1, pv x35.2.1.1, pv x40.1], dead, oa (rI .i64) x35.1.1 x35.1.2 j39.2.2.2.1, oa rT_api_Packet x35.2.1.1 x35.2.1.2 j39.2.2.2.2.1, oa rT_api_Packet x40.1 x40.2 j39.2.2.2.2.2.1] rfl) ?_
      refine b_of (frzGL [(26, ag [slv (rI .i64) j39.1, iv .i64 j39.2.1, iv .i64 j39.2.2.1, slv (rI .i64) j39.2.2.2.1, pv x35.2.1.1, pv x40.1])] [(0, b2, [slv (rI .i64) j39.1, iv .i64 j39.2.1, iv .i64 j39.2.2.1, slv (rI .i64) j39.2.2.2.1, pv x35.2.1.1, pv x40.1]), (1, x4.1, [slv (rI .i64) j39.1, iv .i64 j39.2.1, iv .i64 j39.2.2.1, slv (rI .i64) j39.2.2.2.1, pv x35.2.1.1, pv x40.1])] (j := 3) rfl ⟨⟨_, rfl, .inr ⟨_, _, rfl, rfl, ⟨.inl rfl, .inl rfl, .inl rfl, .inr ⟨rfl, rfl⟩, .inl rfl, .inl rfl, trivial⟩⟩⟩, trivial⟩ ⟨⟨_, rfl, ⟨.inl rfl, .inl rfl, .inl rfl, .inr ⟨rfl, rfl⟩, .inl rfl, .inl rfl, trivial⟩⟩, ⟨_, rfl, ⟨.inl rfl, .inl rfl, .inl rfl, .inr ⟨rfl, rfl⟩, .inl rfl, .inl rfl, trivial⟩⟩, trivial⟩) ?_
      refine b_of (nrm [oc b2 [slv (rI .i64) j39.1, iv .i64 j39.2.1, iv .i64 j39.2.2.1, slv (rI .i64) j39.2.2.2.1, pv x35.2.1.1, pv x40.1], oc x4.1 [slv (rI .i64) j39.1, iv .i64 j39.2.1, iv .i64 j39.2.2.1, slv (rI .i64) j39.2.2.2.1, pv x35.2.1.1, pv x40.1], dead, dead, oa rT_api_Packet x35.2.1.1 x35.2.1.2 j39.2.2.2.2.1, oa rT_api_Packet x40.1 x40.2 j39.2.2.2.2.2.1] rfl) ?_
      refine b_of (frzGL [(26, ag [slv (rI .i64) j39.1, iv .i64 j39.2.1, iv .i64 j39.2.2.1, slv (rI .i64) j39.2.2.2.1, slv rT_api_Packet j39.2.2.2.2.1, pv x40.1])] [(0, b2, [slv (rI .i64) j39.1, iv .i64 j39.2.1, iv .i64 j39.2.2.1, slv (rI .i64) j39.2.2.2.1, slv rT_api_Packet j39.2.2.2.2.1, pv x40.1]), (1, x4.1, [slv (rI .i64) j39.1, iv .i64 j39.2.1, iv .i64 j39.2.2.1, slv (rI .i64) j39.2.2.2.1, slv rT_api_Packet j39.2.2.2.2.1, pv x40.1])] (j := 4) rfl ⟨⟨_, rfl, .inr ⟨_, _, rfl, rfl, ⟨.inl rfl, .inl rfl, .inl rfl, .inl rfl, .inr ⟨rfl, rfl⟩, .inl rfl, trivial⟩⟩⟩, trivial⟩ ⟨⟨_, rfl, ⟨.inl rfl, .inl rfl, .inl rfl, .inl rfl, .inr ⟨rfl, rfl⟩, .inl rfl, trivial⟩⟩, ⟨_, rfl, ⟨.inl rfl, .inl rfl, .inl rfl, .inl rfl, .inr ⟨rfl, rfl⟩, .inl rfl, trivial⟩⟩, trivial⟩) ?_
      refine b_of (nrm [oc b2 [slv (rI .i64) j39.1, iv .i64 j39.2.1, iv .i64 j39.2.2.1, slv (rI .i64) j39.2.2.2.1, slv rT_api_Packet j39.2.2.2.2.1, pv x40.1], oc x4.1 [slv (rI .i64) j39.1, iv .i64 j39.2.1, iv .i64 j39.2.2.1, slv (rI .i64) j39.2.2.2.1, slv rT_api_Packet j39.2.2.2.2.1, pv x40.1], dead, dead, dead, oa rT_api_Packet x40.1 x40.2 j39.2.2.2.2.2.1] rfl) ?_
      refine b_of (frzGL [(26, ag [slv (rI .i64) j39.1, iv .i64 j39.2.1, iv .i64 j39.2.2.1, slv (rI .i64) j39.2.2.2.1, slv rT_api_Packet j39.2.2.2.2.1, slv rT_api_Packet j39.2.2.2.2.2.1])] [(0, b2, [slv (rI .i64) j39.1, iv .i64 j39.2.1, iv .i64 j39.2.2.1, slv (rI .i64) j39.2.2.2.1, slv rT_api_Packet j39.2.2.2.2.1, slv rT_api_Packet j39.2.2.2.2.2.1]), (1, x4.1, [slv (rI .i64) j39.1, iv .i64 j39.2.1, iv .i64 j39.2.2.1, slv (rI .i64) j39.2.2.2.1, slv rT_api_Packet j39.2.2.2.2.1, slv rT_api_Packet j39.2.2.2.2.2.1])] (j := 5) rfl ⟨⟨_, rfl, .inr ⟨_, _, rfl, rfl, ⟨.inl rfl, .inl rfl, .inl rfl, .inl rfl, .inl rfl, .inr ⟨rfl, rfl⟩, trivial⟩⟩⟩, trivial⟩ ⟨⟨_, rfl, ⟨.inl rfl, .inl rfl, .inl rfl, .inl rfl, .inl rfl, .inr ⟨rfl, rfl⟩, trivial⟩⟩, ⟨_, rfl, ⟨.inl rfl, .inl rfl, .inl rfl, .inl rfl, .inl rfl, .inr ⟨rfl, rfl⟩, trivial⟩⟩, trivial⟩) ?_
      refine b_of (nrm [oc b2 [slv (rI .i64) j39.1, iv .i64 j39.2.1, iv .i64 j39.2.2.1, slv (rI .i64) j39.2.2.2.1, slv rT_api_Packet j39.2.2.2.2.1, slv rT_api_Packet j39.2.2.2.2.2.1], oc x4.1 [slv (rI .i64) j39.1, iv .i64 j39.2.1, iv .i64 j39.2.2.1, slv (rI .i64) j39.2.2.2.1, slv rT_api_Packet j39.2.2.2.2.1, slv rT_api_Packet j39.2.2.2.2.2.1], dead, dead, dead, dead] rfl) ?_
      exact fin2 (.inl rfl) () [] rfl trivial rfl (rv_cell rfl (j := 0) rfl Try.isAgg28 Try.sizeOf28 rfl rfl) (rv_tmp rfl)
    refine ref_skip (n_then (ref_seq (ref_region ?_)))
    refine mv1 rfl rfl ?_
    refine s_rd (r_nilc rfl) rfl ?_
    refine s_rd (r_faddr (fo := 0) Try.underlying51 rfl rfl Try.sizeOf28 rfl) rfl ?_
    refine s_rd (r_faddr (fo := 2) Try.underlying28 rfl rfl Try.sizeOf3 rfl) rfl ?_
    refine s_rd (r_cload Try.isAgg3 rfl (j := 1) rfl rfl) rfl ?_
    refine as1 rfl rfl ?_
    refine l_nil (n_then (ref_seq (ref_region ?_)))
    refine mv1 rfl rfl ?_
    refine pull fun t43 h_t43 => ?_
    refine s_st (s_callC [1, 2, 3, 4, 5] [true, true, true, true, true] (fun (x44 : (Value × List Nat) × (Value × List Nat) × (Value × List Nat)) => [oc x4.1 [pv x4.2.1.1, iv .i64 t43.c.Window, iv .i64 t43.c.Base, pv x44.1.1, pv x44.2.1.1, pv x44.2.2.1], oa (rI .i64) x4.2.1.1 x4.2.1.2 t43.c.Items, oa (rI .i64) x44.1.1 x44.1.2 t43.c.Received, oa rT_api_Packet x44.2.1.1 x44.2.1.2 t43.c.Held, oa rT_api_Packet x44.2.2.1 x44.2.2.2 t43.c.Flight]) (fun (x44 : (Value × List Nat) × (Value × List Nat) × (Value × List Nat)) => []) (fun (x44 : (Value × List Nat) × (Value × List Nat) × (Value × List Nat)) => tup []) (args := [.tmp 33, .const (.int .i64 (0))]) (caps := []) Try.call27 rfl (channel_line_deliver_ok h_t43) ⟨rfl, rfl, ⟨rfl, rfl, ⟨rfl, rfl, ⟨rfl, rfl, ⟨rfl, rfl, trivial⟩⟩⟩⟩⟩ (fun _ => rfl) (fun _ => trivial) (fun _ => rfl) ⟨arg rfl, arg rfl, trivial⟩ (fun _ _ _ _ h => h)) rfl (fun x44 => ?_)
    refine l_nil (n_then (ref_seq (ref_region ?_)))
    refine mv1 rfl rfl ?_
    refine pull fun t45 h_t45 => ?_
    refine s_st (s_callC [1, 2, 3, 4, 5] [true, true, true, true, true] (fun (x46 : (Value × List Nat) × (Value × List Nat) × (Value × List Nat)) => [oc x4.1 [pv x4.2.1.1, iv .i64 t45.c.Window, iv .i64 t45.c.Base, pv x46.1.1, pv x46.2.1.1, pv x46.2.2.1], oa (rI .i64) x4.2.1.1 x4.2.1.2 t45.c.Items, oa (rI .i64) x46.1.1 x46.1.2 t45.c.Received, oa rT_api_Packet x46.2.1.1 x46.2.1.2 t45.c.Held, oa rT_api_Packet x46.2.2.1 x46.2.2.2 t45.c.Flight]) (fun (x46 : (Value × List Nat) × (Value × List Nat) × (Value × List Nat)) => []) (fun (x46 : (Value × List Nat) × (Value × List Nat) × (Value × List Nat)) => tup []) (args := [.tmp 35, .const (.int .i64 (0))]) (caps := []) Try.call27 rfl (channel_line_deliver_ok h_t45) ⟨rfl, rfl, ⟨rfl, rfl, ⟨rfl, rfl, ⟨rfl, rfl, ⟨rfl, rfl, trivial⟩⟩⟩⟩⟩ (fun _ => rfl) (fun _ => trivial) (fun _ => rfl) ⟨arg rfl, arg rfl, trivial⟩ (fun _ _ _ _ h => h)) rfl (fun x46 => ?_)
    refine l_nil (n_then (ref_seq (ref_region ?_)))
    refine mv1 rfl rfl ?_
    refine s_rd (r_add rfl rfl) rfl ?_
    refine as1 rfl rfl ?_
    refine b_let (f := iv .i64) (t := 5) rfl fun rounds47 => ?_
    refine l_nil (n_then (ref_seq (ref_region ?_)))
    refine mv1 rfl rfl ?_
    refine s_rd (r_nilc rfl) rfl ?_
    refine s_rd (r_faddr (fo := 0) Try.underlying51 rfl rfl Try.sizeOf28 rfl) rfl ?_
    refine s_rd (r_faddr (fo := 2) Try.underlying28 rfl rfl Try.sizeOf3 rfl) rfl ?_
    refine s_rd (r_cload Try.isAgg3 rfl (j := 1) rfl rfl) rfl ?_
    refine mv1 rfl rfl ?_
    refine s_rd (r_eql rfl rfl) rfl ?_
    refine l_nil (n_then ?_)
    refine ref_cond rfl (fun hb48 => ?_) (fun hb48 => ?_)
    · refine ref_seq (ref_region ?_)
      refine mv1 rfl rfl ?_
      refine s_rd (r_nilc rfl) rfl ?_
      refine s_rd (r_faddr (fo := 0) Try.underlying51 rfl rfl Try.sizeOf28 rfl) rfl ?_
      refine s_rd (r_cloadS Try.isAgg28 Try.sizeOf28 rfl (j := 1) rfl rfl rfl) rfl ?_
      refine mv1 rfl rfl ?_
      refine s_st0 (s_cstore (out := [pv x4.2.1.1, iv .i64 t45.c.Window, iv .i64 t45.c.Base, pv x46.1.1, pv x46.2.1.1, pv x46.2.2.1]) Try.sizeOf28 rfl (j := 0) rfl (part_agO (ψs := [pv x4.2.1.1, iv .i64 t45.c.Window, iv .i64 t45.c.Base, pv x46.1.1, pv x46.2.1.1, pv x46.2.2.1]) rfl ⟨.inr ⟨_, _, _, _, _, 2, rfl, rfl⟩, .inl iv_at, .inl iv_at, .inr ⟨_, _, _, _, _, 3, rfl, rfl⟩, .inr ⟨_, _, _, _, _, 4, rfl, rfl⟩, .inr ⟨_, _, _, _, _, 5, rfl, rfl⟩, trivial⟩) rfl rfl rfl) (fun _ => ?_)
      refine as1 rfl rfl ?_
      refine l_nil (n_then (ref_ret (r_block ?_)))
      refine r_loop ?_
      refine r_block ?_
      refine b_of (frzGL [(49, ag [slv (rI .i64) t45.c.Items, iv .i64 t45.c.Window, iv .i64 t45.c.Base, pv x46.1.1, pv x46.2.1.1, pv x46.2.2.1])] [(0, b2, [slv (rI .i64) t45.c.Items, iv .i64 t45.c.Window, iv .i64 t45.c.Base, pv x46.1.1, pv x46.2.1.1, pv x46.2.2.1]), (1, x4.1, [slv (rI .i64) t45.c.Items, iv .i64 t45.c.Window, iv .i64 t45.c.Base, pv x46.1.1, pv x46.2.1.1, pv x46.2.2.1])] (j := 2) rfl ⟨⟨_, rfl, .inr ⟨_, _, rfl, rfl, ⟨.inr ⟨rfl, rfl⟩, .inl rfl, .inl rfl, .inl rfl, .inl rfl, .inl rfl, trivial⟩⟩⟩, trivial⟩ ⟨⟨_, rfl, ⟨.inr ⟨rfl, rfl⟩, .inl rfl, .inl rfl, .inl rfl, .inl rfl, .inl rfl, trivial⟩⟩, ⟨_, rfl, ⟨.inr ⟨rfl, rfl⟩, .inl rfl, .inl rfl, .inl rfl, .inl rfl, .inl rfl, trivial⟩⟩, trivial⟩) ?_
      refine b_of (nrm [oc b2 [slv (rI .i64) t45.c.Items, iv .i64 t45.c.Window, iv .i64 t45.c.Base, pv x46.1.1, pv x46.2.1.1, pv x46.2.2.1], oc x4.1 [slv (rI .i64) t45.c.Items, iv .i64 t45.c.Window, iv .i64 t45.c.Base, pv x46.1.1, pv x46.2.1.1, pv x46.2.2.1], dead, oa (rI .i64) x46.1.1 x46.1.2 t45.c.Received, oa rT_api_Packet x46.2.1.1 x46.2.1.2 t45.c.Held, oa rT_api_Packet x46.2.2.1 x46.2.2.2 t45.c.Flight] rfl) ?_
      refine b_of (frzGL [(49, ag [slv (rI .i64) t45.c.Items, iv .i64 t45.c.Window, iv .i64 t45.c.Base, slv (rI .i64) t45.c.Received, pv x46.2.1.1, pv x46.2.2.1])] [(0, b2, [slv (rI .i64) t45.c.Items, iv .i64 t45.c.Window, iv .i64 t45.c.Base, slv (rI .i64) t45.c.Received, pv x46.2.1.1, pv x46.2.2.1]), (1, x4.1, [slv (rI .i64) t45.c.Items, iv .i64 t45.c.Window, iv .i64 t45.c.Base, slv (rI .i64) t45.c.Received, pv x46.2.1.1, pv x46.2.2.1])] (j := 3) rfl ⟨⟨_, rfl, .inr ⟨_, _, rfl, rfl, ⟨.inl rfl, .inl rfl, .inl rfl, .inr ⟨rfl, rfl⟩, .inl rfl, .inl rfl, trivial⟩⟩⟩, trivial⟩ ⟨⟨_, rfl, ⟨.inl rfl, .inl rfl, .inl rfl, .inr ⟨rfl, rfl⟩, .inl rfl, .inl rfl, trivial⟩⟩, ⟨_, rfl, ⟨.inl rfl, .inl rfl, .inl rfl, .inr ⟨rfl, rfl⟩, .inl rfl, .inl rfl, trivial⟩⟩, trivial⟩) ?_
      refine b_of (nrm [oc b2 [slv (rI .i64) t45.c.Items, iv .i64 t45.c.Window, iv .i64 t45.c.Base, slv (rI .i64) t45.c.Received, pv x46.2.1.1, pv x46.2.2.1], oc x4.1 [slv (rI .i64) t45.c.Items, iv .i64 t45.c.Window, iv .i64 t45.c.Base, slv (rI .i64) t45.c.Received, pv x46.2.1.1, pv x46.2.2.1], dead, dead, oa rT_api_Packet x46.2.1.1 x46.2.1.2 t45.c.Held, oa rT_api_Packet x46.2.2.1 x46.2.2.2 t45.c.Flight] rfl) ?_
      refine b_of (frzGL [(49, ag [slv (rI .i64) t45.c.Items, iv .i64 t45.c.Window, iv .i64 t45.c.Base, slv (rI .i64) t45.c.Received, slv rT_api_Packet t45.c.Held, pv x46.2.2.1])] [(0, b2, [slv (rI .i64) t45.c.Items, iv .i64 t45.c.Window, iv .i64 t45.c.Base, slv (rI .i64) t45.c.Received, slv rT_api_Packet t45.c.Held, pv x46.2.2.1]), (1, x4.1, [slv (rI .i64) t45.c.Items, iv .i64 t45.c.Window, iv .i64 t45.c.Base, slv (rI .i64) t45.c.Received, slv rT_api_Packet t45.c.Held, pv x46.2.2.1])] (j := 4) rfl ⟨⟨_, rfl, .inr ⟨_, _, rfl, rfl, ⟨.inl rfl, .inl rfl, .inl rfl, .inl rfl, .inr ⟨rfl, rfl⟩, .inl rfl, trivial⟩⟩⟩, trivial⟩ ⟨⟨_, rfl, ⟨.inl rfl, .inl rfl, .inl rfl, .inl rfl, .inr ⟨rfl, rfl⟩, .inl rfl, trivial⟩⟩, ⟨_, rfl, ⟨.inl rfl, .inl rfl, .inl rfl, .inl rfl, .inr ⟨rfl, rfl⟩, .inl rfl, trivial⟩⟩, trivial⟩) ?_
      refine b_of (nrm [oc b2 [slv (rI .i64) t45.c.Items, iv .i64 t45.c.Window, iv .i64 t45.c.Base, slv (rI .i64) t45.c.Received, slv rT_api_Packet t45.c.Held, pv x46.2.2.1], oc x4.1 [slv (rI .i64) t45.c.Items, iv .i64 t45.c.Window, iv .i64 t45.c.Base, slv (rI .i64) t45.c.Received, slv rT_api_Packet t45.c.Held, pv x46.2.2.1], dead, dead, dead, oa rT_api_Packet x46.2.2.1 x46.2.2.2 t45.c.Flight] rfl) ?_
      refine b_of (frzGL [(49, ag [slv (rI .i64) t45.c.Items, iv .i64 t45.c.Window, iv .i64 t45.c.Base, slv (rI .i64) t45.c.Received, slv rT_api_Packet t45.c.Held, slv rT_api_Packet t45.c.Flight])] [(0, b2, [slv (rI .i64) t45.c.Items, iv .i64 t45.c.Window, iv .i64 t45.c.Base, slv (rI .i64) t45.c.Received, slv rT_api_Packet t45.c.Held, slv rT_api_Packet t45.c.Flight]), (1, x4.1, [slv (rI .i64) t45.c.Items, iv .i64 t45.c.Window, iv .i64 t45.c.Base, slv (rI .i64) t45.c.Received, slv rT_api_Packet t45.c.Held, slv rT_api_Packet t45.c.Flight])] (j := 5) rfl ⟨⟨_, rfl, .inr ⟨_, _, rfl, rfl, ⟨.inl rfl, .inl rfl, .inl rfl, .inl rfl, .inl rfl, .inr ⟨rfl, rfl⟩, trivial⟩⟩⟩, trivial⟩ ⟨⟨_, rfl, ⟨.inl rfl, .inl rfl, .inl rfl, .inl rfl, .inl rfl, .inr ⟨rfl, rfl⟩, trivial⟩⟩, ⟨_, rfl, ⟨.inl rfl, .inl rfl, .inl rfl, .inl rfl, .inl rfl, .inr ⟨rfl, rfl⟩, trivial⟩⟩, trivial⟩) ?_
      refine b_of (nrm [oc b2 [slv (rI .i64) t45.c.Items, iv .i64 t45.c.Window, iv .i64 t45.c.Base, slv (rI .i64) t45.c.Received, slv rT_api_Packet t45.c.Held, slv rT_api_Packet t45.c.Flight], oc x4.1 [slv (rI .i64) t45.c.Items, iv .i64 t45.c.Window, iv .i64 t45.c.Base, slv (rI .i64) t45.c.Received, slv rT_api_Packet t45.c.Held, slv rT_api_Packet t45.c.Flight], dead, dead, dead, dead] rfl) ?_
      exact fin2 (.inl rfl) () [] rfl trivial rfl (rv_cell rfl (j := 0) rfl Try.isAgg28 Try.sizeOf28 rfl rfl) (rv_tmp rfl)
    refine ref_skip (n_block ?_)
    exact n_loop (x46.1, x46.2.1, x46.2.2) (weak [0, 1, 2, 3, 4, 5] ⟨rfl, rfl, rfl, trivial⟩ ⟨rfl, rfl, rfl, rfl, rfl, rfl, trivial⟩)

/-! deliberation/deliberationlaw29.ChannelFinishes -/
noncomputable def law29_ChannelFinishes_l1  (s29 : Int × T_deliberationkeep_Src × T_api_Channel) : Option (Sum (T_api_Channel) (Int × T_deliberationkeep_Src × T_api_Channel)) :=
  bif decide (s29.1 < 40) then
    Option.bind (keep_Src_More_m s29.2.1) fun t31 =>
    bif t31 then
      Option.bind (law29_event_m s29.2.1 s29.2.2) fun t34 =>
      Option.bind (channel_Step_m s29.2.2 t34.1) fun t35 =>
      bif t35.2 == 0 then
        letM (iadd .i64 s29.1 1) fun i38 =>
        some (Sum.inr (i38, t34.2, t35.1))
      else
        letM (iadd .i64 s29.1 1) fun i39 =>
        some (Sum.inr (i39, t34.2, s29.2.2))
    else
      some (Sum.inl s29.2.2)
  else
    some (Sum.inl s29.2.2)

noncomputable def law29_ChannelFinishes_m (items_0 : (List Int)) (l_1 : (List Int)) : Option (Bool) :=
  bif decide ((items_0.length : Int) > 60) then
    Option.bind (law29_awake_m ) fun t2 =>
    some t2
  else
    Option.bind (keep_New_m l_1) fun s3 =>
    Option.bind (keep_Src_Range_m s3 1 8) fun t5 =>
    Option.bind (channel_New_m items_0 t5.1) fun t6 =>
    bif t6.2 != 0 then
      some false
    else
      Option.bind (loopC (law29_ChannelFinishes_l1) (0, t5.2, t6.1)) fun q40 : T_api_Channel =>
      Option.bind (channel_Finish_m q40) fun t42 =>
      Option.bind (channel_Done_m t42.1) fun t44 =>
      bif t44 then
        Option.bind (keep_Ints_m t42.1.Received items_0) fun t45 =>
        bif t45 then
          bif (t42.1.Flight.length : Int) == 0 then
            bif decide (t42.2 ≤ (isub .i64 (items_0.length : Int) q40.Base)) then
              Option.bind (law29_awake_m ) fun t46 =>
              some t46
            else
              some false
          else
            some false
        else
          some false
      else
        some false

theorem law29_ChannelFinishes_ok {items_0 : (List Int)} {l_1 : (List Int)} {r : Bool} (hm : law29_ChannelFinishes_m items_0 l_1 = some r) :
    FnOk prog 5 [slv (rI .i64) items_0, slv (rI .i64) l_1] [] (fun (x : Unit) => [bv r]) (fun (x : Unit) => []) := by
  refine fn_ok (fn := Try.f5) (N := 78) (res := fun r x => [bv r]) (Ω1 := fun r x => []) Try.func5 rfl rfl hm rfl (fun E hM => ?_)
  unfold law29_ChannelFinishes_m
  refine ref_seq (ref_region ?_)
  refine as1 rfl rfl ?_
  refine l_nil (n_then (ref_seq (ref_seq (ref_region ?_))))
  refine mv1 rfl rfl ?_
  refine s_rd (r_len Try.underlying22 rfl) rfl ?_
  refine s_rd (r_gtr rfl rfl) rfl ?_
  refine l_nil (n_then ?_)
  refine ref_cond rfl (fun hb1 => ?_) (fun hb1 => ?_)
  · refine ref_seq (ref_region ?_)
    refine pull fun t2 h_t2 => ?_
    refine s_st (s_call (ψ := fun (_ : Unit) => bv t2) (args := []) Try.call7 rfl (law29_awake_ok h_t2) trivial (fun _ _ _ _ h => h)) rfl (fun _ => ?_)
    refine as1 rfl rfl ?_
    refine l_nil (n_then (ref_ret (r_then ?_)))
    exact fin1 (.inl rfl) () [] rfl trivial rfl (rv_tmp rfl)
  refine ref_skip (n_then (ref_seq (ref_region ?_)))
  refine mv1 rfl rfl ?_
  refine pull fun s3 h_s3 => ?_
  refine s_st (s_call (ψ := fun (x4 : Nat) => pv (ptr x4 0)) (args := [.tmp 17]) Try.call8 rfl (keep_New_ok h_s3) ⟨arg rfl, trivial⟩ (fun _ _ _ _ h => h)) rfl (fun x4 => ?_)
  refine as1 rfl rfl ?_
  refine l_nil (n_then (ref_seq (ref_region ?_)))
  refine mv1 rfl rfl ?_
  refine mv1 rfl rfl ?_
  refine pull fun t5 h_t5 => ?_
  refine s_st (s_callC [0] [true] (fun (_ : Unit) => [oc x4 [slv (rI .i64) t5.2.L, iv .i64 t5.2.At]]) (fun (_ : Unit) => []) (fun (_ : Unit) => iv .i64 t5.1) (args := [.tmp 21, .const (.int .i64 (1)), .const (.int .i64 (8))]) (caps := []) Try.call10 rfl (keep_Src_Range_ok h_t5) ⟨rfl, rfl, trivial⟩ (fun _ => rfl) (fun _ => trivial) (fun _ => rfl) ⟨arg rfl, arg rfl, arg rfl, trivial⟩ (fun _ _ _ _ h => h)) rfl (fun _ => ?_)
  refine pull fun t6 h_t6 => ?_
  refine s_st (s_call (ψ := fun (_ : Unit) => tup [ag [slv (rI .i64) t6.1.Items, iv .i64 t6.1.Window, iv .i64 t6.1.Base, slv (rI .i64) t6.1.Received, slv rT_api_Packet t6.1.Held, slv rT_api_Packet t6.1.Flight], iv .i64 t6.2]) (args := [.tmp 20, .tmp 22]) Try.call9 rfl (channel_New_ok h_t6) ⟨arg rfl, arg rfl, trivial⟩ (fun _ _ _ _ h => h)) rfl (fun _ => ?_)
  refine mv1 rfl rfl ?_
  refine s_rd (r_extract rfl rfl) rfl ?_
  refine s_rd (r_extract rfl rfl) rfl ?_
  refine s_st (s_alloc zt_28) rfl (fun b7 => ?_)
  refine s_st0 (s_cstore (out := [slv (rI .i64) t6.1.Items, iv .i64 t6.1.Window, iv .i64 t6.1.Base, slv (rI .i64) t6.1.Received, slv rT_api_Packet t6.1.Held, slv rT_api_Packet t6.1.Flight]) Try.sizeOf28 rfl (j := 1) rfl (part_agO (ψs := [slv (rI .i64) t6.1.Items, iv .i64 t6.1.Window, iv .i64 t6.1.Base, slv (rI .i64) t6.1.Received, slv rT_api_Packet t6.1.Held, slv rT_api_Packet t6.1.Flight]) rfl ⟨.inl slv_at, .inl iv_at, .inl iv_at, .inl slv_at, .inl slv_at, .inl slv_at, trivial⟩) rfl rfl rfl) (fun _ => ?_)
  refine as1 rfl rfl ?_
  refine l_nil ?_
  refine b_of (nrm [oc x4 [slv (rI .i64) t5.2.L, iv .i64 t5.2.At], oc b7 [slv (rI .i64) t6.1.Items, iv .i64 t6.1.Window, iv .i64 t6.1.Base, slv (rI .i64) t6.1.Received, slv rT_api_Packet t6.1.Held, slv rT_api_Packet t6.1.Flight]] rfl) ?_
  refine n_then (ref_seq (ref_seq (ref_region ?_)))
  refine mv1 rfl rfl ?_
  refine s_rd (r_neq rfl rfl) rfl ?_
  refine l_nil (n_then ?_)
  refine ref_cond rfl (fun hb8 => ?_) (fun hb8 => ?_)
  · refine ref_seq (ref_region ?_)
    refine as1 rfl rfl ?_
    refine l_nil (n_then (ref_ret (r_then ?_)))
    exact fin1 (.inl rfl) () [] rfl trivial rfl (rv_tmp rfl)
  refine ref_skip (n_then (ref_seq (ref_seq (ref_region ?_))))
  refine as1 rfl rfl ?_
  refine l_nil (n_then ?_)
  refine ref_loopB (f := (law29_ChannelFinishes_l1)) (Γl := (fun (s29 : Int × T_deliberationkeep_Src × T_api_Channel) (x30 : Unit) => [(0, slv (rI .i64) items_0), (5, pv (ptr x4 0)), (6, pv (ptr b7 0)), (8, iv .i64 s29.1)])) (Ωl := (fun (s29 : Int × T_deliberationkeep_Src × T_api_Channel) (x30 : Unit) => [oc x4 [slv (rI .i64) s29.2.1.L, iv .i64 s29.2.1.At], oc b7 [slv (rI .i64) s29.2.2.Items, iv .i64 s29.2.2.Window, iv .i64 s29.2.2.Base, slv (rI .i64) s29.2.2.Received, slv rT_api_Packet s29.2.2.Held, slv rT_api_Packet s29.2.2.Flight]])) (Γb := (fun (q40 : T_api_Channel) (y41 : Unit) => [(0, slv (rI .i64) items_0), (6, pv (ptr b7 0))])) (Ωb := (fun (q40 : T_api_Channel) (y41 : Unit) => [oc b7 [slv (rI .i64) q40.Items, iv .i64 q40.Window, iv .i64 q40.Base, slv (rI .i64) q40.Received, slv rT_api_Packet q40.Held, slv rT_api_Packet q40.Flight]])) (0, t5.2, t6.1) () (weak [0, 1] ⟨rfl, rfl, rfl, rfl, trivial⟩ ⟨rfl, rfl, trivial⟩) (fun s29 x30 => ?_) (fun q40 y41 => ?_)
  · unfold law29_ChannelFinishes_l1
    refine ref_seq (ref_seq (ref_region ?_))
    refine mv1 rfl rfl ?_
    refine s_rd (r_lss rfl rfl) rfl ?_
    refine mv1 rfl rfl ?_
    refine b_split (t := 30) rfl (fun _ => ?_) (fun _ => ?_)
    · refine s_on rfl rfl rfl ?_
      refine mv1 rfl rfl ?_
      refine s_on rfl rfl rfl ?_
      refine pull fun t31 h_t31 => ?_
      refine s_st (s_callC [0] [true] (fun (_ : Unit) => [oc x4 [slv (rI .i64) s29.2.1.L, iv .i64 s29.2.1.At]]) (fun (_ : Unit) => []) (fun (_ : Unit) => bv t31) (args := [.tmp 31]) (caps := []) Try.call11 rfl (keep_Src_More_ok h_t31) ⟨rfl, rfl, trivial⟩ (fun _ => rfl) (fun _ => trivial) (fun _ => rfl) ⟨arg rfl, trivial⟩ (fun _ _ _ _ h => h)) rfl (fun _ => ?_)
      refine s_rd (r_pickT rfl rfl) rfl ?_
      refine l_nil (n_then ?_)
      refine ref_cond rfl (fun hb32 => ?_) (fun hb32 => ?_)
      · refine ref_skip (n_then (ref_seq (ref_block (ref_seq ?_))))
        refine pull fun t34 h_t34 => ?_
        refine pull fun t35 h_t35 => ?_
        refine ref_drawI 1 [⟨[], [], [], [1], [], fun us u => ag [slv (rI .i64) s29.2.2.Items, iv .i64 s29.2.2.Window, iv .i64 s29.2.2.Base, slv (rI .i64) s29.2.2.Received, slv rT_api_Packet s29.2.2.Held, slv rT_api_Packet s29.2.2.Flight], fun us u => []⟩, ⟨[], [], [], [], [], fun us u => pv (ptr x4 0), fun us u => []⟩, ⟨[], [], [], [1], [], fun us u => ag [slv (rI .i64) s29.2.2.Items, iv .i64 s29.2.2.Window, iv .i64 s29.2.2.Base, slv (rI .i64) s29.2.2.Received, slv rT_api_Packet s29.2.2.Held, slv rT_api_Packet s29.2.2.Flight], fun us u => []⟩, ⟨[1, 2], [], [0], [0], [0], fun us u => ag [iv .i64 t34.1.Kind, iv .i64 t34.1.N], fun us u => [oc x4 [slv (rI .i64) t34.2.L, iv .i64 t34.2.At]]⟩, ⟨[0, 1, 2, 3], [], [], [], [], fun us u => tup [ag [slv (rI .i64) t35.1.Items, iv .i64 t35.1.Window, iv .i64 t35.1.Base, slv (rI .i64) t35.1.Received, slv rT_api_Packet t35.1.Held, slv rT_api_Packet t35.1.Flight], iv .i64 t35.2], fun us u => []⟩, ⟨[0, 1, 2, 3, 4], [], [], [], [], fun us u => tup [ag [slv (rI .i64) t35.1.Items, iv .i64 t35.1.Window, iv .i64 t35.1.Base, slv (rI .i64) t35.1.Received, slv rT_api_Packet t35.1.Held, slv rT_api_Packet t35.1.Flight], iv .i64 t35.2], fun us u => []⟩, ⟨[0, 1, 2, 3, 4, 5], [], [], [], [], fun us u => ag [slv (rI .i64) t35.1.Items, iv .i64 t35.1.Window, iv .i64 t35.1.Base, slv (rI .i64) t35.1.Received, slv rT_api_Packet t35.1.Held, slv rT_api_Packet t35.1.Flight], fun us u => []⟩, ⟨[0, 1, 2, 3, 4, 5], [], [], [], [], fun us u => iv .i64 t35.2, fun us u => []⟩, ⟨[], [], [2], [2], [], fun us u => pv (ptr u.Nn 0), fun us u => [oc u.Nn [pv (.slice none 0 0), iv .i64 0, iv .i64 0, pv (.slice none 0 0), pv (.slice none 0 0), pv (.slice none 0 0)]]⟩, ⟨[0, 1, 2, 3, 4, 5, 6, 8], [8], [2], [2], [2], fun us u => pv undef, fun us u => [oc (us.getD 0 .none).Nn [slv (rI .i64) t35.1.Items, iv .i64 t35.1.Window, iv .i64 t35.1.Base, slv (rI .i64) t35.1.Received, slv rT_api_Packet t35.1.Held, slv rT_api_Packet t35.1.Flight]]⟩, ⟨[0, 1, 2, 3, 4, 5, 6, 7, 8, 9], [], [], [], [], fun us u => iv .i64 t35.2, fun us u => []⟩] (fun χ33 => [(0, slv (rI .i64) items_0), (5, pv (ptr x4 0)), (6, pv (ptr b7 0)), (8, iv .i64 s29.1), (9, pv (ptr (χ33 8).Nn 0)), (10, iv .i64 t35.2), (31, pv (ptr x4 0)), (32, bv t31)]) (fun χ33 => [oc x4 [slv (rI .i64) t34.2.L, iv .i64 t34.2.At], oc b7 [slv (rI .i64) s29.2.2.Items, iv .i64 s29.2.2.Window, iv .i64 s29.2.2.Base, slv (rI .i64) s29.2.2.Received, slv rT_api_Packet s29.2.2.Held, slv rT_api_Packet s29.2.2.Flight], oc (χ33 8).Nn [slv (rI .i64) t35.1.Items, iv .i64 t35.1.Window, iv .i64 t35.1.Base, slv (rI .i64) t35.1.Received, slv rT_api_Packet t35.1.Held, slv rT_api_Packet t35.1.Flight]]) rfl (by kernel_rfl) ⟨fun χ33 Ω ⟨h1, _⟩ => St.toR (r_cloadS Try.isAgg28 Try.sizeOf28 rfl (j := 1) h1 rfl rfl) (fun _ => rfl) (fun _ => rfl), (by intro _ h; cases h; rfl), ⟨fun χ33 Ω _ => St.toR (r_move rfl) (fun _ => rfl) (fun _ => rfl), (by intro _ h; cases h; rfl), ⟨fun χ33 Ω ⟨h1, _⟩ => St.toR (r_cloadS Try.isAgg28 Try.sizeOf28 rfl (j := 1) h1 rfl rfl) (fun _ => rfl) (fun _ => rfl), (by intro _ h; cases h; rfl), ⟨fun χ33 Ω ⟨h0, _⟩ => St.to XU.U XU.hU (St.placeL [] (s_callC [0] [true] (fun (_ : Unit) => [oc x4 [slv (rI .i64) t34.2.L, iv .i64 t34.2.At]]) (fun (_ : Unit) => []) (fun (_ : Unit) => ag [iv .i64 t34.1.Kind, iv .i64 t34.1.N]) (args := [.tmp 38, .tmp 39]) (caps := []) Try.call13 rfl (law29_event_ok h_t34) ⟨h0, rfl, trivial⟩ (fun _ => rfl) (fun _ => trivial) (fun _ => rfl) ⟨arg rfl, arg rfl, trivial⟩ (fun _ _ _ _ h => h)) (fun _ => rfl) (fun _ => trivial)) (fun _ => rfl) (fun _ => rfl), (by intro _ h; cases h; rfl), ⟨fun χ33 Ω _ => St.to XU.U XU.hU (St.placeL [] (s_call (ψ := fun (_ : Unit) => tup [ag [slv (rI .i64) t35.1.Items, iv .i64 t35.1.Window, iv .i64 t35.1.Base, slv (rI .i64) t35.1.Received, slv rT_api_Packet t35.1.Held, slv rT_api_Packet t35.1.Flight], iv .i64 t35.2]) (args := [.tmp 37, .tmp 40]) Try.call12 rfl (channel_Step_ok h_t35) ⟨arg rfl, arg rfl, trivial⟩ (fun _ _ _ _ h => h)) (fun _ => rfl) (fun _ => trivial)) (fun _ => rfl) (fun _ => rfl), (by intro _ h; cases h; rfl), ⟨fun χ33 Ω _ => St.toR (r_move rfl) (fun _ => rfl) (fun _ => rfl), (by intro _ h; cases h; rfl), ⟨fun χ33 Ω _ => St.toR (r_extract rfl rfl) (fun _ => rfl) (fun _ => rfl), (by intro _ h; cases h; rfl), ⟨fun χ33 Ω _ => St.toR (r_extract rfl rfl) (fun _ => rfl) (fun _ => rfl), (by intro _ h; cases h; rfl), ⟨fun χ33 Ω ⟨h2, _⟩ => St.to XU.Nn XU.hN (St.placeL (os := fun _ => [_]) [2] (s_alloc zt_28) (fun _ => rfl) (fun _ => ⟨h2, rfl, trivial⟩)) (fun _ => rfl) (fun _ => rfl), (by intro _ h; cases h; rfl), ⟨fun χ33 Ω ⟨h2, _⟩ => St.to XU.U XU.hU (s_cstore (out := [slv (rI .i64) t35.1.Items, iv .i64 t35.1.Window, iv .i64 t35.1.Base, slv (rI .i64) t35.1.Received, slv rT_api_Packet t35.1.Held, slv rT_api_Packet t35.1.Flight]) Try.sizeOf28 rfl (j := 2) h2 (part_agO (ψs := [slv (rI .i64) t35.1.Items, iv .i64 t35.1.Window, iv .i64 t35.1.Base, slv (rI .i64) t35.1.Received, slv rT_api_Packet t35.1.Held, slv rT_api_Packet t35.1.Flight]) rfl ⟨.inl slv_at, .inl iv_at, .inl iv_at, .inl slv_at, .inl slv_at, .inl slv_at, trivial⟩) rfl rfl rfl) (fun _ => rfl) (fun _ => rfl), (by intro _ h; cases h), ⟨fun χ33 Ω _ => St.toR (r_assign rfl) (fun _ => rfl) (fun _ => rfl), (by intro _ h; cases h; rfl), trivial⟩⟩⟩⟩⟩⟩⟩⟩⟩⟩⟩ (fun _ => ⟨rfl, rfl, rfl, rfl, rfl, rfl, rfl, rfl, trivial⟩) (fun _ => rfl) (fun χ33 => ?_)
        refine n_then (ref_seq (ref_region ?_))
        refine mv1 rfl rfl ?_
        refine s_rd (r_eql rfl rfl) rfl ?_
        refine l_nil (n_then ?_)
        refine ref_cond rfl (fun hb37 => ?_) (fun hb37 => ?_)
        · refine ref_region ?_
          refine s_rd (r_cloadS Try.isAgg28 Try.sizeOf28 rfl (j := 2) rfl rfl rfl) rfl ?_
          refine s_st0 (s_cstore (out := [slv (rI .i64) t35.1.Items, iv .i64 t35.1.Window, iv .i64 t35.1.Base, slv (rI .i64) t35.1.Received, slv rT_api_Packet t35.1.Held, slv rT_api_Packet t35.1.Flight]) Try.sizeOf28 rfl (j := 1) rfl (part_agO (ψs := [slv (rI .i64) t35.1.Items, iv .i64 t35.1.Window, iv .i64 t35.1.Base, slv (rI .i64) t35.1.Received, slv rT_api_Packet t35.1.Held, slv rT_api_Packet t35.1.Flight]) rfl ⟨.inl slv_at, .inl iv_at, .inl iv_at, .inl slv_at, .inl slv_at, .inl slv_at, trivial⟩) rfl rfl rfl) (fun _ => ?_)
          refine l_nil (n_block (n_then (ref_region ?_)))
          refine mv1 rfl rfl ?_
          refine s_rd (r_add rfl rfl) rfl ?_
          refine as1 rfl rfl ?_
          refine b_let (f := iv .i64) (t := 8) rfl fun i38 => ?_
          refine l_nil ?_
          exact goB () (weak [0, 1] ⟨rfl, rfl, rfl, rfl, trivial⟩ ⟨rfl, rfl, trivial⟩)
        refine ref_skip (n_block (n_then (ref_region ?_)))
        refine mv1 rfl rfl ?_
        refine s_rd (r_add rfl rfl) rfl ?_
        refine as1 rfl rfl ?_
        refine b_let (f := iv .i64) (t := 8) rfl fun i39 => ?_
        refine l_nil ?_
        exact goB () (weak [0, 1] ⟨rfl, rfl, rfl, rfl, trivial⟩ ⟨rfl, rfl, trivial⟩)
      refine ref_exit (x_then ?_)
      exact brkB () (weak [1] ⟨rfl, rfl, trivial⟩ ⟨rfl, trivial⟩)
    refine s_off rfl rfl rfl rfl rfl ?_
    refine s_off rfl rfl rfl rfl rfl ?_
    refine s_rd (r_pickF rfl rfl) rfl ?_
    refine l_nil (n_then ?_)
    refine ref_condF rfl rfl ?_
    refine ref_exit (x_then ?_)
    exact brkB () (weak [1] ⟨rfl, rfl, trivial⟩ ⟨rfl, trivial⟩)
  refine n_then (ref_seq (ref_region ?_))
  refine s_rd (r_cloadS Try.isAgg28 Try.sizeOf28 rfl (j := 0) rfl rfl rfl) rfl ?_
  refine pull fun t42 h_t42 => ?_
  refine s_st (s_call (ψ := fun (_ : Unit) => tup [ag [slv (rI .i64) t42.1.Items, iv .i64 t42.1.Window, iv .i64 t42.1.Base, slv (rI .i64) t42.1.Received, slv rT_api_Packet t42.1.Held, slv rT_api_Packet t42.1.Flight], iv .i64 t42.2]) (args := [.tmp 48]) Try.call16 rfl (channel_Finish_ok h_t42) ⟨arg rfl, trivial⟩ (fun _ _ _ _ h => h)) rfl (fun _ => ?_)
  refine mv1 rfl rfl ?_
  refine s_rd (r_extract rfl rfl) rfl ?_
  refine s_rd (r_extract rfl rfl) rfl ?_
  refine s_st (s_alloc zt_28) rfl (fun b43 => ?_)
  refine s_st0 (s_cstore (out := [slv (rI .i64) t42.1.Items, iv .i64 t42.1.Window, iv .i64 t42.1.Base, slv (rI .i64) t42.1.Received, slv rT_api_Packet t42.1.Held, slv rT_api_Packet t42.1.Flight]) Try.sizeOf28 rfl (j := 1) rfl (part_agO (ψs := [slv (rI .i64) t42.1.Items, iv .i64 t42.1.Window, iv .i64 t42.1.Base, slv (rI .i64) t42.1.Received, slv rT_api_Packet t42.1.Held, slv rT_api_Packet t42.1.Flight]) rfl ⟨.inl slv_at, .inl iv_at, .inl iv_at, .inl slv_at, .inl slv_at, .inl slv_at, trivial⟩) rfl rfl rfl) (fun _ => ?_)
  refine as1 rfl rfl ?_
  refine l_nil (n_then (ref_seq (ref_region ?_)))
  refine s_rd (r_cloadS Try.isAgg28 Try.sizeOf28 rfl (j := 1) rfl rfl rfl) rfl ?_
  refine pull fun t44 h_t44 => ?_
  refine s_st (s_call (ψ := fun (_ : Unit) => bv t44) (args := [.tmp 52]) Try.call17 rfl (channel_Done_ok h_t44) ⟨arg rfl, trivial⟩ (fun _ _ _ _ h => h)) rfl (fun _ => ?_)
  refine mv1 rfl rfl ?_
  refine b_split (t := 54) rfl (fun _ => ?_) (fun _ => ?_)
  · refine s_on rfl rfl rfl ?_
    refine s_rd (r_faddr (fo := 3) Try.underlying28 rfl rfl Try.sizeOf22 rfl) rfl ?_
    refine s_on rfl rfl rfl ?_
    refine s_rd (r_cload Try.isAgg22 rfl (j := 1) rfl rfl) rfl ?_
    refine s_on rfl rfl rfl ?_
    refine mv1 rfl rfl ?_
    refine s_on rfl rfl rfl ?_
    refine pull fun t45 h_t45 => ?_
    refine s_st (s_call (ψ := fun (_ : Unit) => bv t45) (args := [.tmp 56, .tmp 57]) Try.call14 rfl (keep_Ints_ok h_t45) ⟨arg rfl, arg rfl, trivial⟩ (fun _ _ _ _ h => h)) rfl (fun _ => ?_)
    refine s_rd (r_pickT rfl rfl) rfl ?_
    refine mv1 rfl rfl ?_
    refine b_split (t := 60) rfl (fun _ => ?_) (fun _ => ?_)
    · refine s_on rfl rfl rfl ?_
      refine s_rd (r_faddr (fo := 5) Try.underlying28 rfl rfl Try.sizeOf26 rfl) rfl ?_
      refine s_on rfl rfl rfl ?_
      refine s_rd (r_cload Try.isAgg26 rfl (j := 1) rfl rfl) rfl ?_
      refine s_on rfl rfl rfl ?_
      refine s_rd (r_len Try.underlying26 rfl) rfl ?_
      refine s_on rfl rfl rfl ?_
      refine s_rd (r_eql rfl rfl) rfl ?_
      refine s_rd (r_pickT rfl rfl) rfl ?_
      refine mv1 rfl rfl ?_
      refine b_split (t := 66) rfl (fun _ => ?_) (fun _ => ?_)
      · refine s_on rfl rfl rfl ?_
        refine mv1 rfl rfl ?_
        refine s_on rfl rfl rfl ?_
        refine mv1 rfl rfl ?_
        refine s_on rfl rfl rfl ?_
        refine s_rd (r_len Try.underlying22 rfl) rfl ?_
        refine s_on rfl rfl rfl ?_
        refine s_rd (r_faddr (fo := 2) Try.underlying28 rfl rfl Try.sizeOf3 rfl) rfl ?_
        refine s_on rfl rfl rfl ?_
        refine s_rd (r_cload Try.isAgg3 rfl (j := 0) rfl rfl) rfl ?_
        refine s_on rfl rfl rfl ?_
        refine s_rd (r_sub rfl rfl) rfl ?_
        refine s_on rfl rfl rfl ?_
        refine s_rd (r_leq rfl rfl) rfl ?_
        refine s_rd (r_pickT rfl rfl) rfl ?_
        refine mv1 rfl rfl ?_
        refine b_split (t := 75) rfl (fun _ => ?_) (fun _ => ?_)
        · refine s_on rfl rfl rfl ?_
          refine pull fun t46 h_t46 => ?_
          refine s_st (s_call (ψ := fun (_ : Unit) => bv t46) (args := []) Try.call7 rfl (law29_awake_ok h_t46) trivial (fun _ _ _ _ h => h)) rfl (fun _ => ?_)
          refine s_rd (r_pickT rfl rfl) rfl ?_
          refine as1 rfl rfl ?_
          refine l_nil ?_
          refine b_of (nrm [oc b7 [slv (rI .i64) q40.Items, iv .i64 q40.Window, iv .i64 q40.Base, slv (rI .i64) q40.Received, slv rT_api_Packet q40.Held, slv rT_api_Packet q40.Flight], oc b43 [slv (rI .i64) t42.1.Items, iv .i64 t42.1.Window, iv .i64 t42.1.Base, slv (rI .i64) t42.1.Received, slv rT_api_Packet t42.1.Held, slv rT_api_Packet t42.1.Flight]] rfl) ?_
          refine n_then (ref_ret ?_)
          exact fin1 (.inl rfl) () [] rfl trivial rfl (rv_tmp rfl)
        refine s_off rfl rfl rfl rfl rfl ?_
        refine s_rd (r_pickF rfl rfl) rfl ?_
        refine as1 rfl rfl ?_
        refine l_nil ?_
        refine b_of (nrm [oc b7 [slv (rI .i64) q40.Items, iv .i64 q40.Window, iv .i64 q40.Base, slv (rI .i64) q40.Received, slv rT_api_Packet q40.Held, slv rT_api_Packet q40.Flight], oc b43 [slv (rI .i64) t42.1.Items, iv .i64 t42.1.Window, iv .i64 t42.1.Base, slv (rI .i64) t42.1.Received, slv rT_api_Packet t42.1.Held, slv rT_api_Packet t42.1.Flight]] rfl) ?_
        refine n_then (ref_ret ?_)
        exact fin1 (.inl rfl) () [] rfl trivial rfl (rv_tmp rfl)
      refine s_off rfl rfl rfl rfl rfl ?_
      refine s_off rfl rfl rfl rfl rfl ?_
      refine s_off rfl rfl rfl rfl rfl ?_
      refine s_off rfl rfl rfl rfl rfl ?_
      refine s_off rfl rfl rfl rfl rfl ?_
      refine s_off rfl rfl rfl rfl rfl ?_
      refine s_off rfl rfl rfl rfl rfl ?_
      refine s_rd (r_pickF rfl rfl) rfl ?_
      refine mv1 rfl rfl ?_
      refine s_off rfl rfl rfl rfl rfl ?_
      refine s_rd (r_pickF rfl rfl) rfl ?_
      refine as1 rfl rfl ?_
      refine l_nil ?_
      refine b_of (nrm [oc b7 [slv (rI .i64) q40.Items, iv .i64 q40.Window, iv .i64 q40.Base, slv (rI .i64) q40.Received, slv rT_api_Packet q40.Held, slv rT_api_Packet q40.Flight], oc b43 [slv (rI .i64) t42.1.Items, iv .i64 t42.1.Window, iv .i64 t42.1.Base, slv (rI .i64) t42.1.Received, slv rT_api_Packet t42.1.Held, slv rT_api_Packet t42.1.Flight]] rfl) ?_
      refine n_then (ref_ret ?_)
      exact fin1 (.inl rfl) () [] rfl trivial rfl (rv_tmp rfl)
    refine s_off rfl rfl rfl rfl rfl ?_
    refine s_off rfl rfl rfl rfl rfl ?_
    refine s_off rfl rfl rfl rfl rfl ?_
    refine s_off rfl rfl rfl rfl rfl ?_
    refine s_rd (r_pickF rfl rfl) rfl ?_
    refine mv1 rfl rfl ?_
    refine s_off rfl rfl rfl rfl rfl ?_
    refine s_off rfl rfl rfl rfl rfl ?_
    refine s_off rfl rfl rfl rfl rfl ?_
    refine s_off rfl rfl rfl rfl rfl ?_
    refine s_off rfl rfl rfl rfl rfl ?_
    refine s_off rfl rfl rfl rfl rfl ?_
    refine s_off rfl rfl rfl rfl rfl ?_
    refine s_rd (r_pickF rfl rfl) rfl ?_
    refine mv1 rfl rfl ?_
    refine s_off rfl rfl rfl rfl rfl ?_
    refine s_rd (r_pickF rfl rfl) rfl ?_
    refine as1 rfl rfl ?_
    refine l_nil ?_
    refine b_of (nrm [oc b7 [slv (rI .i64) q40.Items, iv .i64 q40.Window, iv .i64 q40.Base, slv (rI .i64) q40.Received, slv rT_api_Packet q40.Held, slv rT_api_Packet q40.Flight], oc b43 [slv (rI .i64) t42.1.Items, iv .i64 t42.1.Window, iv .i64 t42.1.Base, slv (rI .i64) t42.1.Received, slv rT_api_Packet t42.1.Held, slv rT_api_Packet t42.1.Flight]] rfl) ?_
    refine n_then (ref_ret ?_)
    exact fin1 (.inl rfl) () [] rfl trivial rfl (rv_tmp rfl)
  refine s_off rfl rfl rfl rfl rfl ?_
  refine s_off rfl rfl rfl rfl rfl ?_
  refine s_off rfl rfl rfl rfl rfl ?_
  refine s_off rfl rfl rfl rfl rfl ?_
  refine s_rd (r_pickF rfl rfl) rfl ?_
  refine mv1 rfl rfl ?_
  refine s_off rfl rfl rfl rfl rfl ?_
  refine s_off rfl rfl rfl rfl rfl ?_
  refine s_off rfl rfl rfl rfl rfl ?_
  refine s_off rfl rfl rfl rfl rfl ?_
  refine s_rd (r_pickF rfl rfl) rfl ?_
  refine mv1 rfl rfl ?_
  refine s_off rfl rfl rfl rfl rfl ?_
  refine s_off rfl rfl rfl rfl rfl ?_
  refine s_off rfl rfl rfl rfl rfl ?_
  refine s_off rfl rfl rfl rfl rfl ?_
  refine s_off rfl rfl rfl rfl rfl ?_
  refine s_off rfl rfl rfl rfl rfl ?_
  refine s_off rfl rfl rfl rfl rfl ?_
  refine s_rd (r_pickF rfl rfl) rfl ?_
  refine mv1 rfl rfl ?_
  refine s_off rfl rfl rfl rfl rfl ?_
  refine s_rd (r_pickF rfl rfl) rfl ?_
  refine as1 rfl rfl ?_
  refine l_nil ?_
  refine b_of (nrm [oc b7 [slv (rI .i64) q40.Items, iv .i64 q40.Window, iv .i64 q40.Base, slv (rI .i64) q40.Received, slv rT_api_Packet q40.Held, slv rT_api_Packet q40.Flight], oc b43 [slv (rI .i64) t42.1.Items, iv .i64 t42.1.Window, iv .i64 t42.1.Base, slv (rI .i64) t42.1.Received, slv rT_api_Packet t42.1.Held, slv rT_api_Packet t42.1.Flight]] rfl) ?_
  refine n_then (ref_ret ?_)
  exact fin1 (.inl rfl) () [] rfl trivial rfl (rv_tmp rfl)

/-! deliberation/deliberationref29.New -/
noncomputable def ref29_New_m (items_0 : (List Int)) (window_1 : Int) : Option (T_api_Channel × Int) :=
  bif decide ((items_0.length : Int) > 60) then
    some ((T_api_Channel.mk [] 0 0 [] [] []), 2)
  else
    bif decide (window_1 < 1) then
      some ((T_api_Channel.mk [] 0 0 [] [] []), 1)
    else
      bif decide (window_1 > 8) then
        some ((T_api_Channel.mk [] 0 0 [] [] []), 1)
      else
        Option.bind (appM 8 [] items_0) fun t5 =>
        some ((T_api_Channel.mk t5 window_1 0 [] [] []), 0)

theorem ref29_New_ok {items_0 : (List Int)} {window_1 : Int} {r : T_api_Channel × Int} (hm : ref29_New_m items_0 window_1 = some r) :
    FnOk prog 18 [slv (rI .i64) items_0, iv .i64 window_1] [] (fun (x : Unit) => [ag [slv (rI .i64) r.1.Items, iv .i64 r.1.Window, iv .i64 r.1.Base, slv (rI .i64) r.1.Received, slv rT_api_Packet r.1.Held, slv rT_api_Packet r.1.Flight], iv .i64 r.2]) (fun (x : Unit) => []) := by
  refine fn_ok (fn := Try.f18) (N := 22) (res := fun r x => [ag [slv (rI .i64) r.1.Items, iv .i64 r.1.Window, iv .i64 r.1.Base, slv (rI .i64) r.1.Received, slv rT_api_Packet r.1.Held, slv rT_api_Packet r.1.Flight], iv .i64 r.2]) (Ω1 := fun r x => []) Try.func18 rfl rfl hm rfl (fun E hM => ?_)
  unfold ref29_New_m
  refine ref_seq (ref_region ?_)
  refine s_st (s_alloc zt_28) rfl (fun b1 => ?_)
  refine as1 rfl rfl ?_
  refine l_nil (n_then (ref_seq (ref_seq (ref_region ?_))))
  refine mv1 rfl rfl ?_
  refine s_rd (r_len Try.underlying22 rfl) rfl ?_
  refine s_rd (r_gtr rfl rfl) rfl ?_
  refine l_nil (n_then ?_)
  refine ref_cond rfl (fun hb2 => ?_) (fun hb2 => ?_)
  · refine ref_seq (ref_region ?_)
    refine s_rd (r_build (ps := []) (rs := []) st_28 zs_28 trivial rfl rfl) rfl ?_
    refine s_st0 (s_cstore (out := [pv (.slice none 0 0), iv .i64 0, iv .i64 0, pv (.slice none 0 0), pv (.slice none 0 0), pv (.slice none 0 0)]) Try.sizeOf28 rfl (j := 0) rfl (part_agO (ψs := [pv (.slice none 0 0), iv .i64 0, iv .i64 0, pv (.slice none 0 0), pv (.slice none 0 0), pv (.slice none 0 0)]) rfl ⟨.inl (pv_at rfl), .inl iv_at, .inl iv_at, .inl (pv_at rfl), .inl (pv_at rfl), .inl (pv_at rfl), trivial⟩) rfl rfl rfl) (fun _ => ?_)
    refine as1 rfl rfl ?_
    refine l_nil (n_then (ref_ret (r_then ?_)))
    refine b_of (ocW 0 [slv (rI .i64) [], iv .i64 0, iv .i64 0, slv (rI .i64) [], slv rT_api_Packet [], slv rT_api_Packet []] rfl ⟨nil_sl, imp_rfl, imp_rfl, nil_sl, nil_sl, nil_sl, trivial⟩) ?_
    exact fin2 (.inl rfl) () [] rfl trivial rfl (rv_cell rfl (j := 0) rfl Try.isAgg28 Try.sizeOf28 rfl rfl) (rv_tmp rfl)
  refine ref_skip (n_then (ref_seq (ref_seq (ref_region ?_))))
  refine mv1 rfl rfl ?_
  refine s_rd (r_lss rfl rfl) rfl ?_
  refine mv1 rfl rfl ?_
  refine b_split (t := 12) rfl (fun _ => ?_) (fun _ => ?_)
  · refine s_off rfl rfl rfl rfl rfl ?_
    refine s_off rfl rfl rfl rfl rfl ?_
    refine s_rd (r_pickT rfl rfl) rfl ?_
    refine l_nil (n_then ?_)
    refine ref_condT rfl rfl ?_
    refine ref_seq (ref_region ?_)
    refine s_rd (r_build (ps := []) (rs := []) st_28 zs_28 trivial rfl rfl) rfl ?_
    refine s_st0 (s_cstore (out := [pv (.slice none 0 0), iv .i64 0, iv .i64 0, pv (.slice none 0 0), pv (.slice none 0 0), pv (.slice none 0 0)]) Try.sizeOf28 rfl (j := 0) rfl (part_agO (ψs := [pv (.slice none 0 0), iv .i64 0, iv .i64 0, pv (.slice none 0 0), pv (.slice none 0 0), pv (.slice none 0 0)]) rfl ⟨.inl (pv_at rfl), .inl iv_at, .inl iv_at, .inl (pv_at rfl), .inl (pv_at rfl), .inl (pv_at rfl), trivial⟩) rfl rfl rfl) (fun _ => ?_)
    refine as1 rfl rfl ?_
    refine l_nil (n_then (ref_ret (r_then ?_)))
    refine b_of (ocW 0 [slv (rI .i64) [], iv .i64 0, iv .i64 0, slv (rI .i64) [], slv rT_api_Packet [], slv rT_api_Packet []] rfl ⟨nil_sl, imp_rfl, imp_rfl, nil_sl, nil_sl, nil_sl, trivial⟩) ?_
    exact fin2 (.inl rfl) () [] rfl trivial rfl (rv_cell rfl (j := 0) rfl Try.isAgg28 Try.sizeOf28 rfl rfl) (rv_tmp rfl)
  refine s_on rfl rfl rfl ?_
  refine mv1 rfl rfl ?_
  refine s_on rfl rfl rfl ?_
  refine s_rd (r_gtr rfl rfl) rfl ?_
  refine s_rd (r_pickF rfl rfl) rfl ?_
  refine l_nil (n_then ?_)
  refine ref_cond rfl (fun hb3 => ?_) (fun hb3 => ?_)
  · refine ref_seq (ref_region ?_)
    refine s_rd (r_build (ps := []) (rs := []) st_28 zs_28 trivial rfl rfl) rfl ?_
    refine s_st0 (s_cstore (out := [pv (.slice none 0 0), iv .i64 0, iv .i64 0, pv (.slice none 0 0), pv (.slice none 0 0), pv (.slice none 0 0)]) Try.sizeOf28 rfl (j := 0) rfl (part_agO (ψs := [pv (.slice none 0 0), iv .i64 0, iv .i64 0, pv (.slice none 0 0), pv (.slice none 0 0), pv (.slice none 0 0)]) rfl ⟨.inl (pv_at rfl), .inl iv_at, .inl iv_at, .inl (pv_at rfl), .inl (pv_at rfl), .inl (pv_at rfl), trivial⟩) rfl rfl rfl) (fun _ => ?_)
    refine as1 rfl rfl ?_
    refine l_nil (n_then (ref_ret (r_then ?_)))
    refine b_of (ocW 0 [slv (rI .i64) [], iv .i64 0, iv .i64 0, slv (rI .i64) [], slv rT_api_Packet [], slv rT_api_Packet []] rfl ⟨nil_sl, imp_rfl, imp_rfl, nil_sl, nil_sl, nil_sl, trivial⟩) ?_
    exact fin2 (.inl rfl) () [] rfl trivial rfl (rv_cell rfl (j := 0) rfl Try.isAgg28 Try.sizeOf28 rfl rfl) (rv_tmp rfl)
  refine ref_skip (n_then (ref_seq (ref_region ?_)))
  refine s_st (s_bsliceO (xs := []) (ds := []) Try.underlying22 el_3 rfl (Nat.le_of_ble_eq_true rfl) trivial) rfl (fun o4 => ?_)
  refine mv1 rfl rfl ?_
  refine pull fun t5 h_t5 => ?_
  refine s_st (s_append h_t5 Try.underlying22 el_3 rfl (j := 1) rfl rfl) rfl (fun o6 => ?_)
  refine mv1 rfl rfl ?_
  refine s_rd (r_build (ps := [(0, .tmp 19), (1, .tmp 20)]) (rs := [(0, [pv o6.1]), (1, [iv .i64 window_1])]) st_28 zs_28 ⟨rfl, (part_own rfl (j := 1) rfl), ⟨rfl, (part_at rfl iv_at), trivial⟩⟩ rfl rfl) rfl ?_
  refine s_st0 (s_cstore (out := [pv o6.1, iv .i64 window_1, iv .i64 0, pv (.slice none 0 0), pv (.slice none 0 0), pv (.slice none 0 0)]) Try.sizeOf28 rfl (j := 0) rfl (part_agO (ψs := [pv o6.1, iv .i64 window_1, iv .i64 0, pv (.slice none 0 0), pv (.slice none 0 0), pv (.slice none 0 0)]) rfl ⟨.inr ⟨_, _, _, _, _, 1, rfl, rfl⟩, .inl iv_at, .inl iv_at, .inl (pv_at rfl), .inl (pv_at rfl), .inl (pv_at rfl), trivial⟩) rfl rfl rfl) (fun _ => ?_)
  refine as1 rfl rfl ?_
  refine l_nil ?_
  refine b_of (nrm [oc b1 [pv o6.1, iv .i64 window_1, iv .i64 0, pv (.slice none 0 0), pv (.slice none 0 0), pv (.slice none 0 0)], oa (rI .i64) o6.1 o6.2 t5] rfl) ?_
  refine n_then (ref_ret ?_)
  refine b_of (frzGL [(19, slv (rI .i64) t5), (21, ag [slv (rI .i64) t5, iv .i64 window_1, iv .i64 0, pv (.slice none 0 0), pv (.slice none 0 0), pv (.slice none 0 0)])] [(0, b1, [slv (rI .i64) t5, iv .i64 window_1, iv .i64 0, pv (.slice none 0 0), pv (.slice none 0 0), pv (.slice none 0 0)])] (j := 1) rfl ⟨⟨_, rfl, .inl ⟨rfl, rfl⟩⟩, ⟨_, rfl, .inr ⟨_, _, rfl, rfl, ⟨.inr ⟨rfl, rfl⟩, .inl rfl, .inl rfl, .inl rfl, .inl rfl, .inl rfl, trivial⟩⟩⟩, trivial⟩ ⟨⟨_, rfl, ⟨.inr ⟨rfl, rfl⟩, .inl rfl, .inl rfl, .inl rfl, .inl rfl, .inl rfl, trivial⟩⟩, trivial⟩) ?_
  refine b_of (ocW 0 [slv (rI .i64) t5, iv .i64 window_1, iv .i64 0, slv (rI .i64) [], slv rT_api_Packet [], slv rT_api_Packet []] rfl ⟨imp_rfl, imp_rfl, imp_rfl, nil_sl, nil_sl, nil_sl, trivial⟩) ?_
  exact fin2 (.inl rfl) () [] rfl trivial rfl (rv_cell rfl (j := 0) rfl Try.isAgg28 Try.sizeOf28 rfl rfl) (rv_tmp rfl)

/-! deliberation/deliberationref29.packets -/
noncomputable def ref29_packets_l1 (a__0 : (List T_api_Packet)) (b_1 : (List T_api_Packet)) (s8 : Int) : Option (Sum ((Sum (Bool) (Unit))) (Int)) :=
  bif decide (s8 < (a__0.length : Int)) then
    Option.bind (idxM a__0 s8) fun t11 =>
    Option.bind (idxM b_1 s8) fun t12 =>
    bif !decide (t11 = t12) then
      some (Sum.inl (Sum.inl false))
    else
      some (Sum.inr (iadd .i64 s8 1))
  else
    some (Sum.inl (Sum.inr ()))

noncomputable def ref29_packets_m (a__0 : (List T_api_Packet)) (b_1 : (List T_api_Packet)) : Option (Bool) :=
  bif (a__0.length : Int) != (b_1.length : Int) then
    some false
  else
    Option.bind (loopC (ref29_packets_l1 a__0 b_1) 0) (sumK (fun a : Bool => some a) fun q14 : Unit =>
      some true)

theorem ref29_packets_ok {a__0 : (List T_api_Packet)} {b_1 : (List T_api_Packet)} {r : Bool} (hm : ref29_packets_m a__0 b_1 = some r) :
    FnOk prog 33 [slv rT_api_Packet a__0, slv rT_api_Packet b_1] [] (fun (x : Unit) => [bv r]) (fun (x : Unit) => []) := by
  refine fn_ok (fn := Try.f33) (N := 26) (res := fun r x => [bv r]) (Ω1 := fun r x => []) Try.func33 rfl rfl hm rfl (fun E hM => ?_)
  unfold ref29_packets_m
  refine ref_seq (ref_region ?_)
  refine as1 rfl rfl ?_
  refine l_nil (n_then (ref_seq (ref_seq (ref_region ?_))))
  refine mv1 rfl rfl ?_
  refine s_rd (r_len Try.underlying26 rfl) rfl ?_
  refine mv1 rfl rfl ?_
  refine s_rd (r_len Try.underlying26 rfl) rfl ?_
  refine s_rd (r_neq rfl rfl) rfl ?_
  refine l_nil (n_then ?_)
  refine ref_cond rfl (fun hb1 => ?_) (fun hb1 => ?_)
  · refine ref_seq (ref_region ?_)
    refine as1 rfl rfl ?_
    refine l_nil (n_then (ref_ret (r_then ?_)))
    exact fin1 (.inl rfl) () [] rfl trivial rfl (rv_tmp rfl)
  refine ref_skip (n_then (ref_seq (ref_seq (ref_region ?_))))
  refine as1 rfl rfl ?_
  refine l_nil (n_then ?_)
  refine ref_loopX (f := (ref29_packets_l1 a__0 b_1)) (Γl := (fun (s8 : Int) (x9 : Unit) => [(0, slv rT_api_Packet a__0), (1, slv rT_api_Packet b_1), (5, iv .i64 s8)])) (Ωl := (fun (s8 : Int) (x9 : Unit) => [])) (Γb := (fun (q14 : Unit) (y15 : Unit) => [])) (Ωb := (fun (q14 : Unit) (y15 : Unit) => [])) (kr := (fun a : Bool => some a)) 0 () (weak [] ⟨rfl, rfl, rfl, trivial⟩ trivial) (fun s8 x9 => ?_) (fun q14 y15 => ?_)
  · unfold ref29_packets_l1
    refine ref_seq (ref_seq (ref_region ?_))
    refine mv1 rfl rfl ?_
    refine mv1 rfl rfl ?_
    refine s_rd (r_len Try.underlying26 rfl) rfl ?_
    refine s_rd (r_lss rfl rfl) rfl ?_
    refine l_nil (n_then ?_)
    refine ref_cond rfl (fun hb10 => ?_) (fun hb10 => ?_)
    · refine ref_skip (n_then (ref_seq (ref_block (ref_seq ?_))))
      refine ref_draw [0, 1, 2, 3, 4, 5, 6, 7, 8] rfl (by kernel_rfl) (fun hok => ?_)
      refine a_rd (i := 0) hok rfl (by kernel_rfl) rfl (r_move rfl) rfl ?_
      refine a_rd (i := 1) hok rfl (by kernel_rfl) rfl (r_move rfl) rfl ?_
      refine pull fun t11 h_t11 => ?_
      refine a_rd (i := 2) hok rfl (by kernel_rfl) rfl (r_index h_t11 Try.underlying26 el_55 rfl rfl) rfl ?_
      refine a_rd (i := 3) hok rfl (by kernel_rfl) rfl (r_load el_55 rfl) rfl ?_
      refine a_rd (i := 4) hok rfl (by kernel_rfl) rfl (r_move rfl) rfl ?_
      refine a_rd (i := 5) hok rfl (by kernel_rfl) rfl (r_move rfl) rfl ?_
      refine pull fun t12 h_t12 => ?_
      refine a_rd (i := 6) hok rfl (by kernel_rfl) rfl (r_index h_t12 Try.underlying26 el_55 rfl rfl) rfl ?_
      refine a_rd (i := 7) hok rfl (by kernel_rfl) rfl (r_load el_55 rfl) rfl ?_
      refine a_rd (i := 8) hok rfl (by kernel_rfl) rfl (r_stneq (u := t11) (v := t12) eq_55 rfl rfl rfl rfl) rfl ?_
      refine a_fin hok (by kernel_rfl) ?_
      refine n_then ?_
      refine ref_cond rfl (fun hb13 => ?_) (fun hb13 => ?_)
      · refine ref_seq (ref_region ?_)
        refine as1 rfl rfl ?_
        refine l_nil (n_then (ref_ret (r_block (r_then ?_))))
        refine retX ?_
        refine r_block (r_then ?_)
        exact fin1 (.inl rfl) () [] rfl trivial rfl (rv_tmp rfl)
      refine ref_skip (n_block (n_then (ref_region ?_)))
      refine mv1 rfl rfl ?_
      refine s_rd (r_add rfl rfl) rfl ?_
      refine as1 rfl rfl ?_
      refine l_nil ?_
      exact goX () (weak [] ⟨rfl, rfl, rfl, trivial⟩ trivial)
    refine ref_exit (x_then ?_)
    exact brkX () (weak [] trivial trivial)
  refine n_then (ref_seq (ref_region ?_))
  refine as1 rfl rfl ?_
  refine l_nil (n_then (ref_ret ?_))
  exact fin1 (.inl rfl) () [] rfl trivial rfl (rv_tmp rfl)

/-! deliberation/deliberationref29.Same -/
noncomputable def ref29_Same_m (a__0 : T_api_Channel) (b_1 : T_api_Channel) : Option (Bool) :=
  Option.bind (keep_Ints_m a__0.Items b_1.Items) fun t3 =>
  bif t3 then
    bif a__0.Window == b_1.Window then
      bif a__0.Base == b_1.Base then
        Option.bind (keep_Ints_m a__0.Received b_1.Received) fun t4 =>
        bif t4 then
          Option.bind (ref29_packets_m a__0.Held b_1.Held) fun t5 =>
          bif t5 then
            Option.bind (ref29_packets_m a__0.Flight b_1.Flight) fun t6 =>
            some t6
          else
            some false
        else
          some false
      else
        some false
    else
      some false
  else
    some false

theorem ref29_Same_ok {a__0 : T_api_Channel} {b_1 : T_api_Channel} {r : Bool} (hm : ref29_Same_m a__0 b_1 = some r) :
    FnOk prog 19 [ag [slv (rI .i64) a__0.Items, iv .i64 a__0.Window, iv .i64 a__0.Base, slv (rI .i64) a__0.Received, slv rT_api_Packet a__0.Held, slv rT_api_Packet a__0.Flight], ag [slv (rI .i64) b_1.Items, iv .i64 b_1.Window, iv .i64 b_1.Base, slv (rI .i64) b_1.Received, slv rT_api_Packet b_1.Held, slv rT_api_Packet b_1.Flight]] [] (fun (x : Unit) => [bv r]) (fun (x : Unit) => []) := by
  refine fn_ok (fn := Try.f19) (N := 45) (res := fun r x => [bv r]) (Ω1 := fun r x => []) Try.func19 rfl rfl hm rfl (fun E hM => ?_)
  unfold ref29_Same_m
  refine ref_seq (ref_region ?_)
  refine s_st (s_box (part_agO (ψs := [slv (rI .i64) a__0.Items, iv .i64 a__0.Window, iv .i64 a__0.Base, slv (rI .i64) a__0.Received, slv rT_api_Packet a__0.Held, slv rT_api_Packet a__0.Flight]) rfl ⟨.inl slv_at, .inl iv_at, .inl iv_at, .inl slv_at, .inl slv_at, .inl slv_at, trivial⟩)) rfl (fun b1 => ?_)
  refine s_st (s_box (part_agO (ψs := [slv (rI .i64) b_1.Items, iv .i64 b_1.Window, iv .i64 b_1.Base, slv (rI .i64) b_1.Received, slv rT_api_Packet b_1.Held, slv rT_api_Packet b_1.Flight]) rfl ⟨.inl slv_at, .inl iv_at, .inl iv_at, .inl slv_at, .inl slv_at, .inl slv_at, trivial⟩)) rfl (fun b2 => ?_)
  refine as1 rfl rfl ?_
  refine l_nil (n_then (ref_seq (ref_region ?_)))
  refine s_rd (r_faddr (fo := 0) Try.underlying28 rfl rfl Try.sizeOf22 rfl) rfl ?_
  refine s_rd (r_cload Try.isAgg22 rfl (j := 0) rfl rfl) rfl ?_
  refine s_rd (r_faddr (fo := 0) Try.underlying28 rfl rfl Try.sizeOf22 rfl) rfl ?_
  refine s_rd (r_cload Try.isAgg22 rfl (j := 1) rfl rfl) rfl ?_
  refine pull fun t3 h_t3 => ?_
  refine s_st (s_call (ψ := fun (_ : Unit) => bv t3) (args := [.tmp 6, .tmp 8]) Try.call14 rfl (keep_Ints_ok h_t3) ⟨arg rfl, arg rfl, trivial⟩ (fun _ _ _ _ h => h)) rfl (fun _ => ?_)
  refine mv1 rfl rfl ?_
  refine b_split (t := 10) rfl (fun _ => ?_) (fun _ => ?_)
  · refine s_on rfl rfl rfl ?_
    refine s_rd (r_faddr (fo := 1) Try.underlying28 rfl rfl Try.sizeOf3 rfl) rfl ?_
    refine s_on rfl rfl rfl ?_
    refine s_rd (r_cload Try.isAgg3 rfl (j := 0) rfl rfl) rfl ?_
    refine s_on rfl rfl rfl ?_
    refine s_rd (r_faddr (fo := 1) Try.underlying28 rfl rfl Try.sizeOf3 rfl) rfl ?_
    refine s_on rfl rfl rfl ?_
    refine s_rd (r_cload Try.isAgg3 rfl (j := 1) rfl rfl) rfl ?_
    refine s_on rfl rfl rfl ?_
    refine s_rd (r_eql rfl rfl) rfl ?_
    refine s_rd (r_pickT rfl rfl) rfl ?_
    refine mv1 rfl rfl ?_
    refine b_split (t := 17) rfl (fun _ => ?_) (fun _ => ?_)
    · refine s_on rfl rfl rfl ?_
      refine s_rd (r_faddr (fo := 2) Try.underlying28 rfl rfl Try.sizeOf3 rfl) rfl ?_
      refine s_on rfl rfl rfl ?_
      refine s_rd (r_cload Try.isAgg3 rfl (j := 0) rfl rfl) rfl ?_
      refine s_on rfl rfl rfl ?_
      refine s_rd (r_faddr (fo := 2) Try.underlying28 rfl rfl Try.sizeOf3 rfl) rfl ?_
      refine s_on rfl rfl rfl ?_
      refine s_rd (r_cload Try.isAgg3 rfl (j := 1) rfl rfl) rfl ?_
      refine s_on rfl rfl rfl ?_
      refine s_rd (r_eql rfl rfl) rfl ?_
      refine s_rd (r_pickT rfl rfl) rfl ?_
      refine mv1 rfl rfl ?_
      refine b_split (t := 24) rfl (fun _ => ?_) (fun _ => ?_)
      · refine s_on rfl rfl rfl ?_
        refine s_rd (r_faddr (fo := 3) Try.underlying28 rfl rfl Try.sizeOf22 rfl) rfl ?_
        refine s_on rfl rfl rfl ?_
        refine s_rd (r_cload Try.isAgg22 rfl (j := 0) rfl rfl) rfl ?_
        refine s_on rfl rfl rfl ?_
        refine s_rd (r_faddr (fo := 3) Try.underlying28 rfl rfl Try.sizeOf22 rfl) rfl ?_
        refine s_on rfl rfl rfl ?_
        refine s_rd (r_cload Try.isAgg22 rfl (j := 1) rfl rfl) rfl ?_
        refine s_on rfl rfl rfl ?_
        refine pull fun t4 h_t4 => ?_
        refine s_st (s_call (ψ := fun (_ : Unit) => bv t4) (args := [.tmp 26, .tmp 28]) Try.call14 rfl (keep_Ints_ok h_t4) ⟨arg rfl, arg rfl, trivial⟩ (fun _ _ _ _ h => h)) rfl (fun _ => ?_)
        refine s_rd (r_pickT rfl rfl) rfl ?_
        refine mv1 rfl rfl ?_
        refine b_split (t := 31) rfl (fun _ => ?_) (fun _ => ?_)
        · refine s_on rfl rfl rfl ?_
          refine s_rd (r_faddr (fo := 4) Try.underlying28 rfl rfl Try.sizeOf26 rfl) rfl ?_
          refine s_on rfl rfl rfl ?_
          refine s_rd (r_cload Try.isAgg26 rfl (j := 0) rfl rfl) rfl ?_
          refine s_on rfl rfl rfl ?_
          refine s_rd (r_faddr (fo := 4) Try.underlying28 rfl rfl Try.sizeOf26 rfl) rfl ?_
          refine s_on rfl rfl rfl ?_
          refine s_rd (r_cload Try.isAgg26 rfl (j := 1) rfl rfl) rfl ?_
          refine s_on rfl rfl rfl ?_
          refine pull fun t5 h_t5 => ?_
          refine s_st (s_call (ψ := fun (_ : Unit) => bv t5) (args := [.tmp 33, .tmp 35]) Try.call33 rfl (ref29_packets_ok h_t5) ⟨arg rfl, arg rfl, trivial⟩ (fun _ _ _ _ h => h)) rfl (fun _ => ?_)
          refine s_rd (r_pickT rfl rfl) rfl ?_
          refine mv1 rfl rfl ?_
          refine b_split (t := 38) rfl (fun _ => ?_) (fun _ => ?_)
          · refine s_on rfl rfl rfl ?_
            refine s_rd (r_faddr (fo := 5) Try.underlying28 rfl rfl Try.sizeOf26 rfl) rfl ?_
            refine s_on rfl rfl rfl ?_
            refine s_rd (r_cload Try.isAgg26 rfl (j := 0) rfl rfl) rfl ?_
            refine s_on rfl rfl rfl ?_
            refine s_rd (r_faddr (fo := 5) Try.underlying28 rfl rfl Try.sizeOf26 rfl) rfl ?_
            refine s_on rfl rfl rfl ?_
            refine s_rd (r_cload Try.isAgg26 rfl (j := 1) rfl rfl) rfl ?_
            refine s_on rfl rfl rfl ?_
            refine pull fun t6 h_t6 => ?_
            refine s_st (s_call (ψ := fun (_ : Unit) => bv t6) (args := [.tmp 40, .tmp 42]) Try.call33 rfl (ref29_packets_ok h_t6) ⟨arg rfl, arg rfl, trivial⟩ (fun _ _ _ _ h => h)) rfl (fun _ => ?_)
            refine s_rd (r_pickT rfl rfl) rfl ?_
            refine as1 rfl rfl ?_
            refine l_nil ?_
            refine b_of (nrm [oc b1 [slv (rI .i64) a__0.Items, iv .i64 a__0.Window, iv .i64 a__0.Base, slv (rI .i64) a__0.Received, slv rT_api_Packet a__0.Held, slv rT_api_Packet a__0.Flight], oc b2 [slv (rI .i64) b_1.Items, iv .i64 b_1.Window, iv .i64 b_1.Base, slv (rI .i64) b_1.Received, slv rT_api_Packet b_1.Held, slv rT_api_Packet b_1.Flight]] rfl) ?_
            refine n_then (ref_ret ?_)
            exact fin1 (.inl rfl) () [] rfl trivial rfl (rv_tmp rfl)
          refine s_off rfl rfl rfl rfl rfl ?_
          refine s_off rfl rfl rfl rfl rfl ?_
          refine s_off rfl rfl rfl rfl rfl ?_
          refine s_off rfl rfl rfl rfl rfl ?_
          refine s_off rfl rfl rfl rfl rfl ?_
          refine s_rd (r_pickF rfl rfl) rfl ?_
          refine as1 rfl rfl ?_
          refine l_nil ?_
          refine b_of (nrm [oc b1 [slv (rI .i64) a__0.Items, iv .i64 a__0.Window, iv .i64 a__0.Base, slv (rI .i64) a__0.Received, slv rT_api_Packet a__0.Held, slv rT_api_Packet a__0.Flight], oc b2 [slv (rI .i64) b_1.Items, iv .i64 b_1.Window, iv .i64 b_1.Base, slv (rI .i64) b_1.Received, slv rT_api_Packet b_1.Held, slv rT_api_Packet b_1.Flight]] rfl) ?_
          refine n_then (ref_ret ?_)
          exact fin1 (.inl rfl) () [] rfl trivial rfl (rv_tmp rfl)
        refine s_off rfl rfl rfl rfl rfl ?_
        refine s_off rfl rfl rfl rfl rfl ?_
        refine s_off rfl rfl rfl rfl rfl ?_
        refine s_off rfl rfl rfl rfl rfl ?_
        refine s_off rfl rfl rfl rfl rfl ?_
        refine s_rd (r_pickF rfl rfl) rfl ?_
        refine mv1 rfl rfl ?_
        refine s_off rfl rfl rfl rfl rfl ?_
        refine s_off rfl rfl rfl rfl rfl ?_
        refine s_off rfl rfl rfl rfl rfl ?_
        refine s_off rfl rfl rfl rfl rfl ?_
        refine s_off rfl rfl rfl rfl rfl ?_
        refine s_rd (r_pickF rfl rfl) rfl ?_
        refine as1 rfl rfl ?_
        refine l_nil ?_
        refine b_of (nrm [oc b1 [slv (rI .i64) a__0.Items, iv .i64 a__0.Window, iv .i64 a__0.Base, slv (rI .i64) a__0.Received, slv rT_api_Packet a__0.Held, slv rT_api_Packet a__0.Flight], oc b2 [slv (rI .i64) b_1.Items, iv .i64 b_1.Window, iv .i64 b_1.Base, slv (rI .i64) b_1.Received, slv rT_api_Packet b_1.Held, slv rT_api_Packet b_1.Flight]] rfl) ?_
        refine n_then (ref_ret ?_)
        exact fin1 (.inl rfl) () [] rfl trivial rfl (rv_tmp rfl)
      refine s_off rfl rfl rfl rfl rfl ?_
      refine s_off rfl rfl rfl rfl rfl ?_
      refine s_off rfl rfl rfl rfl rfl ?_
      refine s_off rfl rfl rfl rfl rfl ?_
      refine s_off rfl rfl rfl rfl rfl ?_
      refine s_rd (r_pickF rfl rfl) rfl ?_
      refine mv1 rfl rfl ?_
      refine s_off rfl rfl rfl rfl rfl ?_
      refine s_off rfl rfl rfl rfl rfl ?_
      refine s_off rfl rfl rfl rfl rfl ?_
      refine s_off rfl rfl rfl rfl rfl ?_
      refine s_off rfl rfl rfl rfl rfl ?_
      refine s_rd (r_pickF rfl rfl) rfl ?_
      refine mv1 rfl rfl ?_
      refine s_off rfl rfl rfl rfl rfl ?_
      refine s_off rfl rfl rfl rfl rfl ?_
      refine s_off rfl rfl rfl rfl rfl ?_
      refine s_off rfl rfl rfl rfl rfl ?_
      refine s_off rfl rfl rfl rfl rfl ?_
      refine s_rd (r_pickF rfl rfl) rfl ?_
      refine as1 rfl rfl ?_
      refine l_nil (n_then (ref_ret ?_))
      exact fin1 (.inl rfl) () [] rfl trivial rfl (rv_tmp rfl)
    refine s_off rfl rfl rfl rfl rfl ?_
    refine s_off rfl rfl rfl rfl rfl ?_
    refine s_off rfl rfl rfl rfl rfl ?_
    refine s_off rfl rfl rfl rfl rfl ?_
    refine s_off rfl rfl rfl rfl rfl ?_
    refine s_rd (r_pickF rfl rfl) rfl ?_
    refine mv1 rfl rfl ?_
    refine s_off rfl rfl rfl rfl rfl ?_
    refine s_off rfl rfl rfl rfl rfl ?_
    refine s_off rfl rfl rfl rfl rfl ?_
    refine s_off rfl rfl rfl rfl rfl ?_
    refine s_off rfl rfl rfl rfl rfl ?_
    refine s_rd (r_pickF rfl rfl) rfl ?_
    refine mv1 rfl rfl ?_
    refine s_off rfl rfl rfl rfl rfl ?_
    refine s_off rfl rfl rfl rfl rfl ?_
    refine s_off rfl rfl rfl rfl rfl ?_
    refine s_off rfl rfl rfl rfl rfl ?_
    refine s_off rfl rfl rfl rfl rfl ?_
    refine s_rd (r_pickF rfl rfl) rfl ?_
    refine mv1 rfl rfl ?_
    refine s_off rfl rfl rfl rfl rfl ?_
    refine s_off rfl rfl rfl rfl rfl ?_
    refine s_off rfl rfl rfl rfl rfl ?_
    refine s_off rfl rfl rfl rfl rfl ?_
    refine s_off rfl rfl rfl rfl rfl ?_
    refine s_rd (r_pickF rfl rfl) rfl ?_
    refine as1 rfl rfl ?_
    refine l_nil (n_then (ref_ret ?_))
    exact fin1 (.inl rfl) () [] rfl trivial rfl (rv_tmp rfl)
  refine s_off rfl rfl rfl rfl rfl ?_
  refine s_off rfl rfl rfl rfl rfl ?_
  refine s_off rfl rfl rfl rfl rfl ?_
  refine s_off rfl rfl rfl rfl rfl ?_
  refine s_off rfl rfl rfl rfl rfl ?_
  refine s_rd (r_pickF rfl rfl) rfl ?_
  refine mv1 rfl rfl ?_
  refine s_off rfl rfl rfl rfl rfl ?_
  refine s_off rfl rfl rfl rfl rfl ?_
  refine s_off rfl rfl rfl rfl rfl ?_
  refine s_off rfl rfl rfl rfl rfl ?_
  refine s_off rfl rfl rfl rfl rfl ?_
  refine s_rd (r_pickF rfl rfl) rfl ?_
  refine mv1 rfl rfl ?_
  refine s_off rfl rfl rfl rfl rfl ?_
  refine s_off rfl rfl rfl rfl rfl ?_
  refine s_off rfl rfl rfl rfl rfl ?_
  refine s_off rfl rfl rfl rfl rfl ?_
  refine s_off rfl rfl rfl rfl rfl ?_
  refine s_rd (r_pickF rfl rfl) rfl ?_
  refine mv1 rfl rfl ?_
  refine s_off rfl rfl rfl rfl rfl ?_
  refine s_off rfl rfl rfl rfl rfl ?_
  refine s_off rfl rfl rfl rfl rfl ?_
  refine s_off rfl rfl rfl rfl rfl ?_
  refine s_off rfl rfl rfl rfl rfl ?_
  refine s_rd (r_pickF rfl rfl) rfl ?_
  refine mv1 rfl rfl ?_
  refine s_off rfl rfl rfl rfl rfl ?_
  refine s_off rfl rfl rfl rfl rfl ?_
  refine s_off rfl rfl rfl rfl rfl ?_
  refine s_off rfl rfl rfl rfl rfl ?_
  refine s_off rfl rfl rfl rfl rfl ?_
  refine s_rd (r_pickF rfl rfl) rfl ?_
  refine as1 rfl rfl ?_
  refine l_nil (n_then (ref_ret ?_))
  exact fin1 (.inl rfl) () [] rfl trivial rfl (rv_tmp rfl)

/-! deliberation/deliberationref29.with -/
noncomputable def ref29_with_m (l_0 : (List T_api_Packet)) (p_1 : T_api_Packet) : Option (List T_api_Packet) :=
  Option.bind (appM 24 [] l_0) fun t4 =>
  Option.bind (appM 24 t4 [p_1]) fun t6 =>
  some t6

theorem ref29_with_ok {l_0 : (List T_api_Packet)} {p_1 : T_api_Packet} {r : List T_api_Packet} (hm : ref29_with_m l_0 p_1 = some r) :
    FnOk prog 34 [slv rT_api_Packet l_0, ag [bv p_1.Ack, iv .i64 p_1.Number, iv .i64 p_1.Value]] [] (fun (x : (Value × List Nat)) => [pv x.1]) (fun (x : (Value × List Nat)) => [oa rT_api_Packet x.1 x.2 r]) := by
  refine fn_ok (X := (Value × List Nat)) (fn := Try.f34) (N := 11) (res := fun r x => [pv x.1]) (Ω1 := fun r x => [oa rT_api_Packet x.1 x.2 r]) Try.func34 rfl rfl hm rfl (fun E hM => ?_)
  unfold ref29_with_m
  refine ref_seq (ref_region ?_)
  refine s_st (s_box (part_agO (ψs := [bv p_1.Ack, iv .i64 p_1.Number, iv .i64 p_1.Value]) rfl ⟨.inl bv_at, .inl iv_at, .inl iv_at, trivial⟩)) rfl (fun b1 => ?_)
  refine as1 rfl rfl ?_
  refine l_nil (n_then (ref_seq ?_))
  refine pull fun t4 h_t4 => ?_
  refine pull fun t6 h_t6 => ?_
  refine ref_drawI 1 [⟨[], [], [1], [1], [], fun us u => pv u.V.1, fun us u => [oa rT_api_Packet u.V.1 u.V.2 []]⟩, ⟨[], [], [], [], [], fun us u => slv rT_api_Packet l_0, fun us u => []⟩, ⟨[0, 1], [], [1], [1], [1], fun us u => pv u.V.1, fun us u => [oa rT_api_Packet u.V.1 u.V.2 t4]⟩, ⟨[], [], [], [0], [], fun us u => ag [bv p_1.Ack, iv .i64 p_1.Number, iv .i64 p_1.Value], fun us u => []⟩, ⟨[3], [], [], [], [], fun us u => slv rT_api_Packet [p_1], fun us u => []⟩, ⟨[0, 1, 2, 3, 4], [], [1], [1], [1], fun us u => pv u.V.1, fun us u => [oa rT_api_Packet u.V.1 u.V.2 t6]⟩, ⟨[0, 1, 2, 3, 4, 5], [5], [], [], [], fun us u => pv (us.getD 0 .none).V.1, fun us u => []⟩] (fun χ2 => [(4, pv (χ2 5).V.1)]) (fun χ2 => [oc b1 [bv p_1.Ack, iv .i64 p_1.Number, iv .i64 p_1.Value], oa rT_api_Packet (χ2 5).V.1 (χ2 5).V.2 t6]) rfl (by kernel_rfl) ⟨fun χ2 Ω ⟨h1, _⟩ => St.to XU.V XU.hV (St.placeL (os := fun _ => [_]) [1] (s_bsliceO (xs := []) (ds := []) Try.underlying26 el_55 rfl (Nat.le_of_ble_eq_true rfl) trivial) (fun _ => rfl) (fun _ => ⟨h1, rfl, trivial⟩)) (fun _ => rfl) (fun _ => rfl), (by intro _ h; cases h; rfl), ⟨fun χ2 Ω _ => St.toR (r_move rfl) (fun _ => rfl) (fun _ => rfl), (by intro _ h; cases h; rfl), ⟨fun χ2 Ω ⟨h1, _⟩ => St.to XU.V XU.hV (s_append h_t4 Try.underlying26 el_55 rfl (j := 1) h1 rfl) (fun _ => rfl) (fun _ => rfl), (by intro _ h; cases h; rfl), ⟨fun χ2 Ω ⟨h0, _⟩ => St.toR (r_cloadS Try.isAgg55 Try.sizeOf55 rfl (j := 0) h0 rfl rfl) (fun _ => rfl) (fun _ => rfl), (by intro _ h; cases h; rfl), ⟨fun χ2 Ω _ => St.to XU.U XU.hU (s_bslice (xs := [.tmp 8]) (ds := [p_1]) Try.underlying26 el_55 rfl (Nat.le_of_ble_eq_true rfl) ⟨(part_agO (ψs := [bv p_1.Ack, iv .i64 p_1.Number, iv .i64 p_1.Value]) rfl ⟨.inl bv_at, .inl iv_at, .inl iv_at, trivial⟩), trivial⟩) (fun _ => rfl) (fun _ => rfl), (by intro _ h; cases h; rfl), ⟨fun χ2 Ω ⟨h1, _⟩ => St.to XU.V XU.hV (s_append h_t6 Try.underlying26 el_55 rfl (j := 1) h1 rfl) (fun _ => rfl) (fun _ => rfl), (by intro _ h; cases h; rfl), ⟨fun χ2 Ω _ => St.toR (r_assign rfl) (fun _ => rfl) (fun _ => rfl), (by intro _ h; cases h; rfl), trivial⟩⟩⟩⟩⟩⟩⟩ (fun _ => ⟨rfl, trivial⟩) (fun _ => rfl) (fun χ2 => ?_)
  refine n_then (ref_ret ?_)
  exact fin1 (.inl rfl) (χ2 5).V [1] rfl ⟨rfl, trivial⟩ rfl (rv_tmp rfl)

/-! deliberation/deliberationref29.without -/
noncomputable def ref29_without_m (l_0 : (List T_api_Packet)) (n_1 : Int) : Option (List T_api_Packet) :=
  Option.bind (slM l_0 0 n_1) fun t1 =>
  Option.bind (slM l_0 (iadd .i64 n_1 1) (l_0.length : Int)) fun t2 =>
  Option.bind (appM 24 [] t1) fun t4 =>
  Option.bind (appM 24 t4 t2) fun t6 =>
  some t6

theorem ref29_without_ok {l_0 : (List T_api_Packet)} {n_1 : Int} {r : List T_api_Packet} (hm : ref29_without_m l_0 n_1 = some r) :
    FnOk prog 35 [slv rT_api_Packet l_0, iv .i64 n_1] [] (fun (x : (Value × List Nat)) => [pv x.1]) (fun (x : (Value × List Nat)) => [oa rT_api_Packet x.1 x.2 r]) := by
  refine fn_ok (X := (Value × List Nat)) (fn := Try.f35) (N := 15) (res := fun r x => [pv x.1]) (Ω1 := fun r x => [oa rT_api_Packet x.1 x.2 r]) Try.func35 rfl rfl hm rfl (fun E hM => ?_)
  unfold ref29_without_m
  refine ref_seq (ref_region ?_)
  refine as1 rfl rfl ?_
  refine l_nil (n_then (ref_seq ?_))
  refine ref_draw [1, 2, 3, 5, 6, 7, 8] rfl (by kernel_rfl) (fun hok => ?_)
  refine a_rd (i := 1) hok rfl (by kernel_rfl) rfl (r_move rfl) rfl ?_
  refine a_rd (i := 2) hok rfl (by kernel_rfl) rfl (r_move rfl) rfl ?_
  refine pull fun t1 h_t1 => ?_
  refine a_rd (i := 3) hok rfl (by kernel_rfl) rfl (r_slice h_t1 Try.underlying26 el_55 rfl .dft (.of rfl)) rfl ?_
  refine a_rd (i := 5) hok rfl (by kernel_rfl) rfl (r_move rfl) rfl ?_
  refine a_rd (i := 6) hok rfl (by kernel_rfl) rfl (r_move rfl) rfl ?_
  refine a_rd (i := 7) hok rfl (by kernel_rfl) rfl (r_add rfl rfl) rfl ?_
  refine pull fun t2 h_t2 => ?_
  refine a_rd (i := 8) hok rfl (by kernel_rfl) rfl (r_slice h_t2 Try.underlying26 el_55 rfl (.of rfl) .dft) rfl ?_
  refine a_next hok 0 [] (by kernel_rfl) ?_ trivial
  refine a_st (i := 0) hok rfl rfl (s_bsliceO (xs := []) (ds := []) Try.underlying26 el_55 rfl (Nat.le_of_ble_eq_true rfl) trivial) (by intro _ h; cases h; rfl) (fun _ => ⟨trivial, ⟨trivial, ⟨trivial, ⟨trivial, ⟨trivial, ⟨trivial, ⟨trivial, trivial⟩⟩⟩⟩⟩⟩⟩) (fun o3 => ?_)
  refine pull fun t4 h_t4 => ?_
  refine a_next hok 4 [] (by kernel_rfl) ?_ trivial
  refine a_st (i := 4) hok rfl rfl (s_append h_t4 Try.underlying26 el_55 rfl (j := 0) rfl rfl) (by intro _ h; cases h; rfl) (fun _ => ⟨trivial, ⟨trivial, ⟨trivial, ⟨trivial, ⟨trivial, ⟨trivial, ⟨trivial, trivial⟩⟩⟩⟩⟩⟩⟩) (fun o5 => ?_)
  refine pull fun t6 h_t6 => ?_
  refine a_next hok 9 [] (by kernel_rfl) ?_ trivial
  refine a_st (i := 9) hok rfl rfl (s_append h_t6 Try.underlying26 el_55 rfl (j := 0) rfl rfl) (by intro _ h; cases h; rfl) (fun _ => ⟨trivial, ⟨trivial, ⟨trivial, ⟨trivial, ⟨trivial, ⟨trivial, ⟨trivial, trivial⟩⟩⟩⟩⟩⟩⟩) (fun o7 => ?_)
  refine a_next hok 10 [] (by kernel_rfl) ?_ trivial
  refine a_st (i := 10) hok rfl rfl (St.ofRd (r_assign rfl)) (by intro _ h; cases h; rfl) (fun _ => ⟨trivial, ⟨trivial, ⟨trivial, ⟨trivial, ⟨trivial, ⟨trivial, ⟨trivial, trivial⟩⟩⟩⟩⟩⟩⟩) (fun _ => ?_)
  refine a_fin hok (by kernel_rfl) ?_
  refine b_of (nrm [oa rT_api_Packet o7.1 o7.2 t6] rfl) ?_
  refine n_then (ref_ret ?_)
  exact fin1 (.inl rfl) o7 [0] rfl ⟨rfl, trivial⟩ rfl (rv_tmp rfl)

/-! deliberation/deliberationref29.receive -/
noncomputable def ref29_receive_l1 (c_0 : T_api_Channel) (p_1 : T_api_Packet) (s13 : Bool × Int) : Option (Sum (Bool) (Bool × Int)) :=
  bif decide (s13.2 < (c_0.Held.length : Int)) then
    bif s13.1 then
      letM (iadd .i64 s13.2 1) fun i17 =>
      some (Sum.inr (true, i17))
    else
      Option.bind (idxM c_0.Held s13.2) fun t16 =>
      letM (iadd .i64 s13.2 1) fun i18 =>
      some (Sum.inr (t16.Number == p_1.Number, i18))
  else
    some (Sum.inl s13.1)

noncomputable def ref29_receive_l3  (s57 : (List T_api_Packet) × (List Int)) : Option (Sum ((List Int) × (List T_api_Packet)) ((List T_api_Packet) × (List Int))) :=
  bif decide ((s57.1.length : Int) > 0) then
    Option.bind (idxM s57.1 0) fun t59 =>
    bif t59.Number == (s57.2.length : Int) then
      Option.bind (idxM s57.1 0) fun t61 =>
      Option.bind (appM 8 s57.2 [t61.Value]) fun t62 =>
      Option.bind (slM s57.1 1 (s57.1.length : Int)) fun t64 =>
      some (Sum.inr (t64, t62))
    else
      some (Sum.inl (s57.2, s57.1))
  else
    some (Sum.inl (s57.2, s57.1))

noncomputable def ref29_receive_l2 (c_0 : T_api_Channel) (p_1 : T_api_Packet) (s26 : Int) : Option (Sum (Int) (Int)) :=
  bif decide (s26 < (c_0.Held.length : Int)) then
    Option.bind (idxM c_0.Held s26) fun t28 =>
    bif decide (t28.Number < p_1.Number) then
      letM (iadd .i64 s26 1) fun k30 =>
      some (Sum.inr k30)
    else
      some (Sum.inl s26)
  else
    some (Sum.inl s26)

noncomputable def ref29_receive_m (c_0 : T_api_Channel) (p_1 : T_api_Packet) : Option (T_api_Channel) :=
  letM ((c_0.Received.length : Int)) fun n4 =>
  joinM (fun j6 : Bool =>
      Option.bind (loopC (ref29_receive_l1 c_0 p_1) (j6, 0)) fun q19 : Bool =>
      joinM (fun j43 : (List T_api_Packet) =>
          Option.bind (appM 8 [] c_0.Received) fun t47 =>
          Option.bind (loopC (ref29_receive_l3) (j43, t47)) fun q65 : (List Int) × (List T_api_Packet) =>
          bif decide ((c_0.Flight.length : Int) < 200) then
            Option.bind (ref29_with_m c_0.Flight (T_api_Packet.mk true (q65.1.length : Int) 0)) fun t68 =>
            some (T_api_Channel.mk c_0.Items c_0.Window c_0.Base q65.1 q65.2 t68)
          else
            some (T_api_Channel.mk c_0.Items c_0.Window c_0.Base q65.1 q65.2 c_0.Flight)) fun k45 =>
      bif !q19 then
        Option.bind (loopC (ref29_receive_l2 c_0 p_1) 0) fun q31 : Int =>
        Option.bind (slM c_0.Held 0 q31) fun t35 =>
        Option.bind (appM 24 [] t35) fun t36 =>
        Option.bind (appM 24 t36 [p_1]) fun t38 =>
        Option.bind (slM c_0.Held q31 (c_0.Held.length : Int)) fun t40 =>
        Option.bind (appM 24 t38 t40) fun t41 =>
        k45 t41
      else
        k45 c_0.Held) fun k8 =>
  bif decide (p_1.Number < n4) then
    k8 true
  else
    letM (decide (p_1.Number ≥ (iadd .i64 n4 c_0.Window))) fun known5 =>
    k8 known5

theorem ref29_receive_ok {c_0 : T_api_Channel} {p_1 : T_api_Packet} {r : T_api_Channel} (hm : ref29_receive_m c_0 p_1 = some r) :
    FnOk prog 36 [ag [slv (rI .i64) c_0.Items, iv .i64 c_0.Window, iv .i64 c_0.Base, slv (rI .i64) c_0.Received, slv rT_api_Packet c_0.Held, slv rT_api_Packet c_0.Flight], ag [bv p_1.Ack, iv .i64 p_1.Number, iv .i64 p_1.Value]] [] (fun (x : Unit) => [ag [slv (rI .i64) r.Items, iv .i64 r.Window, iv .i64 r.Base, slv (rI .i64) r.Received, slv rT_api_Packet r.Held, slv rT_api_Packet r.Flight]]) (fun (x : Unit) => []) := by
  refine fn_ok (fn := Try.f36) (N := 126) (res := fun r x => [ag [slv (rI .i64) r.Items, iv .i64 r.Window, iv .i64 r.Base, slv (rI .i64) r.Received, slv rT_api_Packet r.Held, slv rT_api_Packet r.Flight]]) (Ω1 := fun r x => []) Try.func36 rfl rfl hm rfl (fun E hM => ?_)
  unfold ref29_receive_m
  refine ref_seq (ref_region ?_)
  refine s_st (s_box (part_agO (ψs := [slv (rI .i64) c_0.Items, iv .i64 c_0.Window, iv .i64 c_0.Base, slv (rI .i64) c_0.Received, slv rT_api_Packet c_0.Held, slv rT_api_Packet c_0.Flight]) rfl ⟨.inl slv_at, .inl iv_at, .inl iv_at, .inl slv_at, .inl slv_at, .inl slv_at, trivial⟩)) rfl (fun b1 => ?_)
  refine s_st (s_box (part_agO (ψs := [bv p_1.Ack, iv .i64 p_1.Number, iv .i64 p_1.Value]) rfl ⟨.inl bv_at, .inl iv_at, .inl iv_at, trivial⟩)) rfl (fun b2 => ?_)
  refine s_st (s_alloc zt_28) rfl (fun b3 => ?_)
  refine l_nil (n_then (ref_seq (ref_region ?_)))
  refine s_rd (r_faddr (fo := 3) Try.underlying28 rfl rfl Try.sizeOf22 rfl) rfl ?_
  refine s_rd (r_cload Try.isAgg22 rfl (j := 0) rfl rfl) rfl ?_
  refine s_rd (r_len Try.underlying22 rfl) rfl ?_
  refine as1 rfl rfl ?_
  refine b_let (f := iv .i64) (t := 5) rfl fun n4 => ?_
  refine l_nil (n_then (ref_seq ?_))
  refine ref_join (fun (j6 : Bool) (x7 : Unit) => [(2, pv (ptr b1 0)), (3, pv (ptr b2 0)), (4, pv (ptr b3 0)), (6, bv j6)]) (fun (j6 : Bool) (x7 : Unit) => [oc b1 [slv (rI .i64) c_0.Items, iv .i64 c_0.Window, iv .i64 c_0.Base, slv (rI .i64) c_0.Received, slv rT_api_Packet c_0.Held, slv rT_api_Packet c_0.Flight], oc b2 [bv p_1.Ack, iv .i64 p_1.Number, iv .i64 p_1.Value], oc b3 [pv (.slice none 0 0), iv .i64 0, iv .i64 0, pv (.slice none 0 0), pv (.slice none 0 0), pv (.slice none 0 0)]]) (fun k8 hk8 => ?_) (fun j6 x7 => ?_)
  · refine ref_region ?_
    refine s_rd (r_faddr (fo := 1) Try.underlying55 rfl rfl Try.sizeOf3 rfl) rfl ?_
    refine s_rd (r_cload Try.isAgg3 rfl (j := 1) rfl rfl) rfl ?_
    refine mv1 rfl rfl ?_
    refine s_rd (r_lss rfl rfl) rfl ?_
    refine mv1 rfl rfl ?_
    refine b_split (t := 16) rfl (fun _ => ?_) (fun _ => ?_)
    · refine s_off rfl rfl rfl rfl rfl ?_
      refine s_off rfl rfl rfl rfl rfl ?_
      refine s_off rfl rfl rfl rfl rfl ?_
      refine s_off rfl rfl rfl rfl rfl ?_
      refine s_off rfl rfl rfl rfl rfl ?_
      refine s_off rfl rfl rfl rfl rfl ?_
      refine s_off rfl rfl rfl rfl rfl ?_
      refine s_rd (r_pickT rfl rfl) rfl ?_
      refine as1 rfl rfl ?_
      refine l_nil ?_
      exact b_to (hk8 true ()) (weak [0, 1, 2] ⟨rfl, rfl, rfl, rfl, trivial⟩ ⟨rfl, rfl, rfl, trivial⟩)
    refine s_on rfl rfl rfl ?_
    refine s_rd (r_faddr (fo := 1) Try.underlying55 rfl rfl Try.sizeOf3 rfl) rfl ?_
    refine s_on rfl rfl rfl ?_
    refine s_rd (r_cload Try.isAgg3 rfl (j := 1) rfl rfl) rfl ?_
    refine s_on rfl rfl rfl ?_
    refine mv1 rfl rfl ?_
    refine s_on rfl rfl rfl ?_
    refine s_rd (r_faddr (fo := 1) Try.underlying28 rfl rfl Try.sizeOf3 rfl) rfl ?_
    refine s_on rfl rfl rfl ?_
    refine s_rd (r_cload Try.isAgg3 rfl (j := 0) rfl rfl) rfl ?_
    refine s_on rfl rfl rfl ?_
    refine s_rd (r_add rfl rfl) rfl ?_
    refine s_on rfl rfl rfl ?_
    refine s_rd (r_geq rfl rfl) rfl ?_
    refine s_rd (r_pickF rfl rfl) rfl ?_
    refine as1 rfl rfl ?_
    refine b_let (f := bv) (t := 6) rfl fun known5 => ?_
    refine l_nil ?_
    exact b_to (hk8 known5 ()) (weak [0, 1, 2] ⟨rfl, rfl, rfl, rfl, trivial⟩ ⟨rfl, rfl, rfl, trivial⟩)
  refine n_then (ref_seq (ref_seq (ref_region ?_)))
  refine as1 rfl rfl ?_
  refine l_nil (n_then ?_)
  refine ref_loopB (f := (ref29_receive_l1 c_0 p_1)) (Γl := (fun (s13 : Bool × Int) (x14 : Unit) => [(2, pv (ptr b1 0)), (3, pv (ptr b2 0)), (4, pv (ptr b3 0)), (6, bv s13.1), (7, iv .i64 s13.2)])) (Ωl := (fun (s13 : Bool × Int) (x14 : Unit) => [oc b1 [slv (rI .i64) c_0.Items, iv .i64 c_0.Window, iv .i64 c_0.Base, slv (rI .i64) c_0.Received, slv rT_api_Packet c_0.Held, slv rT_api_Packet c_0.Flight], oc b2 [bv p_1.Ack, iv .i64 p_1.Number, iv .i64 p_1.Value], oc b3 [pv (.slice none 0 0), iv .i64 0, iv .i64 0, pv (.slice none 0 0), pv (.slice none 0 0), pv (.slice none 0 0)]])) (Γb := (fun (q19 : Bool) (y20 : Unit) => [(2, pv (ptr b1 0)), (3, pv (ptr b2 0)), (4, pv (ptr b3 0)), (6, bv q19)])) (Ωb := (fun (q19 : Bool) (y20 : Unit) => [oc b1 [slv (rI .i64) c_0.Items, iv .i64 c_0.Window, iv .i64 c_0.Base, slv (rI .i64) c_0.Received, slv rT_api_Packet c_0.Held, slv rT_api_Packet c_0.Flight], oc b2 [bv p_1.Ack, iv .i64 p_1.Number, iv .i64 p_1.Value], oc b3 [pv (.slice none 0 0), iv .i64 0, iv .i64 0, pv (.slice none 0 0), pv (.slice none 0 0), pv (.slice none 0 0)]])) (j6, 0) () (weak [0, 1, 2] ⟨rfl, rfl, rfl, rfl, rfl, trivial⟩ ⟨rfl, rfl, rfl, trivial⟩) (fun s13 x14 => ?_) (fun q19 y20 => ?_)
  · unfold ref29_receive_l1
    refine ref_seq (ref_seq (ref_region ?_))
    refine mv1 rfl rfl ?_
    refine s_rd (r_faddr (fo := 4) Try.underlying28 rfl rfl Try.sizeOf26 rfl) rfl ?_
    refine s_rd (r_cload Try.isAgg26 rfl (j := 0) rfl rfl) rfl ?_
    refine s_rd (r_len Try.underlying26 rfl) rfl ?_
    refine s_rd (r_lss rfl rfl) rfl ?_
    refine l_nil (n_then ?_)
    refine ref_cond rfl (fun hb15 => ?_) (fun hb15 => ?_)
    · refine ref_skip (n_then (ref_seq (ref_block ?_)))
      refine ref_draw [0, 1, 2, 3, 4, 5, 6, 7, 8, 9, 10, 11] rfl (by kernel_rfl) (fun hok => ?_)
      refine a_rd (i := 0) hok rfl (by kernel_rfl) rfl (r_move rfl) rfl ?_
      refine a_rd (i := 1) hok rfl (by kernel_rfl) rfl (r_move rfl) rfl ?_
      refine b_split (t := 33) rfl (fun _ => ?_) (fun _ => ?_)
      · refine a_off (i := 2) hok rfl rfl rfl rfl rfl (by kernel_rfl) rfl rfl ?_
        refine a_off (i := 3) hok rfl rfl rfl rfl rfl (by kernel_rfl) rfl rfl ?_
        refine a_off (i := 4) hok rfl rfl rfl rfl rfl (by kernel_rfl) rfl rfl ?_
        refine a_off (i := 5) hok rfl rfl rfl rfl rfl (by kernel_rfl) rfl rfl ?_
        refine a_off (i := 6) hok rfl rfl rfl rfl rfl (by kernel_rfl) rfl rfl ?_
        refine a_off (i := 7) hok rfl rfl rfl rfl rfl (by kernel_rfl) rfl rfl ?_
        refine a_off (i := 8) hok rfl rfl rfl rfl rfl (by kernel_rfl) rfl rfl ?_
        refine a_off (i := 9) hok rfl rfl rfl rfl rfl (by kernel_rfl) rfl rfl ?_
        refine a_off (i := 10) hok rfl rfl rfl rfl rfl (by kernel_rfl) rfl rfl ?_
        refine a_rd (i := 11) hok rfl (by kernel_rfl) rfl (r_pickT rfl rfl) rfl ?_
        refine a_next hok 12 [] (by kernel_rfl) ?_ trivial
        refine a_st (i := 12) hok rfl rfl (St.ofRd (r_assign rfl)) (by intro _ h; cases h; rfl) (fun _ => ⟨trivial, ⟨trivial, ⟨trivial, ⟨trivial, ⟨trivial, ⟨trivial, ⟨trivial, ⟨trivial, ⟨trivial, ⟨trivial, ⟨trivial, ⟨trivial, trivial⟩⟩⟩⟩⟩⟩⟩⟩⟩⟩⟩⟩) (fun _ => ?_)
        refine a_fin hok (by kernel_rfl) ?_
        refine n_block (n_then (ref_region ?_))
        refine mv1 rfl rfl ?_
        refine s_rd (r_add rfl rfl) rfl ?_
        refine as1 rfl rfl ?_
        refine b_let (f := iv .i64) (t := 7) rfl fun i17 => ?_
        refine l_nil ?_
        exact goB () (weak [0, 1, 2] ⟨rfl, rfl, rfl, rfl, rfl, trivial⟩ ⟨rfl, rfl, rfl, trivial⟩)
      refine a_rdOn (i := 2) hok rfl rfl rfl rfl (by kernel_rfl) rfl (r_faddr (fo := 4) Try.underlying28 rfl rfl Try.sizeOf26 rfl) rfl ?_
      refine a_rdOn (i := 3) hok rfl rfl rfl rfl (by kernel_rfl) rfl (r_cload Try.isAgg26 rfl (j := 0) rfl rfl) rfl ?_
      refine a_rdOn (i := 4) hok rfl rfl rfl rfl (by kernel_rfl) rfl (r_move rfl) rfl ?_
      refine pull fun t16 h_t16 => ?_
      refine a_rdOn (i := 5) hok rfl rfl rfl rfl (by kernel_rfl) rfl (r_index h_t16 Try.underlying26 el_55 rfl rfl) rfl ?_
      refine a_rdOn (i := 6) hok rfl rfl rfl rfl (by kernel_rfl) rfl (r_fea (fo := 1) (ρ := rT_api_Packet) (y := t16) (ρ' := (rI .i64)) (z := t16.Number) Try.underlying55 rfl rfl Try.sizeOf3 rfl rfl rfl) rfl ?_
      refine a_rdOn (i := 7) hok rfl rfl rfl rfl (by kernel_rfl) rfl (r_load el_3 rfl) rfl ?_
      refine a_rdOn (i := 8) hok rfl rfl rfl rfl (by kernel_rfl) rfl (r_faddr (fo := 1) Try.underlying55 rfl rfl Try.sizeOf3 rfl) rfl ?_
      refine a_rdOn (i := 9) hok rfl rfl rfl rfl (by kernel_rfl) rfl (r_cload Try.isAgg3 rfl (j := 1) rfl rfl) rfl ?_
      refine a_rdOn (i := 10) hok rfl rfl rfl rfl (by kernel_rfl) rfl (r_eql rfl rfl) rfl ?_
      refine a_rd (i := 11) hok rfl (by kernel_rfl) rfl (r_pickF rfl rfl) rfl ?_
      refine a_next hok 12 [] (by kernel_rfl) ?_ trivial
      refine a_st (i := 12) hok rfl rfl (St.ofRd (r_assign rfl)) (by intro _ h; cases h; rfl) (fun _ => ⟨trivial, ⟨trivial, ⟨trivial, ⟨trivial, ⟨trivial, ⟨trivial, ⟨trivial, ⟨trivial, ⟨trivial, ⟨trivial, ⟨trivial, ⟨trivial, trivial⟩⟩⟩⟩⟩⟩⟩⟩⟩⟩⟩⟩) (fun _ => ?_)
      refine a_fin hok (by kernel_rfl) ?_
      refine n_block (n_then (ref_region ?_))
      refine mv1 rfl rfl ?_
      refine s_rd (r_add rfl rfl) rfl ?_
      refine as1 rfl rfl ?_
      refine b_let (f := iv .i64) (t := 7) rfl fun i18 => ?_
      refine l_nil ?_
      exact goB () (weak [0, 1, 2] ⟨rfl, rfl, rfl, rfl, rfl, trivial⟩ ⟨rfl, rfl, rfl, trivial⟩)
    refine ref_exit (x_then ?_)
    exact brkB () (weak [0, 1, 2] ⟨rfl, rfl, rfl, rfl, trivial⟩ ⟨rfl, rfl, rfl, trivial⟩)
  refine n_then (ref_seq ?_)
  refine ref_join (fun (j43 : (List T_api_Packet)) (x44 : Unit) => [(2, pv (ptr b1 0)), (4, pv (ptr b3 0))]) (fun (j43 : (List T_api_Packet)) (x44 : Unit) => [oc b1 [slv (rI .i64) c_0.Items, iv .i64 c_0.Window, iv .i64 c_0.Base, slv (rI .i64) c_0.Received, slv rT_api_Packet j43, slv rT_api_Packet c_0.Flight], oc b3 [pv (.slice none 0 0), iv .i64 0, iv .i64 0, pv (.slice none 0 0), pv (.slice none 0 0), pv (.slice none 0 0)]]) (fun k45 hk45 => ?_) (fun j43 x44 => ?_)
  · refine ref_seq (ref_region ?_)
    refine mv1 rfl rfl ?_
    refine s_rd (r_not rfl) rfl ?_
    refine l_nil (n_then ?_)
    refine ref_cond rfl (fun hb21 => ?_) (fun hb21 => ?_)
    · refine ref_seq (ref_region ?_)
      refine as1 rfl rfl ?_
      refine l_nil (n_then (ref_seq ?_))
      refine ref_loopB (f := (ref29_receive_l2 c_0 p_1)) (Γl := (fun (s26 : Int) (x27 : Unit) => [(2, pv (ptr b1 0)), (3, pv (ptr b2 0)), (4, pv (ptr b3 0)), (8, iv .i64 s26)])) (Ωl := (fun (s26 : Int) (x27 : Unit) => [oc b1 [slv (rI .i64) c_0.Items, iv .i64 c_0.Window, iv .i64 c_0.Base, slv (rI .i64) c_0.Received, slv rT_api_Packet c_0.Held, slv rT_api_Packet c_0.Flight], oc b2 [bv p_1.Ack, iv .i64 p_1.Number, iv .i64 p_1.Value], oc b3 [pv (.slice none 0 0), iv .i64 0, iv .i64 0, pv (.slice none 0 0), pv (.slice none 0 0), pv (.slice none 0 0)]])) (Γb := (fun (q31 : Int) (y32 : Unit) => [(2, pv (ptr b1 0)), (3, pv (ptr b2 0)), (4, pv (ptr b3 0)), (8, iv .i64 q31)])) (Ωb := (fun (q31 : Int) (y32 : Unit) => [oc b1 [slv (rI .i64) c_0.Items, iv .i64 c_0.Window, iv .i64 c_0.Base, slv (rI .i64) c_0.Received, slv rT_api_Packet c_0.Held, slv rT_api_Packet c_0.Flight], oc b2 [bv p_1.Ack, iv .i64 p_1.Number, iv .i64 p_1.Value], oc b3 [pv (.slice none 0 0), iv .i64 0, iv .i64 0, pv (.slice none 0 0), pv (.slice none 0 0), pv (.slice none 0 0)]])) 0 () (weak [0, 1, 2] ⟨rfl, rfl, rfl, rfl, trivial⟩ ⟨rfl, rfl, rfl, trivial⟩) (fun s26 x27 => ?_) (fun q31 y32 => ?_)
      · unfold ref29_receive_l2
        refine ref_seq (ref_seq ?_)
        refine ref_draw [0, 1, 2, 3, 4, 5, 6, 7, 8, 9, 10, 11, 12, 13, 14, 15] rfl (by kernel_rfl) (fun hok => ?_)
        refine a_rd (i := 0) hok rfl (by kernel_rfl) rfl (r_move rfl) rfl ?_
        refine a_rd (i := 1) hok rfl (by kernel_rfl) rfl (r_faddr (fo := 4) Try.underlying28 rfl rfl Try.sizeOf26 rfl) rfl ?_
        refine a_rd (i := 2) hok rfl (by kernel_rfl) rfl (r_cload Try.isAgg26 rfl (j := 0) rfl rfl) rfl ?_
        refine a_rd (i := 3) hok rfl (by kernel_rfl) rfl (r_len Try.underlying26 rfl) rfl ?_
        refine a_rd (i := 4) hok rfl (by kernel_rfl) rfl (r_lss rfl rfl) rfl ?_
        refine a_rd (i := 5) hok rfl (by kernel_rfl) rfl (r_move rfl) rfl ?_
        refine b_split (t := 51) rfl (fun _ => ?_) (fun _ => ?_)
        · refine a_rdOn (i := 6) hok rfl rfl rfl rfl (by kernel_rfl) rfl (r_faddr (fo := 4) Try.underlying28 rfl rfl Try.sizeOf26 rfl) rfl ?_
          refine a_rdOn (i := 7) hok rfl rfl rfl rfl (by kernel_rfl) rfl (r_cload Try.isAgg26 rfl (j := 0) rfl rfl) rfl ?_
          refine a_rdOn (i := 8) hok rfl rfl rfl rfl (by kernel_rfl) rfl (r_move rfl) rfl ?_
          refine pull fun t28 h_t28 => ?_
          refine a_rdOn (i := 9) hok rfl rfl rfl rfl (by kernel_rfl) rfl (r_index h_t28 Try.underlying26 el_55 rfl rfl) rfl ?_
          refine a_rdOn (i := 10) hok rfl rfl rfl rfl (by kernel_rfl) rfl (r_fea (fo := 1) (ρ := rT_api_Packet) (y := t28) (ρ' := (rI .i64)) (z := t28.Number) Try.underlying55 rfl rfl Try.sizeOf3 rfl rfl rfl) rfl ?_
          refine a_rdOn (i := 11) hok rfl rfl rfl rfl (by kernel_rfl) rfl (r_load el_3 rfl) rfl ?_
          refine a_rdOn (i := 12) hok rfl rfl rfl rfl (by kernel_rfl) rfl (r_faddr (fo := 1) Try.underlying55 rfl rfl Try.sizeOf3 rfl) rfl ?_
          refine a_rdOn (i := 13) hok rfl rfl rfl rfl (by kernel_rfl) rfl (r_cload Try.isAgg3 rfl (j := 1) rfl rfl) rfl ?_
          refine a_rdOn (i := 14) hok rfl rfl rfl rfl (by kernel_rfl) rfl (r_lss rfl rfl) rfl ?_
          refine a_rd (i := 15) hok rfl (by kernel_rfl) rfl (r_pickT rfl rfl) rfl ?_
          refine a_fin hok (by kernel_rfl) ?_
          refine n_then ?_
          refine ref_cond rfl (fun hb29 => ?_) (fun hb29 => ?_)
          · refine ref_skip (n_then (ref_block (ref_region ?_)))
            refine mv1 rfl rfl ?_
            refine s_rd (r_add rfl rfl) rfl ?_
            refine as1 rfl rfl ?_
            refine b_let (f := iv .i64) (t := 8) rfl fun k30 => ?_
            refine l_nil (n_block ?_)
            exact goB () (weak [0, 1, 2] ⟨rfl, rfl, rfl, rfl, trivial⟩ ⟨rfl, rfl, rfl, trivial⟩)
          refine ref_exit (x_then ?_)
          exact brkB () (weak [0, 1, 2] ⟨rfl, rfl, rfl, rfl, trivial⟩ ⟨rfl, rfl, rfl, trivial⟩)
        refine a_off (i := 6) hok rfl rfl rfl rfl rfl (by kernel_rfl) rfl rfl ?_
        refine a_off (i := 7) hok rfl rfl rfl rfl rfl (by kernel_rfl) rfl rfl ?_
        refine a_off (i := 8) hok rfl rfl rfl rfl rfl (by kernel_rfl) rfl rfl ?_
        refine a_off (i := 9) hok rfl rfl rfl rfl rfl (by kernel_rfl) rfl rfl ?_
        refine a_off (i := 10) hok rfl rfl rfl rfl rfl (by kernel_rfl) rfl rfl ?_
        refine a_off (i := 11) hok rfl rfl rfl rfl rfl (by kernel_rfl) rfl rfl ?_
        refine a_off (i := 12) hok rfl rfl rfl rfl rfl (by kernel_rfl) rfl rfl ?_
        refine a_off (i := 13) hok rfl rfl rfl rfl rfl (by kernel_rfl) rfl rfl ?_
        refine a_off (i := 14) hok rfl rfl rfl rfl rfl (by kernel_rfl) rfl rfl ?_
        refine a_rd (i := 15) hok rfl (by kernel_rfl) rfl (r_pickF rfl rfl) rfl ?_
        refine a_fin hok (by kernel_rfl) ?_
        refine n_then ?_
        refine ref_condF rfl rfl ?_
        refine ref_exit (x_then ?_)
        exact brkB () (weak [0, 1, 2] ⟨rfl, rfl, rfl, rfl, trivial⟩ ⟨rfl, rfl, rfl, trivial⟩)
      refine n_then ?_
      refine pull fun t35 h_t35 => ?_
      refine pull fun t36 h_t36 => ?_
      refine pull fun t38 h_t38 => ?_
      refine pull fun t40 h_t40 => ?_
      refine pull fun t41 h_t41 => ?_
      refine ref_drawI 1 [⟨[], [], [3], [3], [], fun us u => pv u.V.1, fun us u => [oa rT_api_Packet u.V.1 u.V.2 []]⟩, ⟨[], [], [], [], [], fun us u => pv (ptr b1 4), fun us u => []⟩, ⟨[1], [], [], [0], [], fun us u => slv rT_api_Packet c_0.Held, fun us u => []⟩, ⟨[], [], [], [], [], fun us u => iv .i64 q31, fun us u => []⟩, ⟨[1, 2, 3], [], [], [], [], fun us u => slv rT_api_Packet t35, fun us u => []⟩, ⟨[0, 1, 2, 3, 4], [], [3], [3], [3], fun us u => pv u.V.1, fun us u => [oa rT_api_Packet u.V.1 u.V.2 t36]⟩, ⟨[], [], [], [1], [], fun us u => ag [bv p_1.Ack, iv .i64 p_1.Number, iv .i64 p_1.Value], fun us u => []⟩, ⟨[6], [], [], [], [], fun us u => slv rT_api_Packet [p_1], fun us u => []⟩, ⟨[0, 1, 2, 3, 4, 5, 6, 7], [], [3], [3], [3], fun us u => pv u.V.1, fun us u => [oa rT_api_Packet u.V.1 u.V.2 t38]⟩, ⟨[], [], [], [], [], fun us u => pv (ptr b1 4), fun us u => []⟩, ⟨[9], [], [], [0], [], fun us u => slv rT_api_Packet c_0.Held, fun us u => []⟩, ⟨[], [], [], [], [], fun us u => iv .i64 q31, fun us u => []⟩, ⟨[9, 10, 11], [], [], [], [], fun us u => slv rT_api_Packet t40, fun us u => []⟩, ⟨[0, 1, 2, 3, 4, 5, 6, 7, 8, 9, 10, 11, 12], [], [3], [3], [3], fun us u => pv u.V.1, fun us u => [oa rT_api_Packet u.V.1 u.V.2 t41]⟩, ⟨[0, 1, 2, 3, 4, 5, 6, 7, 8, 9, 10, 11, 12, 13], [], [], [], [], fun us u => pv (ptr b1 4), fun us u => []⟩, ⟨[0, 1, 2, 3, 4, 5, 6, 7, 8, 9, 10, 11, 12, 13, 14], [13], [0], [0, 3], [0], fun us u => pv undef, fun us u => [oc b1 [slv (rI .i64) c_0.Items, iv .i64 c_0.Window, iv .i64 c_0.Base, slv (rI .i64) c_0.Received, pv (us.getD 0 .none).V.1, slv rT_api_Packet c_0.Flight]]⟩] (fun χ33 => [(2, pv (ptr b1 0)), (4, pv (ptr b3 0))]) (fun χ33 => [oc b1 [slv (rI .i64) c_0.Items, iv .i64 c_0.Window, iv .i64 c_0.Base, slv (rI .i64) c_0.Received, pv (χ33 13).V.1, slv rT_api_Packet c_0.Flight], oc b2 [bv p_1.Ack, iv .i64 p_1.Number, iv .i64 p_1.Value], oc b3 [pv (.slice none 0 0), iv .i64 0, iv .i64 0, pv (.slice none 0 0), pv (.slice none 0 0), pv (.slice none 0 0)], oa rT_api_Packet (χ33 13).V.1 (χ33 13).V.2 t41]) rfl (by kernel_rfl) ⟨fun χ33 Ω ⟨h3, _⟩ => St.to XU.V XU.hV (St.placeL (os := fun _ => [_]) [3] (s_bsliceO (xs := []) (ds := []) Try.underlying26 el_55 rfl (Nat.le_of_ble_eq_true rfl) trivial) (fun _ => rfl) (fun _ => ⟨h3, rfl, trivial⟩)) (fun _ => rfl) (fun _ => rfl), (by intro _ h; cases h; rfl), ⟨fun χ33 Ω _ => St.toR (r_faddr (fo := 4) Try.underlying28 rfl rfl Try.sizeOf26 rfl) (fun _ => rfl) (fun _ => rfl), (by intro _ h; cases h; rfl), ⟨fun χ33 Ω ⟨h0, _⟩ => St.toR (r_cload Try.isAgg26 rfl (j := 0) h0 rfl) (fun _ => rfl) (fun _ => rfl), (by intro _ h; cases h; rfl), ⟨fun χ33 Ω _ => St.toR (r_move rfl) (fun _ => rfl) (fun _ => rfl), (by intro _ h; cases h; rfl), ⟨fun χ33 Ω _ => St.toR (r_slice h_t35 Try.underlying26 el_55 rfl .dft (.of rfl)) (fun _ => rfl) (fun _ => rfl), (by intro _ h; cases h; rfl), ⟨fun χ33 Ω ⟨h3, _⟩ => St.to XU.V XU.hV (s_append h_t36 Try.underlying26 el_55 rfl (j := 3) h3 rfl) (fun _ => rfl) (fun _ => rfl), (by intro _ h; cases h; rfl), ⟨fun χ33 Ω ⟨h1, _⟩ => St.toR (r_cloadS Try.isAgg55 Try.sizeOf55 rfl (j := 1) h1 rfl rfl) (fun _ => rfl) (fun _ => rfl), (by intro _ h; cases h; rfl), ⟨fun χ33 Ω _ => St.to XU.U XU.hU (s_bslice (xs := [.tmp 70]) (ds := [p_1]) Try.underlying26 el_55 rfl (Nat.le_of_ble_eq_true rfl) ⟨(part_agO (ψs := [bv p_1.Ack, iv .i64 p_1.Number, iv .i64 p_1.Value]) rfl ⟨.inl bv_at, .inl iv_at, .inl iv_at, trivial⟩), trivial⟩) (fun _ => rfl) (fun _ => rfl), (by intro _ h; cases h; rfl), ⟨fun χ33 Ω ⟨h3, _⟩ => St.to XU.V XU.hV (s_append h_t38 Try.underlying26 el_55 rfl (j := 3) h3 rfl) (fun _ => rfl) (fun _ => rfl), (by intro _ h; cases h; rfl), ⟨fun χ33 Ω _ => St.toR (r_faddr (fo := 4) Try.underlying28 rfl rfl Try.sizeOf26 rfl) (fun _ => rfl) (fun _ => rfl), (by intro _ h; cases h; rfl), ⟨fun χ33 Ω ⟨h0, _⟩ => St.toR (r_cload Try.isAgg26 rfl (j := 0) h0 rfl) (fun _ => rfl) (fun _ => rfl), (by intro _ h; cases h; rfl), ⟨fun χ33 Ω _ => St.toR (r_move rfl) (fun _ => rfl) (fun _ => rfl), (by intro _ h; cases h; rfl), ⟨fun χ33 Ω _ => St.toR (r_slice h_t40 Try.underlying26 el_55 rfl (.of rfl) .dft) (fun _ => rfl) (fun _ => rfl), (by intro _ h; cases h; rfl), ⟨fun χ33 Ω ⟨h3, _⟩ => St.to XU.V XU.hV (s_append h_t41 Try.underlying26 el_55 rfl (j := 3) h3 rfl) (fun _ => rfl) (fun _ => rfl), (by intro _ h; cases h; rfl), ⟨fun χ33 Ω _ => St.toR (r_faddr (fo := 4) Try.underlying28 rfl rfl Try.sizeOf26 rfl) (fun _ => rfl) (fun _ => rfl), (by intro _ h; cases h; rfl), ⟨fun χ33 Ω ⟨h0, h3, _⟩ => St.to XU.U XU.hU (s_cstore (out := [slv (rI .i64) c_0.Items, iv .i64 c_0.Window, iv .i64 c_0.Base, slv (rI .i64) c_0.Received, pv (χ33 13).V.1, slv rT_api_Packet c_0.Flight]) Try.sizeOf26 rfl (j := 0) h0 (part_own rfl (j := 3) h3) rfl rfl rfl) (fun _ => rfl) (fun _ => rfl), (by intro _ h; cases h), trivial⟩⟩⟩⟩⟩⟩⟩⟩⟩⟩⟩⟩⟩⟩⟩⟩ (fun _ => ⟨rfl, rfl, trivial⟩) (fun _ => rfl) (fun χ33 => ?_)
      refine b_of (frzGL [] [(0, b1, [slv (rI .i64) c_0.Items, iv .i64 c_0.Window, iv .i64 c_0.Base, slv (rI .i64) c_0.Received, slv rT_api_Packet t41, slv rT_api_Packet c_0.Flight])] (j := 3) rfl trivial ⟨⟨_, rfl, ⟨.inl rfl, .inl rfl, .inl rfl, .inl rfl, .inr ⟨rfl, rfl⟩, .inl rfl, trivial⟩⟩, trivial⟩) ?_
      exact b_to (hk45 t41 ()) (weak [0, 2] ⟨rfl, rfl, trivial⟩ ⟨rfl, rfl, trivial⟩)
    refine ref_skip ?_
    exact b_to (hk45 c_0.Held ()) (weak [0, 2] ⟨rfl, rfl, trivial⟩ ⟨rfl, rfl, trivial⟩)
  refine n_then (ref_seq (ref_region ?_))
  refine s_st (s_bsliceO (xs := []) (ds := []) Try.underlying22 el_3 rfl (Nat.le_of_ble_eq_true rfl) trivial) rfl (fun o46 => ?_)
  refine s_rd (r_faddr (fo := 3) Try.underlying28 rfl rfl Try.sizeOf22 rfl) rfl ?_
  refine s_rd (r_cload Try.isAgg22 rfl (j := 0) rfl rfl) rfl ?_
  refine pull fun t47 h_t47 => ?_
  refine s_st (s_append h_t47 Try.underlying22 el_3 rfl (j := 2) rfl rfl) rfl (fun o48 => ?_)
  refine s_rd (r_faddr (fo := 3) Try.underlying28 rfl rfl Try.sizeOf22 rfl) rfl ?_
  refine s_st0 (s_cstore (out := [slv (rI .i64) c_0.Items, iv .i64 c_0.Window, iv .i64 c_0.Base, pv o48.1, slv rT_api_Packet j43, slv rT_api_Packet c_0.Flight]) Try.sizeOf22 rfl (j := 0) rfl (part_own rfl (j := 2) rfl) rfl rfl rfl) (fun _ => ?_)
  refine l_nil (n_then (ref_seq ?_))
  refine ref_loopB (f := (ref29_receive_l3)) (Γl := (fun (s57 : (List T_api_Packet) × (List Int)) (x58 : (Value × List Nat)) => [(2, pv (ptr b1 0)), (4, pv (ptr b3 0))])) (Ωl := (fun (s57 : (List T_api_Packet) × (List Int)) (x58 : (Value × List Nat)) => [oc b1 [slv (rI .i64) c_0.Items, iv .i64 c_0.Window, iv .i64 c_0.Base, pv x58.1, slv rT_api_Packet s57.1, slv rT_api_Packet c_0.Flight], oa (rI .i64) x58.1 x58.2 s57.2, oc b3 [pv (.slice none 0 0), iv .i64 0, iv .i64 0, pv (.slice none 0 0), pv (.slice none 0 0), pv (.slice none 0 0)]])) (Γb := (fun (q65 : (List Int) × (List T_api_Packet)) (y66 : (Value × List Nat)) => [(2, pv (ptr b1 0)), (4, pv (ptr b3 0))])) (Ωb := (fun (q65 : (List Int) × (List T_api_Packet)) (y66 : (Value × List Nat)) => [oc b1 [slv (rI .i64) c_0.Items, iv .i64 c_0.Window, iv .i64 c_0.Base, pv y66.1, slv rT_api_Packet q65.2, slv rT_api_Packet c_0.Flight], oa (rI .i64) y66.1 y66.2 q65.1, oc b3 [pv (.slice none 0 0), iv .i64 0, iv .i64 0, pv (.slice none 0 0), pv (.slice none 0 0), pv (.slice none 0 0)]])) (j43, t47) o48 (weak [0, 2, 1] ⟨rfl, rfl, trivial⟩ ⟨rfl, rfl, rfl, trivial⟩) (fun s57 x58 => ?_) (fun q65 y66 => ?_)
  · unfold ref29_receive_l3
    refine ref_seq (ref_seq ?_)
    refine ref_draw [0, 1, 2, 3, 4, 5, 6, 7, 8, 9, 10, 11, 12, 13, 14] rfl (by kernel_rfl) (fun hok => ?_)
    refine a_rd (i := 0) hok rfl (by kernel_rfl) rfl (r_faddr (fo := 4) Try.underlying28 rfl rfl Try.sizeOf26 rfl) rfl ?_
    refine a_rd (i := 1) hok rfl (by kernel_rfl) rfl (r_cload Try.isAgg26 rfl (j := 0) rfl rfl) rfl ?_
    refine a_rd (i := 2) hok rfl (by kernel_rfl) rfl (r_len Try.underlying26 rfl) rfl ?_
    refine a_rd (i := 3) hok rfl (by kernel_rfl) rfl (r_gtr rfl rfl) rfl ?_
    refine a_rd (i := 4) hok rfl (by kernel_rfl) rfl (r_move rfl) rfl ?_
    refine b_split (t := 88) rfl (fun _ => ?_) (fun _ => ?_)
    · refine a_rdOn (i := 5) hok rfl rfl rfl rfl (by kernel_rfl) rfl (r_faddr (fo := 4) Try.underlying28 rfl rfl Try.sizeOf26 rfl) rfl ?_
      refine a_rdOn (i := 6) hok rfl rfl rfl rfl (by kernel_rfl) rfl (r_cload Try.isAgg26 rfl (j := 0) rfl rfl) rfl ?_
      refine pull fun t59 h_t59 => ?_
      refine a_rdOn (i := 7) hok rfl rfl rfl rfl (by kernel_rfl) rfl (r_index h_t59 Try.underlying26 el_55 rfl rfl) rfl ?_
      refine a_rdOn (i := 8) hok rfl rfl rfl rfl (by kernel_rfl) rfl (r_fea (fo := 1) (ρ := rT_api_Packet) (y := t59) (ρ' := (rI .i64)) (z := t59.Number) Try.underlying55 rfl rfl Try.sizeOf3 rfl rfl rfl) rfl ?_
      refine a_rdOn (i := 9) hok rfl rfl rfl rfl (by kernel_rfl) rfl (r_load el_3 rfl) rfl ?_
      refine a_rdOn (i := 10) hok rfl rfl rfl rfl (by kernel_rfl) rfl (r_faddr (fo := 3) Try.underlying28 rfl rfl Try.sizeOf22 rfl) rfl ?_
      refine a_rdOn (i := 11) hok rfl rfl rfl rfl (by kernel_rfl) rfl (r_cload Try.isAgg22 rfl (j := 0) rfl rfl) rfl ?_
      refine a_rdOn (i := 12) hok rfl rfl rfl rfl (by kernel_rfl) rfl (r_olen Try.underlying22 rfl (j := 1) rfl) rfl ?_
      refine a_rdOn (i := 13) hok rfl rfl rfl rfl (by kernel_rfl) rfl (r_eql rfl rfl) rfl ?_
      refine a_rd (i := 14) hok rfl (by kernel_rfl) rfl (r_pickT rfl rfl) rfl ?_
      refine a_fin hok (by kernel_rfl) ?_
      refine n_then ?_
      refine ref_cond rfl (fun hb60 => ?_) (fun hb60 => ?_)
      · refine ref_skip (n_then (ref_block (ref_seq ?_)))
        refine ref_draw [0, 1, 2, 3, 4, 5, 6, 9] rfl (by kernel_rfl) (fun hok => ?_)
        refine a_rd (i := 0) hok rfl (by kernel_rfl) rfl (r_faddr (fo := 3) Try.underlying28 rfl rfl Try.sizeOf22 rfl) rfl ?_
        refine a_rd (i := 1) hok rfl (by kernel_rfl) rfl (r_cload Try.isAgg22 rfl (j := 0) rfl rfl) rfl ?_
        refine a_rd (i := 2) hok rfl (by kernel_rfl) rfl (r_faddr (fo := 4) Try.underlying28 rfl rfl Try.sizeOf26 rfl) rfl ?_
        refine a_rd (i := 3) hok rfl (by kernel_rfl) rfl (r_cload Try.isAgg26 rfl (j := 0) rfl rfl) rfl ?_
        refine pull fun t61 h_t61 => ?_
        refine a_rd (i := 4) hok rfl (by kernel_rfl) rfl (r_index h_t61 Try.underlying26 el_55 rfl rfl) rfl ?_
        refine a_rd (i := 5) hok rfl (by kernel_rfl) rfl (r_fea (fo := 2) (ρ := rT_api_Packet) (y := t61) (ρ' := (rI .i64)) (z := t61.Value) Try.underlying55 rfl rfl Try.sizeOf3 rfl rfl rfl) rfl ?_
        refine a_rd (i := 6) hok rfl (by kernel_rfl) rfl (r_load el_3 rfl) rfl ?_
        refine a_next hok 7 [] (by kernel_rfl) ?_ trivial
        refine a_st (i := 7) hok rfl rfl (s_bslice (xs := [.tmp 105]) (ds := [t61.Value]) Try.underlying22 el_3 rfl (Nat.le_of_ble_eq_true rfl) ⟨(part_at rfl iv_at), trivial⟩) (by intro _ h; cases h; rfl) (fun _ => ⟨trivial, ⟨trivial, ⟨trivial, ⟨⟨⟨rfl, rfl⟩, trivial⟩, ⟨trivial, ⟨⟨⟨rfl, rfl⟩, trivial⟩, ⟨trivial, trivial⟩⟩⟩⟩⟩⟩⟩) (fun _ => ?_)
        refine pull fun t62 h_t62 => ?_
        refine a_next hok 8 [] (by kernel_rfl) ?_ trivial
        refine a_st (i := 8) hok rfl rfl (s_append h_t62 Try.underlying22 el_3 rfl (j := 1) rfl rfl) (by intro _ h; cases h; rfl) (fun _ => ⟨trivial, ⟨trivial, ⟨trivial, ⟨⟨⟨rfl, rfl⟩, trivial⟩, ⟨trivial, ⟨trivial, ⟨trivial, trivial⟩⟩⟩⟩⟩⟩⟩) (fun o63 => ?_)
        refine a_rd (i := 9) hok rfl (by kernel_rfl) rfl (r_faddr (fo := 3) Try.underlying28 rfl rfl Try.sizeOf22 rfl) rfl ?_
        refine a_next hok 10 [] (by kernel_rfl) ?_ trivial
        refine a_st (i := 10) hok rfl rfl (s_cstore (out := [slv (rI .i64) c_0.Items, iv .i64 c_0.Window, iv .i64 c_0.Base, pv o63.1, slv rT_api_Packet s57.1, slv rT_api_Packet c_0.Flight]) Try.sizeOf22 rfl (j := 0) rfl (part_own rfl (j := 1) rfl) rfl rfl rfl) (by intro _ h; cases h) (fun _ => ⟨trivial, ⟨trivial, ⟨trivial, ⟨trivial, ⟨trivial, ⟨trivial, ⟨trivial, ⟨trivial, trivial⟩⟩⟩⟩⟩⟩⟩⟩) (fun _ => ?_)
        refine a_fin hok (by kernel_rfl) ?_
        refine b_of (nrm [oc b1 [slv (rI .i64) c_0.Items, iv .i64 c_0.Window, iv .i64 c_0.Base, pv o63.1, slv rT_api_Packet s57.1, slv rT_api_Packet c_0.Flight], oa (rI .i64) o63.1 o63.2 t62, oc b3 [pv (.slice none 0 0), iv .i64 0, iv .i64 0, pv (.slice none 0 0), pv (.slice none 0 0), pv (.slice none 0 0)]] rfl) ?_
        refine n_then (ref_region ?_)
        refine s_rd (r_faddr (fo := 4) Try.underlying28 rfl rfl Try.sizeOf26 rfl) rfl ?_
        refine s_rd (r_cload Try.isAgg26 rfl (j := 0) rfl rfl) rfl ?_
        refine pull fun t64 h_t64 => ?_
        refine s_rd (r_slice h_t64 Try.underlying26 el_55 rfl (.of rfl) .dft) rfl ?_
        refine s_rd (r_faddr (fo := 4) Try.underlying28 rfl rfl Try.sizeOf26 rfl) rfl ?_
        refine s_st0 (s_cstore (out := [slv (rI .i64) c_0.Items, iv .i64 c_0.Window, iv .i64 c_0.Base, pv o63.1, slv rT_api_Packet t64, slv rT_api_Packet c_0.Flight]) Try.sizeOf26 rfl (j := 0) rfl (part_at rfl slv_at) rfl rfl rfl) (fun _ => ?_)
        refine l_nil (n_block ?_)
        exact goB o63 (weak [0, 1, 2] ⟨rfl, rfl, trivial⟩ ⟨rfl, rfl, rfl, trivial⟩)
      refine ref_exit (x_then ?_)
      exact brkB x58 (weak [0, 1, 2] ⟨rfl, rfl, trivial⟩ ⟨rfl, rfl, rfl, trivial⟩)
    refine a_off (i := 5) hok rfl rfl rfl rfl rfl (by kernel_rfl) rfl rfl ?_
    refine a_off (i := 6) hok rfl rfl rfl rfl rfl (by kernel_rfl) rfl rfl ?_
    refine a_off (i := 7) hok rfl rfl rfl rfl rfl (by kernel_rfl) rfl rfl ?_
    refine a_off (i := 8) hok rfl rfl rfl rfl rfl (by kernel_rfl) rfl rfl ?_
    refine a_off (i := 9) hok rfl rfl rfl rfl rfl (by kernel_rfl) rfl rfl ?_
    refine a_off (i := 10) hok rfl rfl rfl rfl rfl (by kernel_rfl) rfl rfl ?_
    refine a_off (i := 11) hok rfl rfl rfl rfl rfl (by kernel_rfl) rfl rfl ?_
    refine a_off (i := 12) hok rfl rfl rfl rfl rfl (by kernel_rfl) rfl rfl ?_
    refine a_off (i := 13) hok rfl rfl rfl rfl rfl (by kernel_rfl) rfl rfl ?_
    refine a_rd (i := 14) hok rfl (by kernel_rfl) rfl (r_pickF rfl rfl) rfl ?_
    refine a_fin hok (by kernel_rfl) ?_
    refine n_then ?_
    refine ref_condF rfl rfl ?_
    refine ref_exit (x_then ?_)
    exact brkB x58 (weak [0, 1, 2] ⟨rfl, rfl, trivial⟩ ⟨rfl, rfl, rfl, trivial⟩)
  refine n_then (ref_seq (ref_seq (ref_region ?_)))
  refine s_rd (r_faddr (fo := 5) Try.underlying28 rfl rfl Try.sizeOf26 rfl) rfl ?_
  refine s_rd (r_cload Try.isAgg26 rfl (j := 0) rfl rfl) rfl ?_
  refine s_rd (r_len Try.underlying26 rfl) rfl ?_
  refine s_rd (r_lss rfl rfl) rfl ?_
  refine l_nil (n_then ?_)
  refine ref_cond rfl (fun hb67 => ?_) (fun hb67 => ?_)
  · refine ref_region ?_
    refine s_rd (r_faddr (fo := 5) Try.underlying28 rfl rfl Try.sizeOf26 rfl) rfl ?_
    refine s_rd (r_cload Try.isAgg26 rfl (j := 0) rfl rfl) rfl ?_
    refine s_rd (r_faddr (fo := 3) Try.underlying28 rfl rfl Try.sizeOf22 rfl) rfl ?_
    refine s_rd (r_cload Try.isAgg22 rfl (j := 0) rfl rfl) rfl ?_
    refine s_rd (r_olen Try.underlying22 rfl (j := 1) rfl) rfl ?_
    refine s_rd (r_build (ps := [(0, .const (.bool true)), (1, .tmp 121)]) (rs := [(0, [bv true]), (1, [iv .i64 (q65.1.length : Int)])]) st_55 zs_55 ⟨rfl, (part_at rfl bv_at), ⟨rfl, (part_at rfl iv_at), trivial⟩⟩ rfl rfl) rfl ?_
    refine pull fun t68 h_t68 => ?_
    refine s_st (s_call (ψ := fun (x69 : (Value × List Nat)) => pv x69.1) (args := [.tmp 118, .tmp 122]) Try.call34 rfl (ref29_with_ok h_t68) ⟨arg rfl, arg rfl, trivial⟩ (fun _ _ _ _ h => h)) rfl (fun x69 => ?_)
    refine s_rd (r_faddr (fo := 5) Try.underlying28 rfl rfl Try.sizeOf26 rfl) rfl ?_
    refine s_st0 (s_cstore (out := [slv (rI .i64) c_0.Items, iv .i64 c_0.Window, iv .i64 c_0.Base, pv y66.1, slv rT_api_Packet q65.2, pv x69.1]) Try.sizeOf26 rfl (j := 0) rfl (part_own rfl (j := 3) rfl) rfl rfl rfl) (fun _ => ?_)
    refine l_nil (n_then (ref_seq (ref_region ?_)))
    refine s_rd (r_cloadS Try.isAgg28 Try.sizeOf28 rfl (j := 0) rfl rfl rfl) rfl ?_
    refine s_st0 (s_cstore (out := [slv (rI .i64) c_0.Items, iv .i64 c_0.Window, iv .i64 c_0.Base, pv y66.1, slv rT_api_Packet q65.2, pv x69.1]) Try.sizeOf28 rfl (j := 2) rfl (part_agO (ψs := [slv (rI .i64) c_0.Items, iv .i64 c_0.Window, iv .i64 c_0.Base, pv y66.1, slv rT_api_Packet q65.2, pv x69.1]) rfl ⟨.inl slv_at, .inl iv_at, .inl iv_at, .inr ⟨_, _, _, _, _, 1, rfl, rfl⟩, .inl slv_at, .inr ⟨_, _, _, _, _, 3, rfl, rfl⟩, trivial⟩) rfl rfl rfl) (fun _ => ?_)
    refine l_nil (n_then (ref_ret ?_))
    refine b_of (frzGL [(120, slv (rI .i64) q65.1), (125, ag [slv (rI .i64) c_0.Items, iv .i64 c_0.Window, iv .i64 c_0.Base, slv (rI .i64) q65.1, slv rT_api_Packet q65.2, pv x69.1])] [(0, b1, [slv (rI .i64) c_0.Items, iv .i64 c_0.Window, iv .i64 c_0.Base, slv (rI .i64) q65.1, slv rT_api_Packet q65.2, pv x69.1]), (2, b3, [slv (rI .i64) c_0.Items, iv .i64 c_0.Window, iv .i64 c_0.Base, slv (rI .i64) q65.1, slv rT_api_Packet q65.2, pv x69.1])] (j := 1) rfl ⟨⟨_, rfl, .inl ⟨rfl, rfl⟩⟩, ⟨_, rfl, .inr ⟨_, _, rfl, rfl, ⟨.inl rfl, .inl rfl, .inl rfl, .inr ⟨rfl, rfl⟩, .inl rfl, .inl rfl, trivial⟩⟩⟩, trivial⟩ ⟨⟨_, rfl, ⟨.inl rfl, .inl rfl, .inl rfl, .inr ⟨rfl, rfl⟩, .inl rfl, .inl rfl, trivial⟩⟩, ⟨_, rfl, ⟨.inl rfl, .inl rfl, .inl rfl, .inr ⟨rfl, rfl⟩, .inl rfl, .inl rfl, trivial⟩⟩, trivial⟩) ?_
    refine b_of (nrm [oc b1 [slv (rI .i64) c_0.Items, iv .i64 c_0.Window, iv .i64 c_0.Base, slv (rI .i64) q65.1, slv rT_api_Packet q65.2, pv x69.1], dead, oc b3 [slv (rI .i64) c_0.Items, iv .i64 c_0.Window, iv .i64 c_0.Base, slv (rI .i64) q65.1, slv rT_api_Packet q65.2, pv x69.1], oa rT_api_Packet x69.1 x69.2 t68] rfl) ?_
    refine b_of (frzGL [(123, slv rT_api_Packet t68), (125, ag [slv (rI .i64) c_0.Items, iv .i64 c_0.Window, iv .i64 c_0.Base, slv (rI .i64) q65.1, slv rT_api_Packet q65.2, slv rT_api_Packet t68])] [(0, b1, [slv (rI .i64) c_0.Items, iv .i64 c_0.Window, iv .i64 c_0.Base, slv (rI .i64) q65.1, slv rT_api_Packet q65.2, slv rT_api_Packet t68]), (2, b3, [slv (rI .i64) c_0.Items, iv .i64 c_0.Window, iv .i64 c_0.Base, slv (rI .i64) q65.1, slv rT_api_Packet q65.2, slv rT_api_Packet t68])] (j := 3) rfl ⟨⟨_, rfl, .inl ⟨rfl, rfl⟩⟩, ⟨_, rfl, .inr ⟨_, _, rfl, rfl, ⟨.inl rfl, .inl rfl, .inl rfl, .inl rfl, .inl rfl, .inr ⟨rfl, rfl⟩, trivial⟩⟩⟩, trivial⟩ ⟨⟨_, rfl, ⟨.inl rfl, .inl rfl, .inl rfl, .inl rfl, .inl rfl, .inr ⟨rfl, rfl⟩, trivial⟩⟩, ⟨_, rfl, ⟨.inl rfl, .inl rfl, .inl rfl, .inl rfl, .inl rfl, .inr ⟨rfl, rfl⟩, trivial⟩⟩, trivial⟩) ?_
    refine b_of (nrm [oc b1 [slv (rI .i64) c_0.Items, iv .i64 c_0.Window, iv .i64 c_0.Base, slv (rI .i64) q65.1, slv rT_api_Packet q65.2, slv rT_api_Packet t68], dead, oc b3 [slv (rI .i64) c_0.Items, iv .i64 c_0.Window, iv .i64 c_0.Base, slv (rI .i64) q65.1, slv rT_api_Packet q65.2, slv rT_api_Packet t68], dead] rfl) ?_
    exact fin1 (.inl rfl) () [] rfl trivial rfl (rv_cell rfl (j := 2) rfl Try.isAgg28 Try.sizeOf28 rfl rfl)
  refine ref_skip (n_then (ref_seq (ref_region ?_)))
  refine s_rd (r_cloadS Try.isAgg28 Try.sizeOf28 rfl (j := 0) rfl rfl rfl) rfl ?_
  refine s_st0 (s_cstore (out := [slv (rI .i64) c_0.Items, iv .i64 c_0.Window, iv .i64 c_0.Base, pv y66.1, slv rT_api_Packet q65.2, slv rT_api_Packet c_0.Flight]) Try.sizeOf28 rfl (j := 2) rfl (part_agO (ψs := [slv (rI .i64) c_0.Items, iv .i64 c_0.Window, iv .i64 c_0.Base, pv y66.1, slv rT_api_Packet q65.2, slv rT_api_Packet c_0.Flight]) rfl ⟨.inl slv_at, .inl iv_at, .inl iv_at, .inr ⟨_, _, _, _, _, 1, rfl, rfl⟩, .inl slv_at, .inl slv_at, trivial⟩) rfl rfl rfl) (fun _ => ?_)
  refine l_nil (n_then (ref_ret ?_))
  refine b_of (frzGL [(125, ag [slv (rI .i64) c_0.Items, iv .i64 c_0.Window, iv .i64 c_0.Base, slv (rI .i64) q65.1, slv rT_api_Packet q65.2, slv rT_api_Packet c_0.Flight])] [(0, b1, [slv (rI .i64) c_0.Items, iv .i64 c_0.Window, iv .i64 c_0.Base, slv (rI .i64) q65.1, slv rT_api_Packet q65.2, slv rT_api_Packet c_0.Flight]), (2, b3, [slv (rI .i64) c_0.Items, iv .i64 c_0.Window, iv .i64 c_0.Base, slv (rI .i64) q65.1, slv rT_api_Packet q65.2, slv rT_api_Packet c_0.Flight])] (j := 1) rfl ⟨⟨_, rfl, .inr ⟨_, _, rfl, rfl, ⟨.inl rfl, .inl rfl, .inl rfl, .inr ⟨rfl, rfl⟩, .inl rfl, .inl rfl, trivial⟩⟩⟩, trivial⟩ ⟨⟨_, rfl, ⟨.inl rfl, .inl rfl, .inl rfl, .inr ⟨rfl, rfl⟩, .inl rfl, .inl rfl, trivial⟩⟩, ⟨_, rfl, ⟨.inl rfl, .inl rfl, .inl rfl, .inr ⟨rfl, rfl⟩, .inl rfl, .inl rfl, trivial⟩⟩, trivial⟩) ?_
  refine b_of (nrm [oc b1 [slv (rI .i64) c_0.Items, iv .i64 c_0.Window, iv .i64 c_0.Base, slv (rI .i64) q65.1, slv rT_api_Packet q65.2, slv rT_api_Packet c_0.Flight], dead, oc b3 [slv (rI .i64) c_0.Items, iv .i64 c_0.Window, iv .i64 c_0.Base, slv (rI .i64) q65.1, slv rT_api_Packet q65.2, slv rT_api_Packet c_0.Flight]] rfl) ?_
  exact fin1 (.inl rfl) () [] rfl trivial rfl (rv_cell rfl (j := 2) rfl Try.isAgg28 Try.sizeOf28 rfl rfl)

end Go.Dc
