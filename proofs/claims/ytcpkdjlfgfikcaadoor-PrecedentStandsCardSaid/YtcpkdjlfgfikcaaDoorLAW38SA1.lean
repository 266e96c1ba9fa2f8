/- Part LAW38S.A1 of a proof: lemmas. -/
import Derived.Test.YtcpkdjlfgfikcaaDoorLAW38SA0
import Derived.Test.YtcpkdjlfgfikcaaDoorProg
set_option linter.unusedVariables false
set_option maxRecDepth 100000
set_option maxHeartbeats 4000000
namespace Go.Dc
open Go.Proofs
open Go.Proofs.Tryd (prog)

/-! deliberation/precedent.forced -/
noncomputable def precedent_forced_1_l1 (l_0 : T_api_Library) (facts_1 : (List ByteArray)) (s38 : Int × (List Int) × (List Int)) : Option (Sum ((List Int) × (List Int)) (Int × (List Int) × (List Int))) :=
  bif decide (s38.1 < (l_0.Cases.length : Int)) then
    Option.bind (idxM l_0.Cases s38.1) fun t41 =>
    Option.bind (precedent_Reasons_1_m t41) fun t43 =>
    Option.bind (precedent_within_m t43 facts_1) fun t44 =>
    bif !t44 then
      some (Sum.inr (iadd .i64 s38.1 1, s38.2.1, s38.2.2))
    else
      Option.bind (precedent_counter_m l_0 facts_1 t41.Winner) fun t45 =>
      Option.bind (precedent_within_m t45 t41.Facts) fun t47 =>
      bif !t47 then
        some (Sum.inr (iadd .i64 s38.1 1, s38.2.1, s38.2.2))
      else
        bif t41.Winner == 1 then
          Option.bind (appM 8 s38.2.1 [s38.1]) fun t50 =>
          some (Sum.inr (iadd .i64 s38.1 1, t50, s38.2.2))
        else
          Option.bind (appM 8 s38.2.2 [s38.1]) fun t52 =>
          some (Sum.inr (iadd .i64 s38.1 1, s38.2.1, t52))
  else
    some (Sum.inl (s38.2.1, s38.2.2))

noncomputable def precedent_forced_1_m (l_0 : T_api_Library) (facts_1 : (List ByteArray)) : Option (T_api_Force × Int) :=
  Option.bind (precedent_situation_m l_0 facts_1) fun e3 =>
  bif e3 != 0 then
    some ((T_api_Force.mk [] []), e3)
  else
    Option.bind (loopC (precedent_forced_1_l1 l_0 facts_1) (0, [], [])) fun q54 : (List Int) × (List Int) =>
    some ((T_api_Force.mk q54.1 q54.2), 0)

theorem precedent_forced_1_ok {l_0 : T_api_Library} {facts_1 : (List ByteArray)} {r : T_api_Force × Int} (hm : precedent_forced_1_m l_0 facts_1 = some r) :
    FnOk prog 27 [ag [slv rS l_0.Sides.i0, slv rS l_0.Sides.i1, slv rT_api_Case l_0.Cases], slv rS facts_1, pv (.func (.func 30) #[] #[])] [] (fun (x : Unit) => [ag [slv (rI .i64) r.1.For, slv (rI .i64) r.1.Against], iv .i64 r.2]) (fun (x : Unit) => []) := by
  refine fn_ok (fn := Tryd.f27) (N := 61) (res := fun r x => [ag [slv (rI .i64) r.1.For, slv (rI .i64) r.1.Against], iv .i64 r.2]) (Ω1 := fun r x => []) Tryd.func27 rfl rfl hm rfl (fun E hM => ?_)
  unfold precedent_forced_1_m
  refine ref_seq (ref_region ?_)
  refine s_st (s_box (part_agO (ψs := [slv rS l_0.Sides.i0, slv rS l_0.Sides.i1, slv rT_api_Case l_0.Cases]) rfl ⟨.inl slv_at, .inl slv_at, .inl slv_at, trivial⟩)) rfl (fun b1 => ?_)
  refine s_st (s_alloc zt_33) rfl (fun b2 => ?_)
  refine as1 rfl rfl ?_
  refine l_nil (n_then (ref_seq (ref_seq (ref_region ?_))))
  refine s_rd (r_cloadS Tryd.isAgg29 Tryd.sizeOf29 rfl (j := 0) rfl rfl rfl) rfl ?_
  refine mv1 rfl rfl ?_
  refine pull fun e3 h_e3 => ?_
  refine s_st (s_call (ψ := fun (_ : Unit) => iv .i64 e3) (args := [.tmp 12, .tmp 13]) Tryd.call40 rfl (precedent_situation_ok h_e3) ⟨arg rfl, arg rfl, trivial⟩ (fun _ _ _ _ h => h)) rfl (fun _ => ?_)
  refine as1 rfl rfl ?_
  refine l_nil (n_then (ref_seq (ref_region ?_)))
  refine mv1 rfl rfl ?_
  refine s_rd (r_neq rfl rfl) rfl ?_
  refine l_nil (n_then ?_)
  refine ref_cond rfl (fun hb4 => ?_) (fun hb4 => ?_)
  · refine ref_seq (ref_region ?_)
    refine s_rd (r_build (ps := []) (rs := []) st_33 zs_33 trivial rfl rfl) rfl ?_
    refine mv1 rfl rfl ?_
    refine s_st0 (s_cstore (out := [pv (.slice none 0 0), pv (.slice none 0 0)]) Tryd.sizeOf33 rfl (j := 1) rfl (part_agO (ψs := [pv (.slice none 0 0), pv (.slice none 0 0)]) rfl ⟨.inl (pv_at rfl), .inl (pv_at rfl), trivial⟩) rfl rfl rfl) (fun _ => ?_)
    refine as1 rfl rfl ?_
    refine l_nil ?_
    refine b_of (nrm [oc b1 [slv rS l_0.Sides.i0, slv rS l_0.Sides.i1, slv rT_api_Case l_0.Cases], oc b2 [pv (.slice none 0 0), pv (.slice none 0 0)]] rfl) ?_
    refine n_then (ref_ret (r_then ?_))
    refine b_of (ocW 1 [slv (rI .i64) [], slv (rI .i64) []] rfl ⟨nil_sl, nil_sl, trivial⟩) ?_
    exact fin2 (.inl rfl) () [] rfl trivial rfl (rv_cell rfl (j := 1) rfl Tryd.isAgg33 Tryd.sizeOf33 rfl rfl) (rv_tmp rfl)
  refine ref_skip (n_then (ref_seq (ref_region ?_)))
  refine s_st (s_alloc zt_33) rfl (fun b5 => ?_)
  refine l_nil ?_
  refine b_of (nrm [oc b1 [slv rS l_0.Sides.i0, slv rS l_0.Sides.i1, slv rT_api_Case l_0.Cases], oc b2 [pv (.slice none 0 0), pv (.slice none 0 0)], oc b5 [pv (.slice none 0 0), pv (.slice none 0 0)]] rfl) ?_
  refine n_then (ref_seq (ref_seq (ref_region ?_)))
  refine s_rd (r_faddr (fo := 2) Tryd.underlying29 rfl rfl Tryd.sizeOf27 rfl) rfl ?_
  refine s_rd (r_cload Tryd.isAgg27 rfl (j := 0) rfl rfl) rfl ?_
  refine s_rd (r_len Tryd.underlying27 rfl) rfl ?_
  refine mv1 rfl rfl ?_
  refine l_nil (n_then ?_)
  refine b_of (own_nil (rI .i64)) ?_
  refine b_of (own_nil (rI .i64)) ?_
  refine ref_loopB (f := (precedent_forced_1_l1 l_0 facts_1)) (Γl := (fun (s38 : Int × (List Int) × (List Int)) (x39 : (Value × List Nat) × (Value × List Nat)) => [(1, slv rS facts_1), (2, pv (.func (.func 30) #[] #[])), (3, pv (ptr b1 0)), (6, pv (ptr b2 0)), (9, pv (ptr b5 0)), (20, slv rT_api_Case l_0.Cases), (21, iv .i64 (l_0.Cases.length : Int)), (22, iv .i64 s38.1)])) (Ωl := (fun (s38 : Int × (List Int) × (List Int)) (x39 : (Value × List Nat) × (Value × List Nat)) => [oc b1 [slv rS l_0.Sides.i0, slv rS l_0.Sides.i1, slv rT_api_Case l_0.Cases], oc b2 [pv (.slice none 0 0), pv (.slice none 0 0)], oc b5 [pv x39.1.1, pv x39.2.1], oa (rI .i64) x39.1.1 x39.1.2 s38.2.1, oa (rI .i64) x39.2.1 x39.2.2 s38.2.2])) (Γb := (fun (q54 : (List Int) × (List Int)) (y55 : (Value × List Nat) × (Value × List Nat)) => [(2, pv (.func (.func 30) #[] #[])), (6, pv (ptr b2 0)), (9, pv (ptr b5 0))])) (Ωb := (fun (q54 : (List Int) × (List Int)) (y55 : (Value × List Nat) × (Value × List Nat)) => [oc b2 [pv (.slice none 0 0), pv (.slice none 0 0)], oc b5 [pv y55.1.1, pv y55.2.1], oa (rI .i64) y55.1.1 y55.1.2 q54.1, oa (rI .i64) y55.2.1 y55.2.2 q54.2])) (0, [], []) (((.slice none 0 0), []), ((.slice none 0 0), [])) (weak [0, 1, 2, 3, 4] ⟨rfl, rfl, rfl, rfl, rfl, rfl, rfl, rfl, trivial⟩ ⟨rfl, rfl, rfl, rfl, rfl, trivial⟩) (fun s38 x39 => ?_) (fun q54 y55 => ?_)
  · unfold precedent_forced_1_l1
    refine ref_seq (ref_region ?_)
    refine s_rd (r_lss rfl rfl) rfl ?_
    refine l_nil (n_then (ref_seq ?_))
    refine ref_cond rfl (fun hb40 => ?_) (fun hb40 => ?_)
    · refine ref_skip (n_then (ref_seq (ref_block (ref_seq (ref_region ?_)))))
      refine mv1 rfl rfl ?_
      refine pull fun t41 h_t41 => ?_
      refine s_rd (r_index h_t41 Tryd.underlying27 el_39 rfl rfl) rfl ?_
      refine s_rd (r_load el_39 rfl) rfl ?_
      refine s_st (s_alloc zt_39) rfl (fun b42 => ?_)
      refine as1 rfl rfl ?_
      refine s_st0 (s_cstore (out := [sv t41.Name, slv rS t41.Facts, iv .i64 t41.Winner, slv rS t41.Reason]) Tryd.sizeOf39 rfl (j := 5) rfl (part_agO (ψs := [sv t41.Name, slv rS t41.Facts, iv .i64 t41.Winner, slv rS t41.Reason]) rfl ⟨.inl sv_at, .inl slv_at, .inl iv_at, .inl slv_at, trivial⟩) rfl rfl rfl) (fun _ => ?_)
      refine l_nil (n_then (ref_seq (ref_seq ?_)))
      refine ref_draw [0, 1, 3, 5, 6, 7, 8, 9, 10, 12, 13, 15, 16] rfl (by kernel_rfl) (fun hok => ?_)
      refine a_rd (i := 0) hok rfl (by kernel_rfl) rfl (r_move rfl) rfl ?_
      refine a_rd (i := 1) hok rfl (by kernel_rfl) rfl (r_cloadS Tryd.isAgg39 Tryd.sizeOf39 rfl (j := 5) rfl rfl rfl) rfl ?_
      refine a_rd (i := 3) hok rfl (by kernel_rfl) rfl (r_move rfl) rfl ?_
      refine pull fun t43 h_t43 => ?_
      refine a_next hok 2 [] (by kernel_rfl) ?_ trivial
      refine a_st (i := 2) hok rfl rfl (s_call (ψ := fun (_ : Unit) => slv rS t43) (args := [.tmp 28]) Tryd.call30 rfl (precedent_Reasons_1_ok h_t43) ⟨arg rfl, trivial⟩ (fun _ _ _ _ h => h)) (by intro _ h; cases h; rfl) (fun _ => ⟨trivial, ⟨trivial, ⟨trivial, trivial⟩⟩⟩) (fun _ => ?_)
      refine pull fun t44 h_t44 => ?_
      refine a_next hok 4 [] (by kernel_rfl) ?_ trivial
      refine a_st (i := 4) hok rfl rfl (s_call (ψ := fun (_ : Unit) => bv t44) (args := [.tmp 29, .tmp 30]) Tryd.call42 rfl (precedent_within_ok h_t44) ⟨arg rfl, arg rfl, trivial⟩ (fun _ _ _ _ h => h)) (by intro _ h; cases h; rfl) (fun _ => ⟨trivial, ⟨⟨⟨rfl, rfl⟩, trivial⟩, ⟨trivial, trivial⟩⟩⟩) (fun _ => ?_)
      refine a_rd (i := 5) hok rfl (by kernel_rfl) rfl (r_not rfl) rfl ?_
      refine a_rd (i := 6) hok rfl (by kernel_rfl) rfl (r_move rfl) rfl ?_
      refine b_split (t := 33) rfl (fun _ => ?_) (fun _ => ?_)
      · refine a_off (i := 7) hok rfl rfl rfl rfl rfl (by kernel_rfl) rfl rfl ?_
        refine a_off (i := 8) hok rfl rfl rfl rfl rfl (by kernel_rfl) rfl rfl ?_
        refine a_off (i := 9) hok rfl rfl rfl rfl rfl (by kernel_rfl) rfl rfl ?_
        refine a_off (i := 10) hok rfl rfl rfl rfl rfl (by kernel_rfl) rfl rfl ?_
        refine a_off (i := 12) hok rfl rfl rfl rfl rfl (by kernel_rfl) rfl rfl ?_
        refine a_off (i := 13) hok rfl rfl rfl rfl rfl (by kernel_rfl) rfl rfl ?_
        refine a_next hok 11 [] (by kernel_rfl) ?_ trivial
        refine a_stOff (i := 11) hok rfl rfl rfl rfl rfl rfl (by intro _ h; cases h; rfl) ⟨trivial, ⟨trivial, ⟨trivial, ⟨trivial, ⟨trivial, ⟨trivial, ⟨trivial, ⟨trivial, ⟨trivial, ⟨⟨⟨rfl, rfl⟩, trivial⟩, ⟨trivial, trivial⟩⟩⟩⟩⟩⟩⟩⟩⟩⟩⟩ ?_
        refine a_next hok 14 [] (by kernel_rfl) ?_ trivial
        refine a_stOff (i := 14) hok rfl rfl rfl rfl rfl rfl (by intro _ h; cases h; rfl) ⟨trivial, ⟨trivial, ⟨trivial, ⟨trivial, ⟨trivial, ⟨trivial, ⟨trivial, ⟨trivial, ⟨trivial, ⟨⟨⟨rfl, rfl⟩, trivial⟩, ⟨trivial, trivial⟩⟩⟩⟩⟩⟩⟩⟩⟩⟩⟩ ?_
        refine a_off (i := 15) hok rfl rfl rfl rfl rfl (by kernel_rfl) rfl rfl ?_
        refine a_rd (i := 16) hok rfl (by kernel_rfl) rfl (r_pickT rfl rfl) rfl ?_
        refine a_fin hok (by kernel_rfl) ?_
        refine b_of (nrm [oc b1 [slv rS l_0.Sides.i0, slv rS l_0.Sides.i1, slv rT_api_Case l_0.Cases], oc b2 [pv (.slice none 0 0), pv (.slice none 0 0)], oc b5 [pv x39.1.1, pv x39.2.1], oa (rI .i64) x39.1.1 x39.1.2 s38.2.1, oa (rI .i64) x39.2.1 x39.2.2 s38.2.2, oc b42 [sv t41.Name, slv rS t41.Facts, iv .i64 t41.Winner, slv rS t41.Reason]] rfl) ?_
        refine n_then ?_
        refine ref_condT rfl rfl ?_
        refine ref_exit (x_then (x_eq (n_then (ref_region ?_))))
        refine s_rd (r_add rfl rfl) rfl ?_
        refine mv1 rfl rfl ?_
        refine l_nil ?_
        exact goB (x39.1, x39.2) (weak [0, 1, 2, 3, 4] ⟨rfl, rfl, rfl, rfl, rfl, rfl, rfl, rfl, trivial⟩ ⟨rfl, rfl, rfl, rfl, rfl, trivial⟩)
      refine a_rdOn (i := 7) hok rfl rfl rfl rfl (by kernel_rfl) rfl (r_cloadS Tryd.isAgg29 Tryd.sizeOf29 rfl (j := 0) rfl rfl rfl) rfl ?_
      refine a_rdOn (i := 8) hok rfl rfl rfl rfl (by kernel_rfl) rfl (r_move rfl) rfl ?_
      refine a_rdOn (i := 9) hok rfl rfl rfl rfl (by kernel_rfl) rfl (r_faddr (fo := 2) Tryd.underlying39 rfl rfl Tryd.sizeOf3 rfl) rfl ?_
      refine a_rdOn (i := 10) hok rfl rfl rfl rfl (by kernel_rfl) rfl (r_cload Tryd.isAgg3 rfl (j := 5) rfl rfl) rfl ?_
      refine a_rdOn (i := 12) hok rfl rfl rfl rfl (by kernel_rfl) rfl (r_faddr (fo := 1) Tryd.underlying39 rfl rfl Tryd.sizeOf25 rfl) rfl ?_
      refine a_rdOn (i := 13) hok rfl rfl rfl rfl (by kernel_rfl) rfl (r_cload Tryd.isAgg25 rfl (j := 5) rfl rfl) rfl ?_
      refine pull fun t45 h_t45 => ?_
      refine a_next hok 11 [] (by kernel_rfl) ?_ trivial
      refine a_stOn (i := 11) hok rfl rfl rfl rfl rfl (s_call (ψ := fun (x46 : (Value × List Nat)) => pv x46.1) (args := [.tmp 34, .tmp 35, .tmp 37]) Tryd.call36 rfl (precedent_counter_ok h_t45) ⟨arg rfl, arg rfl, arg rfl, trivial⟩ (fun _ _ _ _ h => h)) (by intro _ h; cases h; rfl) (fun _ => ⟨⟨⟨rfl, rfl⟩, trivial⟩, ⟨trivial, ⟨trivial, ⟨trivial, ⟨trivial, ⟨trivial, ⟨trivial, ⟨trivial, ⟨trivial, ⟨⟨⟨rfl, rfl⟩, trivial⟩, ⟨trivial, trivial⟩⟩⟩⟩⟩⟩⟩⟩⟩⟩⟩) (fun x46 => ?_)
      refine pull fun t47 h_t47 => ?_
      refine a_next hok 14 [] (by kernel_rfl) ?_ trivial
      refine a_stOn (i := 14) hok rfl rfl rfl rfl rfl (s_callB (ψ := fun (_ : Unit) => bv t47) (args := [.tmp 38, .tmp 40]) Tryd.call42 rfl (precedent_within_ok h_t47) ⟨argO rfl (j := 6) rfl, argB rfl, trivial⟩ (fun _ _ _ _ _ h => h)) (by intro _ h; cases h; rfl) (fun _ => ⟨trivial, ⟨trivial, ⟨⟨⟨rfl, rfl⟩, trivial⟩, ⟨trivial, ⟨trivial, ⟨⟨⟨rfl, rfl⟩, trivial⟩, ⟨trivial, ⟨trivial, ⟨trivial, ⟨⟨⟨rfl, rfl⟩, trivial⟩, ⟨trivial, trivial⟩⟩⟩⟩⟩⟩⟩⟩⟩⟩⟩) (fun _ => ?_)
      refine a_rdOn (i := 15) hok rfl rfl rfl rfl (by kernel_rfl) rfl (r_not rfl) rfl ?_
      refine a_rd (i := 16) hok rfl (by kernel_rfl) rfl (r_pickF rfl rfl) rfl ?_
      refine a_fin hok (by kernel_rfl) ?_
      refine b_of (nrm [oc b1 [slv rS l_0.Sides.i0, slv rS l_0.Sides.i1, slv rT_api_Case l_0.Cases], oc b2 [pv (.slice none 0 0), pv (.slice none 0 0)], oc b5 [pv x39.1.1, pv x39.2.1], oa (rI .i64) x39.1.1 x39.1.2 s38.2.1, oa (rI .i64) x39.2.1 x39.2.2 s38.2.2, oc b42 [sv t41.Name, slv rS t41.Facts, iv .i64 t41.Winner, slv rS t41.Reason], oa rS x46.1 x46.2 t45] rfl) ?_
      refine n_then ?_
      refine ref_cond rfl (fun hb48 => ?_) (fun hb48 => ?_)
      · refine ref_exit (x_then (x_eq (n_then (ref_region ?_))))
        refine s_rd (r_add rfl rfl) rfl ?_
        refine mv1 rfl rfl ?_
        refine l_nil ?_
        exact goB (x39.1, x39.2) (weak [0, 1, 2, 3, 4] ⟨rfl, rfl, rfl, rfl, rfl, rfl, rfl, rfl, trivial⟩ ⟨rfl, rfl, rfl, rfl, rfl, trivial⟩)
      refine ref_skip (n_then (ref_seq (ref_region ?_)))
      refine s_rd (r_faddr (fo := 2) Tryd.underlying39 rfl rfl Tryd.sizeOf3 rfl) rfl ?_
      refine s_rd (r_cload Tryd.isAgg3 rfl (j := 5) rfl rfl) rfl ?_
      refine s_rd (r_eql rfl rfl) rfl ?_
      refine l_nil (n_then ?_)
      refine ref_cond rfl (fun hb49 => ?_) (fun hb49 => ?_)
      · refine ref_region ?_
        refine s_rd (r_faddr (fo := 0) Tryd.underlying33 rfl rfl Tryd.sizeOf22 rfl) rfl ?_
        refine s_rd (r_cload Tryd.isAgg22 rfl (j := 2) rfl rfl) rfl ?_
        refine mv1 rfl rfl ?_
        refine s_st (s_bslice (xs := [.tmp 49]) (ds := [s38.1]) Tryd.underlying22 el_3 rfl (Nat.le_of_ble_eq_true rfl) ⟨(part_at rfl iv_at), trivial⟩) rfl (fun _ => ?_)
        refine pull fun t50 h_t50 => ?_
        refine s_st (s_append h_t50 Tryd.underlying22 el_3 rfl (j := 3) rfl rfl) rfl (fun o51 => ?_)
        refine s_rd (r_faddr (fo := 0) Tryd.underlying33 rfl rfl Tryd.sizeOf22 rfl) rfl ?_
        refine s_st0 (s_cstore (out := [pv o51.1, pv x39.2.1]) Tryd.sizeOf22 rfl (j := 2) rfl (part_own rfl (j := 3) rfl) rfl rfl rfl) (fun _ => ?_)
        refine l_nil (n_block (n_then (ref_region ?_)))
        refine s_rd (r_add rfl rfl) rfl ?_
        refine mv1 rfl rfl ?_
        refine l_nil ?_
        exact goB (o51, x39.2) (weak [0, 1, 2, 3, 4] ⟨rfl, rfl, rfl, rfl, rfl, rfl, rfl, rfl, trivial⟩ ⟨rfl, rfl, rfl, rfl, rfl, trivial⟩)
      refine ref_region ?_
      refine s_rd (r_faddr (fo := 1) Tryd.underlying33 rfl rfl Tryd.sizeOf22 rfl) rfl ?_
      refine s_rd (r_cload Tryd.isAgg22 rfl (j := 2) rfl rfl) rfl ?_
      refine mv1 rfl rfl ?_
      refine s_st (s_bslice (xs := [.tmp 55]) (ds := [s38.1]) Tryd.underlying22 el_3 rfl (Nat.le_of_ble_eq_true rfl) ⟨(part_at rfl iv_at), trivial⟩) rfl (fun _ => ?_)
      refine pull fun t52 h_t52 => ?_
      refine s_st (s_append h_t52 Tryd.underlying22 el_3 rfl (j := 4) rfl rfl) rfl (fun o53 => ?_)
      refine s_rd (r_faddr (fo := 1) Tryd.underlying33 rfl rfl Tryd.sizeOf22 rfl) rfl ?_
      refine s_st0 (s_cstore (out := [pv x39.1.1, pv o53.1]) Tryd.sizeOf22 rfl (j := 2) rfl (part_own rfl (j := 4) rfl) rfl rfl rfl) (fun _ => ?_)
      refine l_nil (n_block (n_then (ref_region ?_)))
      refine s_rd (r_add rfl rfl) rfl ?_
      refine mv1 rfl rfl ?_
      refine l_nil ?_
      exact goB (x39.1, o53) (weak [0, 1, 2, 3, 4] ⟨rfl, rfl, rfl, rfl, rfl, rfl, rfl, rfl, trivial⟩ ⟨rfl, rfl, rfl, rfl, rfl, trivial⟩)
    refine ref_exit (x_then ?_)
    exact brkB (x39.1, x39.2) (weak [1, 2, 3, 4] ⟨rfl, rfl, rfl, trivial⟩ ⟨rfl, rfl, rfl, rfl, trivial⟩)
  refine n_then (ref_seq (ref_region ?_))
  refine s_rd (r_cloadS Tryd.isAgg33 Tryd.sizeOf33 rfl (j := 1) rfl rfl rfl) rfl ?_
  refine s_st0 (s_cstore (out := [pv y55.1.1, pv y55.2.1]) Tryd.sizeOf33 rfl (j := 0) rfl (part_agO (ψs := [pv y55.1.1, pv y55.2.1]) rfl ⟨.inr ⟨_, _, _, _, _, 2, rfl, rfl⟩, .inr ⟨_, _, _, _, _, 3, rfl, rfl⟩, trivial⟩) rfl rfl rfl) (fun _ => ?_)
  refine as1 rfl rfl ?_
  refine l_nil (n_then (ref_ret ?_))
  refine b_of (frzGL [(60, ag [slv (rI .i64) q54.1, pv y55.2.1])] [(0, b2, [slv (rI .i64) q54.1, pv y55.2.1]), (1, b5, [slv (rI .i64) q54.1, pv y55.2.1])] (j := 2) rfl ⟨⟨_, rfl, .inr ⟨_, _, rfl, rfl, ⟨.inr ⟨rfl, rfl⟩, .inl rfl, trivial⟩⟩⟩, trivial⟩ ⟨⟨_, rfl, ⟨.inr ⟨rfl, rfl⟩, .inl rfl, trivial⟩⟩, ⟨_, rfl, ⟨.inr ⟨rfl, rfl⟩, .inl rfl, trivial⟩⟩, trivial⟩) ?_
  refine b_of (nrm [oc b2 [slv (rI .i64) q54.1, pv y55.2.1], oc b5 [slv (rI .i64) q54.1, pv y55.2.1], dead, oa (rI .i64) y55.2.1 y55.2.2 q54.2] rfl) ?_
  refine b_of (frzGL [(60, ag [slv (rI .i64) q54.1, slv (rI .i64) q54.2])] [(0, b2, [slv (rI .i64) q54.1, slv (rI .i64) q54.2]), (1, b5, [slv (rI .i64) q54.1, slv (rI .i64) q54.2])] (j := 3) rfl ⟨⟨_, rfl, .inr ⟨_, _, rfl, rfl, ⟨.inl rfl, .inr ⟨rfl, rfl⟩, trivial⟩⟩⟩, trivial⟩ ⟨⟨_, rfl, ⟨.inl rfl, .inr ⟨rfl, rfl⟩, trivial⟩⟩, ⟨_, rfl, ⟨.inl rfl, .inr ⟨rfl, rfl⟩, trivial⟩⟩, trivial⟩) ?_
  refine b_of (nrm [oc b2 [slv (rI .i64) q54.1, slv (rI .i64) q54.2], oc b5 [slv (rI .i64) q54.1, slv (rI .i64) q54.2], dead, dead] rfl) ?_
  exact fin2 (.inl rfl) () [] rfl trivial rfl (rv_cell rfl (j := 0) rfl Tryd.isAgg33 Tryd.sizeOf33 rfl rfl) (rv_tmp rfl)

/-! deliberation/precedent.Reasons -/
noncomputable def precedent_Reasons_m (l_0 : T_api_Library) (facts_1 : (List ByteArray)) : Option (T_api_Force × Int) :=
  Option.bind (precedent_forced_1_m l_0 facts_1) fun t3 =>
  some (t3.1, t3.2)

theorem precedent_Reasons_ok {l_0 : T_api_Library} {facts_1 : (List ByteArray)} {r : T_api_Force × Int} (hm : precedent_Reasons_m l_0 facts_1 = some r) :
    FnOk prog 11 [ag [slv rS l_0.Sides.i0, slv rS l_0.Sides.i1, slv rT_api_Case l_0.Cases], slv rS facts_1] [] (fun (x : Unit) => [ag [slv (rI .i64) r.1.For, slv (rI .i64) r.1.Against], iv .i64 r.2]) (fun (x : Unit) => []) := by
  refine fn_ok (fn := Tryd.f11) (N := 11) (res := fun r x => [ag [slv (rI .i64) r.1.For, slv (rI .i64) r.1.Against], iv .i64 r.2]) (Ω1 := fun r x => []) Tryd.func11 rfl rfl hm rfl (fun E hM => ?_)
  unfold precedent_Reasons_m
  refine ref_seq (ref_region ?_)
  refine s_st (s_box (part_agO (ψs := [slv rS l_0.Sides.i0, slv rS l_0.Sides.i1, slv rT_api_Case l_0.Cases]) rfl ⟨.inl slv_at, .inl slv_at, .inl slv_at, trivial⟩)) rfl (fun b1 => ?_)
  refine s_st (s_alloc zt_33) rfl (fun b2 => ?_)
  refine as1 rfl rfl ?_
  refine l_nil (n_then (ref_seq (ref_region ?_)))
  refine s_rd (r_cloadS Tryd.isAgg29 Tryd.sizeOf29 rfl (j := 0) rfl rfl rfl) rfl ?_
  refine mv1 rfl rfl ?_
  refine pull fun t3 h_t3 => ?_
  refine s_st (s_call (ψ := fun (_ : Unit) => tup [ag [slv (rI .i64) t3.1.For, slv (rI .i64) t3.1.Against], iv .i64 t3.2]) (args := [.tmp 6, .tmp 7, .func 30]) Tryd.call27 rfl (precedent_forced_1_ok h_t3) ⟨arg rfl, arg rfl, arg rfl, trivial⟩ (fun _ _ _ _ h => h)) rfl (fun _ => ?_)
  refine s_rd (r_extract rfl rfl) rfl ?_
  refine s_rd (r_extract rfl rfl) rfl ?_
  refine s_st0 (s_cstore (out := [slv (rI .i64) t3.1.For, slv (rI .i64) t3.1.Against]) Tryd.sizeOf33 rfl (j := 1) rfl (part_agO (ψs := [slv (rI .i64) t3.1.For, slv (rI .i64) t3.1.Against]) rfl ⟨.inl slv_at, .inl slv_at, trivial⟩) rfl rfl rfl) (fun _ => ?_)
  refine as1 rfl rfl ?_
  refine l_nil ?_
  refine b_of (nrm [oc b1 [slv rS l_0.Sides.i0, slv rS l_0.Sides.i1, slv rT_api_Case l_0.Cases], oc b2 [slv (rI .i64) t3.1.For, slv (rI .i64) t3.1.Against]] rfl) ?_
  refine n_then (ref_ret ?_)
  exact fin2 (.inl rfl) () [] rfl trivial rfl (rv_cell rfl (j := 1) rfl Tryd.isAgg33 Tryd.sizeOf33 rfl rfl) (rv_tmp rfl)

/-! deliberation/deliberationkeep.In -/
noncomputable def keep_In_l1 (l_0 : (List Int)) (x_1 : Int) (s6 : Int) : Option (Sum ((Sum (Bool) (Unit))) (Int)) :=
  bif decide (s6 < (l_0.length : Int)) then
    Option.bind (idxM l_0 s6) fun t9 =>
    bif t9 == x_1 then
      some (Sum.inl (Sum.inl true))
    else
      some (Sum.inr (iadd .i64 s6 1))
  else
    some (Sum.inl (Sum.inr ()))

noncomputable def keep_In_m (l_0 : (List Int)) (x_1 : Int) : Option (Bool) :=
  Option.bind (loopC (keep_In_l1 l_0 x_1) 0) (sumK (fun a : Bool => some a) fun q11 : Unit =>
    some false)

theorem keep_In_ok {l_0 : (List Int)} {x_1 : Int} {r : Bool} (hm : keep_In_m l_0 x_1 = some r) :
    FnOk prog 14 [slv (rI .i64) l_0, iv .i64 x_1] [] (fun (x : Unit) => [bv r]) (fun (x : Unit) => []) := by
  refine fn_ok (fn := Tryd.f14) (N := 18) (res := fun r x => [bv r]) (Ω1 := fun r x => []) Tryd.func14 rfl rfl hm rfl (fun E hM => ?_)
  unfold keep_In_m
  refine ref_seq (ref_region ?_)
  refine as1 rfl rfl ?_
  refine l_nil (n_then (ref_seq (ref_seq (ref_region ?_))))
  refine mv1 rfl rfl ?_
  refine s_rd (r_len Tryd.underlying22 rfl) rfl ?_
  refine mv1 rfl rfl ?_
  refine l_nil (n_then ?_)
  refine ref_loopX (f := (keep_In_l1 l_0 x_1)) (Γl := (fun (s6 : Int) (x7 : Unit) => [(0, slv (rI .i64) l_0), (1, iv .i64 x_1), (7, iv .i64 (l_0.length : Int)), (8, iv .i64 s6)])) (Ωl := (fun (s6 : Int) (x7 : Unit) => [])) (Γb := (fun (q11 : Unit) (y12 : Unit) => [])) (Ωb := (fun (q11 : Unit) (y12 : Unit) => [])) (kr := (fun a : Bool => some a)) 0 () (weak [] ⟨rfl, rfl, rfl, rfl, trivial⟩ trivial) (fun s6 x7 => ?_) (fun q11 y12 => ?_)
  · unfold keep_In_l1
    refine ref_seq (ref_region ?_)
    refine s_rd (r_lss rfl rfl) rfl ?_
    refine l_nil (n_then (ref_seq ?_))
    refine ref_cond rfl (fun hb8 => ?_) (fun hb8 => ?_)
    · refine ref_skip (n_then (ref_seq (ref_block (ref_seq (ref_region ?_)))))
      refine mv1 rfl rfl ?_
      refine as1 rfl rfl ?_
      refine l_nil (n_then (ref_seq (ref_region ?_)))
      refine mv1 rfl rfl ?_
      refine mv1 rfl rfl ?_
      refine pull fun t9 h_t9 => ?_
      refine s_rd (r_index h_t9 Tryd.underlying22 el_3 rfl rfl) rfl ?_
      refine s_rd (r_load el_3 rfl) rfl ?_
      refine mv1 rfl rfl ?_
      refine s_rd (r_eql rfl rfl) rfl ?_
      refine l_nil (n_then ?_)
      refine ref_cond rfl (fun hb10 => ?_) (fun hb10 => ?_)
      · refine ref_seq (ref_region ?_)
        refine as1 rfl rfl ?_
        refine l_nil (n_then (ref_ret (r_block (r_then ?_))))
        refine retX ?_
        refine r_block (r_then ?_)
        exact fin1 (.inl rfl) () [] rfl trivial rfl (rv_tmp rfl)
      refine ref_skip (n_block (n_then (ref_region ?_)))
      refine s_rd (r_add rfl rfl) rfl ?_
      refine mv1 rfl rfl ?_
      refine l_nil ?_
      exact goX () (weak [] ⟨rfl, rfl, rfl, rfl, trivial⟩ trivial)
    refine ref_exit (x_then ?_)
    exact brkX () (weak [] trivial trivial)
  refine n_then (ref_seq (ref_region ?_))
  refine as1 rfl rfl ?_
  refine l_nil (n_then (ref_ret ?_))
  exact fin1 (.inl rfl) () [] rfl trivial rfl (rv_tmp rfl)

/-! deliberation/deliberationkeep.Inside -/
noncomputable def keep_Inside_l1 (a__0 : (List Int)) (b_1 : (List Int)) (s7 : Int) : Option (Sum ((Sum (Bool) (Unit))) (Int)) :=
  bif decide (s7 < (a__0.length : Int)) then
    Option.bind (idxM a__0 s7) fun t10 =>
    Option.bind (keep_In_m b_1 t10) fun t11 =>
    bif !t11 then
      some (Sum.inl (Sum.inl false))
    else
      some (Sum.inr (iadd .i64 s7 1))
  else
    some (Sum.inl (Sum.inr ()))

noncomputable def keep_Inside_m (a__0 : (List Int)) (b_1 : (List Int)) : Option (Bool) :=
  Option.bind (loopC (keep_Inside_l1 a__0 b_1) 0) (sumK (fun a : Bool => some a) fun q13 : Unit =>
    some true)

theorem keep_Inside_ok {a__0 : (List Int)} {b_1 : (List Int)} {r : Bool} (hm : keep_Inside_m a__0 b_1 = some r) :
    FnOk prog 12 [slv (rI .i64) a__0, slv (rI .i64) b_1] [] (fun (x : Unit) => [bv r]) (fun (x : Unit) => []) := by
  refine fn_ok (fn := Tryd.f12) (N := 19) (res := fun r x => [bv r]) (Ω1 := fun r x => []) Tryd.func12 rfl rfl hm rfl (fun E hM => ?_)
  unfold keep_Inside_m
  refine ref_seq (ref_region ?_)
  refine as1 rfl rfl ?_
  refine l_nil (n_then (ref_seq (ref_seq (ref_region ?_))))
  refine mv1 rfl rfl ?_
  refine s_rd (r_len Tryd.underlying22 rfl) rfl ?_
  refine mv1 rfl rfl ?_
  refine l_nil (n_then ?_)
  refine ref_loopX (f := (keep_Inside_l1 a__0 b_1)) (Γl := (fun (s7 : Int) (x8 : Unit) => [(0, slv (rI .i64) a__0), (1, slv (rI .i64) b_1), (7, iv .i64 (a__0.length : Int)), (8, iv .i64 s7)])) (Ωl := (fun (s7 : Int) (x8 : Unit) => [])) (Γb := (fun (q13 : Unit) (y14 : Unit) => [])) (Ωb := (fun (q13 : Unit) (y14 : Unit) => [])) (kr := (fun a : Bool => some a)) 0 () (weak [] ⟨rfl, rfl, rfl, rfl, trivial⟩ trivial) (fun s7 x8 => ?_) (fun q13 y14 => ?_)
  · unfold keep_Inside_l1
    refine ref_seq (ref_region ?_)
    refine s_rd (r_lss rfl rfl) rfl ?_
    refine l_nil (n_then (ref_seq ?_))
    refine ref_cond rfl (fun hb9 => ?_) (fun hb9 => ?_)
    · refine ref_skip (n_then (ref_seq (ref_block (ref_seq (ref_region ?_)))))
      refine mv1 rfl rfl ?_
      refine as1 rfl rfl ?_
      refine l_nil (n_then (ref_seq (ref_region ?_)))
      refine mv1 rfl rfl ?_
      refine mv1 rfl rfl ?_
      refine mv1 rfl rfl ?_
      refine pull fun t10 h_t10 => ?_
      refine s_rd (r_index h_t10 Tryd.underlying22 el_3 rfl rfl) rfl ?_
      refine s_rd (r_load el_3 rfl) rfl ?_
      refine pull fun t11 h_t11 => ?_
      refine s_st (s_call (ψ := fun (_ : Unit) => bv t11) (args := [.tmp 11, .tmp 15]) Tryd.call14 rfl (keep_In_ok h_t11) ⟨arg rfl, arg rfl, trivial⟩ (fun _ _ _ _ h => h)) rfl (fun _ => ?_)
      refine s_rd (r_not rfl) rfl ?_
      refine l_nil (n_then ?_)
      refine ref_cond rfl (fun hb12 => ?_) (fun hb12 => ?_)
      · refine ref_seq (ref_region ?_)
        refine as1 rfl rfl ?_
        refine l_nil (n_then (ref_ret (r_block (r_then ?_))))
        refine retX ?_
        refine r_block (r_then ?_)
        exact fin1 (.inl rfl) () [] rfl trivial rfl (rv_tmp rfl)
      refine ref_skip (n_block (n_then (ref_region ?_)))
      refine s_rd (r_add rfl rfl) rfl ?_
      refine mv1 rfl rfl ?_
      refine l_nil ?_
      exact goX () (weak [] ⟨rfl, rfl, rfl, rfl, trivial⟩ trivial)
    refine ref_exit (x_then ?_)
    exact brkX () (weak [] trivial trivial)
  refine n_then (ref_seq (ref_region ?_))
  refine as1 rfl rfl ?_
  refine l_nil (n_then (ref_ret ?_))
  exact fin1 (.inl rfl) () [] rfl trivial rfl (rv_tmp rfl)

/-! deliberation/precedent.Distinguish$1 -/
noncomputable def precedent_Distinguish_1_m (s_0 : ByteArray) (p_1 : (List ByteArray)) : Option (Bool) :=
  Option.bind (slices_Contains_string_string_m p_1 s_0) fun t1 =>
  some t1

theorem precedent_Distinguish_1_ok {s_0 : ByteArray} {p_1 : (List ByteArray)} {b_1 : Nat} {r : Bool} (hm : precedent_Distinguish_1_m s_0 p_1 = some r) :
    FnOk prog 34 [sv s_0, pv (ptr b_1 0)] [oc b_1 [slv rS p_1]] (fun (x : Unit) => [bv r]) (fun (x : Unit) => [oc b_1 [slv rS p_1]]) := by
  refine fn_ok (fn := Tryd.f34) (N := 7) (res := fun r x => [bv r]) (Ω1 := fun r x => [oc b_1 [slv rS p_1]]) Tryd.func34 rfl rfl hm rfl (fun E hM => ?_)
  unfold precedent_Distinguish_1_m
  refine ref_seq (ref_region ?_)
  refine as1 rfl rfl ?_
  refine l_nil (n_then (ref_seq (ref_region ?_)))
  refine s_rd (r_cload Tryd.isAgg25 rfl (j := 0) rfl rfl) rfl ?_
  refine mv1 rfl rfl ?_
  refine pull fun t1 h_t1 => ?_
  refine s_st (s_call (ψ := fun (_ : Unit) => bv t1) (args := [.tmp 4, .tmp 5]) Tryd.call35 rfl (slices_Contains_string_string_ok h_t1) ⟨arg rfl, arg rfl, trivial⟩ (fun _ _ _ _ h => h)) rfl (fun _ => ?_)
  refine as1 rfl rfl ?_
  refine l_nil (n_then (ref_ret ?_))
  exact fin1 (.inl rfl) () [0] rfl ⟨rfl, trivial⟩ rfl (rv_tmp rfl)

/-! slices.IndexFunc[[]string,string] -/
noncomputable def slices_IndexFunc_string_string_4_l1 (s_0 : (List ByteArray)) (e_1 : (List ByteArray)) (s7 : Int) : Option (Sum ((Sum (Int) (Unit))) (Int)) :=
  bif decide (s7 < (s_0.length : Int)) then
    Option.bind (idxM s_0 s7) fun t10 =>
    Option.bind (precedent_Distinguish_1_m t10 e_1) fun t11 =>
    bif t11 then
      some (Sum.inl (Sum.inl s7))
    else
      some (Sum.inr (iadd .i64 s7 1))
  else
    some (Sum.inl (Sum.inr ()))

noncomputable def slices_IndexFunc_string_string_4_m (s_0 : (List ByteArray)) (e_1 : (List ByteArray)) : Option (Int) :=
  Option.bind (loopC (slices_IndexFunc_string_string_4_l1 s_0 e_1) 0) (sumK (fun a : Int => some a) fun q13 : Unit =>
    some (-1))

theorem slices_IndexFunc_string_string_4_ok {s_0 : (List ByteArray)} {e_1 : (List ByteArray)} {h_0 : Value × List Nat} {be_1 : Nat} {r : Int} (hm : slices_IndexFunc_string_string_4_m s_0 e_1 = some r) :
    FnOk prog 61 [pv h_0.1, pv (.func (.func 34) #[] #[(ptr be_1 0)])] [oa rS h_0.1 h_0.2 s_0, oc be_1 [slv rS e_1]] (fun (x : Unit) => [iv .i64 r]) (fun (x : Unit) => [oa rS h_0.1 h_0.2 s_0, oc be_1 [slv rS e_1]]) := by
  refine fn_ok (fn := Tryd.f61) (N := 19) (res := fun r x => [iv .i64 r]) (Ω1 := fun r x => [oa rS h_0.1 h_0.2 s_0, oc be_1 [slv rS e_1]]) Tryd.func61 rfl rfl hm rfl (fun E hM => ?_)
  unfold slices_IndexFunc_string_string_4_m
  refine ref_seq (ref_region ?_)
  refine as1 rfl rfl ?_
  refine l_nil (n_then (ref_seq (ref_seq (ref_region ?_))))
  refine mv1 rfl rfl ?_
  refine s_rd (r_olen Tryd.underlying25 rfl (j := 0) rfl) rfl ?_
  refine mv1 rfl rfl ?_
  refine l_nil (n_then ?_)
  refine ref_loopX (f := (slices_IndexFunc_string_string_4_l1 s_0 e_1)) (Γl := (fun (s7 : Int) (x8 : Unit) => [(0, pv h_0.1), (1, pv (.func (.func 34) #[] #[(ptr be_1 0)])), (7, iv .i64 (s_0.length : Int)), (8, iv .i64 s7)])) (Ωl := (fun (s7 : Int) (x8 : Unit) => [oa rS h_0.1 h_0.2 s_0, oc be_1 [slv rS e_1]])) (Γb := (fun (q13 : Unit) (y14 : Unit) => [(0, pv h_0.1), (1, pv (.func (.func 34) #[] #[(ptr be_1 0)]))])) (Ωb := (fun (q13 : Unit) (y14 : Unit) => [oa rS h_0.1 h_0.2 s_0, oc be_1 [slv rS e_1]])) (kr := (fun a : Int => some a)) 0 () (weak [0, 1] ⟨rfl, rfl, rfl, rfl, trivial⟩ ⟨rfl, rfl, trivial⟩) (fun s7 x8 => ?_) (fun q13 y14 => ?_)
  · unfold slices_IndexFunc_string_string_4_l1
    refine ref_seq (ref_region ?_)
    refine s_rd (r_lss rfl rfl) rfl ?_
    refine l_nil (n_then (ref_seq ?_))
    refine ref_cond rfl (fun hb9 => ?_) (fun hb9 => ?_)
    · refine ref_skip (n_then (ref_seq (ref_block (ref_seq (ref_region ?_)))))
      refine mv1 rfl rfl ?_
      refine as1 rfl rfl ?_
      refine l_nil (n_then (ref_seq (ref_region ?_)))
      refine mv1 rfl rfl ?_
      refine mv1 rfl rfl ?_
      refine mv1 rfl rfl ?_
      refine pull fun t10 h_t10 => ?_
      refine s_rd (r_oindex h_t10 Tryd.underlying25 el_9 rfl (j := 0) rfl rfl) rfl ?_
      refine s_rd (r_oload h_t10 el_9 rfl (j := 0) rfl) rfl ?_
      refine pull fun t11 h_t11 => ?_
      refine s_st (s_callC [1] [true] (fun (_ : Unit) => [oc be_1 [slv rS e_1]]) (fun (_ : Unit) => []) (fun (_ : Unit) => bv t11) (args := [.tmp 15]) (caps := [(ptr be_1 0)]) Tryd.call34 rfl (precedent_Distinguish_1_ok h_t11) ⟨rfl, rfl, trivial⟩ (fun _ => rfl) (fun _ => trivial) (fun _ => rfl) ⟨arg rfl, arg rfl, trivial⟩ (fun _ _ _ _ h => h)) rfl (fun _ => ?_)
      refine l_nil (n_then ?_)
      refine ref_cond rfl (fun hb12 => ?_) (fun hb12 => ?_)
      · refine ref_seq (ref_region ?_)
        refine mv1 rfl rfl ?_
        refine as1 rfl rfl ?_
        refine l_nil (n_then (ref_ret (r_block (r_then ?_))))
        refine retX ?_
        refine r_block (r_then ?_)
        exact fin1 (.inl rfl) () [0, 1] rfl ⟨rfl, rfl, trivial⟩ rfl (rv_tmp rfl)
      refine ref_skip (n_block (n_then (ref_region ?_)))
      refine s_rd (r_add rfl rfl) rfl ?_
      refine mv1 rfl rfl ?_
      refine l_nil ?_
      exact goX () (weak [0, 1] ⟨rfl, rfl, rfl, rfl, trivial⟩ ⟨rfl, rfl, trivial⟩)
    refine ref_exit (x_then ?_)
    exact brkX () (weak [0, 1] ⟨rfl, rfl, trivial⟩ ⟨rfl, rfl, trivial⟩)
  refine n_then (ref_seq (ref_region ?_))
  refine as1 rfl rfl ?_
  refine l_nil (n_then (ref_ret ?_))
  exact fin1 (.inl rfl) () [0, 1] rfl ⟨rfl, rfl, trivial⟩ rfl (rv_tmp rfl)

/-! slices.DeleteFunc[[]string,string] -/
noncomputable def slices_DeleteFunc_string_string_1_l1 (e_1 : (List ByteArray)) (s22 : Int × Int × (List ByteArray)) : Option (Sum ((List ByteArray) × Int) (Int × Int × (List ByteArray))) :=
  bif decide (s22.2.1 < (s22.2.2.length : Int)) then
    Option.bind (idxM s22.2.2 s22.2.1) fun v25 =>
    Option.bind (precedent_Distinguish_1_m v25 e_1) fun t26 =>
    bif !t26 then
      Option.bind (idxM s22.2.2 s22.1) fun t28 =>
      letM (iadd .i64 s22.1 1) fun i29 =>
      letM (iadd .i64 s22.2.1 1) fun j30 =>
      some (Sum.inr (i29, j30, s22.2.2.set (Int.toNat s22.1) v25))
    else
      letM (iadd .i64 s22.2.1 1) fun j31 =>
      some (Sum.inr (s22.1, j31, s22.2.2))
  else
    some (Sum.inl (s22.2.2, s22.1))

noncomputable def slices_DeleteFunc_string_string_1_m (s_0 : (List ByteArray)) (e_1 : (List ByteArray)) : Option (List ByteArray) :=
  Option.bind (slices_IndexFunc_string_string_4_m s_0 e_1) fun i1 =>
  bif i1 == (-1) then
    some s_0
  else
    Option.bind (loopC (slices_DeleteFunc_string_string_1_l1 e_1) (i1, iadd .i64 i1 1, s_0)) fun q32 : (List ByteArray) × Int =>
    Option.bind (slM q32.1 q32.2 (q32.1.length : Int)) fun t34 =>
    Option.bind (slM (q32.1.take (Int.toNat q32.2) ++ List.replicate (Int.toNat (q32.1.length : Int) - Int.toNat q32.2) ByteArray.empty ++ q32.1.drop (Int.toNat (q32.1.length : Int))) 0 q32.2) fun t35 =>
    some t35

theorem slices_DeleteFunc_string_string_1_ok {s_0 : (List ByteArray)} {e_1 : (List ByteArray)} {h_0 : Value × List Nat} {be_1 : Nat} {r : List ByteArray} (hm : slices_DeleteFunc_string_string_1_m s_0 e_1 = some r) :
    FnOk prog 33 [pv h_0.1, pv (.func (.func 34) #[] #[(ptr be_1 0)])] [oa rS h_0.1 h_0.2 s_0, oc be_1 [slv rS e_1]] (fun (x : (Value × List Nat)) => [pv x.1]) (fun (x : (Value × List Nat)) => [oc be_1 [slv rS e_1], oa rS x.1 x.2 r]) := by
  refine fn_ok (X := (Value × List Nat)) (fn := Tryd.f33) (N := 42) (res := fun r x => [pv x.1]) (Ω1 := fun r x => [oc be_1 [slv rS e_1], oa rS x.1 x.2 r]) Tryd.func33 rfl rfl hm rfl (fun E hM => ?_)
  unfold slices_DeleteFunc_string_string_1_m
  refine ref_seq (ref_region ?_)
  refine as1 rfl rfl ?_
  refine l_nil (n_then (ref_seq (ref_region ?_)))
  refine mv1 rfl rfl ?_
  refine mv1 rfl rfl ?_
  refine pull fun i1 h_i1 => ?_
  refine s_st (s_callC [0, 1] [true, true] (fun (_ : Unit) => [oa rS h_0.1 h_0.2 s_0, oc be_1 [slv rS e_1]]) (fun (_ : Unit) => []) (fun (_ : Unit) => iv .i64 i1) (args := [.tmp 8, .tmp 9]) (caps := []) Tryd.call61 rfl (slices_IndexFunc_string_string_4_ok h_i1) ⟨rfl, rfl, ⟨rfl, rfl, trivial⟩⟩ (fun _ => rfl) (fun _ => trivial) (fun _ => rfl) ⟨arg rfl, arg rfl, trivial⟩ (fun _ _ _ _ h => h)) rfl (fun _ => ?_)
  refine as1 rfl rfl ?_
  refine l_nil (n_then (ref_seq (ref_seq (ref_region ?_))))
  refine mv1 rfl rfl ?_
  refine s_rd (r_eql rfl rfl) rfl ?_
  refine l_nil (n_then ?_)
  refine ref_cond rfl (fun hb2 => ?_) (fun hb2 => ?_)
  · refine ref_seq (ref_region ?_)
    refine mv1 rfl rfl ?_
    refine as1 rfl rfl ?_
    refine l_nil (n_then (ref_ret (r_then ?_)))
    exact fin1 (.inl rfl) h_0 [1, 0] rfl ⟨rfl, rfl, trivial⟩ rfl (rv_tmp rfl)
  refine ref_skip (n_then (ref_seq (ref_seq (ref_region ?_))))
  refine mv1 rfl rfl ?_
  refine s_rd (r_add rfl rfl) rfl ?_
  refine as1 rfl rfl ?_
  refine l_nil (n_then ?_)
  refine ref_loopB (f := (slices_DeleteFunc_string_string_1_l1 e_1)) (Γl := (fun (s22 : Int × Int × (List ByteArray)) (x23 : Unit) => [(0, pv h_0.1), (1, pv (.func (.func 34) #[] #[(ptr be_1 0)])), (5, iv .i64 s22.1), (6, iv .i64 s22.2.1)])) (Ωl := (fun (s22 : Int × Int × (List ByteArray)) (x23 : Unit) => [oa rS h_0.1 h_0.2 s22.2.2, oc be_1 [slv rS e_1]])) (Γb := (fun (q32 : (List ByteArray) × Int) (y33 : Unit) => [(0, pv h_0.1), (1, pv (.func (.func 34) #[] #[(ptr be_1 0)])), (5, iv .i64 q32.2)])) (Ωb := (fun (q32 : (List ByteArray) × Int) (y33 : Unit) => [oa rS h_0.1 h_0.2 q32.1, oc be_1 [slv rS e_1]])) (i1, iadd .i64 i1 1, s_0) () (weak [0, 1] ⟨rfl, rfl, rfl, rfl, trivial⟩ ⟨rfl, rfl, trivial⟩) (fun s22 x23 => ?_) (fun q32 y33 => ?_)
  · unfold slices_DeleteFunc_string_string_1_l1
    refine ref_seq (ref_seq (ref_region ?_))
    refine mv1 rfl rfl ?_
    refine mv1 rfl rfl ?_
    refine s_rd (r_olen Tryd.underlying25 rfl (j := 0) rfl) rfl ?_
    refine s_rd (r_lss rfl rfl) rfl ?_
    refine l_nil (n_then ?_)
    refine ref_cond rfl (fun hb24 => ?_) (fun hb24 => ?_)
    · refine ref_skip (n_then (ref_seq (ref_block (ref_seq (ref_region ?_)))))
      refine mv1 rfl rfl ?_
      refine mv1 rfl rfl ?_
      refine pull fun v25 h_v25 => ?_
      refine s_rd (r_oindex h_v25 Tryd.underlying25 el_9 rfl (j := 0) rfl rfl) rfl ?_
      refine s_rd (r_oload h_v25 el_9 rfl (j := 0) rfl) rfl ?_
      refine as1 rfl rfl ?_
      refine l_nil (n_then (ref_seq (ref_region ?_)))
      refine mv1 rfl rfl ?_
      refine mv1 rfl rfl ?_
      refine pull fun t26 h_t26 => ?_
      refine s_st (s_callC [1] [true] (fun (_ : Unit) => [oc be_1 [slv rS e_1]]) (fun (_ : Unit) => []) (fun (_ : Unit) => bv t26) (args := [.tmp 27]) (caps := [(ptr be_1 0)]) Tryd.call34 rfl (precedent_Distinguish_1_ok h_t26) ⟨rfl, rfl, trivial⟩ (fun _ => rfl) (fun _ => trivial) (fun _ => rfl) ⟨arg rfl, arg rfl, trivial⟩ (fun _ _ _ _ h => h)) rfl (fun _ => ?_)
      refine s_rd (r_not rfl) rfl ?_
      refine l_nil (n_then ?_)
      refine ref_cond rfl (fun hb27 => ?_) (fun hb27 => ?_)
      · refine ref_seq (ref_region ?_)
        refine mv1 rfl rfl ?_
        refine mv1 rfl rfl ?_
        refine mv1 rfl rfl ?_
        refine pull fun t28 h_t28 => ?_
        refine s_rd (r_oindex h_t28 Tryd.underlying25 el_9 rfl (j := 0) rfl rfl) rfl ?_
        refine s_st0 (s_ostore (u := v25) h_t28 el_9 rfl (j := 0) rfl (part_at rfl sv_at)) (fun _ => ?_)
        refine l_nil (n_then (ref_region ?_))
        refine mv1 rfl rfl ?_
        refine s_rd (r_add rfl rfl) rfl ?_
        refine as1 rfl rfl ?_
        refine b_let (f := iv .i64) (t := 5) rfl fun i29 => ?_
        refine l_nil (n_block (n_then (ref_region ?_)))
        refine mv1 rfl rfl ?_
        refine s_rd (r_add rfl rfl) rfl ?_
        refine as1 rfl rfl ?_
        refine b_let (f := iv .i64) (t := 6) rfl fun j30 => ?_
        refine l_nil ?_
        exact goB () (weak [0, 1] ⟨rfl, rfl, rfl, rfl, trivial⟩ ⟨rfl, rfl, trivial⟩)
      refine ref_skip (n_block (n_then (ref_region ?_)))
      refine mv1 rfl rfl ?_
      refine s_rd (r_add rfl rfl) rfl ?_
      refine as1 rfl rfl ?_
      refine b_let (f := iv .i64) (t := 6) rfl fun j31 => ?_
      refine l_nil ?_
      exact goB () (weak [0, 1] ⟨rfl, rfl, rfl, rfl, trivial⟩ ⟨rfl, rfl, trivial⟩)
    refine ref_exit (x_then ?_)
    exact brkB () (weak [0, 1] ⟨rfl, rfl, rfl, trivial⟩ ⟨rfl, rfl, trivial⟩)
  refine n_then (ref_seq (ref_region ?_))
  refine mv1 rfl rfl ?_
  refine mv1 rfl rfl ?_
  refine pull fun t34 h_t34 => ?_
  refine s_rd (r_osub h_t34 Tryd.underlying25 el_9 rfl (j := 0) rfl (.of rfl) .dft) rfl ?_
  refine s_st0 (s_clear h_t34 Tryd.underlying25 el_9 ze_9 rfl (j := 0) rfl) (fun _ => ?_)
  refine l_nil (n_then (ref_seq (ref_region ?_)))
  refine mv1 rfl rfl ?_
  refine mv1 rfl rfl ?_
  refine pull fun t35 h_t35 => ?_
  refine s_st (s_oslice h_t35 Tryd.underlying25 el_9 rfl (j := 0) rfl .dft (.of rfl)) rfl (fun o36 => ?_)
  refine as1 rfl rfl ?_
  refine l_nil (n_then (ref_ret ?_))
  exact fin1 (.inl rfl) o36 [1, 0] rfl ⟨rfl, rfl, trivial⟩ rfl (rv_tmp rfl)

/-! deliberation/precedent.Distinguish -/
noncomputable def precedent_Distinguish_l1 (t8 : T_api_Case) (t14 : List ByteArray) (s32 : Int × (List ByteArray)) : Option (Sum ((List ByteArray)) (Int × (List ByteArray))) :=
  bif decide (s32.1 < (t14.length : Int)) then
    Option.bind (idxM t14 s32.1) fun s35 =>
    Option.bind (slices_Contains_string_string_m t8.Facts s35) fun t36 =>
    bif !t36 then
      Option.bind (appM 16 s32.2 [s35]) fun out38 =>
      some (Sum.inr (iadd .i64 s32.1 1, out38))
    else
      some (Sum.inr (iadd .i64 s32.1 1, s32.2))
  else
    some (Sum.inl s32.2)

noncomputable def precedent_Distinguish_m (l_0 : T_api_Library) (index_1 : Int) (facts_2 : (List ByteArray)) : Option (List ByteArray × Int) :=
  Option.bind (precedent_Validate_m l_0) fun e3 =>
  bif e3 != 0 then
    some ([], e3)
  else
    bif decide (index_1 < 0) then
      some ([], 1)
    else
      bif decide (index_1 ≥ (l_0.Cases.length : Int)) then
        some ([], 1)
      else
        Option.bind (precedent_known_m l_0 facts_2) fun e6 =>
        bif e6 != 0 then
          some ([], e6)
        else
          Option.bind (idxM l_0.Cases index_1) fun t8 =>
          Option.bind (precedent_own_m l_0 t8.Facts t8.Winner) fun t10 =>
          Option.bind (slices_DeleteFunc_string_string_1_m t10 facts_2) fun out12 =>
          Option.bind (precedent_counter_m l_0 facts_2 t8.Winner) fun t14 =>
          Option.bind (loopC (precedent_Distinguish_l1 t8 t14) (0, out12)) fun q40 : (List ByteArray) =>
          Option.bind (sortedSM q40) fun t42 =>
          some (t42, 0)

theorem precedent_Distinguish_ok {l_0 : T_api_Library} {index_1 : Int} {facts_2 : (List ByteArray)} {r : List ByteArray × Int} (hm : precedent_Distinguish_m l_0 index_1 facts_2 = some r) :
    FnOk prog 13 [ag [slv rS l_0.Sides.i0, slv rS l_0.Sides.i1, slv rT_api_Case l_0.Cases], iv .i64 index_1, slv rS facts_2] [] (fun (x : (Value × List Nat)) => [pv x.1, iv .i64 r.2]) (fun (x : (Value × List Nat)) => [oa rS x.1 x.2 r.1]) := by
  refine fn_ok (X := (Value × List Nat)) (fn := Tryd.f13) (N := 70) (res := fun r x => [pv x.1, iv .i64 r.2]) (Ω1 := fun r x => [oa rS x.1 x.2 r.1]) Tryd.func13 rfl rfl hm rfl (fun E hM => ?_)
  unfold precedent_Distinguish_m
  refine ref_seq (ref_region ?_)
  refine s_st (s_box (part_agO (ψs := [slv rS l_0.Sides.i0, slv rS l_0.Sides.i1, slv rT_api_Case l_0.Cases]) rfl ⟨.inl slv_at, .inl slv_at, .inl slv_at, trivial⟩)) rfl (fun b1 => ?_)
  refine s_st (s_box (part_at rfl slv_at)) rfl (fun b2 => ?_)
  refine as1 rfl rfl ?_
  refine as1 rfl rfl ?_
  refine l_nil (n_then (ref_seq (ref_seq (ref_region ?_))))
  refine s_rd (r_cloadS Tryd.isAgg29 Tryd.sizeOf29 rfl (j := 0) rfl rfl rfl) rfl ?_
  refine pull fun e3 h_e3 => ?_
  refine s_st (s_call (ψ := fun (_ : Unit) => iv .i64 e3) (args := [.tmp 14]) Tryd.call31 rfl (precedent_Validate_ok h_e3) ⟨arg rfl, trivial⟩ (fun _ _ _ _ h => h)) rfl (fun _ => ?_)
  refine as1 rfl rfl ?_
  refine l_nil (n_then (ref_seq (ref_region ?_)))
  refine mv1 rfl rfl ?_
  refine s_rd (r_neq rfl rfl) rfl ?_
  refine l_nil (n_then ?_)
  refine ref_cond rfl (fun hb4 => ?_) (fun hb4 => ?_)
  · refine ref_seq (ref_region ?_)
    refine mv1 rfl rfl ?_
    refine as1 rfl rfl ?_
    refine as1 rfl rfl ?_
    refine l_nil (n_then (ref_ret (r_then ?_)))
    refine b_of (own_nil rS) ?_
    exact fin2 (.inl rfl) ((.slice none 0 0), []) [2] rfl ⟨rfl, trivial⟩ rfl (rv_tmp rfl) (rv_tmp rfl)
  refine ref_skip (n_then (ref_seq (ref_seq (ref_region ?_))))
  refine mv1 rfl rfl ?_
  refine s_rd (r_lss rfl rfl) rfl ?_
  refine mv1 rfl rfl ?_
  refine b_split (t := 21) rfl (fun _ => ?_) (fun _ => ?_)
  · refine s_off rfl rfl rfl rfl rfl ?_
    refine s_off rfl rfl rfl rfl rfl ?_
    refine s_off rfl rfl rfl rfl rfl ?_
    refine s_off rfl rfl rfl rfl rfl ?_
    refine s_off rfl rfl rfl rfl rfl ?_
    refine s_rd (r_pickT rfl rfl) rfl ?_
    refine l_nil (n_then ?_)
    refine ref_condT rfl rfl ?_
    refine ref_seq (ref_region ?_)
    refine as1 rfl rfl ?_
    refine as1 rfl rfl ?_
    refine l_nil (n_then (ref_ret (r_then ?_)))
    refine b_of (own_nil rS) ?_
    exact fin2 (.inl rfl) ((.slice none 0 0), []) [2] rfl ⟨rfl, trivial⟩ rfl (rv_tmp rfl) (rv_tmp rfl)
  refine s_on rfl rfl rfl ?_
  refine mv1 rfl rfl ?_
  refine s_on rfl rfl rfl ?_
  refine s_rd (r_faddr (fo := 2) Tryd.underlying29 rfl rfl Tryd.sizeOf27 rfl) rfl ?_
  refine s_on rfl rfl rfl ?_
  refine s_rd (r_cload Tryd.isAgg27 rfl (j := 0) rfl rfl) rfl ?_
  refine s_on rfl rfl rfl ?_
  refine s_rd (r_len Tryd.underlying27 rfl) rfl ?_
  refine s_on rfl rfl rfl ?_
  refine s_rd (r_geq rfl rfl) rfl ?_
  refine s_rd (r_pickF rfl rfl) rfl ?_
  refine l_nil (n_then ?_)
  refine ref_cond rfl (fun hb5 => ?_) (fun hb5 => ?_)
  · refine ref_seq (ref_region ?_)
    refine as1 rfl rfl ?_
    refine as1 rfl rfl ?_
    refine l_nil (n_then (ref_ret (r_then ?_)))
    refine b_of (own_nil rS) ?_
    exact fin2 (.inl rfl) ((.slice none 0 0), []) [2] rfl ⟨rfl, trivial⟩ rfl (rv_tmp rfl) (rv_tmp rfl)
  refine ref_skip (n_then (ref_seq (ref_seq (ref_region ?_))))
  refine s_rd (r_cloadS Tryd.isAgg29 Tryd.sizeOf29 rfl (j := 0) rfl rfl rfl) rfl ?_
  refine s_rd (r_cload Tryd.isAgg25 rfl (j := 1) rfl rfl) rfl ?_
  refine pull fun e6 h_e6 => ?_
  refine s_st (s_call (ψ := fun (_ : Unit) => iv .i64 e6) (args := [.tmp 28, .tmp 29]) Tryd.call32 rfl (precedent_known_ok h_e6) ⟨arg rfl, arg rfl, trivial⟩ (fun _ _ _ _ h => h)) rfl (fun _ => ?_)
  refine as1 rfl rfl ?_
  refine l_nil ?_
  refine b_of (nrm [oc b1 [slv rS l_0.Sides.i0, slv rS l_0.Sides.i1, slv rT_api_Case l_0.Cases], oc b2 [slv rS facts_2]] rfl) ?_
  refine n_then (ref_seq (ref_region ?_))
  refine mv1 rfl rfl ?_
  refine s_rd (r_neq rfl rfl) rfl ?_
  refine l_nil (n_then ?_)
  refine ref_cond rfl (fun hb7 => ?_) (fun hb7 => ?_)
  · refine ref_seq (ref_region ?_)
    refine mv1 rfl rfl ?_
    refine as1 rfl rfl ?_
    refine as1 rfl rfl ?_
    refine l_nil (n_then (ref_ret (r_then ?_)))
    refine b_of (own_nil rS) ?_
    exact fin2 (.inl rfl) ((.slice none 0 0), []) [2] rfl ⟨rfl, trivial⟩ rfl (rv_tmp rfl) (rv_tmp rfl)
  refine ref_skip (n_then (ref_seq (ref_region ?_)))
  refine s_rd (r_faddr (fo := 2) Tryd.underlying29 rfl rfl Tryd.sizeOf27 rfl) rfl ?_
  refine s_rd (r_cload Tryd.isAgg27 rfl (j := 0) rfl rfl) rfl ?_
  refine mv1 rfl rfl ?_
  refine pull fun t8 h_t8 => ?_
  refine s_rd (r_index h_t8 Tryd.underlying27 el_39 rfl rfl) rfl ?_
  refine s_rd (r_load el_39 rfl) rfl ?_
  refine s_st (s_alloc zt_39) rfl (fun b9 => ?_)
  refine s_st0 (s_cstore (out := [sv t8.Name, slv rS t8.Facts, iv .i64 t8.Winner, slv rS t8.Reason]) Tryd.sizeOf39 rfl (j := 2) rfl (part_agO (ψs := [sv t8.Name, slv rS t8.Facts, iv .i64 t8.Winner, slv rS t8.Reason]) rfl ⟨.inl sv_at, .inl slv_at, .inl iv_at, .inl slv_at, trivial⟩) rfl rfl rfl) (fun _ => ?_)
  refine l_nil (n_then (ref_seq (ref_region ?_)))
  refine s_rd (r_cloadS Tryd.isAgg29 Tryd.sizeOf29 rfl (j := 0) rfl rfl rfl) rfl ?_
  refine s_rd (r_faddr (fo := 1) Tryd.underlying39 rfl rfl Tryd.sizeOf25 rfl) rfl ?_
  refine s_rd (r_cload Tryd.isAgg25 rfl (j := 2) rfl rfl) rfl ?_
  refine s_rd (r_faddr (fo := 2) Tryd.underlying39 rfl rfl Tryd.sizeOf3 rfl) rfl ?_
  refine s_rd (r_cload Tryd.isAgg3 rfl (j := 2) rfl rfl) rfl ?_
  refine pull fun t10 h_t10 => ?_
  refine s_st (s_call (ψ := fun (x11 : (Value × List Nat)) => pv x11.1) (args := [.tmp 39, .tmp 41, .tmp 43]) Tryd.call29 rfl (precedent_own_ok h_t10) ⟨arg rfl, arg rfl, arg rfl, trivial⟩ (fun _ _ _ _ h => h)) rfl (fun x11 => ?_)
  refine s_rd (r_mkfn (xs := [.tmp 5]) (vs := [(ptr b2 0)]) ⟨rfl, trivial⟩) rfl ?_
  refine pull fun out12 h_out12 => ?_
  refine s_st (s_callC [3, 1] [false, true] (fun (x13 : (Value × List Nat)) => [dead, oc b2 [slv rS facts_2]]) (fun (x13 : (Value × List Nat)) => [oa rS x13.1 x13.2 out12]) (fun (x13 : (Value × List Nat)) => pv x13.1) (args := [.tmp 44, .tmp 45]) (caps := []) Tryd.call33 rfl (slices_DeleteFunc_string_string_1_ok h_out12) ⟨rfl, rfl, ⟨rfl, rfl, trivial⟩⟩ (fun _ => rfl) (fun _ => ⟨rfl, trivial⟩) (fun _ => rfl) ⟨arg rfl, arg rfl, trivial⟩ (fun _ _ _ _ h => h)) rfl (fun x13 => ?_)
  refine as1 rfl rfl ?_
  refine l_nil ?_
  refine b_of (nrm [oc b1 [slv rS l_0.Sides.i0, slv rS l_0.Sides.i1, slv rT_api_Case l_0.Cases], oc b2 [slv rS facts_2], oc b9 [sv t8.Name, slv rS t8.Facts, iv .i64 t8.Winner, slv rS t8.Reason], dead, oa rS x13.1 x13.2 out12] rfl) ?_
  refine n_then (ref_seq (ref_seq (ref_region ?_)))
  refine s_rd (r_cloadS Tryd.isAgg29 Tryd.sizeOf29 rfl (j := 0) rfl rfl rfl) rfl ?_
  refine s_rd (r_cload Tryd.isAgg25 rfl (j := 1) rfl rfl) rfl ?_
  refine s_rd (r_faddr (fo := 2) Tryd.underlying39 rfl rfl Tryd.sizeOf3 rfl) rfl ?_
  refine s_rd (r_cload Tryd.isAgg3 rfl (j := 2) rfl rfl) rfl ?_
  refine pull fun t14 h_t14 => ?_
  refine s_st (s_call (ψ := fun (x15 : (Value × List Nat)) => pv x15.1) (args := [.tmp 47, .tmp 48, .tmp 50]) Tryd.call36 rfl (precedent_counter_ok h_t14) ⟨arg rfl, arg rfl, arg rfl, trivial⟩ (fun _ _ _ _ h => h)) rfl (fun x15 => ?_)
  refine s_rd (r_olen Tryd.underlying25 rfl (j := 5) rfl) rfl ?_
  refine mv1 rfl rfl ?_
  refine l_nil (n_then ?_)
  refine ref_loopB (f := (precedent_Distinguish_l1 t8 t14)) (Γl := (fun (s32 : Int × (List ByteArray)) (x33 : (Value × List Nat)) => [(10, pv (ptr b9 0)), (11, pv x33.1), (51, pv x15.1), (52, iv .i64 (t14.length : Int)), (53, iv .i64 s32.1)])) (Ωl := (fun (s32 : Int × (List ByteArray)) (x33 : (Value × List Nat)) => [oc b9 [sv t8.Name, slv rS t8.Facts, iv .i64 t8.Winner, slv rS t8.Reason], oa rS x33.1 x33.2 s32.2, oa rS x15.1 x15.2 t14])) (Γb := (fun (q40 : (List ByteArray)) (y41 : (Value × List Nat)) => [(11, pv y41.1)])) (Ωb := (fun (q40 : (List ByteArray)) (y41 : (Value × List Nat)) => [oa rS y41.1 y41.2 q40])) (0, out12) x13 (weak [2, 4, 5] ⟨rfl, rfl, rfl, rfl, rfl, trivial⟩ ⟨rfl, rfl, rfl, trivial⟩) (fun s32 x33 => ?_) (fun q40 y41 => ?_)
  · unfold precedent_Distinguish_l1
    refine ref_seq (ref_region ?_)
    refine s_rd (r_lss rfl rfl) rfl ?_
    refine l_nil (n_then (ref_seq ?_))
    refine ref_cond rfl (fun hb34 => ?_) (fun hb34 => ?_)
    · refine ref_skip (n_then (ref_seq (ref_block (ref_seq (ref_region ?_)))))
      refine pull fun s35 h_s35 => ?_
      refine s_rd (r_oindex h_s35 Tryd.underlying25 el_9 rfl (j := 2) rfl rfl) rfl ?_
      refine s_rd (r_oload h_s35 el_9 rfl (j := 2) rfl) rfl ?_
      refine as1 rfl rfl ?_
      refine l_nil (n_then (ref_seq (ref_region ?_)))
      refine s_rd (r_faddr (fo := 1) Tryd.underlying39 rfl rfl Tryd.sizeOf25 rfl) rfl ?_
      refine s_rd (r_cload Tryd.isAgg25 rfl (j := 0) rfl rfl) rfl ?_
      refine mv1 rfl rfl ?_
      refine pull fun t36 h_t36 => ?_
      refine s_st (s_call (ψ := fun (_ : Unit) => bv t36) (args := [.tmp 58, .tmp 59]) Tryd.call35 rfl (slices_Contains_string_string_ok h_t36) ⟨arg rfl, arg rfl, trivial⟩ (fun _ _ _ _ h => h)) rfl (fun _ => ?_)
      refine s_rd (r_not rfl) rfl ?_
      refine l_nil (n_then ?_)
      refine ref_cond rfl (fun hb37 => ?_) (fun hb37 => ?_)
      · refine ref_region ?_
        refine mv1 rfl rfl ?_
        refine mv1 rfl rfl ?_
        refine s_st (s_bslice (xs := [.tmp 63]) (ds := [s35]) Tryd.underlying25 el_9 rfl (Nat.le_of_ble_eq_true rfl) ⟨(part_at rfl sv_at), trivial⟩) rfl (fun _ => ?_)
        refine pull fun out38 h_out38 => ?_
        refine s_st (s_append h_out38 Tryd.underlying25 el_9 rfl (j := 1) rfl rfl) rfl (fun o39 => ?_)
        refine as1 rfl rfl ?_
        refine l_nil ?_
        refine b_of (nrm [oc b9 [sv t8.Name, slv rS t8.Facts, iv .i64 t8.Winner, slv rS t8.Reason], oa rS o39.1 o39.2 out38, oa rS x15.1 x15.2 t14] rfl) ?_
        refine n_block (n_then (ref_region ?_))
        refine s_rd (r_add rfl rfl) rfl ?_
        refine mv1 rfl rfl ?_
        refine l_nil ?_
        exact goB o39 (weak [0, 1, 2] ⟨rfl, rfl, rfl, rfl, rfl, trivial⟩ ⟨rfl, rfl, rfl, trivial⟩)
      refine ref_skip (n_block (n_then (ref_region ?_)))
      refine s_rd (r_add rfl rfl) rfl ?_
      refine mv1 rfl rfl ?_
      refine l_nil ?_
      exact goB x33 (weak [0, 1, 2] ⟨rfl, rfl, rfl, rfl, rfl, trivial⟩ ⟨rfl, rfl, rfl, trivial⟩)
    refine ref_exit (x_then ?_)
    exact brkB x33 (weak [1] ⟨rfl, trivial⟩ ⟨rfl, trivial⟩)
  refine n_then (ref_seq (ref_region ?_))
  refine mv1 rfl rfl ?_
  refine pull fun t42 h_t42 => ?_
  refine s_st (s_callC [0] [true] (fun (_ : Unit) => [oa rS y41.1 y41.2 t42]) (fun (_ : Unit) => []) (fun (_ : Unit) => tup []) (args := [.tmp 67]) (caps := []) Tryd.call37 rfl (slices_SortS_ok h_t42) ⟨rfl, rfl, trivial⟩ (fun _ => rfl) (fun _ => trivial) (fun _ => rfl) ⟨arg rfl, trivial⟩ (fun _ _ _ _ h => h)) rfl (fun _ => ?_)
  refine l_nil (n_then (ref_seq (ref_region ?_)))
  refine mv1 rfl rfl ?_
  refine as1 rfl rfl ?_
  refine as1 rfl rfl ?_
  refine l_nil (n_then (ref_ret ?_))
  exact fin2 (.inl rfl) y41 [0] rfl ⟨rfl, trivial⟩ rfl (rv_tmp rfl) (rv_tmp rfl)

/-! deliberation/precedent.shared$1 -/
noncomputable def precedent_shared_1_m (s_0 : ByteArray) (p_1 : (List ByteArray)) : Option (Bool) :=
  Option.bind (slices_Contains_string_string_m p_1 s_0) fun t1 =>
  some (!t1)

theorem precedent_shared_1_ok {s_0 : ByteArray} {p_1 : (List ByteArray)} {b_1 : Nat} {r : Bool} (hm : precedent_shared_1_m s_0 p_1 = some r) :
    FnOk prog 65 [sv s_0, pv (ptr b_1 0)] [oc b_1 [slv rS p_1]] (fun (x : Unit) => [bv r]) (fun (x : Unit) => [oc b_1 [slv rS p_1]]) := by
  refine fn_ok (fn := Tryd.f65) (N := 8) (res := fun r x => [bv r]) (Ω1 := fun r x => [oc b_1 [slv rS p_1]]) Tryd.func65 rfl rfl hm rfl (fun E hM => ?_)
  unfold precedent_shared_1_m
  refine ref_seq (ref_region ?_)
  refine as1 rfl rfl ?_
  refine l_nil (n_then (ref_seq (ref_region ?_)))
  refine s_rd (r_cload Tryd.isAgg25 rfl (j := 0) rfl rfl) rfl ?_
  refine mv1 rfl rfl ?_
  refine pull fun t1 h_t1 => ?_
  refine s_st (s_call (ψ := fun (_ : Unit) => bv t1) (args := [.tmp 4, .tmp 5]) Tryd.call35 rfl (slices_Contains_string_string_ok h_t1) ⟨arg rfl, arg rfl, trivial⟩ (fun _ _ _ _ h => h)) rfl (fun _ => ?_)
  refine s_rd (r_not rfl) rfl ?_
  refine as1 rfl rfl ?_
  refine l_nil (n_then (ref_ret ?_))
  exact fin1 (.inl rfl) () [0] rfl ⟨rfl, trivial⟩ rfl (rv_tmp rfl)

/-! slices.IndexFunc[[]string,string] -/
noncomputable def slices_IndexFunc_string_string_5_l1 (s_0 : (List ByteArray)) (e_1 : (List ByteArray)) (s7 : Int) : Option (Sum ((Sum (Int) (Unit))) (Int)) :=
  bif decide (s7 < (s_0.length : Int)) then
    Option.bind (idxM s_0 s7) fun t10 =>
    Option.bind (precedent_shared_1_m t10 e_1) fun t11 =>
    bif t11 then
      some (Sum.inl (Sum.inl s7))
    else
      some (Sum.inr (iadd .i64 s7 1))
  else
    some (Sum.inl (Sum.inr ()))

noncomputable def slices_IndexFunc_string_string_5_m (s_0 : (List ByteArray)) (e_1 : (List ByteArray)) : Option (Int) :=
  Option.bind (loopC (slices_IndexFunc_string_string_5_l1 s_0 e_1) 0) (sumK (fun a : Int => some a) fun q13 : Unit =>
    some (-1))

theorem slices_IndexFunc_string_string_5_ok {s_0 : (List ByteArray)} {e_1 : (List ByteArray)} {h_0 : Value × List Nat} {be_1 : Nat} {r : Int} (hm : slices_IndexFunc_string_string_5_m s_0 e_1 = some r) :
    FnOk prog 61 [pv h_0.1, pv (.func (.func 65) #[] #[(ptr be_1 0)])] [oa rS h_0.1 h_0.2 s_0, oc be_1 [slv rS e_1]] (fun (x : Unit) => [iv .i64 r]) (fun (x : Unit) => [oa rS h_0.1 h_0.2 s_0, oc be_1 [slv rS e_1]]) := by
  refine fn_ok (fn := Tryd.f61) (N := 19) (res := fun r x => [iv .i64 r]) (Ω1 := fun r x => [oa rS h_0.1 h_0.2 s_0, oc be_1 [slv rS e_1]]) Tryd.func61 rfl rfl hm rfl (fun E hM => ?_)
  unfold slices_IndexFunc_string_string_5_m
  refine ref_seq (ref_region ?_)
  refine as1 rfl rfl ?_
  refine l_nil (n_then (ref_seq (ref_seq (ref_region ?_))))
  refine mv1 rfl rfl ?_
  refine s_rd (r_olen Tryd.underlying25 rfl (j := 0) rfl) rfl ?_
  refine mv1 rfl rfl ?_
  refine l_nil (n_then ?_)
  refine ref_loopX (f := (slices_IndexFunc_string_string_5_l1 s_0 e_1)) (Γl := (fun (s7 : Int) (x8 : Unit) => [(0, pv h_0.1), (1, pv (.func (.func 65) #[] #[(ptr be_1 0)])), (7, iv .i64 (s_0.length : Int)), (8, iv .i64 s7)])) (Ωl := (fun (s7 : Int) (x8 : Unit) => [oa rS h_0.1 h_0.2 s_0, oc be_1 [slv rS e_1]])) (Γb := (fun (q13 : Unit) (y14 : Unit) => [(0, pv h_0.1), (1, pv (.func (.func 65) #[] #[(ptr be_1 0)]))])) (Ωb := (fun (q13 : Unit) (y14 : Unit) => [oa rS h_0.1 h_0.2 s_0, oc be_1 [slv rS e_1]])) (kr := (fun a : Int => some a)) 0 () (weak [0, 1] ⟨rfl, rfl, rfl, rfl, trivial⟩ ⟨rfl, rfl, trivial⟩) (fun s7 x8 => ?_) (fun q13 y14 => ?_)
  · unfold slices_IndexFunc_string_string_5_l1
    refine ref_seq (ref_region ?_)
    refine s_rd (r_lss rfl rfl) rfl ?_
    refine l_nil (n_then (ref_seq ?_))
    refine ref_cond rfl (fun hb9 => ?_) (fun hb9 => ?_)
    · refine ref_skip (n_then (ref_seq (ref_block (ref_seq (ref_region ?_)))))
      refine mv1 rfl rfl ?_
      refine as1 rfl rfl ?_
      refine l_nil (n_then (ref_seq (ref_region ?_)))
      refine mv1 rfl rfl ?_
      refine mv1 rfl rfl ?_
      refine mv1 rfl rfl ?_
      refine pull fun t10 h_t10 => ?_
      refine s_rd (r_oindex h_t10 Tryd.underlying25 el_9 rfl (j := 0) rfl rfl) rfl ?_
      refine s_rd (r_oload h_t10 el_9 rfl (j := 0) rfl) rfl ?_
      refine pull fun t11 h_t11 => ?_
      refine s_st (s_callC [1] [true] (fun (_ : Unit) => [oc be_1 [slv rS e_1]]) (fun (_ : Unit) => []) (fun (_ : Unit) => bv t11) (args := [.tmp 15]) (caps := [(ptr be_1 0)]) Tryd.call65 rfl (precedent_shared_1_ok h_t11) ⟨rfl, rfl, trivial⟩ (fun _ => rfl) (fun _ => trivial) (fun _ => rfl) ⟨arg rfl, arg rfl, trivial⟩ (fun _ _ _ _ h => h)) rfl (fun _ => ?_)
      refine l_nil (n_then ?_)
      refine ref_cond rfl (fun hb12 => ?_) (fun hb12 => ?_)
      · refine ref_seq (ref_region ?_)
        refine mv1 rfl rfl ?_
        refine as1 rfl rfl ?_
        refine l_nil (n_then (ref_ret (r_block (r_then ?_))))
        refine retX ?_
        refine r_block (r_then ?_)
        exact fin1 (.inl rfl) () [0, 1] rfl ⟨rfl, rfl, trivial⟩ rfl (rv_tmp rfl)
      refine ref_skip (n_block (n_then (ref_region ?_)))
      refine s_rd (r_add rfl rfl) rfl ?_
      refine mv1 rfl rfl ?_
      refine l_nil ?_
      exact goX () (weak [0, 1] ⟨rfl, rfl, rfl, rfl, trivial⟩ ⟨rfl, rfl, trivial⟩)
    refine ref_exit (x_then ?_)
    exact brkX () (weak [0, 1] ⟨rfl, rfl, trivial⟩ ⟨rfl, rfl, trivial⟩)
  refine n_then (ref_seq (ref_region ?_))
  refine as1 rfl rfl ?_
  refine l_nil (n_then (ref_ret ?_))
  exact fin1 (.inl rfl) () [0, 1] rfl ⟨rfl, rfl, trivial⟩ rfl (rv_tmp rfl)

/-! slices.DeleteFunc[[]string,string] -/
noncomputable def slices_DeleteFunc_string_string_2_l1 (e_1 : (List ByteArray)) (s22 : Int × Int × (List ByteArray)) : Option (Sum ((List ByteArray) × Int) (Int × Int × (List ByteArray))) :=
  bif decide (s22.2.1 < (s22.2.2.length : Int)) then
    Option.bind (idxM s22.2.2 s22.2.1) fun v25 =>
    Option.bind (precedent_shared_1_m v25 e_1) fun t26 =>
    bif !t26 then
      Option.bind (idxM s22.2.2 s22.1) fun t28 =>
      letM (iadd .i64 s22.1 1) fun i29 =>
      letM (iadd .i64 s22.2.1 1) fun j30 =>
      some (Sum.inr (i29, j30, s22.2.2.set (Int.toNat s22.1) v25))
    else
      letM (iadd .i64 s22.2.1 1) fun j31 =>
      some (Sum.inr (s22.1, j31, s22.2.2))
  else
    some (Sum.inl (s22.2.2, s22.1))

noncomputable def slices_DeleteFunc_string_string_2_m (s_0 : (List ByteArray)) (e_1 : (List ByteArray)) : Option (List ByteArray) :=
  Option.bind (slices_IndexFunc_string_string_5_m s_0 e_1) fun i1 =>
  bif i1 == (-1) then
    some s_0
  else
    Option.bind (loopC (slices_DeleteFunc_string_string_2_l1 e_1) (i1, iadd .i64 i1 1, s_0)) fun q32 : (List ByteArray) × Int =>
    Option.bind (slM q32.1 q32.2 (q32.1.length : Int)) fun t34 =>
    Option.bind (slM (q32.1.take (Int.toNat q32.2) ++ List.replicate (Int.toNat (q32.1.length : Int) - Int.toNat q32.2) ByteArray.empty ++ q32.1.drop (Int.toNat (q32.1.length : Int))) 0 q32.2) fun t35 =>
    some t35

theorem slices_DeleteFunc_string_string_2_ok {s_0 : (List ByteArray)} {e_1 : (List ByteArray)} {h_0 : Value × List Nat} {be_1 : Nat} {r : List ByteArray} (hm : slices_DeleteFunc_string_string_2_m s_0 e_1 = some r) :
    FnOk prog 33 [pv h_0.1, pv (.func (.func 65) #[] #[(ptr be_1 0)])] [oa rS h_0.1 h_0.2 s_0, oc be_1 [slv rS e_1]] (fun (x : (Value × List Nat)) => [pv x.1]) (fun (x : (Value × List Nat)) => [oc be_1 [slv rS e_1], oa rS x.1 x.2 r]) := by
  refine fn_ok (X := (Value × List Nat)) (fn := Tryd.f33) (N := 42) (res := fun r x => [pv x.1]) (Ω1 := fun r x => [oc be_1 [slv rS e_1], oa rS x.1 x.2 r]) Tryd.func33 rfl rfl hm rfl (fun E hM => ?_)
  unfold slices_DeleteFunc_string_string_2_m
  refine ref_seq (ref_region ?_)
  refine as1 rfl rfl ?_
  refine l_nil (n_then (ref_seq (ref_region ?_)))
  refine mv1 rfl rfl ?_
  refine mv1 rfl rfl ?_
  refine pull fun i1 h_i1 => ?_
  refine s_st (s_callC [0, 1] [true, true] (fun (_ : Unit) => [oa rS h_0.1 h_0.2 s_0, oc be_1 [slv rS e_1]]) (fun (_ : Unit) => []) (fun (_ : Unit) => iv .i64 i1) (args := [.tmp 8, .tmp 9]) (caps := []) Tryd.call61 rfl (slices_IndexFunc_string_string_5_ok h_i1) ⟨rfl, rfl, ⟨rfl, rfl, trivial⟩⟩ (fun _ => rfl) (fun _ => trivial) (fun _ => rfl) ⟨arg rfl, arg rfl, trivial⟩ (fun _ _ _ _ h => h)) rfl (fun _ => ?_)
  refine as1 rfl rfl ?_
  refine l_nil (n_then (ref_seq (ref_seq (ref_region ?_))))
  refine mv1 rfl rfl ?_
  refine s_rd (r_eql rfl rfl) rfl ?_
  refine l_nil (n_then ?_)
  refine ref_cond rfl (fun hb2 => ?_) (fun hb2 => ?_)
  · refine ref_seq (ref_region ?_)
    refine mv1 rfl rfl ?_
    refine as1 rfl rfl ?_
    refine l_nil (n_then (ref_ret (r_then ?_)))
    exact fin1 (.inl rfl) h_0 [1, 0] rfl ⟨rfl, rfl, trivial⟩ rfl (rv_tmp rfl)
  refine ref_skip (n_then (ref_seq (ref_seq (ref_region ?_))))
  refine mv1 rfl rfl ?_
  refine s_rd (r_add rfl rfl) rfl ?_
  refine as1 rfl rfl ?_
  refine l_nil (n_then ?_)
  refine ref_loopB (f := (slices_DeleteFunc_string_string_2_l1 e_1)) (Γl := (fun (s22 : Int × Int × (List ByteArray)) (x23 : Unit) => [(0, pv h_0.1), (1, pv (.func (.func 65) #[] #[(ptr be_1 0)])), (5, iv .i64 s22.1), (6, iv .i64 s22.2.1)])) (Ωl := (fun (s22 : Int × Int × (List ByteArray)) (x23 : Unit) => [oa rS h_0.1 h_0.2 s22.2.2, oc be_1 [slv rS e_1]])) (Γb := (fun (q32 : (List ByteArray) × Int) (y33 : Unit) => [(0, pv h_0.1), (1, pv (.func (.func 65) #[] #[(ptr be_1 0)])), (5, iv .i64 q32.2)])) (Ωb := (fun (q32 : (List ByteArray) × Int) (y33 : Unit) => [oa rS h_0.1 h_0.2 q32.1, oc be_1 [slv rS e_1]])) (i1, iadd .i64 i1 1, s_0) () (weak [0, 1] ⟨rfl, rfl, rfl, rfl, trivial⟩ ⟨rfl, rfl, trivial⟩) (fun s22 x23 => ?_) (fun q32 y33 => ?_)
  · unfold slices_DeleteFunc_string_string_2_l1
    refine ref_seq (ref_seq (ref_region ?_))
    refine mv1 rfl rfl ?_
    refine mv1 rfl rfl ?_
    refine s_rd (r_olen Tryd.underlying25 rfl (j := 0) rfl) rfl ?_
    refine s_rd (r_lss rfl rfl) rfl ?_
    refine l_nil (n_then ?_)
    refine ref_cond rfl (fun hb24 => ?_) (fun hb24 => ?_)
    · refine ref_skip (n_then (ref_seq (ref_block (ref_seq (ref_region ?_)))))
      refine mv1 rfl rfl ?_
      refine mv1 rfl rfl ?_
      refine pull fun v25 h_v25 => ?_
      refine s_rd (r_oindex h_v25 Tryd.underlying25 el_9 rfl (j := 0) rfl rfl) rfl ?_
      refine s_rd (r_oload h_v25 el_9 rfl (j := 0) rfl) rfl ?_
      refine as1 rfl rfl ?_
      refine l_nil (n_then (ref_seq (ref_region ?_)))
      refine mv1 rfl rfl ?_
      refine mv1 rfl rfl ?_
      refine pull fun t26 h_t26 => ?_
      refine s_st (s_callC [1] [true] (fun (_ : Unit) => [oc be_1 [slv rS e_1]]) (fun (_ : Unit) => []) (fun (_ : Unit) => bv t26) (args := [.tmp 27]) (caps := [(ptr be_1 0)]) Tryd.call65 rfl (precedent_shared_1_ok h_t26) ⟨rfl, rfl, trivial⟩ (fun _ => rfl) (fun _ => trivial) (fun _ => rfl) ⟨arg rfl, arg rfl, trivial⟩ (fun _ _ _ _ h => h)) rfl (fun _ => ?_)
      refine s_rd (r_not rfl) rfl ?_
      refine l_nil (n_then ?_)
      refine ref_cond rfl (fun hb27 => ?_) (fun hb27 => ?_)
      · refine ref_seq (ref_region ?_)
        refine mv1 rfl rfl ?_
        refine mv1 rfl rfl ?_
        refine mv1 rfl rfl ?_
        refine pull fun t28 h_t28 => ?_
        refine s_rd (r_oindex h_t28 Tryd.underlying25 el_9 rfl (j := 0) rfl rfl) rfl ?_
        refine s_st0 (s_ostore (u := v25) h_t28 el_9 rfl (j := 0) rfl (part_at rfl sv_at)) (fun _ => ?_)
        refine l_nil (n_then (ref_region ?_))
        refine mv1 rfl rfl ?_
        refine s_rd (r_add rfl rfl) rfl ?_
        refine as1 rfl rfl ?_
        refine b_let (f := iv .i64) (t := 5) rfl fun i29 => ?_
        refine l_nil (n_block (n_then (ref_region ?_)))
        refine mv1 rfl rfl ?_
        refine s_rd (r_add rfl rfl) rfl ?_
        refine as1 rfl rfl ?_
        refine b_let (f := iv .i64) (t := 6) rfl fun j30 => ?_
        refine l_nil ?_
        exact goB () (weak [0, 1] ⟨rfl, rfl, rfl, rfl, trivial⟩ ⟨rfl, rfl, trivial⟩)
      refine ref_skip (n_block (n_then (ref_region ?_)))
      refine mv1 rfl rfl ?_
      refine s_rd (r_add rfl rfl) rfl ?_
      refine as1 rfl rfl ?_
      refine b_let (f := iv .i64) (t := 6) rfl fun j31 => ?_
      refine l_nil ?_
      exact goB () (weak [0, 1] ⟨rfl, rfl, rfl, rfl, trivial⟩ ⟨rfl, rfl, trivial⟩)
    refine ref_exit (x_then ?_)
    exact brkB () (weak [0, 1] ⟨rfl, rfl, rfl, trivial⟩ ⟨rfl, rfl, trivial⟩)
  refine n_then (ref_seq (ref_region ?_))
  refine mv1 rfl rfl ?_
  refine mv1 rfl rfl ?_
  refine pull fun t34 h_t34 => ?_
  refine s_rd (r_osub h_t34 Tryd.underlying25 el_9 rfl (j := 0) rfl (.of rfl) .dft) rfl ?_
  refine s_st0 (s_clear h_t34 Tryd.underlying25 el_9 ze_9 rfl (j := 0) rfl) (fun _ => ?_)
  refine l_nil (n_then (ref_seq (ref_region ?_)))
  refine mv1 rfl rfl ?_
  refine mv1 rfl rfl ?_
  refine pull fun t35 h_t35 => ?_
  refine s_st (s_oslice h_t35 Tryd.underlying25 el_9 rfl (j := 0) rfl .dft (.of rfl)) rfl (fun o36 => ?_)
  refine as1 rfl rfl ?_
  refine l_nil (n_then (ref_ret ?_))
  exact fin1 (.inl rfl) o36 [1, 0] rfl ⟨rfl, rfl, trivial⟩ rfl (rv_tmp rfl)

/-! deliberation/precedent.shared -/
noncomputable def precedent_shared_m (a__0 : (List ByteArray)) (b_1 : (List ByteArray)) : Option (List ByteArray) :=
  Option.bind (slices_Clone_string_string_m a__0) fun t2 =>
  Option.bind (slices_DeleteFunc_string_string_2_m t2 b_1) fun t4 =>
  some t4

theorem precedent_shared_ok {a__0 : (List ByteArray)} {b_1 : (List ByteArray)} {r : List ByteArray} (hm : precedent_shared_m a__0 b_1 = some r) :
    FnOk prog 41 [slv rS a__0, slv rS b_1] [] (fun (x : (Value × List Nat)) => [pv x.1]) (fun (x : (Value × List Nat)) => [oa rS x.1 x.2 r]) := by
  refine fn_ok (X := (Value × List Nat)) (fn := Tryd.f41) (N := 9) (res := fun r x => [pv x.1]) (Ω1 := fun r x => [oa rS x.1 x.2 r]) Tryd.func41 rfl rfl hm rfl (fun E hM => ?_)
  unfold precedent_shared_m
  refine ref_seq (ref_region ?_)
  refine s_st (s_box (part_at rfl slv_at)) rfl (fun b1 => ?_)
  refine as1 rfl rfl ?_
  refine l_nil (n_then (ref_seq (ref_region ?_)))
  refine mv1 rfl rfl ?_
  refine pull fun t2 h_t2 => ?_
  refine s_st (s_call (ψ := fun (x3 : (Value × List Nat)) => pv x3.1) (args := [.tmp 5]) Tryd.call48 rfl (slices_Clone_string_string_ok h_t2) ⟨arg rfl, trivial⟩ (fun _ _ _ _ h => h)) rfl (fun x3 => ?_)
  refine s_rd (r_mkfn (xs := [.tmp 3]) (vs := [(ptr b1 0)]) ⟨rfl, trivial⟩) rfl ?_
  refine pull fun t4 h_t4 => ?_
  refine s_st (s_callC [1, 0] [false, true] (fun (x5 : (Value × List Nat)) => [dead, oc b1 [slv rS b_1]]) (fun (x5 : (Value × List Nat)) => [oa rS x5.1 x5.2 t4]) (fun (x5 : (Value × List Nat)) => pv x5.1) (args := [.tmp 6, .tmp 7]) (caps := []) Tryd.call33 rfl (slices_DeleteFunc_string_string_2_ok h_t4) ⟨rfl, rfl, ⟨rfl, rfl, trivial⟩⟩ (fun _ => rfl) (fun _ => ⟨rfl, trivial⟩) (fun _ => rfl) ⟨arg rfl, arg rfl, trivial⟩ (fun _ _ _ _ h => h)) rfl (fun x5 => ?_)
  refine as1 rfl rfl ?_
  refine l_nil (n_then (ref_ret ?_))
  exact fin1 (.inl rfl) x5 [2] rfl ⟨rfl, trivial⟩ rfl (rv_tmp rfl)

/-! deliberation/precedent.Citable -/
noncomputable def precedent_Citable_l1 (l_0 : T_api_Library) (facts_1 : (List ByteArray)) (s29 : Int × (List Int)) : Option (Sum ((List Int)) (Int × (List Int))) :=
  bif decide (s29.1 < (l_0.Cases.length : Int)) then
    Option.bind (idxM l_0.Cases s29.1) fun t32 =>
    Option.bind (precedent_own_m l_0 t32.Facts t32.Winner) fun t34 =>
    Option.bind (precedent_shared_m t34 facts_1) fun t36 =>
    bif decide ((t36.length : Int) > 0) then
      Option.bind (appM 8 s29.2 [s29.1]) fun out39 =>
      some (Sum.inr (iadd .i64 s29.1 1, out39))
    else
      some (Sum.inr (iadd .i64 s29.1 1, s29.2))
  else
    some (Sum.inl s29.2)

noncomputable def precedent_Citable_l3 (l_0 : T_api_Library) (facts_1 : (List ByteArray)) (q41 : (List Int)) (s282 : Int × (List T_api_Pair)) (a_285 : Int) (s326 : Int × (List T_api_Pair)) : Option (Sum ((List T_api_Pair)) (Int × (List T_api_Pair))) :=
  bif decide (s326.1 < (q41.length : Int)) then
    Option.bind (idxM q41 s326.1) fun b329 =>
    Option.bind (idxM l_0.Cases a_285) fun t331 =>
    Option.bind (idxM l_0.Cases b329) fun t332 =>
    Option.bind (precedent_shared_m t331.Facts facts_1) fun s335 =>
    Option.bind (precedent_shared_m t332.Facts facts_1) fun r_337 =>
    joinM (fun j340 : Bool =>
        bif j340 then
          Option.bind (appM 16 s326.2 [(T_api_Pair.mk s282.1 s326.1)]) fun t344 =>
          some (Sum.inr (iadd .i64 s326.1 1, t344))
        else
          some (Sum.inr (iadd .i64 s326.1 1, s326.2))) fun k342 =>
    bif t331.Winner != t332.Winner then
      Option.bind (precedent_within_m s335 r_337) fun t339 =>
      bif t339 then
        k342 (!(decide ((s335.length : Int) < (r_337.length : Int))))
      else
        k342 (!false)
    else
      k342 false
  else
    some (Sum.inl s326.2)

noncomputable def precedent_Citable_l2 (l_0 : T_api_Library) (facts_1 : (List ByteArray)) (q41 : (List Int)) (s282 : Int × (List T_api_Pair)) : Option (Sum ((List T_api_Pair)) (Int × (List T_api_Pair))) :=
  bif decide (s282.1 < (q41.length : Int)) then
    Option.bind (idxM q41 s282.1) fun a_285 =>
    Option.bind (loopC (precedent_Citable_l3 l_0 facts_1 q41 s282 a_285) (0, s282.2)) fun q346 : (List T_api_Pair) =>
    some (Sum.inr (iadd .i64 s282.1 1, q346))
  else
    some (Sum.inl s282.2)

noncomputable def precedent_Citable_m (l_0 : T_api_Library) (facts_1 : (List ByteArray)) : Option (List Int × T_api_Graph × Int) :=
  Option.bind (precedent_situation_m l_0 facts_1) fun e3 =>
  bif e3 != 0 then
    some ([], (T_api_Graph.mk 0 []), e3)
  else
    Option.bind (loopC (precedent_Citable_l1 l_0 facts_1) (0, [])) fun q41 : (List Int) =>
    Option.bind (loopC (precedent_Citable_l2 l_0 facts_1 q41) (0, [])) fun q348 : (List T_api_Pair) =>
    some (q41, (T_api_Graph.mk (q41.length : Int) q348), 0)

theorem precedent_Citable_ok {l_0 : T_api_Library} {facts_1 : (List ByteArray)} {r : List Int × T_api_Graph × Int} (hm : precedent_Citable_m l_0 facts_1 = some r) :
    FnOk prog 19 [ag [slv rS l_0.Sides.i0, slv rS l_0.Sides.i1, slv rT_api_Case l_0.Cases], slv rS facts_1] [] (fun (x : (Value × List Nat)) => [pv x.1, ag [iv .i64 r.2.1.N, slv rT_api_Pair r.2.1.L], iv .i64 r.2.2]) (fun (x : (Value × List Nat)) => [oa (rI .i64) x.1 x.2 r.1]) := by
  refine fn_ok (X := (Value × List Nat)) (fn := Tryd.f19) (N := 115) (res := fun r x => [pv x.1, ag [iv .i64 r.2.1.N, slv rT_api_Pair r.2.1.L], iv .i64 r.2.2]) (Ω1 := fun r x => [oa (rI .i64) x.1 x.2 r.1]) Tryd.func19 rfl rfl hm rfl (fun E hM => ?_)
  unfold precedent_Citable_m
  refine ref_seq (ref_region ?_)
  refine s_st (s_box (part_agO (ψs := [slv rS l_0.Sides.i0, slv rS l_0.Sides.i1, slv rT_api_Case l_0.Cases]) rfl ⟨.inl slv_at, .inl slv_at, .inl slv_at, trivial⟩)) rfl (fun b1 => ?_)
  refine as1 rfl rfl ?_
  refine s_st (s_alloc zt_50) rfl (fun b2 => ?_)
  refine as1 rfl rfl ?_
  refine l_nil (n_then (ref_seq (ref_seq (ref_region ?_))))
  refine s_rd (r_cloadS Tryd.isAgg29 Tryd.sizeOf29 rfl (j := 0) rfl rfl rfl) rfl ?_
  refine mv1 rfl rfl ?_
  refine pull fun e3 h_e3 => ?_
  refine s_st (s_call (ψ := fun (_ : Unit) => iv .i64 e3) (args := [.tmp 20, .tmp 21]) Tryd.call40 rfl (precedent_situation_ok h_e3) ⟨arg rfl, arg rfl, trivial⟩ (fun _ _ _ _ h => h)) rfl (fun _ => ?_)
  refine as1 rfl rfl ?_
  refine l_nil (n_then (ref_seq (ref_region ?_)))
  refine mv1 rfl rfl ?_
  refine s_rd (r_neq rfl rfl) rfl ?_
  refine l_nil (n_then ?_)
  refine ref_cond rfl (fun hb4 => ?_) (fun hb4 => ?_)
  · refine ref_seq (ref_region ?_)
    refine s_rd (r_build (ps := []) (rs := []) st_50 zs_50 trivial rfl rfl) rfl ?_
    refine mv1 rfl rfl ?_
    refine as1 rfl rfl ?_
    refine s_st0 (s_cstore (out := [iv .i64 0, pv (.slice none 0 0)]) Tryd.sizeOf50 rfl (j := 1) rfl (part_agO (ψs := [iv .i64 0, pv (.slice none 0 0)]) rfl ⟨.inl iv_at, .inl (pv_at rfl), trivial⟩) rfl rfl rfl) (fun _ => ?_)
    refine as1 rfl rfl ?_
    refine l_nil ?_
    refine b_of (nrm [oc b1 [slv rS l_0.Sides.i0, slv rS l_0.Sides.i1, slv rT_api_Case l_0.Cases], oc b2 [iv .i64 0, pv (.slice none 0 0)]] rfl) ?_
    refine n_then (ref_ret (r_then ?_))
    refine b_of (own_nil (rI .i64)) ?_
    refine b_of (ocW 1 [iv .i64 0, slv rT_api_Pair []] rfl ⟨imp_rfl, nil_sl, trivial⟩) ?_
    exact fin3 (.inl rfl) ((.slice none 0 0), []) [2] rfl ⟨rfl, trivial⟩ rfl (rv_tmp rfl) (rv_cell rfl (j := 1) rfl Tryd.isAgg50 Tryd.sizeOf50 rfl rfl) (rv_tmp rfl)
  refine ref_skip (n_then (ref_seq (ref_region ?_)))
  refine as1 rfl rfl ?_
  refine l_nil (n_then (ref_seq (ref_seq (ref_region ?_))))
  refine s_rd (r_faddr (fo := 2) Tryd.underlying29 rfl rfl Tryd.sizeOf27 rfl) rfl ?_
  refine s_rd (r_cload Tryd.isAgg27 rfl (j := 0) rfl rfl) rfl ?_
  refine s_rd (r_len Tryd.underlying27 rfl) rfl ?_
  refine mv1 rfl rfl ?_
  refine l_nil (n_then ?_)
  refine b_of (own_nil (rI .i64)) ?_
  refine ref_loopB (f := (precedent_Citable_l1 l_0 facts_1)) (Γl := (fun (s29 : Int × (List Int)) (x30 : (Value × List Nat)) => [(1, slv rS facts_1), (2, pv (ptr b1 0)), (5, pv (ptr b2 0)), (8, pv x30.1), (28, slv rT_api_Case l_0.Cases), (29, iv .i64 (l_0.Cases.length : Int)), (30, iv .i64 s29.1)])) (Ωl := (fun (s29 : Int × (List Int)) (x30 : (Value × List Nat)) => [oc b1 [slv rS l_0.Sides.i0, slv rS l_0.Sides.i1, slv rT_api_Case l_0.Cases], oc b2 [iv .i64 0, pv (.slice none 0 0)], oa (rI .i64) x30.1 x30.2 s29.2])) (Γb := (fun (q41 : (List Int)) (y42 : (Value × List Nat)) => [(1, slv rS facts_1), (2, pv (ptr b1 0)), (5, pv (ptr b2 0)), (8, pv y42.1)])) (Ωb := (fun (q41 : (List Int)) (y42 : (Value × List Nat)) => [oc b1 [slv rS l_0.Sides.i0, slv rS l_0.Sides.i1, slv rT_api_Case l_0.Cases], oc b2 [iv .i64 0, pv (.slice none 0 0)], oa (rI .i64) y42.1 y42.2 q41])) (0, []) ((.slice none 0 0), []) (weak [0, 1, 2] ⟨rfl, rfl, rfl, rfl, rfl, rfl, rfl, trivial⟩ ⟨rfl, rfl, rfl, trivial⟩) (fun s29 x30 => ?_) (fun q41 y42 => ?_)
  · unfold precedent_Citable_l1
    refine ref_seq (ref_region ?_)
    refine s_rd (r_lss rfl rfl) rfl ?_
    refine l_nil (n_then (ref_seq ?_))
    refine ref_cond rfl (fun hb31 => ?_) (fun hb31 => ?_)
    · refine ref_skip (n_then (ref_seq (ref_block (ref_seq (ref_region ?_)))))
      refine mv1 rfl rfl ?_
      refine pull fun t32 h_t32 => ?_
      refine s_rd (r_index h_t32 Tryd.underlying27 el_39 rfl rfl) rfl ?_
      refine s_rd (r_load el_39 rfl) rfl ?_
      refine s_st (s_alloc zt_39) rfl (fun b33 => ?_)
      refine as1 rfl rfl ?_
      refine s_st0 (s_cstore (out := [sv t32.Name, slv rS t32.Facts, iv .i64 t32.Winner, slv rS t32.Reason]) Tryd.sizeOf39 rfl (j := 3) rfl (part_agO (ψs := [sv t32.Name, slv rS t32.Facts, iv .i64 t32.Winner, slv rS t32.Reason]) rfl ⟨.inl sv_at, .inl slv_at, .inl iv_at, .inl slv_at, trivial⟩) rfl rfl rfl) (fun _ => ?_)
      refine l_nil ?_
      refine b_of (nrm [oc b1 [slv rS l_0.Sides.i0, slv rS l_0.Sides.i1, slv rT_api_Case l_0.Cases], oc b2 [iv .i64 0, pv (.slice none 0 0)], oa (rI .i64) x30.1 x30.2 s29.2, oc b33 [sv t32.Name, slv rS t32.Facts, iv .i64 t32.Winner, slv rS t32.Reason]] rfl) ?_
      refine n_then (ref_seq (ref_region ?_))
      refine s_rd (r_cloadS Tryd.isAgg29 Tryd.sizeOf29 rfl (j := 0) rfl rfl rfl) rfl ?_
      refine s_rd (r_faddr (fo := 1) Tryd.underlying39 rfl rfl Tryd.sizeOf25 rfl) rfl ?_
      refine s_rd (r_cload Tryd.isAgg25 rfl (j := 3) rfl rfl) rfl ?_
      refine s_rd (r_faddr (fo := 2) Tryd.underlying39 rfl rfl Tryd.sizeOf3 rfl) rfl ?_
      refine s_rd (r_cload Tryd.isAgg3 rfl (j := 3) rfl rfl) rfl ?_
      refine pull fun t34 h_t34 => ?_
      refine s_st (s_call (ψ := fun (x35 : (Value × List Nat)) => pv x35.1) (args := [.tmp 35, .tmp 37, .tmp 39]) Tryd.call29 rfl (precedent_own_ok h_t34) ⟨arg rfl, arg rfl, arg rfl, trivial⟩ (fun _ _ _ _ h => h)) rfl (fun x35 => ?_)
      refine mv1 rfl rfl ?_
      refine pull fun t36 h_t36 => ?_
      refine s_st (s_callBO (ψ := fun (x37 : (Value × List Nat)) => pv x37.1) (args := [.tmp 40, .tmp 41]) Tryd.call41 rfl (precedent_shared_ok h_t36) (fun _ => ⟨oa_free free_S, trivial⟩) ⟨argO rfl (j := 4) rfl, argB rfl, trivial⟩ (fun _ _ _ _ _ h => h)) rfl (fun x37 => ?_)
      refine s_rd (r_olen Tryd.underlying25 rfl (j := 5) rfl) rfl ?_
      refine s_rd (r_gtr rfl rfl) rfl ?_
      refine l_nil (n_then ?_)
      refine ref_cond rfl (fun hb38 => ?_) (fun hb38 => ?_)
      · refine ref_region ?_
        refine mv1 rfl rfl ?_
        refine mv1 rfl rfl ?_
        refine s_st (s_bslice (xs := [.tmp 46]) (ds := [s29.1]) Tryd.underlying22 el_3 rfl (Nat.le_of_ble_eq_true rfl) ⟨(part_at rfl iv_at), trivial⟩) rfl (fun _ => ?_)
        refine pull fun out39 h_out39 => ?_
        refine s_st (s_append h_out39 Tryd.underlying22 el_3 rfl (j := 2) rfl rfl) rfl (fun o40 => ?_)
        refine as1 rfl rfl ?_
        refine l_nil ?_
        refine b_of (nrm [oc b1 [slv rS l_0.Sides.i0, slv rS l_0.Sides.i1, slv rT_api_Case l_0.Cases], oc b2 [iv .i64 0, pv (.slice none 0 0)], oa (rI .i64) o40.1 o40.2 out39, oc b33 [sv t32.Name, slv rS t32.Facts, iv .i64 t32.Winner, slv rS t32.Reason], oa rS x35.1 x35.2 t34, oa rS x37.1 x37.2 t36] rfl) ?_
        refine n_block (n_then (ref_region ?_))
        refine s_rd (r_add rfl rfl) rfl ?_
        refine mv1 rfl rfl ?_
        refine l_nil ?_
        exact goB o40 (weak [0, 1, 2] ⟨rfl, rfl, rfl, rfl, rfl, rfl, rfl, trivial⟩ ⟨rfl, rfl, rfl, trivial⟩)
      refine ref_skip (n_block (n_then (ref_region ?_)))
      refine s_rd (r_add rfl rfl) rfl ?_
      refine mv1 rfl rfl ?_
      refine l_nil ?_
      exact goB x30 (weak [0, 1, 2] ⟨rfl, rfl, rfl, rfl, rfl, rfl, rfl, trivial⟩ ⟨rfl, rfl, rfl, trivial⟩)
    refine ref_exit (x_then ?_)
    exact brkB x30 (weak [0, 1, 2] ⟨rfl, rfl, rfl, rfl, trivial⟩ ⟨rfl, rfl, rfl, trivial⟩)
  refine n_then (ref_seq (ref_region ?_))
  refine mv1 rfl rfl ?_
  refine s_rd (r_olen Tryd.underlying22 rfl (j := 2) rfl) rfl ?_
  refine s_rd (r_build (ps := [(0, .tmp 51)]) (rs := [(0, [iv .i64 (q41.length : Int)])]) st_50 zs_50 ⟨rfl, (part_at rfl iv_at), trivial⟩ rfl rfl) rfl ?_
  refine s_st (s_alloc zt_50) rfl (fun b43 => ?_)
  refine s_st0 (s_cstore (out := [iv .i64 (q41.length : Int), pv (.slice none 0 0)]) Tryd.sizeOf50 rfl (j := 3) rfl (part_agO (ψs := [iv .i64 (q41.length : Int), pv (.slice none 0 0)]) rfl ⟨.inl iv_at, .inl (pv_at rfl), trivial⟩) rfl rfl rfl) (fun _ => ?_)
  refine l_nil (n_then (ref_seq (ref_seq (ref_region ?_))))
  refine mv1 rfl rfl ?_
  refine s_rd (r_olen Tryd.underlying22 rfl (j := 2) rfl) rfl ?_
  refine mv1 rfl rfl ?_
  refine l_nil (n_then ?_)
  refine b_of (own_nil rT_api_Pair) ?_
  refine ref_loopB (f := (precedent_Citable_l2 l_0 facts_1 q41)) (Γl := (fun (s282 : Int × (List T_api_Pair)) (x283 : (Value × List Nat)) => [(1, slv rS facts_1), (2, pv (ptr b1 0)), (5, pv (ptr b2 0)), (8, pv y42.1), (11, pv (ptr b43 0)), (53, pv y42.1), (54, iv .i64 (q41.length : Int)), (55, iv .i64 s282.1)])) (Ωl := (fun (s282 : Int × (List T_api_Pair)) (x283 : (Value × List Nat)) => [oc b1 [slv rS l_0.Sides.i0, slv rS l_0.Sides.i1, slv rT_api_Case l_0.Cases], oc b2 [iv .i64 0, pv (.slice none 0 0)], oa (rI .i64) y42.1 y42.2 q41, oc b43 [iv .i64 (q41.length : Int), pv x283.1], oa rT_api_Pair x283.1 x283.2 s282.2])) (Γb := (fun (q348 : (List T_api_Pair)) (y349 : (Value × List Nat)) => [(5, pv (ptr b2 0)), (8, pv y42.1), (11, pv (ptr b43 0))])) (Ωb := (fun (q348 : (List T_api_Pair)) (y349 : (Value × List Nat)) => [oc b2 [iv .i64 0, pv (.slice none 0 0)], oa (rI .i64) y42.1 y42.2 q41, oc b43 [iv .i64 (q41.length : Int), pv y349.1], oa rT_api_Pair y349.1 y349.2 q348])) (0, []) ((.slice none 0 0), []) (weak [0, 1, 2, 3, 4] ⟨rfl, rfl, rfl, rfl, rfl, rfl, rfl, rfl, trivial⟩ ⟨rfl, rfl, rfl, rfl, rfl, trivial⟩) (fun s282 x283 => ?_) (fun q348 y349 => ?_)
  · unfold precedent_Citable_l2
    refine ref_seq (ref_region ?_)
    refine s_rd (r_lss rfl rfl) rfl ?_
    refine l_nil (n_then (ref_seq ?_))
    refine ref_cond rfl (fun hb284 => ?_) (fun hb284 => ?_)
    · refine ref_skip (n_then (ref_seq (ref_block (ref_seq (ref_region ?_)))))
      refine mv1 rfl rfl ?_
      refine pull fun a_285 h_a_285 => ?_
      refine s_rd (r_oindex h_a_285 Tryd.underlying22 el_3 rfl (j := 2) rfl rfl) rfl ?_
      refine s_rd (r_oload h_a_285 el_3 rfl (j := 2) rfl) rfl ?_
      refine as1 rfl rfl ?_
      refine as1 rfl rfl ?_
      refine l_nil (n_then (ref_seq (ref_region ?_)))
      refine mv1 rfl rfl ?_
      refine s_rd (r_olen Tryd.underlying22 rfl (j := 2) rfl) rfl ?_
      refine mv1 rfl rfl ?_
      refine l_nil (n_then ?_)
      refine ref_loopB (f := (precedent_Citable_l3 l_0 facts_1 q41 s282 a_285)) (Γl := (fun (s326 : Int × (List T_api_Pair)) (x327 : (Value × List Nat)) => [(1, slv rS facts_1), (2, pv (ptr b1 0)), (5, pv (ptr b2 0)), (8, pv y42.1), (11, pv (ptr b43 0)), (12, iv .i64 s282.1), (13, iv .i64 a_285), (53, pv y42.1), (54, iv .i64 (q41.length : Int)), (55, iv .i64 s282.1), (60, pv y42.1), (61, iv .i64 (q41.length : Int)), (62, iv .i64 s326.1)])) (Ωl := (fun (s326 : Int × (List T_api_Pair)) (x327 : (Value × List Nat)) => [oc b1 [slv rS l_0.Sides.i0, slv rS l_0.Sides.i1, slv rT_api_Case l_0.Cases], oc b2 [iv .i64 0, pv (.slice none 0 0)], oa (rI .i64) y42.1 y42.2 q41, oc b43 [iv .i64 (q41.length : Int), pv x327.1], oa rT_api_Pair x327.1 x327.2 s326.2])) (Γb := (fun (q346 : (List T_api_Pair)) (y347 : (Value × List Nat)) => [(1, slv rS facts_1), (2, pv (ptr b1 0)), (5, pv (ptr b2 0)), (8, pv y42.1), (11, pv (ptr b43 0)), (53, pv y42.1), (54, iv .i64 (q41.length : Int)), (55, iv .i64 s282.1)])) (Ωb := (fun (q346 : (List T_api_Pair)) (y347 : (Value × List Nat)) => [oc b1 [slv rS l_0.Sides.i0, slv rS l_0.Sides.i1, slv rT_api_Case l_0.Cases], oc b2 [iv .i64 0, pv (.slice none 0 0)], oa (rI .i64) y42.1 y42.2 q41, oc b43 [iv .i64 (q41.length : Int), pv y347.1], oa rT_api_Pair y347.1 y347.2 q346])) (0, s282.2) x283 (weak [0, 1, 2, 3, 4] ⟨rfl, rfl, rfl, rfl, rfl, rfl, rfl, rfl, rfl, rfl, rfl, rfl, rfl, trivial⟩ ⟨rfl, rfl, rfl, rfl, rfl, trivial⟩) (fun s326 x327 => ?_) (fun q346 y347 => ?_)
      · unfold precedent_Citable_l3
        refine ref_seq (ref_region ?_)
        refine s_rd (r_lss rfl rfl) rfl ?_
        refine l_nil (n_then (ref_seq ?_))
        refine ref_cond rfl (fun hb328 => ?_) (fun hb328 => ?_)
        · refine ref_skip (n_then (ref_seq (ref_block (ref_seq (ref_region ?_)))))
          refine mv1 rfl rfl ?_
          refine pull fun b329 h_b329 => ?_
          refine s_rd (r_oindex h_b329 Tryd.underlying22 el_3 rfl (j := 2) rfl rfl) rfl ?_
          refine s_rd (r_oload h_b329 el_3 rfl (j := 2) rfl) rfl ?_
          refine as1 rfl rfl ?_
          refine as1 rfl rfl ?_
          refine l_nil (n_then (ref_seq ?_))
          refine pull fun t331 h_t331 => ?_
          refine pull fun t332 h_t332 => ?_
          refine ref_drawI 2 [⟨[], [], [], [], [], fun us u => pv (ptr b1 2), fun us u => []⟩, ⟨[0], [], [], [0], [], fun us u => slv rT_api_Case l_0.Cases, fun us u => []⟩, ⟨[], [], [], [], [], fun us u => iv .i64 a_285, fun us u => []⟩, ⟨[0, 1, 2], [], [], [], [], fun us u => ea rT_api_Case t331, fun us u => []⟩, ⟨[0, 1, 2, 3], [], [], [], [], fun us u => ag [sv t331.Name, slv rS t331.Facts, iv .i64 t331.Winner, slv rS t331.Reason], fun us u => []⟩, ⟨[], [], [], [], [], fun us u => pv (ptr b1 2), fun us u => []⟩, ⟨[5], [], [], [0], [], fun us u => slv rT_api_Case l_0.Cases, fun us u => []⟩, ⟨[], [], [], [], [], fun us u => iv .i64 b329, fun us u => []⟩, ⟨[5, 6, 7], [], [], [], [], fun us u => ea rT_api_Case t332, fun us u => []⟩, ⟨[5, 6, 7, 8], [], [], [], [], fun us u => ag [sv t332.Name, slv rS t332.Facts, iv .i64 t332.Winner, slv rS t332.Reason], fun us u => []⟩, ⟨[], [], [5], [5], [], fun us u => pv (ptr u.Nn 0), fun us u => [oc u.Nn [sv ByteArray.empty, pv (.slice none 0 0), iv .i64 0, pv (.slice none 0 0)]]⟩, ⟨[], [], [6], [6], [], fun us u => pv (ptr u.Nn 0), fun us u => [oc u.Nn [sv ByteArray.empty, pv (.slice none 0 0), iv .i64 0, pv (.slice none 0 0)]]⟩, ⟨[0, 1, 2, 3, 4, 10, 11], [10], [5], [5], [5], fun us u => pv undef, fun us u => [oc (us.getD 0 .none).Nn [sv t331.Name, slv rS t331.Facts, iv .i64 t331.Winner, slv rS t331.Reason]]⟩, ⟨[0, 1, 2, 3, 4, 5, 6, 7, 8, 9, 10, 11, 12], [11], [6], [6], [6], fun us u => pv undef, fun us u => [oc (us.getD 0 .none).Nn [sv t332.Name, slv rS t332.Facts, iv .i64 t332.Winner, slv rS t332.Reason]]⟩] (fun χ330 => [(1, slv rS facts_1), (2, pv (ptr b1 0)), (5, pv (ptr b2 0)), (8, pv y42.1), (11, pv (ptr b43 0)), (12, iv .i64 s282.1), (13, iv .i64 a_285), (14, iv .i64 s326.1), (16, pv (ptr (χ330 10).Nn 0)), (17, pv (ptr (χ330 11).Nn 0)), (53, pv y42.1), (54, iv .i64 (q41.length : Int)), (55, iv .i64 s282.1), (60, pv y42.1), (61, iv .i64 (q41.length : Int)), (62, iv .i64 s326.1)]) (fun χ330 => [oc b1 [slv rS l_0.Sides.i0, slv rS l_0.Sides.i1, slv rT_api_Case l_0.Cases], oc b2 [iv .i64 0, pv (.slice none 0 0)], oa (rI .i64) y42.1 y42.2 q41, oc b43 [iv .i64 (q41.length : Int), pv x327.1], oa rT_api_Pair x327.1 x327.2 s326.2, oc (χ330 10).Nn [sv t331.Name, slv rS t331.Facts, iv .i64 t331.Winner, slv rS t331.Reason], oc (χ330 11).Nn [sv t332.Name, slv rS t332.Facts, iv .i64 t332.Winner, slv rS t332.Reason]]) rfl (by kernel_rfl) ⟨fun χ330 Ω _ => St.toR (r_faddr (fo := 2) Tryd.underlying29 rfl rfl Tryd.sizeOf27 rfl) (fun _ => rfl) (fun _ => rfl), (by intro _ h; cases h; rfl), ⟨fun χ330 Ω ⟨h0, _⟩ => St.toR (r_cload Tryd.isAgg27 rfl (j := 0) h0 rfl) (fun _ => rfl) (fun _ => rfl), (by intro _ h; cases h; rfl), ⟨fun χ330 Ω _ => St.toR (r_move rfl) (fun _ => rfl) (fun _ => rfl), (by intro _ h; cases h; rfl), ⟨fun χ330 Ω _ => St.toR (r_index h_t331 Tryd.underlying27 el_39 rfl rfl) (fun _ => rfl) (fun _ => rfl), (by intro _ h; cases h; rfl), ⟨fun χ330 Ω _ => St.toR (r_load el_39 rfl) (fun _ => rfl) (fun _ => rfl), (by intro _ h; cases h; rfl), ⟨fun χ330 Ω _ => St.toR (r_faddr (fo := 2) Tryd.underlying29 rfl rfl Tryd.sizeOf27 rfl) (fun _ => rfl) (fun _ => rfl), (by intro _ h; cases h; rfl), ⟨fun χ330 Ω ⟨h0, _⟩ => St.toR (r_cload Tryd.isAgg27 rfl (j := 0) h0 rfl) (fun _ => rfl) (fun _ => rfl), (by intro _ h; cases h; rfl), ⟨fun χ330 Ω _ => St.toR (r_move rfl) (fun _ => rfl) (fun _ => rfl), (by intro _ h; cases h; rfl), ⟨fun χ330 Ω _ => St.toR (r_index h_t332 Tryd.underlying27 el_39 rfl rfl) (fun _ => rfl) (fun _ => rfl), (by intro _ h; cases h; rfl), ⟨fun χ330 Ω _ => St.toR (r_load el_39 rfl) (fun _ => rfl) (fun _ => rfl), (by intro _ h; cases h; rfl), ⟨fun χ330 Ω ⟨h5, _⟩ => St.to XU.Nn XU.hN (St.placeL (os := fun _ => [_]) [5] (s_alloc zt_39) (fun _ => rfl) (fun _ => ⟨h5, rfl, trivial⟩)) (fun _ => rfl) (fun _ => rfl), (by intro _ h; cases h; rfl), ⟨fun χ330 Ω ⟨h6, _⟩ => St.to XU.Nn XU.hN (St.placeL (os := fun _ => [_]) [6] (s_alloc zt_39) (fun _ => rfl) (fun _ => ⟨h6, rfl, trivial⟩)) (fun _ => rfl) (fun _ => rfl), (by intro _ h; cases h; rfl), ⟨fun χ330 Ω ⟨h5, _⟩ => St.to XU.U XU.hU (s_cstore (out := [sv t331.Name, slv rS t331.Facts, iv .i64 t331.Winner, slv rS t331.Reason]) Tryd.sizeOf39 rfl (j := 5) h5 (part_agO (ψs := [sv t331.Name, slv rS t331.Facts, iv .i64 t331.Winner, slv rS t331.Reason]) rfl ⟨.inl sv_at, .inl slv_at, .inl iv_at, .inl slv_at, trivial⟩) rfl rfl rfl) (fun _ => rfl) (fun _ => rfl), (by intro _ h; cases h), ⟨fun χ330 Ω ⟨h6, _⟩ => St.to XU.U XU.hU (s_cstore (out := [sv t332.Name, slv rS t332.Facts, iv .i64 t332.Winner, slv rS t332.Reason]) Tryd.sizeOf39 rfl (j := 6) h6 (part_agO (ψs := [sv t332.Name, slv rS t332.Facts, iv .i64 t332.Winner, slv rS t332.Reason]) rfl ⟨.inl sv_at, .inl slv_at, .inl iv_at, .inl slv_at, trivial⟩) rfl rfl rfl) (fun _ => rfl) (fun _ => rfl), (by intro _ h; cases h), trivial⟩⟩⟩⟩⟩⟩⟩⟩⟩⟩⟩⟩⟩⟩ (fun _ => ⟨rfl, rfl, rfl, rfl, rfl, rfl, rfl, rfl, rfl, rfl, rfl, rfl, rfl, rfl, rfl, rfl, trivial⟩) (fun _ => rfl) (fun χ330 => ?_)
          refine n_then (ref_seq ?_)
          refine ref_draw [0, 1, 2, 4, 5, 6] rfl (by kernel_rfl) (fun hok => ?_)
          refine a_rd (i := 0) hok rfl (by kernel_rfl) rfl (r_faddr (fo := 1) Tryd.underlying39 rfl rfl Tryd.sizeOf25 rfl) rfl ?_
          refine a_rd (i := 1) hok rfl (by kernel_rfl) rfl (r_cload Tryd.isAgg25 rfl (j := 5) rfl rfl) rfl ?_
          refine a_rd (i := 2) hok rfl (by kernel_rfl) rfl (r_move rfl) rfl ?_
          refine a_rd (i := 4) hok rfl (by kernel_rfl) rfl (r_faddr (fo := 1) Tryd.underlying39 rfl rfl Tryd.sizeOf25 rfl) rfl ?_
          refine a_rd (i := 5) hok rfl (by kernel_rfl) rfl (r_cload Tryd.isAgg25 rfl (j := 6) rfl rfl) rfl ?_
          refine a_rd (i := 6) hok rfl (by kernel_rfl) rfl (r_move rfl) rfl ?_
          refine pull fun s335 h_s335 => ?_
          refine a_next hok 3 [] (by kernel_rfl) ?_ trivial
          refine a_st (i := 3) hok rfl rfl (s_call (ψ := fun (x336 : (Value × List Nat)) => pv x336.1) (args := [.tmp 78, .tmp 79]) Tryd.call41 rfl (precedent_shared_ok h_s335) ⟨arg rfl, arg rfl, trivial⟩ (fun _ _ _ _ h => h)) (by intro _ h; cases h; rfl) (fun _ => ⟨trivial, ⟨⟨⟨rfl, rfl⟩, trivial⟩, ⟨trivial, ⟨trivial, ⟨trivial, ⟨trivial, trivial⟩⟩⟩⟩⟩⟩) (fun x336 => ?_)
          refine pull fun r_337 h_r_337 => ?_
          refine a_next hok 7 [] (by kernel_rfl) ?_ trivial
          refine a_st (i := 7) hok rfl rfl (s_call (ψ := fun (x338 : (Value × List Nat)) => pv x338.1) (args := [.tmp 82, .tmp 83]) Tryd.call41 rfl (precedent_shared_ok h_r_337) ⟨arg rfl, arg rfl, trivial⟩ (fun _ _ _ _ h => h)) (by intro _ h; cases h; rfl) (fun _ => ⟨trivial, ⟨trivial, ⟨trivial, ⟨trivial, ⟨⟨⟨rfl, rfl⟩, trivial⟩, ⟨trivial, trivial⟩⟩⟩⟩⟩⟩) (fun x338 => ?_)
          refine a_next hok 8 [] (by kernel_rfl) ?_ trivial
          refine a_st (i := 8) hok rfl rfl (St.ofRd (r_assign rfl)) (by intro _ h; cases h; rfl) (fun _ => ⟨trivial, ⟨⟨⟨rfl, rfl⟩, trivial⟩, ⟨trivial, ⟨trivial, ⟨trivial, ⟨trivial, trivial⟩⟩⟩⟩⟩⟩) (fun _ => ?_)
          refine a_next hok 9 [] (by kernel_rfl) ?_ trivial
          refine a_st (i := 9) hok rfl rfl (St.ofRd (r_assign rfl)) (by intro _ h; cases h; rfl) (fun _ => ⟨trivial, ⟨trivial, ⟨trivial, ⟨trivial, ⟨trivial, ⟨trivial, trivial⟩⟩⟩⟩⟩⟩) (fun _ => ?_)
          refine a_fin hok (by kernel_rfl) ?_
          refine b_of (nrm [oc b1 [slv rS l_0.Sides.i0, slv rS l_0.Sides.i1, slv rT_api_Case l_0.Cases], oc b2 [iv .i64 0, pv (.slice none 0 0)], oa (rI .i64) y42.1 y42.2 q41, oc b43 [iv .i64 (q41.length : Int), pv x327.1], oa rT_api_Pair x327.1 x327.2 s326.2, oc (χ330 10).Nn [sv t331.Name, slv rS t331.Facts, iv .i64 t331.Winner, slv rS t331.Reason], oc (χ330 11).Nn [sv t332.Name, slv rS t332.Facts, iv .i64 t332.Winner, slv rS t332.Reason], oa rS x336.1 x336.2 s335, oa rS x338.1 x338.2 r_337] rfl) ?_
          refine n_then (ref_seq ?_)
          refine ref_join (fun (j340 : Bool) (x341 : Unit) => [(1, slv rS facts_1), (2, pv (ptr b1 0)), (5, pv (ptr b2 0)), (8, pv y42.1), (11, pv (ptr b43 0)), (12, iv .i64 s282.1), (13, iv .i64 a_285), (14, iv .i64 s326.1), (53, pv y42.1), (54, iv .i64 (q41.length : Int)), (55, iv .i64 s282.1), (60, pv y42.1), (61, iv .i64 (q41.length : Int)), (62, iv .i64 s326.1), (102, bv j340)]) (fun (j340 : Bool) (x341 : Unit) => [oc b1 [slv rS l_0.Sides.i0, slv rS l_0.Sides.i1, slv rT_api_Case l_0.Cases], oc b2 [iv .i64 0, pv (.slice none 0 0)], oa (rI .i64) y42.1 y42.2 q41, oc b43 [iv .i64 (q41.length : Int), pv x327.1], oa rT_api_Pair x327.1 x327.2 s326.2]) (fun k342 hk342 => ?_) (fun j340 x341 => ?_)
          · refine ref_region ?_
            refine s_rd (r_faddr (fo := 2) Tryd.underlying39 rfl rfl Tryd.sizeOf3 rfl) rfl ?_
            refine s_rd (r_cload Tryd.isAgg3 rfl (j := 5) rfl rfl) rfl ?_
            refine s_rd (r_faddr (fo := 2) Tryd.underlying39 rfl rfl Tryd.sizeOf3 rfl) rfl ?_
            refine s_rd (r_cload Tryd.isAgg3 rfl (j := 6) rfl rfl) rfl ?_
            refine s_rd (r_neq rfl rfl) rfl ?_
            refine mv1 rfl rfl ?_
            refine b_split (t := 90) rfl (fun _ => ?_) (fun _ => ?_)
            · refine s_on rfl rfl rfl ?_
              refine mv1 rfl rfl ?_
              refine s_on rfl rfl rfl ?_
              refine mv1 rfl rfl ?_
              refine s_on rfl rfl rfl ?_
              refine pull fun t339 h_t339 => ?_
              refine s_st (s_callB (ψ := fun (_ : Unit) => bv t339) (args := [.tmp 91, .tmp 92]) Tryd.call42 rfl (precedent_within_ok h_t339) ⟨argO rfl (j := 7) rfl, argO rfl (j := 8) rfl, trivial⟩ (fun _ _ _ _ _ h => h)) rfl (fun _ => ?_)
              refine s_on rfl rfl rfl ?_
              refine mv1 rfl rfl ?_
              refine b_split (t := 94) rfl (fun _ => ?_) (fun _ => ?_)
              · refine s_on rfl rfl rfl ?_
                refine mv1 rfl rfl ?_
                refine s_on rfl rfl rfl ?_
                refine s_rd (r_olen Tryd.underlying25 rfl (j := 7) rfl) rfl ?_
                refine s_on rfl rfl rfl ?_
                refine mv1 rfl rfl ?_
                refine s_on rfl rfl rfl ?_
                refine s_rd (r_olen Tryd.underlying25 rfl (j := 8) rfl) rfl ?_
                refine s_on rfl rfl rfl ?_
                refine s_rd (r_lss rfl rfl) rfl ?_
                refine s_on rfl rfl rfl ?_
                refine s_rd (r_pickT rfl rfl) rfl ?_
                refine s_on rfl rfl rfl ?_
                refine s_rd (r_not rfl) rfl ?_
                refine s_rd (r_pickT rfl rfl) rfl ?_
                refine l_nil ?_
                exact b_to (hk342 (!(decide ((s335.length : Int) < (r_337.length : Int)))) ()) (weak [0, 1, 2, 3, 4] ⟨rfl, rfl, rfl, rfl, rfl, rfl, rfl, rfl, rfl, rfl, rfl, rfl, rfl, rfl, rfl, trivial⟩ ⟨rfl, rfl, rfl, rfl, rfl, trivial⟩)
              refine s_off rfl rfl rfl rfl rfl ?_
              refine s_off rfl rfl rfl rfl rfl ?_
              refine s_off rfl rfl rfl rfl rfl ?_
              refine s_off rfl rfl rfl rfl rfl ?_
              refine s_off rfl rfl rfl rfl rfl ?_
              refine s_on rfl rfl rfl ?_
              refine s_rd (r_pickF rfl rfl) rfl ?_
              refine s_on rfl rfl rfl ?_
              refine s_rd (r_not rfl) rfl ?_
              refine s_rd (r_pickT rfl rfl) rfl ?_
              refine l_nil ?_
              exact b_to (hk342 (!false) ()) (weak [0, 1, 2, 3, 4] ⟨rfl, rfl, rfl, rfl, rfl, rfl, rfl, rfl, rfl, rfl, rfl, rfl, rfl, rfl, rfl, trivial⟩ ⟨rfl, rfl, rfl, rfl, rfl, trivial⟩)
            refine s_off rfl rfl rfl rfl rfl ?_
            refine s_off rfl rfl rfl rfl rfl ?_
            refine s_off rfl rfl rfl rfl rfl ?_
            refine s_off rfl rfl rfl rfl rfl ?_
            refine s_offU rfl rfl rfl ?_
            refine s_offU rfl rfl rfl ?_
            refine s_offU rfl rfl rfl ?_
            refine s_offU rfl rfl rfl ?_
            refine s_offU rfl rfl rfl ?_
            refine s_off rfl rfl rfl rfl rfl ?_
            refine s_off rfl rfl rfl rfl rfl ?_
            refine s_rd (r_pickF rfl rfl) rfl ?_
            refine l_nil ?_
            exact b_to (hk342 false ()) (weak [0, 1, 2, 3, 4] ⟨rfl, rfl, rfl, rfl, rfl, rfl, rfl, rfl, rfl, rfl, rfl, rfl, rfl, rfl, rfl, trivial⟩ ⟨rfl, rfl, rfl, rfl, rfl, trivial⟩)
          refine n_then ?_
          refine ref_cond rfl (fun hb343 => ?_) (fun hb343 => ?_)
          · refine ref_region ?_
            refine s_rd (r_faddr (fo := 1) Tryd.underlying50 rfl rfl Tryd.sizeOf48 rfl) rfl ?_
            refine s_rd (r_cload Tryd.isAgg48 rfl (j := 3) rfl rfl) rfl ?_
            refine mv1 rfl rfl ?_
            refine mv1 rfl rfl ?_
            refine s_rd (r_build (ps := [(0, .tmp 105), (1, .tmp 106)]) (rs := [(0, [iv .i64 s282.1]), (1, [iv .i64 s326.1])]) st_57 zs_57 ⟨rfl, (part_at rfl iv_at), ⟨rfl, (part_at rfl iv_at), trivial⟩⟩ rfl rfl) rfl ?_
            refine s_st (s_bslice (xs := [.tmp 107]) (ds := [(T_api_Pair.mk s282.1 s326.1)]) Tryd.underlying48 el_57 rfl (Nat.le_of_ble_eq_true rfl) ⟨(part_agO (ψs := [iv .i64 s282.1, iv .i64 s326.1]) rfl ⟨.inl iv_at, .inl iv_at, trivial⟩), trivial⟩) rfl (fun _ => ?_)
            refine pull fun t344 h_t344 => ?_
            refine s_st (s_append h_t344 Tryd.underlying48 el_57 rfl (j := 4) rfl rfl) rfl (fun o345 => ?_)
            refine s_rd (r_faddr (fo := 1) Tryd.underlying50 rfl rfl Tryd.sizeOf48 rfl) rfl ?_
            refine s_st0 (s_cstore (out := [iv .i64 (q41.length : Int), pv o345.1]) Tryd.sizeOf48 rfl (j := 3) rfl (part_own rfl (j := 4) rfl) rfl rfl rfl) (fun _ => ?_)
            refine l_nil (n_block (n_then (ref_region ?_)))
            refine s_rd (r_add rfl rfl) rfl ?_
            refine mv1 rfl rfl ?_
            refine l_nil ?_
            exact goB o345 (weak [0, 1, 2, 3, 4] ⟨rfl, rfl, rfl, rfl, rfl, rfl, rfl, rfl, rfl, rfl, rfl, rfl, rfl, trivial⟩ ⟨rfl, rfl, rfl, rfl, rfl, trivial⟩)
          refine ref_skip (n_block (n_then (ref_region ?_)))
          refine s_rd (r_add rfl rfl) rfl ?_
          refine mv1 rfl rfl ?_
          refine l_nil ?_
          exact goB x327 (weak [0, 1, 2, 3, 4] ⟨rfl, rfl, rfl, rfl, rfl, rfl, rfl, rfl, rfl, rfl, rfl, rfl, rfl, trivial⟩ ⟨rfl, rfl, rfl, rfl, rfl, trivial⟩)
        refine ref_exit (x_then ?_)
        exact brkB x327 (weak [0, 1, 2, 3, 4] ⟨rfl, rfl, rfl, rfl, rfl, rfl, rfl, rfl, trivial⟩ ⟨rfl, rfl, rfl, rfl, rfl, trivial⟩)
      refine n_block (n_then (ref_region ?_))
      refine s_rd (r_add rfl rfl) rfl ?_
      refine mv1 rfl rfl ?_
      refine l_nil ?_
      exact goB y347 (weak [0, 1, 2, 3, 4] ⟨rfl, rfl, rfl, rfl, rfl, rfl, rfl, rfl, trivial⟩ ⟨rfl, rfl, rfl, rfl, rfl, trivial⟩)
    refine ref_exit (x_then ?_)
    exact brkB x283 (weak [1, 2, 3, 4] ⟨rfl, rfl, rfl, trivial⟩ ⟨rfl, rfl, rfl, rfl, trivial⟩)
  refine n_then (ref_seq ?_)
  refine ref_draw [0, 1] rfl (by kernel_rfl) (fun hok => ?_)
  refine a_rd (i := 0) hok rfl (by kernel_rfl) rfl (r_move rfl) rfl ?_
  refine a_rd (i := 1) hok rfl (by kernel_rfl) rfl (r_cloadS Tryd.isAgg50 Tryd.sizeOf50 rfl (j := 2) rfl rfl rfl) rfl ?_
  refine a_next hok 2 [] (by kernel_rfl) ?_ trivial
  refine a_st (i := 2) hok rfl rfl (St.ofRd (r_assign rfl)) (by intro _ h; cases h; rfl) (fun _ => ⟨⟨⟨rfl, rfl⟩, trivial⟩, ⟨trivial, trivial⟩⟩) (fun _ => ?_)
  refine a_next hok 3 [] (by kernel_rfl) ?_ trivial
  refine a_st (i := 3) hok rfl rfl (s_cstore (out := [iv .i64 (q41.length : Int), pv y349.1]) Tryd.sizeOf50 rfl (j := 0) rfl (part_agO (ψs := [iv .i64 (q41.length : Int), pv y349.1]) rfl ⟨.inl iv_at, .inr ⟨_, _, _, _, _, 3, rfl, rfl⟩, trivial⟩) rfl rfl rfl) (by intro _ h; cases h) (fun _ => ⟨trivial, ⟨trivial, trivial⟩⟩) (fun _ => ?_)
  refine a_next hok 4 [] (by kernel_rfl) ?_ trivial
  refine a_st (i := 4) hok rfl rfl (St.ofRd (r_assign rfl)) (by intro _ h; cases h; rfl) (fun _ => ⟨trivial, ⟨trivial, trivial⟩⟩) (fun _ => ?_)
  refine a_fin hok (by kernel_rfl) ?_
  refine n_then (ref_ret ?_)
  refine b_of (frzGL [(114, ag [iv .i64 (q41.length : Int), slv rT_api_Pair q348])] [(0, b2, [iv .i64 (q41.length : Int), slv rT_api_Pair q348]), (2, b43, [iv .i64 (q41.length : Int), slv rT_api_Pair q348])] (j := 3) rfl ⟨⟨_, rfl, .inr ⟨_, _, rfl, rfl, ⟨.inl rfl, .inr ⟨rfl, rfl⟩, trivial⟩⟩⟩, trivial⟩ ⟨⟨_, rfl, ⟨.inl rfl, .inr ⟨rfl, rfl⟩, trivial⟩⟩, ⟨_, rfl, ⟨.inl rfl, .inr ⟨rfl, rfl⟩, trivial⟩⟩, trivial⟩) ?_
  refine b_of (nrm [oc b2 [iv .i64 (q41.length : Int), slv rT_api_Pair q348], oa (rI .i64) y42.1 y42.2 q41, oc b43 [iv .i64 (q41.length : Int), slv rT_api_Pair q348], dead] rfl) ?_
  exact fin3 (.inl rfl) y42 [1] rfl ⟨rfl, trivial⟩ rfl (rv_tmp rfl) (rv_cell rfl (j := 0) rfl Tryd.isAgg50 Tryd.sizeOf50 rfl rfl) (rv_tmp rfl)

/-! math/bits.Mul32 -/
noncomputable def math_bits_Mul32_m (x_0 : Int) (y_1 : Int) : Option (Int × Int) :=
  letM (imul .u64 (IntKind.wrap .u64 x_0) (IntKind.wrap .u64 y_1)) fun tmp1 =>
  letM (IntKind.wrap .u32 (ishr .u64 tmp1 32)) fun hi2 =>
  letM (IntKind.wrap .u32 tmp1) fun lo3 =>
  some (hi2, lo3)

theorem math_bits_Mul32_ok {x_0 : Int} {y_1 : Int} {r : Int × Int} (hm : math_bits_Mul32_m x_0 y_1 = some r) :
    FnOk prog 97 [iv .u32 x_0, iv .u32 y_1] [] (fun (x : Unit) => [iv .u32 r.1, iv .u32 r.2]) (fun (x : Unit) => []) := by
  refine fn_ok (fn := Tryd.f97) (N := 17) (res := fun r x => [iv .u32 r.1, iv .u32 r.2]) (Ω1 := fun r x => []) Tryd.func97 rfl rfl hm rfl (fun E hM => ?_)
  unfold math_bits_Mul32_m
  refine ref_seq (ref_region ?_)
  refine as1 rfl rfl ?_
  refine as1 rfl rfl ?_
  refine l_nil (n_then (ref_seq (ref_region ?_)))
  refine mv1 rfl rfl ?_
  refine s_rd (r_conv (k' := .u64) rfl rfl rfl) rfl ?_
  refine mv1 rfl rfl ?_
  refine s_rd (r_conv (k' := .u64) rfl rfl rfl) rfl ?_
  refine s_rd (r_mul rfl rfl) rfl ?_
  refine as1 rfl rfl ?_
  refine b_let (f := iv .u64) (t := 6) rfl fun tmp1 => ?_
  refine l_nil (n_then (ref_seq (ref_region ?_)))
  refine mv1 rfl rfl ?_
  refine s_rd (r_shr rfl rfl (by decide)) rfl ?_
  refine s_rd (r_conv (k' := .u32) rfl rfl rfl) rfl ?_
  refine mv1 rfl rfl ?_
  refine s_rd (r_conv (k' := .u32) rfl rfl rfl) rfl ?_
  refine as1 rfl rfl ?_
  refine b_let (f := iv .u32) (t := 4) rfl fun hi2 => ?_
  refine as1 rfl rfl ?_
  refine b_let (f := iv .u32) (t := 5) rfl fun lo3 => ?_
  refine l_nil (n_then (ref_ret ?_))
  exact fin2 (.inl rfl) () [] rfl trivial rfl (rv_tmp rfl) (rv_tmp rfl)

/-! math/bits.Mul64 -/
noncomputable def math_bits_Mul64_m (x_0 : Int) (y_1 : Int) : Option (Int × Int) :=
  letM (iand .u64 x_0 4294967295) fun x01 =>
  letM (ishr .u64 x_0 32) fun x12 =>
  letM (iand .u64 y_1 4294967295) fun y03 =>
  letM (ishr .u64 y_1 32) fun y14 =>
  letM (imul .u64 x01 y03) fun w05 =>
  letM (iadd .u64 (imul .u64 x12 y03) (ishr .u64 w05 32)) fun t6 =>
  letM (iand .u64 t6 4294967295) fun w17 =>
  letM (ishr .u64 t6 32) fun w28 =>
  letM (iadd .u64 w17 (imul .u64 x01 y14)) fun w19 =>
  letM (iadd .u64 (iadd .u64 (imul .u64 x12 y14) w28) (ishr .u64 w19 32)) fun hi10 =>
  letM (imul .u64 x_0 y_1) fun lo11 =>
  some (hi10, lo11)

theorem math_bits_Mul64_ok {x_0 : Int} {y_1 : Int} {r : Int × Int} (hm : math_bits_Mul64_m x_0 y_1 = some r) :
    FnOk prog 98 [iv .u64 x_0, iv .u64 y_1] [] (fun (x : Unit) => [iv .u64 r.1, iv .u64 r.2]) (fun (x : Unit) => []) := by
  refine fn_ok (fn := Tryd.f98) (N := 51) (res := fun r x => [iv .u64 r.1, iv .u64 r.2]) (Ω1 := fun r x => []) Tryd.func98 rfl rfl hm rfl (fun E hM => ?_)
  unfold math_bits_Mul64_m
  refine ref_seq (ref_region ?_)
  refine as1 rfl rfl ?_
  refine as1 rfl rfl ?_
  refine l_nil (n_then (ref_seq (ref_region ?_)))
  refine mv1 rfl rfl ?_
  refine s_rd (r_and rfl rfl) rfl ?_
  refine as1 rfl rfl ?_
  refine b_let (f := iv .u64) (t := 6) rfl fun x01 => ?_
  refine l_nil (n_then (ref_seq (ref_region ?_)))
  refine mv1 rfl rfl ?_
  refine s_rd (r_shr rfl rfl (by decide)) rfl ?_
  refine as1 rfl rfl ?_
  refine b_let (f := iv .u64) (t := 7) rfl fun x12 => ?_
  refine l_nil (n_then (ref_seq (ref_region ?_)))
  refine mv1 rfl rfl ?_
  refine s_rd (r_and rfl rfl) rfl ?_
  refine as1 rfl rfl ?_
  refine b_let (f := iv .u64) (t := 8) rfl fun y03 => ?_
  refine l_nil (n_then (ref_seq (ref_region ?_)))
  refine mv1 rfl rfl ?_
  refine s_rd (r_shr rfl rfl (by decide)) rfl ?_
  refine as1 rfl rfl ?_
  refine b_let (f := iv .u64) (t := 9) rfl fun y14 => ?_
  refine l_nil (n_then (ref_seq (ref_region ?_)))
  refine mv1 rfl rfl ?_
  refine mv1 rfl rfl ?_
  refine s_rd (r_mul rfl rfl) rfl ?_
  refine as1 rfl rfl ?_
  refine b_let (f := iv .u64) (t := 10) rfl fun w05 => ?_
  refine l_nil (n_then (ref_seq (ref_region ?_)))
  refine mv1 rfl rfl ?_
  refine mv1 rfl rfl ?_
  refine s_rd (r_mul rfl rfl) rfl ?_
  refine mv1 rfl rfl ?_
  refine s_rd (r_shr rfl rfl (by decide)) rfl ?_
  refine s_rd (r_add rfl rfl) rfl ?_
  refine as1 rfl rfl ?_
  refine b_let (f := iv .u64) (t := 11) rfl fun t6 => ?_
  refine l_nil (n_then (ref_seq (ref_region ?_)))
  refine mv1 rfl rfl ?_
  refine s_rd (r_and rfl rfl) rfl ?_
  refine as1 rfl rfl ?_
  refine b_let (f := iv .u64) (t := 12) rfl fun w17 => ?_
  refine l_nil (n_then (ref_seq (ref_region ?_)))
  refine mv1 rfl rfl ?_
  refine s_rd (r_shr rfl rfl (by decide)) rfl ?_
  refine as1 rfl rfl ?_
  refine b_let (f := iv .u64) (t := 13) rfl fun w28 => ?_
  refine l_nil (n_then (ref_seq (ref_region ?_)))
  refine mv1 rfl rfl ?_
  refine mv1 rfl rfl ?_
  refine mv1 rfl rfl ?_
  refine s_rd (r_mul rfl rfl) rfl ?_
  refine s_rd (r_add rfl rfl) rfl ?_
  refine as1 rfl rfl ?_
  refine b_let (f := iv .u64) (t := 12) rfl fun w19 => ?_
  refine l_nil (n_then (ref_seq (ref_region ?_)))
  refine mv1 rfl rfl ?_
  refine mv1 rfl rfl ?_
  refine s_rd (r_mul rfl rfl) rfl ?_
  refine mv1 rfl rfl ?_
  refine s_rd (r_add rfl rfl) rfl ?_
  refine mv1 rfl rfl ?_
  refine s_rd (r_shr rfl rfl (by decide)) rfl ?_
  refine s_rd (r_add rfl rfl) rfl ?_
  refine as1 rfl rfl ?_
  refine b_let (f := iv .u64) (t := 4) rfl fun hi10 => ?_
  refine l_nil (n_then (ref_seq (ref_region ?_)))
  refine mv1 rfl rfl ?_
  refine mv1 rfl rfl ?_
  refine s_rd (r_mul rfl rfl) rfl ?_
  refine as1 rfl rfl ?_
  refine b_let (f := iv .u64) (t := 5) rfl fun lo11 => ?_
  refine l_nil (n_then (ref_ret ?_))
  exact fin2 (.inl rfl) () [] rfl trivial rfl (rv_tmp rfl) (rv_tmp rfl)

/-! math/bits.Mul -/
noncomputable def math_bits_Mul_m (x_0 : Int) (y_1 : Int) : Option (Int × Int) :=
  Option.bind (math_bits_Mul64_m x_0 y_1) fun t1 =>
  some (t1.1, t1.2)

theorem math_bits_Mul_ok {x_0 : Int} {y_1 : Int} {r : Int × Int} (hm : math_bits_Mul_m x_0 y_1 = some r) :
    FnOk prog 92 [iv .u64 x_0, iv .u64 y_1] [] (fun (x : Unit) => [iv .u64 r.1, iv .u64 r.2]) (fun (x : Unit) => []) := by
  refine fn_ok (fn := Tryd.f92) (N := 30) (res := fun r x => [iv .u64 r.1, iv .u64 r.2]) (Ω1 := fun r x => []) Tryd.func92 rfl rfl hm rfl (fun E hM => ?_)
  unfold math_bits_Mul_m
  refine ref_seq (ref_region ?_)
  refine as1 rfl rfl ?_
  refine as1 rfl rfl ?_
  refine l_nil (n_then (ref_seq ?_))
  refine ref_condF rfl rfl ?_
  refine ref_skip (n_then (ref_seq (ref_region ?_)))
  refine mv1 rfl rfl ?_
  refine mv1 rfl rfl ?_
  refine pull fun t1 h_t1 => ?_
  refine s_st (s_call (ψ := fun (_ : Unit) => tup [iv .u64 t1.1, iv .u64 t1.2]) (args := [.tmp 23, .tmp 24]) Tryd.call98 rfl (math_bits_Mul64_ok h_t1) ⟨arg rfl, arg rfl, trivial⟩ (fun _ _ _ _ h => h)) rfl (fun _ => ?_)
  refine mv1 rfl rfl ?_
  refine s_rd (r_extract rfl rfl) rfl ?_
  refine s_rd (r_extract rfl rfl) rfl ?_
  refine as1 rfl rfl ?_
  refine as1 rfl rfl ?_
  refine l_nil (n_then (ref_seq (ref_region ?_)))
  refine mv1 rfl rfl ?_
  refine mv1 rfl rfl ?_
  refine as1 rfl rfl ?_
  refine as1 rfl rfl ?_
  refine l_nil (n_then (ref_ret ?_))
  exact fin2 (.inl rfl) () [] rfl trivial rfl (rv_tmp rfl) (rv_tmp rfl)

/-! slices.Repeat[[]int,int] -/
noncomputable def slices_Repeat_int_int_l1  (s17 : Int × (List Int)) : Option (Sum ((List Int)) (Int × (List Int))) :=
  bif decide (s17.1 < (s17.2.length : Int)) then
    Option.bind (slM s17.2 s17.1 (s17.2.length : Int)) fun t20 =>
    Option.bind (slM s17.2 0 s17.1) fun t21 =>
    some (Sum.inr (iadd .i64 s17.1 ((min t21.length t20.length : Nat) : Int), cpO s17.2 s17.1 (s17.2.length : Int) 0 s17.1))
  else
    some (Sum.inl s17.2)

noncomputable def slices_Repeat_int_int_m (x_0 : (List Int)) (count_1 : Int) : Option (List Int) :=
  bif decide (count_1 < 0) then
    none
  else
    Option.bind (math_bits_Mul_m (IntKind.wrap .u64 (x_0.length : Int)) (IntKind.wrap .u64 count_1)) fun t2 =>
    bif decide (t2.1 > 0) then
      none
    else
      bif decide (t2.2 > 9223372036854775807) then
        none
      else
        Option.bind (mkM 8 0 (IntKind.wrap .i64 t2.2)) fun newslice4 =>
        letM (((min x_0.length newslice4.length : Nat) : Int)) fun n6 =>
        Option.bind (loopC (slices_Repeat_int_int_l1) (n6, cpA newslice4 x_0)) fun q22 : (List Int) =>
        some q22

theorem slices_Repeat_int_int_ok {x_0 : (List Int)} {count_1 : Int} {r : List Int} (hm : slices_Repeat_int_int_m x_0 count_1 = some r) :
    FnOk prog 82 [slv (rI .i64) x_0, iv .i64 count_1] [] (fun (x : (Value × List Nat)) => [pv x.1]) (fun (x : (Value × List Nat)) => [oa (rI .i64) x.1 x.2 r]) := by
  refine fn_ok (X := (Value × List Nat)) (fn := Tryd.f82) (N := 48) (res := fun r x => [pv x.1]) (Ω1 := fun r x => [oa (rI .i64) x.1 x.2 r]) Tryd.func82 rfl rfl hm rfl (fun E hM => ?_)
  unfold slices_Repeat_int_int_m
  refine ref_seq (ref_region ?_)
  refine as1 rfl rfl ?_
  refine l_nil (n_then (ref_seq (ref_seq (ref_region ?_))))
  refine mv1 rfl rfl ?_
  refine s_rd (r_lss rfl rfl) rfl ?_
  refine l_nil (n_then ?_)
  refine ref_cond rfl (fun hb1 => ?_) (fun hb1 => ?_)
  · refine ref_region ?_
    exact pnone
  refine ref_skip (n_then (ref_seq (ref_region ?_)))
  refine mv1 rfl rfl ?_
  refine s_rd (r_len Tryd.underlying22 rfl) rfl ?_
  refine s_rd (r_conv (k' := .u64) rfl rfl rfl) rfl ?_
  refine mv1 rfl rfl ?_
  refine s_rd (r_conv (k' := .u64) rfl rfl rfl) rfl ?_
  refine pull fun t2 h_t2 => ?_
  refine s_st (s_call (ψ := fun (_ : Unit) => tup [iv .u64 t2.1, iv .u64 t2.2]) (args := [.tmp 15, .tmp 17]) Tryd.call92 rfl (math_bits_Mul_ok h_t2) ⟨arg rfl, arg rfl, trivial⟩ (fun _ _ _ _ h => h)) rfl (fun _ => ?_)
  refine mv1 rfl rfl ?_
  refine s_rd (r_extract rfl rfl) rfl ?_
  refine s_rd (r_extract rfl rfl) rfl ?_
  refine as1 rfl rfl ?_
  refine as1 rfl rfl ?_
  refine l_nil (n_then (ref_seq (ref_seq (ref_region ?_))))
  refine mv1 rfl rfl ?_
  refine s_rd (r_gtr rfl rfl) rfl ?_
  refine mv1 rfl rfl ?_
  refine b_split (t := 23) rfl (fun _ => ?_) (fun _ => ?_)
  · refine s_off rfl rfl rfl rfl rfl ?_
    refine s_off rfl rfl rfl rfl rfl ?_
    refine s_rd (r_pickT rfl rfl) rfl ?_
    refine l_nil (n_then ?_)
    refine ref_condT rfl rfl ?_
    refine ref_region ?_
    exact pnone
  refine s_on rfl rfl rfl ?_
  refine mv1 rfl rfl ?_
  refine s_on rfl rfl rfl ?_
  refine s_rd (r_gtr rfl rfl) rfl ?_
  refine s_rd (r_pickF rfl rfl) rfl ?_
  refine l_nil (n_then ?_)
  refine ref_cond rfl (fun hb3 => ?_) (fun hb3 => ?_)
  · refine ref_region ?_
    exact pnone
  refine ref_skip (n_then (ref_seq (ref_region ?_)))
  refine mv1 rfl rfl ?_
  refine s_rd (r_conv (k' := .i64) rfl rfl rfl) rfl ?_
  refine pull fun newslice4 h_newslice4 => ?_
  refine s_st (s_make h_newslice4 Tryd.underlying22 el_3 ze_3 rfl rfl) rfl (fun o5 => ?_)
  refine as1 rfl rfl ?_
  refine l_nil (n_then (ref_seq (ref_region ?_)))
  refine mv1 rfl rfl ?_
  refine mv1 rfl rfl ?_
  refine s_st (s_copyA Tryd.underlying22 el_3 rfl (j := 0) rfl rfl) rfl (fun _ => ?_)
  refine as1 rfl rfl ?_
  refine b_let (f := iv .i64) (t := 8) rfl fun n6 => ?_
  refine l_nil (n_then (ref_seq ?_))
  refine ref_loopB (f := (slices_Repeat_int_int_l1)) (Γl := (fun (s17 : Int × (List Int)) (x18 : Unit) => [(7, pv o5.1), (8, iv .i64 s17.1)])) (Ωl := (fun (s17 : Int × (List Int)) (x18 : Unit) => [oa (rI .i64) o5.1 o5.2 s17.2])) (Γb := (fun (q22 : (List Int)) (y23 : Unit) => [(7, pv o5.1)])) (Ωb := (fun (q22 : (List Int)) (y23 : Unit) => [oa (rI .i64) o5.1 o5.2 q22])) (n6, cpA newslice4 x_0) () (weak [0] ⟨rfl, rfl, trivial⟩ ⟨rfl, trivial⟩) (fun s17 x18 => ?_) (fun q22 y23 => ?_)
  · unfold slices_Repeat_int_int_l1
    refine ref_seq (ref_seq (ref_region ?_))
    refine mv1 rfl rfl ?_
    refine mv1 rfl rfl ?_
    refine s_rd (r_olen Tryd.underlying22 rfl (j := 0) rfl) rfl ?_
    refine s_rd (r_lss rfl rfl) rfl ?_
    refine l_nil (n_then ?_)
    refine ref_cond rfl (fun hb19 => ?_) (fun hb19 => ?_)
    · refine ref_skip (n_then (ref_block ?_))
      refine ref_draw [0, 1, 2, 3, 4, 5, 6, 8] rfl (by kernel_rfl) (fun hok => ?_)
      refine a_rd (i := 0) hok rfl (by kernel_rfl) rfl (r_move rfl) rfl ?_
      refine a_rd (i := 1) hok rfl (by kernel_rfl) rfl (r_move rfl) rfl ?_
      refine a_rd (i := 2) hok rfl (by kernel_rfl) rfl (r_move rfl) rfl ?_
      refine pull fun t20 h_t20 => ?_
      refine a_rd (i := 3) hok rfl (by kernel_rfl) rfl (r_osub h_t20 Tryd.underlying22 el_3 rfl (j := 0) rfl (.of rfl) .dft) rfl ?_
      refine a_rd (i := 4) hok rfl (by kernel_rfl) rfl (r_move rfl) rfl ?_
      refine a_rd (i := 5) hok rfl (by kernel_rfl) rfl (r_move rfl) rfl ?_
      refine pull fun t21 h_t21 => ?_
      refine a_rd (i := 6) hok rfl (by kernel_rfl) rfl (r_osub h_t21 Tryd.underlying22 el_3 rfl (j := 0) rfl .dft (.of rfl)) rfl ?_
      refine a_next hok 7 [] (by kernel_rfl) ?_ trivial
      refine a_st (i := 7) hok rfl rfl (s_copyW h_t20 h_t21 Tryd.underlying22 el_3 rfl (j := 0) rfl rfl) (by intro _ h; cases h; rfl) (fun _ => ⟨trivial, ⟨trivial, ⟨trivial, ⟨trivial, ⟨trivial, ⟨trivial, ⟨trivial, trivial⟩⟩⟩⟩⟩⟩⟩) (fun _ => ?_)
      refine a_rd (i := 8) hok rfl (by kernel_rfl) rfl (r_add rfl rfl) rfl ?_
      refine a_next hok 9 [] (by kernel_rfl) ?_ trivial
      refine a_st (i := 9) hok rfl rfl (St.ofRd (r_assign rfl)) (by intro _ h; cases h; rfl) (fun _ => ⟨trivial, ⟨trivial, ⟨trivial, ⟨trivial, ⟨trivial, ⟨trivial, ⟨trivial, ⟨trivial, trivial⟩⟩⟩⟩⟩⟩⟩⟩) (fun _ => ?_)
      refine a_fin hok (by kernel_rfl) ?_
      refine b_of (nrm [oa (rI .i64) o5.1 o5.2 (cpO s17.2 s17.1 (s17.2.length : Int) 0 s17.1)] rfl) ?_
      refine n_block ?_
      exact goB () (weak [0] ⟨rfl, rfl, trivial⟩ ⟨rfl, trivial⟩)
    refine ref_exit (x_then ?_)
    exact brkB () (weak [0] ⟨rfl, trivial⟩ ⟨rfl, trivial⟩)
  refine n_then (ref_seq (ref_region ?_))
  refine mv1 rfl rfl ?_
  refine as1 rfl rfl ?_
  refine l_nil (n_then (ref_ret ?_))
  exact fin1 (.inl rfl) o5 [0] rfl ⟨rfl, trivial⟩ rfl (rv_tmp rfl)

/-! cmp.isNaN[int] -/
noncomputable def cmp_isNaN_int_m (x_0 : Int) : Option (Bool) :=
  some (x_0 != x_0)

theorem cmp_isNaN_int_ok {x_0 : Int} {r : Bool} (hm : cmp_isNaN_int_m x_0 = some r) :
    FnOk prog 104 [iv .i64 x_0] [] (fun (x : Unit) => [bv r]) (fun (x : Unit) => []) := by
  refine fn_ok (fn := Tryd.f104) (N := 6) (res := fun r x => [bv r]) (Ω1 := fun r x => []) Tryd.func104 rfl rfl hm rfl (fun E hM => ?_)
  unfold cmp_isNaN_int_m
  refine ref_seq (ref_region ?_)
  refine as1 rfl rfl ?_
  refine l_nil (n_then (ref_seq (ref_region ?_)))
  refine mv1 rfl rfl ?_
  refine mv1 rfl rfl ?_
  refine s_rd (r_neq rfl rfl) rfl ?_
  refine as1 rfl rfl ?_
  refine l_nil (n_then (ref_ret ?_))
  exact fin1 (.inl rfl) () [] rfl trivial rfl (rv_tmp rfl)

/-! cmp.Compare[int] -/
noncomputable def cmp_Compare_int_m (x_0 : Int) (y_1 : Int) : Option (Int) :=
  Option.bind (cmp_isNaN_int_m x_0) fun xNaN1 =>
  Option.bind (cmp_isNaN_int_m y_1) fun yNaN2 =>
  bif xNaN1 then
    bif yNaN2 then
      some 0
    else
      some (-1)
  else
    bif yNaN2 then
      some 1
    else
      bif decide (x_0 < y_1) then
        some (-1)
      else
        bif decide (x_0 > y_1) then
          some 1
        else
          some 0

theorem cmp_Compare_int_ok {x_0 : Int} {y_1 : Int} {r : Int} (hm : cmp_Compare_int_m x_0 y_1 = some r) :
    FnOk prog 103 [iv .i64 x_0, iv .i64 y_1] [] (fun (x : Unit) => [iv .i64 r]) (fun (x : Unit) => []) := by
  refine fn_ok (fn := Tryd.f103) (N := 20) (res := fun r x => [iv .i64 r]) (Ω1 := fun r x => []) Tryd.func103 rfl rfl hm rfl (fun E hM => ?_)
  unfold cmp_Compare_int_m
  refine ref_seq (ref_region ?_)
  refine as1 rfl rfl ?_
  refine l_nil (n_then (ref_seq (ref_region ?_)))
  refine mv1 rfl rfl ?_
  refine pull fun xNaN1 h_xNaN1 => ?_
  refine s_st (s_call (ψ := fun (_ : Unit) => bv xNaN1) (args := [.tmp 7]) Tryd.call104 rfl (cmp_isNaN_int_ok h_xNaN1) ⟨arg rfl, trivial⟩ (fun _ _ _ _ h => h)) rfl (fun _ => ?_)
  refine as1 rfl rfl ?_
  refine l_nil (n_then (ref_seq (ref_region ?_)))
  refine mv1 rfl rfl ?_
  refine pull fun yNaN2 h_yNaN2 => ?_
  refine s_st (s_call (ψ := fun (_ : Unit) => bv yNaN2) (args := [.tmp 9]) Tryd.call104 rfl (cmp_isNaN_int_ok h_yNaN2) ⟨arg rfl, trivial⟩ (fun _ _ _ _ h => h)) rfl (fun _ => ?_)
  refine as1 rfl rfl ?_
  refine l_nil (n_then (ref_seq (ref_seq (ref_region ?_))))
  refine mv1 rfl rfl ?_
  refine l_nil (n_then ?_)
  refine ref_cond rfl (fun hb3 => ?_) (fun hb3 => ?_)
  · refine ref_seq (ref_seq (ref_region ?_))
    refine mv1 rfl rfl ?_
    refine l_nil (n_then ?_)
    refine ref_cond rfl (fun hb4 => ?_) (fun hb4 => ?_)
    · refine ref_seq (ref_region ?_)
      refine as1 rfl rfl ?_
      refine l_nil (n_then (ref_ret (r_then (r_then ?_))))
      exact fin1 (.inl rfl) () [] rfl trivial rfl (rv_tmp rfl)
    refine ref_skip (n_then (ref_seq (ref_region ?_)))
    refine as1 rfl rfl ?_
    refine l_nil (n_then (ref_ret (r_then ?_)))
    exact fin1 (.inl rfl) () [] rfl trivial rfl (rv_tmp rfl)
  refine ref_skip (n_then (ref_seq (ref_seq (ref_region ?_))))
  refine mv1 rfl rfl ?_
  refine l_nil (n_then ?_)
  refine ref_cond rfl (fun hb5 => ?_) (fun hb5 => ?_)
  · refine ref_seq (ref_region ?_)
    refine as1 rfl rfl ?_
    refine l_nil (n_then (ref_ret (r_then ?_)))
    exact fin1 (.inl rfl) () [] rfl trivial rfl (rv_tmp rfl)
  refine ref_skip (n_then (ref_seq (ref_seq (ref_region ?_))))
  refine mv1 rfl rfl ?_
  refine mv1 rfl rfl ?_
  refine s_rd (r_lss rfl rfl) rfl ?_
  refine l_nil (n_then ?_)
  refine ref_cond rfl (fun hb6 => ?_) (fun hb6 => ?_)
  · refine ref_seq (ref_region ?_)
    refine as1 rfl rfl ?_
    refine l_nil (n_then (ref_ret (r_then ?_)))
    exact fin1 (.inl rfl) () [] rfl trivial rfl (rv_tmp rfl)
  refine ref_skip (n_then (ref_seq (ref_seq (ref_region ?_))))
  refine mv1 rfl rfl ?_
  refine mv1 rfl rfl ?_
  refine s_rd (r_gtr rfl rfl) rfl ?_
  refine l_nil (n_then ?_)
  refine ref_cond rfl (fun hb7 => ?_) (fun hb7 => ?_)
  · refine ref_seq (ref_region ?_)
    refine as1 rfl rfl ?_
    refine l_nil (n_then (ref_ret (r_then ?_)))
    exact fin1 (.inl rfl) () [] rfl trivial rfl (rv_tmp rfl)
  refine ref_skip (n_then (ref_seq (ref_region ?_)))
  refine as1 rfl rfl ?_
  refine l_nil (n_then (ref_ret ?_))
  exact fin1 (.inl rfl) () [] rfl trivial rfl (rv_tmp rfl)

/-! cmp.Or[int] -/
noncomputable def cmp_Or_int_l1 (vals_0 : (List Int)) (s6 : Int) : Option (Sum ((Sum (Int) (Unit))) (Int)) :=
  bif decide (s6 < (vals_0.length : Int)) then
    Option.bind (idxM vals_0 s6) fun val9 =>
    bif val9 != 0 then
      some (Sum.inl (Sum.inl val9))
    else
      some (Sum.inr (iadd .i64 s6 1))
  else
    some (Sum.inl (Sum.inr ()))

noncomputable def cmp_Or_int_m (vals_0 : (List Int)) : Option (Int) :=
  Option.bind (loopC (cmp_Or_int_l1 vals_0) 0) (sumK (fun a : Int => some a) fun q11 : Unit =>
    some 0)

theorem cmp_Or_int_ok {vals_0 : (List Int)} {r : Int} (hm : cmp_Or_int_m vals_0 = some r) :
    FnOk prog 102 [slv (rI .i64) vals_0] [] (fun (x : Unit) => [iv .i64 r]) (fun (x : Unit) => []) := by
  refine fn_ok (fn := Tryd.f102) (N := 18) (res := fun r x => [iv .i64 r]) (Ω1 := fun r x => []) Tryd.func102 rfl rfl hm rfl (fun E hM => ?_)
  unfold cmp_Or_int_m
  refine ref_seq (ref_region ?_)
  refine as1 rfl rfl ?_
  refine l_nil (n_then (ref_seq (ref_region ?_)))
  refine as1 rfl rfl ?_
  refine l_nil (n_then (ref_seq (ref_seq (ref_region ?_))))
  refine mv1 rfl rfl ?_
  refine s_rd (r_len Tryd.underlying22 rfl) rfl ?_
  refine mv1 rfl rfl ?_
  refine l_nil (n_then ?_)
  refine ref_loopX (f := (cmp_Or_int_l1 vals_0)) (Γl := (fun (s6 : Int) (x7 : Unit) => [(3, iv .i64 0), (6, slv (rI .i64) vals_0), (7, iv .i64 (vals_0.length : Int)), (8, iv .i64 s6)])) (Ωl := (fun (s6 : Int) (x7 : Unit) => [])) (Γb := (fun (q11 : Unit) (y12 : Unit) => [(3, iv .i64 0)])) (Ωb := (fun (q11 : Unit) (y12 : Unit) => [])) (kr := (fun a : Int => some a)) 0 () (weak [] ⟨rfl, rfl, rfl, rfl, trivial⟩ trivial) (fun s6 x7 => ?_) (fun q11 y12 => ?_)
  · unfold cmp_Or_int_l1
    refine ref_seq (ref_region ?_)
    refine s_rd (r_lss rfl rfl) rfl ?_
    refine l_nil (n_then (ref_seq ?_))
    refine ref_cond rfl (fun hb8 => ?_) (fun hb8 => ?_)
    · refine ref_skip (n_then (ref_seq (ref_block (ref_seq (ref_region ?_)))))
      refine pull fun val9 h_val9 => ?_
      refine s_rd (r_index h_val9 Tryd.underlying22 el_3 rfl rfl) rfl ?_
      refine s_rd (r_load el_3 rfl) rfl ?_
      refine as1 rfl rfl ?_
      refine l_nil (n_then (ref_seq (ref_region ?_)))
      refine mv1 rfl rfl ?_
      refine mv1 rfl rfl ?_
      refine s_rd (r_neq rfl rfl) rfl ?_
      refine l_nil (n_then ?_)
      refine ref_cond rfl (fun hb10 => ?_) (fun hb10 => ?_)
      · refine ref_seq (ref_region ?_)
        refine mv1 rfl rfl ?_
        refine as1 rfl rfl ?_
        refine l_nil (n_then (ref_ret (r_block (r_then ?_))))
        refine retX ?_
        refine r_block (r_then ?_)
        exact fin1 (.inl rfl) () [] rfl trivial rfl (rv_tmp rfl)
      refine ref_skip (n_block (n_then (ref_region ?_)))
      refine s_rd (r_add rfl rfl) rfl ?_
      refine mv1 rfl rfl ?_
      refine l_nil ?_
      exact goX () (weak [] ⟨rfl, rfl, rfl, rfl, trivial⟩ trivial)
    refine ref_exit (x_then ?_)
    exact brkX () (weak [] ⟨rfl, trivial⟩ trivial)
  refine n_then (ref_seq (ref_region ?_))
  refine mv1 rfl rfl ?_
  refine as1 rfl rfl ?_
  refine l_nil (n_then (ref_ret ?_))
  exact fin1 (.inl rfl) () [] rfl trivial rfl (rv_tmp rfl)

/-! deliberation/graph.compare -/
noncomputable def graph_compare_m (a__0 : T_api_Pair) (b_1 : T_api_Pair) : Option (Int) :=
  Option.bind (cmp_Compare_int_m a__0.From b_1.From) fun t3 =>
  Option.bind (cmp_Compare_int_m a__0.To b_1.To) fun t4 =>
  Option.bind (cmp_Or_int_m [t3, t4]) fun t5 =>
  some t5

theorem graph_compare_ok {a__0 : T_api_Pair} {b_1 : T_api_Pair} {r : Int} (hm : graph_compare_m a__0 b_1 = some r) :
    FnOk prog 101 [ag [iv .i64 a__0.From, iv .i64 a__0.To], ag [iv .i64 b_1.From, iv .i64 b_1.To]] [] (fun (x : Unit) => [iv .i64 r]) (fun (x : Unit) => []) := by
  refine fn_ok (fn := Tryd.f101) (N := 17) (res := fun r x => [iv .i64 r]) (Ω1 := fun r x => []) Tryd.func101 rfl rfl hm rfl (fun E hM => ?_)
  unfold graph_compare_m
  refine ref_seq (ref_region ?_)
  refine s_st (s_box (part_agO (ψs := [iv .i64 a__0.From, iv .i64 a__0.To]) rfl ⟨.inl iv_at, .inl iv_at, trivial⟩)) rfl (fun b1 => ?_)
  refine s_st (s_box (part_agO (ψs := [iv .i64 b_1.From, iv .i64 b_1.To]) rfl ⟨.inl iv_at, .inl iv_at, trivial⟩)) rfl (fun b2 => ?_)
  refine as1 rfl rfl ?_
  refine l_nil (n_then (ref_seq ?_))
  refine ref_draw [0, 1, 2, 3, 5, 6, 7, 8] rfl (by kernel_rfl) (fun hok => ?_)
  refine a_rd (i := 0) hok rfl (by kernel_rfl) rfl (r_faddr (fo := 0) Tryd.underlying57 rfl rfl Tryd.sizeOf3 rfl) rfl ?_
  refine a_rd (i := 1) hok rfl (by kernel_rfl) rfl (r_cload Tryd.isAgg3 rfl (j := 0) rfl rfl) rfl ?_
  refine a_rd (i := 2) hok rfl (by kernel_rfl) rfl (r_faddr (fo := 0) Tryd.underlying57 rfl rfl Tryd.sizeOf3 rfl) rfl ?_
  refine a_rd (i := 3) hok rfl (by kernel_rfl) rfl (r_cload Tryd.isAgg3 rfl (j := 1) rfl rfl) rfl ?_
  refine a_rd (i := 5) hok rfl (by kernel_rfl) rfl (r_faddr (fo := 1) Tryd.underlying57 rfl rfl Tryd.sizeOf3 rfl) rfl ?_
  refine a_rd (i := 6) hok rfl (by kernel_rfl) rfl (r_cload Tryd.isAgg3 rfl (j := 0) rfl rfl) rfl ?_
  refine a_rd (i := 7) hok rfl (by kernel_rfl) rfl (r_faddr (fo := 1) Tryd.underlying57 rfl rfl Tryd.sizeOf3 rfl) rfl ?_
  refine a_rd (i := 8) hok rfl (by kernel_rfl) rfl (r_cload Tryd.isAgg3 rfl (j := 1) rfl rfl) rfl ?_
  refine pull fun t3 h_t3 => ?_
  refine a_next hok 4 [] (by kernel_rfl) ?_ trivial
  refine a_st (i := 4) hok rfl rfl (s_call (ψ := fun (_ : Unit) => iv .i64 t3) (args := [.tmp 6, .tmp 8]) Tryd.call103 rfl (cmp_Compare_int_ok h_t3) ⟨arg rfl, arg rfl, trivial⟩ (fun _ _ _ _ h => h)) (by intro _ h; cases h; rfl) (fun _ => ⟨⟨⟨rfl, rfl⟩, trivial⟩, ⟨trivial, ⟨⟨⟨rfl, rfl⟩, trivial⟩, ⟨trivial, ⟨trivial, ⟨trivial, ⟨trivial, ⟨trivial, trivial⟩⟩⟩⟩⟩⟩⟩⟩) (fun _ => ?_)
  refine pull fun t4 h_t4 => ?_
  refine a_next hok 9 [] (by kernel_rfl) ?_ trivial
  refine a_st (i := 9) hok rfl rfl (s_call (ψ := fun (_ : Unit) => iv .i64 t4) (args := [.tmp 11, .tmp 13]) Tryd.call103 rfl (cmp_Compare_int_ok h_t4) ⟨arg rfl, arg rfl, trivial⟩ (fun _ _ _ _ h => h)) (by intro _ h; cases h; rfl) (fun _ => ⟨trivial, ⟨trivial, ⟨trivial, ⟨trivial, ⟨⟨⟨rfl, rfl⟩, trivial⟩, ⟨trivial, ⟨⟨⟨rfl, rfl⟩, trivial⟩, ⟨trivial, trivial⟩⟩⟩⟩⟩⟩⟩⟩) (fun _ => ?_)
  refine a_next hok 10 [] (by kernel_rfl) ?_ trivial
  refine a_st (i := 10) hok rfl rfl (s_bslice (xs := [.tmp 9, .tmp 14]) (ds := [t3, t4]) Tryd.underlying22 el_3 rfl (Nat.le_of_ble_eq_true rfl) ⟨(part_at rfl iv_at), ⟨(part_at rfl iv_at), trivial⟩⟩) (by intro _ h; cases h; rfl) (fun _ => ⟨⟨⟨rfl, rfl⟩, trivial⟩, ⟨trivial, ⟨⟨⟨rfl, rfl⟩, trivial⟩, ⟨trivial, ⟨⟨⟨rfl, rfl⟩, trivial⟩, ⟨trivial, ⟨⟨⟨rfl, rfl⟩, trivial⟩, ⟨trivial, trivial⟩⟩⟩⟩⟩⟩⟩⟩) (fun _ => ?_)
  refine pull fun t5 h_t5 => ?_
  refine a_next hok 11 [] (by kernel_rfl) ?_ trivial
  refine a_st (i := 11) hok rfl rfl (s_call (ψ := fun (_ : Unit) => iv .i64 t5) (args := [.tmp 15]) Tryd.call102 rfl (cmp_Or_int_ok h_t5) ⟨arg rfl, trivial⟩ (fun _ _ _ _ h => h)) (by intro _ h; cases h; rfl) (fun _ => ⟨⟨⟨rfl, rfl⟩, trivial⟩, ⟨trivial, ⟨⟨⟨rfl, rfl⟩, trivial⟩, ⟨trivial, ⟨⟨⟨rfl, rfl⟩, trivial⟩, ⟨trivial, ⟨⟨⟨rfl, rfl⟩, trivial⟩, ⟨trivial, trivial⟩⟩⟩⟩⟩⟩⟩⟩) (fun _ => ?_)
  refine a_next hok 12 [] (by kernel_rfl) ?_ trivial
  refine a_st (i := 12) hok rfl rfl (St.ofRd (r_assign rfl)) (by intro _ h; cases h; rfl) (fun _ => ⟨trivial, ⟨trivial, ⟨trivial, ⟨trivial, ⟨trivial, ⟨trivial, ⟨trivial, ⟨trivial, trivial⟩⟩⟩⟩⟩⟩⟩⟩) (fun _ => ?_)
  refine a_fin hok (by kernel_rfl) ?_
  refine b_of (nrm [oc b1 [iv .i64 a__0.From, iv .i64 a__0.To], oc b2 [iv .i64 b_1.From, iv .i64 b_1.To]] rfl) ?_
  refine n_then (ref_ret ?_)
  exact fin1 (.inl rfl) () [] rfl trivial rfl (rv_tmp rfl)

/-! deliberation/graph.Validate -/
noncomputable def graph_Validate_l1 (g_0 : T_api_Graph) (s12 : Int) : Option (Sum ((Sum (Int) (Unit))) (Int)) :=
  bif decide (s12 < (g_0.L.length : Int)) then
    Option.bind (idxM g_0.L s12) fun t15 =>
    bif decide ((imin t15.From t15.To) < 0) then
      some (Sum.inl (Sum.inl 1))
    else
      bif decide ((imax t15.From t15.To) ≥ g_0.N) then
        some (Sum.inl (Sum.inl 1))
      else
        bif decide (s12 > 0) then
          Option.bind (idxM g_0.L (isub .i64 s12 1)) fun t18 =>
          Option.bind (graph_compare_m t18 t15) fun t19 =>
          bif decide (t19 ≥ 0) then
            some (Sum.inl (Sum.inl 8))
          else
            some (Sum.inr (iadd .i64 s12 1))
        else
          some (Sum.inr (iadd .i64 s12 1))
  else
    some (Sum.inl (Sum.inr ()))

noncomputable def graph_Validate_m (g_0 : T_api_Graph) : Option (Int) :=
  bif decide (g_0.N < 0) then
    some 1
  else
    bif decide (g_0.N > 40) then
      some 1
    else
      Option.bind (loopC (graph_Validate_l1 g_0) 0) (sumK (fun a : Int => some a) fun q21 : Unit =>
        some 0)

theorem graph_Validate_ok {g_0 : T_api_Graph} {r : Int} (hm : graph_Validate_m g_0 = some r) :
    FnOk prog 99 [ag [iv .i64 g_0.N, slv rT_api_Pair g_0.L]] [] (fun (x : Unit) => [iv .i64 r]) (fun (x : Unit) => []) := by
  refine fn_ok (fn := Tryd.f99) (N := 51) (res := fun r x => [iv .i64 r]) (Ω1 := fun r x => []) Tryd.func99 rfl rfl hm rfl (fun E hM => ?_)
  unfold graph_Validate_m
  refine ref_seq (ref_region ?_)
  refine s_st (s_box (part_agO (ψs := [iv .i64 g_0.N, slv rT_api_Pair g_0.L]) rfl ⟨.inl iv_at, .inl slv_at, trivial⟩)) rfl (fun b1 => ?_)
  refine as1 rfl rfl ?_
  refine l_nil (n_then (ref_seq (ref_seq (ref_region ?_))))
  refine s_rd (r_faddr (fo := 0) Tryd.underlying50 rfl rfl Tryd.sizeOf3 rfl) rfl ?_
  refine s_rd (r_cload Tryd.isAgg3 rfl (j := 0) rfl rfl) rfl ?_
  refine s_rd (r_lss rfl rfl) rfl ?_
  refine mv1 rfl rfl ?_
  refine b_split (t := 8) rfl (fun _ => ?_) (fun _ => ?_)
  · refine s_off rfl rfl rfl rfl rfl ?_
    refine s_off rfl rfl rfl rfl rfl ?_
    refine s_off rfl rfl rfl rfl rfl ?_
    refine s_rd (r_pickT rfl rfl) rfl ?_
    refine l_nil (n_then ?_)
    refine ref_condT rfl rfl ?_
    refine ref_seq (ref_region ?_)
    refine as1 rfl rfl ?_
    refine l_nil (n_then (ref_ret (r_then ?_)))
    exact fin1 (.inl rfl) () [] rfl trivial rfl (rv_tmp rfl)
  refine s_on rfl rfl rfl ?_
  refine s_rd (r_faddr (fo := 0) Tryd.underlying50 rfl rfl Tryd.sizeOf3 rfl) rfl ?_
  refine s_on rfl rfl rfl ?_
  refine s_rd (r_cload Tryd.isAgg3 rfl (j := 0) rfl rfl) rfl ?_
  refine s_on rfl rfl rfl ?_
  refine s_rd (r_gtr rfl rfl) rfl ?_
  refine s_rd (r_pickF rfl rfl) rfl ?_
  refine l_nil (n_then ?_)
  refine ref_cond rfl (fun hb2 => ?_) (fun hb2 => ?_)
  · refine ref_seq (ref_region ?_)
    refine as1 rfl rfl ?_
    refine l_nil (n_then (ref_ret (r_then ?_)))
    exact fin1 (.inl rfl) () [] rfl trivial rfl (rv_tmp rfl)
  refine ref_skip (n_then (ref_seq (ref_seq (ref_region ?_))))
  refine s_rd (r_faddr (fo := 1) Tryd.underlying50 rfl rfl Tryd.sizeOf48 rfl) rfl ?_
  refine s_rd (r_cload Tryd.isAgg48 rfl (j := 0) rfl rfl) rfl ?_
  refine s_rd (r_len Tryd.underlying48 rfl) rfl ?_
  refine mv1 rfl rfl ?_
  refine l_nil (n_then ?_)
  refine ref_loopX (f := (graph_Validate_l1 g_0)) (Γl := (fun (s12 : Int) (x13 : Unit) => [(1, pv (ptr b1 0)), (14, slv rT_api_Pair g_0.L), (15, iv .i64 (g_0.L.length : Int)), (16, iv .i64 s12)])) (Ωl := (fun (s12 : Int) (x13 : Unit) => [oc b1 [iv .i64 g_0.N, slv rT_api_Pair g_0.L]])) (Γb := (fun (q21 : Unit) (y22 : Unit) => [])) (Ωb := (fun (q21 : Unit) (y22 : Unit) => [])) (kr := (fun a : Int => some a)) 0 () (weak [0] ⟨rfl, rfl, rfl, rfl, trivial⟩ ⟨rfl, trivial⟩) (fun s12 x13 => ?_) (fun q21 y22 => ?_)
  · unfold graph_Validate_l1
    refine ref_seq (ref_region ?_)
    refine s_rd (r_lss rfl rfl) rfl ?_
    refine l_nil (n_then (ref_seq ?_))
    refine ref_cond rfl (fun hb14 => ?_) (fun hb14 => ?_)
    · refine ref_skip (n_then (ref_seq (ref_block (ref_seq (ref_region ?_)))))
      refine mv1 rfl rfl ?_
      refine pull fun t15 h_t15 => ?_
      refine s_rd (r_index h_t15 Tryd.underlying48 el_57 rfl rfl) rfl ?_
      refine s_rd (r_load el_57 rfl) rfl ?_
      refine s_st (s_alloc zt_57) rfl (fun b16 => ?_)
      refine as1 rfl rfl ?_
      refine s_st0 (s_cstore (out := [iv .i64 t15.From, iv .i64 t15.To]) Tryd.sizeOf57 rfl (j := 1) rfl (part_agO (ψs := [iv .i64 t15.From, iv .i64 t15.To]) rfl ⟨.inl iv_at, .inl iv_at, trivial⟩) rfl rfl rfl) (fun _ => ?_)
      refine l_nil (n_then (ref_seq (ref_seq (ref_region ?_))))
      refine s_rd (r_faddr (fo := 0) Tryd.underlying57 rfl rfl Tryd.sizeOf3 rfl) rfl ?_
      refine s_rd (r_cload Tryd.isAgg3 rfl (j := 1) rfl rfl) rfl ?_
      refine s_rd (r_faddr (fo := 1) Tryd.underlying57 rfl rfl Tryd.sizeOf3 rfl) rfl ?_
      refine s_rd (r_cload Tryd.isAgg3 rfl (j := 1) rfl rfl) rfl ?_
      refine s_rd (r_min rfl rfl) rfl ?_
      refine s_rd (r_lss rfl rfl) rfl ?_
      refine mv1 rfl rfl ?_
      refine b_split (t := 27) rfl (fun _ => ?_) (fun _ => ?_)
      · refine s_off rfl rfl rfl rfl rfl ?_
        refine s_off rfl rfl rfl rfl rfl ?_
        refine s_off rfl rfl rfl rfl rfl ?_
        refine s_off rfl rfl rfl rfl rfl ?_
        refine s_off rfl rfl rfl rfl rfl ?_
        refine s_off rfl rfl rfl rfl rfl ?_
        refine s_off rfl rfl rfl rfl rfl ?_
        refine s_off rfl rfl rfl rfl rfl ?_
        refine s_rd (r_pickT rfl rfl) rfl ?_
        refine l_nil (n_then ?_)
        refine ref_condT rfl rfl ?_
        refine ref_seq (ref_region ?_)
        refine as1 rfl rfl ?_
        refine l_nil (n_then (ref_ret (r_then (r_block (r_then ?_)))))
        refine retX ?_
        refine r_block (r_then ?_)
        exact fin1 (.inl rfl) () [] rfl trivial rfl (rv_tmp rfl)
      refine s_on rfl rfl rfl ?_
      refine s_rd (r_faddr (fo := 0) Tryd.underlying57 rfl rfl Tryd.sizeOf3 rfl) rfl ?_
      refine s_on rfl rfl rfl ?_
      refine s_rd (r_cload Tryd.isAgg3 rfl (j := 1) rfl rfl) rfl ?_
      refine s_on rfl rfl rfl ?_
      refine s_rd (r_faddr (fo := 1) Tryd.underlying57 rfl rfl Tryd.sizeOf3 rfl) rfl ?_
      refine s_on rfl rfl rfl ?_
      refine s_rd (r_cload Tryd.isAgg3 rfl (j := 1) rfl rfl) rfl ?_
      refine s_on rfl rfl rfl ?_
      refine s_rd (r_max rfl rfl) rfl ?_
      refine s_on rfl rfl rfl ?_
      refine s_rd (r_faddr (fo := 0) Tryd.underlying50 rfl rfl Tryd.sizeOf3 rfl) rfl ?_
      refine s_on rfl rfl rfl ?_
      refine s_rd (r_cload Tryd.isAgg3 rfl (j := 0) rfl rfl) rfl ?_
      refine s_on rfl rfl rfl ?_
      refine s_rd (r_geq rfl rfl) rfl ?_
      refine s_rd (r_pickF rfl rfl) rfl ?_
      refine l_nil (n_then ?_)
      refine ref_cond rfl (fun hb17 => ?_) (fun hb17 => ?_)
      · refine ref_seq (ref_region ?_)
        refine as1 rfl rfl ?_
        refine l_nil (n_then (ref_ret (r_then (r_block (r_then ?_)))))
        refine retX ?_
        refine r_block (r_then ?_)
        exact fin1 (.inl rfl) () [] rfl trivial rfl (rv_tmp rfl)
      refine ref_skip (n_then (ref_seq ?_))
      refine ref_draw [0, 1, 2, 3, 4, 5, 6, 7, 8, 9, 11, 12] rfl (by kernel_rfl) (fun hok => ?_)
      refine a_rd (i := 0) hok rfl (by kernel_rfl) rfl (r_move rfl) rfl ?_
      refine a_rd (i := 1) hok rfl (by kernel_rfl) rfl (r_gtr rfl rfl) rfl ?_
      refine a_rd (i := 2) hok rfl (by kernel_rfl) rfl (r_move rfl) rfl ?_
      refine b_split (t := 39) rfl (fun _ => ?_) (fun _ => ?_)
      · refine a_rdOn (i := 3) hok rfl rfl rfl rfl (by kernel_rfl) rfl (r_faddr (fo := 1) Tryd.underlying50 rfl rfl Tryd.sizeOf48 rfl) rfl ?_
        refine a_rdOn (i := 4) hok rfl rfl rfl rfl (by kernel_rfl) rfl (r_cload Tryd.isAgg48 rfl (j := 0) rfl rfl) rfl ?_
        refine a_rdOn (i := 5) hok rfl rfl rfl rfl (by kernel_rfl) rfl (r_move rfl) rfl ?_
        refine a_rdOn (i := 6) hok rfl rfl rfl rfl (by kernel_rfl) rfl (r_sub rfl rfl) rfl ?_
        refine pull fun t18 h_t18 => ?_
        refine a_rdOn (i := 7) hok rfl rfl rfl rfl (by kernel_rfl) rfl (r_index h_t18 Tryd.underlying48 el_57 rfl rfl) rfl ?_
        refine a_rdOn (i := 8) hok rfl rfl rfl rfl (by kernel_rfl) rfl (r_load el_57 rfl) rfl ?_
        refine a_rdOn (i := 9) hok rfl rfl rfl rfl (by kernel_rfl) rfl (r_cloadS Tryd.isAgg57 Tryd.sizeOf57 rfl (j := 1) rfl rfl rfl) rfl ?_
        refine pull fun t19 h_t19 => ?_
        refine a_next hok 10 [] (by kernel_rfl) ?_ trivial
        refine a_stOn (i := 10) hok rfl rfl rfl rfl rfl (s_call (ψ := fun (_ : Unit) => iv .i64 t19) (args := [.tmp 45, .tmp 46]) Tryd.call101 rfl (graph_compare_ok h_t19) ⟨arg rfl, arg rfl, trivial⟩ (fun _ _ _ _ h => h)) (by intro _ h; cases h; rfl) (fun _ => ⟨trivial, ⟨trivial, ⟨trivial, ⟨trivial, ⟨trivial, ⟨⟨⟨rfl, rfl⟩, trivial⟩, ⟨trivial, ⟨trivial, ⟨trivial, ⟨trivial, trivial⟩⟩⟩⟩⟩⟩⟩⟩⟩⟩) (fun _ => ?_)
        refine a_rdOn (i := 11) hok rfl rfl rfl rfl (by kernel_rfl) rfl (r_geq rfl rfl) rfl ?_
        refine a_rd (i := 12) hok rfl (by kernel_rfl) rfl (r_pickT rfl rfl) rfl ?_
        refine a_fin hok (by kernel_rfl) ?_
        refine b_of (nrm [oc b1 [iv .i64 g_0.N, slv rT_api_Pair g_0.L], oc b16 [iv .i64 t15.From, iv .i64 t15.To]] rfl) ?_
        refine n_then ?_
        refine ref_cond rfl (fun hb20 => ?_) (fun hb20 => ?_)
        · refine ref_seq (ref_region ?_)
          refine as1 rfl rfl ?_
          refine l_nil (n_then (ref_ret (r_block (r_then ?_))))
          refine retX ?_
          refine r_block (r_then ?_)
          exact fin1 (.inl rfl) () [] rfl trivial rfl (rv_tmp rfl)
        refine ref_skip (n_block (n_then (ref_region ?_)))
        refine s_rd (r_add rfl rfl) rfl ?_
        refine mv1 rfl rfl ?_
        refine l_nil ?_
        exact goX () (weak [0] ⟨rfl, rfl, rfl, rfl, trivial⟩ ⟨rfl, trivial⟩)
      refine a_off (i := 3) hok rfl rfl rfl rfl rfl (by kernel_rfl) rfl rfl ?_
      refine a_off (i := 4) hok rfl rfl rfl rfl rfl (by kernel_rfl) rfl rfl ?_
      refine a_off (i := 5) hok rfl rfl rfl rfl rfl (by kernel_rfl) rfl rfl ?_
      refine a_off (i := 6) hok rfl rfl rfl rfl rfl (by kernel_rfl) rfl rfl ?_
      refine a_off (i := 7) hok rfl rfl rfl rfl rfl (by kernel_rfl) rfl rfl ?_
      refine a_off (i := 8) hok rfl rfl rfl rfl rfl (by kernel_rfl) rfl rfl ?_
      refine a_off (i := 9) hok rfl rfl rfl rfl rfl (by kernel_rfl) rfl rfl ?_
      refine a_next hok 10 [] (by kernel_rfl) ?_ trivial
      refine a_stOff (i := 10) hok rfl rfl rfl rfl rfl rfl (by intro _ h; cases h; rfl) ⟨trivial, ⟨trivial, ⟨trivial, ⟨trivial, ⟨trivial, ⟨trivial, ⟨trivial, ⟨trivial, ⟨trivial, ⟨trivial, trivial⟩⟩⟩⟩⟩⟩⟩⟩⟩⟩ ?_
      refine a_off (i := 11) hok rfl rfl rfl rfl rfl (by kernel_rfl) rfl rfl ?_
      refine a_rd (i := 12) hok rfl (by kernel_rfl) rfl (r_pickF rfl rfl) rfl ?_
      refine a_fin hok (by kernel_rfl) ?_
      refine n_then ?_
      refine ref_condF rfl rfl ?_
      refine ref_skip (n_block (n_then (ref_region ?_)))
      refine s_rd (r_add rfl rfl) rfl ?_
      refine mv1 rfl rfl ?_
      refine l_nil ?_
      exact goX () (weak [0] ⟨rfl, rfl, rfl, rfl, trivial⟩ ⟨rfl, trivial⟩)
    refine ref_exit (x_then ?_)
    exact brkX () (weak [] trivial trivial)
  refine n_then (ref_seq (ref_region ?_))
  refine as1 rfl rfl ?_
  refine l_nil (n_then (ref_ret ?_))
  exact fin1 (.inl rfl) () [] rfl trivial rfl (rv_tmp rfl)

/-! deliberation/graph.proper -/
noncomputable def graph_proper_m (g_0 : T_api_Graph) : Option (T_api_Graph) :=
  Option.bind (graph_Validate_m g_0) fun t3 =>
  bif t3 != 0 then
    some (T_api_Graph.mk 0 [])
  else
    some g_0

theorem graph_proper_ok {g_0 : T_api_Graph} {r : T_api_Graph} (hm : graph_proper_m g_0 = some r) :
    FnOk prog 93 [ag [iv .i64 g_0.N, slv rT_api_Pair g_0.L]] [] (fun (x : Unit) => [ag [iv .i64 r.N, slv rT_api_Pair r.L]]) (fun (x : Unit) => []) := by
  refine fn_ok (fn := Tryd.f93) (N := 8) (res := fun r x => [ag [iv .i64 r.N, slv rT_api_Pair r.L]]) (Ω1 := fun r x => []) Tryd.func93 rfl rfl hm rfl (fun E hM => ?_)
  unfold graph_proper_m
  refine ref_seq (ref_region ?_)
  refine s_st (s_box (part_agO (ψs := [iv .i64 g_0.N, slv rT_api_Pair g_0.L]) rfl ⟨.inl iv_at, .inl slv_at, trivial⟩)) rfl (fun b1 => ?_)
  refine s_st (s_alloc zt_50) rfl (fun b2 => ?_)
  refine l_nil (n_then (ref_seq (ref_seq (ref_region ?_))))
  refine s_rd (r_cloadS Tryd.isAgg50 Tryd.sizeOf50 rfl (j := 0) rfl rfl rfl) rfl ?_
  refine pull fun t3 h_t3 => ?_
  refine s_st (s_call (ψ := fun (_ : Unit) => iv .i64 t3) (args := [.tmp 3]) Tryd.call99 rfl (graph_Validate_ok h_t3) ⟨arg rfl, trivial⟩ (fun _ _ _ _ h => h)) rfl (fun _ => ?_)
  refine s_rd (r_neq rfl rfl) rfl ?_
  refine l_nil (n_then ?_)
  refine ref_cond rfl (fun hb4 => ?_) (fun hb4 => ?_)
  · refine ref_seq (ref_region ?_)
    refine s_rd (r_build (ps := []) (rs := []) st_50 zs_50 trivial rfl rfl) rfl ?_
    refine s_st0 (s_cstore (out := [iv .i64 0, pv (.slice none 0 0)]) Tryd.sizeOf50 rfl (j := 1) rfl (part_agO (ψs := [iv .i64 0, pv (.slice none 0 0)]) rfl ⟨.inl iv_at, .inl (pv_at rfl), trivial⟩) rfl rfl rfl) (fun _ => ?_)
    refine l_nil ?_
    refine b_of (nrm [oc b1 [iv .i64 g_0.N, slv rT_api_Pair g_0.L], oc b2 [iv .i64 0, pv (.slice none 0 0)]] rfl) ?_
    refine n_then (ref_ret (r_then ?_))
    refine b_of (ocW 1 [iv .i64 0, slv rT_api_Pair []] rfl ⟨imp_rfl, nil_sl, trivial⟩) ?_
    exact fin1 (.inl rfl) () [] rfl trivial rfl (rv_cell rfl (j := 1) rfl Tryd.isAgg50 Tryd.sizeOf50 rfl rfl)
  refine ref_skip (n_then (ref_seq (ref_region ?_)))
  refine s_rd (r_cloadS Tryd.isAgg50 Tryd.sizeOf50 rfl (j := 0) rfl rfl rfl) rfl ?_
  refine s_st0 (s_cstore (out := [iv .i64 g_0.N, slv rT_api_Pair g_0.L]) Tryd.sizeOf50 rfl (j := 1) rfl (part_agO (ψs := [iv .i64 g_0.N, slv rT_api_Pair g_0.L]) rfl ⟨.inl iv_at, .inl slv_at, trivial⟩) rfl rfl rfl) (fun _ => ?_)
  refine l_nil ?_
  refine b_of (nrm [oc b1 [iv .i64 g_0.N, slv rT_api_Pair g_0.L], oc b2 [iv .i64 g_0.N, slv rT_api_Pair g_0.L]] rfl) ?_
  refine n_then (ref_ret ?_)
  exact fin1 (.inl rfl) () [] rfl trivial rfl (rv_cell rfl (j := 1) rfl Tryd.isAgg50 Tryd.sizeOf50 rfl rfl)

/-! deliberation/graph.masks -/
noncomputable def graph_masks_l1 (g_0 : T_api_Graph) (s20 : Int × (List Int)) : Option (Sum ((List Int)) (Int × (List Int))) :=
  bif decide (s20.1 < (g_0.L.length : Int)) then
    Option.bind (idxM g_0.L s20.1) fun t23 =>
    Option.bind (idxM s20.2 t23.From) fun t25 =>
    Option.bind (ishlM .u64 1 t23.To) fun t26 =>
    Option.bind (idxM s20.2 t23.From) fun t27 =>
    some (Sum.inr (iadd .i64 s20.1 1, s20.2.set (Int.toNat t23.From) (ior .u64 t25 t26)))
  else
    some (Sum.inl s20.2)

noncomputable def graph_masks_m (g_0 : T_api_Graph) : Option (List Int) :=
  Option.bind (mkM 8 0 g_0.N) fun out2 =>
  Option.bind (loopC (graph_masks_l1 g_0) (0, out2)) fun q28 : (List Int) =>
  some q28

theorem graph_masks_ok {g_0 : T_api_Graph} {r : List Int} (hm : graph_masks_m g_0 = some r) :
    FnOk prog 95 [ag [iv .i64 g_0.N, slv rT_api_Pair g_0.L]] [] (fun (x : (Value × List Nat)) => [pv x.1]) (fun (x : (Value × List Nat)) => [oa (rI .u64) x.1 x.2 r]) := by
  refine fn_ok (X := (Value × List Nat)) (fn := Tryd.f95) (N := 28) (res := fun r x => [pv x.1]) (Ω1 := fun r x => [oa (rI .u64) x.1 x.2 r]) Tryd.func95 rfl rfl hm rfl (fun E hM => ?_)
  unfold graph_masks_m
  refine ref_seq (ref_region ?_)
  refine s_st (s_box (part_agO (ψs := [iv .i64 g_0.N, slv rT_api_Pair g_0.L]) rfl ⟨.inl iv_at, .inl slv_at, trivial⟩)) rfl (fun b1 => ?_)
  refine as1 rfl rfl ?_
  refine l_nil (n_then (ref_seq (ref_region ?_)))
  refine s_rd (r_faddr (fo := 0) Tryd.underlying50 rfl rfl Tryd.sizeOf3 rfl) rfl ?_
  refine s_rd (r_cload Tryd.isAgg3 rfl (j := 0) rfl rfl) rfl ?_
  refine pull fun out2 h_out2 => ?_
  refine s_st (s_make h_out2 Tryd.underlying124 el_107 ze_107 rfl rfl) rfl (fun o3 => ?_)
  refine as1 rfl rfl ?_
  refine l_nil (n_then (ref_seq (ref_seq (ref_region ?_))))
  refine s_rd (r_faddr (fo := 1) Tryd.underlying50 rfl rfl Tryd.sizeOf48 rfl) rfl ?_
  refine s_rd (r_cload Tryd.isAgg48 rfl (j := 0) rfl rfl) rfl ?_
  refine s_rd (r_len Tryd.underlying48 rfl) rfl ?_
  refine mv1 rfl rfl ?_
  refine l_nil (n_then ?_)
  refine ref_loopB (f := (graph_masks_l1 g_0)) (Γl := (fun (s20 : Int × (List Int)) (x21 : Unit) => [(3, pv o3.1), (10, slv rT_api_Pair g_0.L), (11, iv .i64 (g_0.L.length : Int)), (12, iv .i64 s20.1)])) (Ωl := (fun (s20 : Int × (List Int)) (x21 : Unit) => [oa (rI .u64) o3.1 o3.2 s20.2])) (Γb := (fun (q28 : (List Int)) (y29 : Unit) => [(3, pv o3.1)])) (Ωb := (fun (q28 : (List Int)) (y29 : Unit) => [oa (rI .u64) o3.1 o3.2 q28])) (0, out2) () (weak [1] ⟨rfl, rfl, rfl, rfl, trivial⟩ ⟨rfl, trivial⟩) (fun s20 x21 => ?_) (fun q28 y29 => ?_)
  · unfold graph_masks_l1
    refine ref_seq (ref_region ?_)
    refine s_rd (r_lss rfl rfl) rfl ?_
    refine l_nil (n_then (ref_seq ?_))
    refine ref_cond rfl (fun hb22 => ?_) (fun hb22 => ?_)
    · refine ref_skip (n_then (ref_seq (ref_block (ref_seq (ref_region ?_)))))
      refine pull fun t23 h_t23 => ?_
      refine s_rd (r_index h_t23 Tryd.underlying48 el_57 rfl rfl) rfl ?_
      refine s_rd (r_load el_57 rfl) rfl ?_
      refine s_st (s_alloc zt_57) rfl (fun b24 => ?_)
      refine s_st0 (s_cstore (out := [iv .i64 t23.From, iv .i64 t23.To]) Tryd.sizeOf57 rfl (j := 1) rfl (part_agO (ψs := [iv .i64 t23.From, iv .i64 t23.To]) rfl ⟨.inl iv_at, .inl iv_at, trivial⟩) rfl rfl rfl) (fun _ => ?_)
      refine l_nil ?_
      refine b_of (nrm [oa (rI .u64) o3.1 o3.2 s20.2, oc b24 [iv .i64 t23.From, iv .i64 t23.To]] rfl) ?_
      refine n_then ?_
      refine ref_draw [0, 1, 2, 3, 4, 5, 6, 7, 8, 9] rfl (by kernel_rfl) (fun hok => ?_)
      refine a_rd (i := 0) hok rfl (by kernel_rfl) rfl (r_move rfl) rfl ?_
      refine a_rd (i := 1) hok rfl (by kernel_rfl) rfl (r_faddr (fo := 0) Tryd.underlying57 rfl rfl Tryd.sizeOf3 rfl) rfl ?_
      refine a_rd (i := 2) hok rfl (by kernel_rfl) rfl (r_cload Tryd.isAgg3 rfl (j := 1) rfl rfl) rfl ?_
      refine pull fun t25 h_t25 => ?_
      refine a_rd (i := 3) hok rfl (by kernel_rfl) rfl (r_oindex h_t25 Tryd.underlying124 el_107 rfl (j := 0) rfl rfl) rfl ?_
      refine a_rd (i := 4) hok rfl (by kernel_rfl) rfl (r_oload h_t25 el_107 rfl (j := 0) rfl) rfl ?_
      refine a_rd (i := 5) hok rfl (by kernel_rfl) rfl (r_faddr (fo := 1) Tryd.underlying57 rfl rfl Tryd.sizeOf3 rfl) rfl ?_
      refine a_rd (i := 6) hok rfl (by kernel_rfl) rfl (r_cload Tryd.isAgg3 rfl (j := 1) rfl rfl) rfl ?_
      refine pull fun t26 h_t26 => ?_
      refine a_rd (i := 7) hok rfl (by kernel_rfl) rfl (r_shlM h_t26 rfl rfl) rfl ?_
      refine a_rd (i := 8) hok rfl (by kernel_rfl) rfl (r_or rfl rfl) rfl ?_
      refine pull fun t27 h_t27 => ?_
      refine a_rd (i := 9) hok rfl (by kernel_rfl) rfl (r_oindex h_t27 Tryd.underlying124 el_107 rfl (j := 0) rfl rfl) rfl ?_
      refine a_next hok 10 [] (by kernel_rfl) ?_ trivial
      refine a_st (i := 10) hok rfl rfl (s_ostore (u := ior .u64 t25 t26) h_t27 el_107 rfl (j := 0) rfl (part_at rfl iv_at)) (by intro _ h; cases h) (fun _ => ⟨trivial, ⟨trivial, ⟨trivial, ⟨trivial, ⟨trivial, ⟨trivial, ⟨trivial, ⟨trivial, ⟨trivial, ⟨trivial, trivial⟩⟩⟩⟩⟩⟩⟩⟩⟩⟩) (fun _ => ?_)
      refine a_fin hok (by kernel_rfl) ?_
      refine n_block (n_then (ref_region ?_))
      refine s_rd (r_add rfl rfl) rfl ?_
      refine mv1 rfl rfl ?_
      refine l_nil ?_
      exact goB () (weak [0] ⟨rfl, rfl, rfl, rfl, trivial⟩ ⟨rfl, trivial⟩)
    refine ref_exit (x_then ?_)
    exact brkB () (weak [0] ⟨rfl, trivial⟩ ⟨rfl, trivial⟩)
  refine n_then (ref_seq (ref_region ?_))
  refine mv1 rfl rfl ?_
  refine as1 rfl rfl ?_
  refine l_nil (n_then (ref_ret ?_))
  exact fin1 (.inl rfl) o3 [0] rfl ⟨rfl, trivial⟩ rfl (rv_tmp rfl)

/-! math/bits.TrailingZeros64 -/
noncomputable def math_bits_TrailingZeros64_m (x_0 : Int) : Option (Int) :=
  bif x_0 == 0 then
    some 64
  else
    Option.bind (idxM tab_0 (ishr .u64 (imul .u64 (iand .u64 x_0 (ineg .u64 x_0)) 285870213051353865) 58)) fun t2 =>
    letM (IntKind.wrap .i64 t2) fun t3 =>
    some t3

theorem math_bits_TrailingZeros64_ok {x_0 : Int} {r : Int} (hm : math_bits_TrailingZeros64_m x_0 = some r) :
    FnOk prog 100 [iv .u64 x_0] [tbO (rI .u8) 0 tab_0] (fun (x : Unit) => [iv .i64 r]) (fun (x : Unit) => [tbO (rI .u8) 0 tab_0]) := by
  refine fn_ok (fn := Tryd.f100) (N := 14) (res := fun r x => [iv .i64 r]) (Ω1 := fun r x => [tbO (rI .u8) 0 tab_0]) Tryd.func100 rfl rfl hm rfl (fun E hM => ?_)
  unfold math_bits_TrailingZeros64_m
  refine ref_seq (ref_region ?_)
  refine as1 rfl rfl ?_
  refine l_nil (n_then (ref_seq (ref_seq (ref_region ?_))))
  refine mv1 rfl rfl ?_
  refine s_rd (r_eql rfl rfl) rfl ?_
  refine l_nil (n_then ?_)
  refine ref_cond rfl (fun hb1 => ?_) (fun hb1 => ?_)
  · refine ref_seq (ref_region ?_)
    refine as1 rfl rfl ?_
    refine l_nil (n_then (ref_ret (r_then ?_)))
    exact fin1 (.inl rfl) () [0] rfl ⟨rfl, trivial⟩ rfl (rv_tmp rfl)
  refine ref_skip (n_then (ref_seq (ref_region ?_)))
  refine mv1 rfl rfl ?_
  refine mv1 rfl rfl ?_
  refine s_rd (r_neg rfl) rfl ?_
  refine s_rd (r_and rfl rfl) rfl ?_
  refine s_rd (r_mul rfl rfl) rfl ?_
  refine s_rd (r_shr rfl rfl (by decide)) rfl ?_
  refine pull fun t2 h_t2 => ?_
  refine s_rd (r_gindex (ρ := (rI .u8)) (sz := 1) h_t2 rfl rfl Tryd.underlying135 Tryd.sizeOf5 (j := 0) rfl rfl) rfl ?_
  refine s_rd (r_load el_5 rfl) rfl ?_
  refine s_rd (r_conv (k' := .i64) rfl rfl rfl) rfl ?_
  refine as1 rfl rfl ?_
  refine b_let (f := iv .i64) (t := 2) rfl fun t3 => ?_
  refine l_nil (n_then (ref_ret ?_))
  exact fin1 (.inl rfl) () [0] rfl ⟨rfl, trivial⟩ rfl (rv_tmp rfl)

/-! deliberation/graph.list -/
noncomputable def graph_list_l1  (s15 : Int × (List Int)) : Option (Sum ((List Int)) (Int × (List Int))) :=
  bif s15.1 != 0 then
    Option.bind (math_bits_TrailingZeros64_m s15.1) fun t18 =>
    Option.bind (appM 8 s15.2 [t18]) fun out19 =>
    letM (iand .u64 s15.1 (isub .u64 s15.1 1)) fun set_21 =>
    some (Sum.inr (set_21, out19))
  else
    some (Sum.inl s15.2)

noncomputable def graph_list_m (set__0 : Int) : Option (List Int) :=
  Option.bind (loopC (graph_list_l1) (set__0, [])) fun q22 : (List Int) =>
  some q22

theorem graph_list_ok {set__0 : Int} {r : List Int} (hm : graph_list_m set__0 = some r) :
    FnOk prog 94 [iv .u64 set__0] [tbO (rI .u8) 0 tab_0] (fun (x : (Value × List Nat)) => [pv x.1]) (fun (x : (Value × List Nat)) => [tbO (rI .u8) 0 tab_0, oa (rI .i64) x.1 x.2 r]) := by
  refine fn_ok (X := (Value × List Nat)) (fn := Tryd.f94) (N := 16) (res := fun r x => [pv x.1]) (Ω1 := fun r x => [tbO (rI .u8) 0 tab_0, oa (rI .i64) x.1 x.2 r]) Tryd.func94 rfl rfl hm rfl (fun E hM => ?_)
  unfold graph_list_m
  refine ref_seq (ref_region ?_)
  refine as1 rfl rfl ?_
  refine l_nil (n_then (ref_seq (ref_region ?_)))
  refine as1 rfl rfl ?_
  refine l_nil (n_then (ref_seq ?_))
  refine b_of (own_nil (rI .i64)) ?_
  refine ref_loopB (f := (graph_list_l1)) (Γl := (fun (s15 : Int × (List Int)) (x16 : (Value × List Nat)) => [(0, iv .u64 s15.1), (3, pv x16.1)])) (Ωl := (fun (s15 : Int × (List Int)) (x16 : (Value × List Nat)) => [tbO (rI .u8) 0 tab_0, oa (rI .i64) x16.1 x16.2 s15.2])) (Γb := (fun (q22 : (List Int)) (y23 : (Value × List Nat)) => [(3, pv y23.1)])) (Ωb := (fun (q22 : (List Int)) (y23 : (Value × List Nat)) => [oa (rI .i64) y23.1 y23.2 q22, tbO (rI .u8) 0 tab_0])) (set__0, []) ((.slice none 0 0), []) (weak [0, 1] ⟨rfl, rfl, trivial⟩ ⟨rfl, rfl, trivial⟩) (fun s15 x16 => ?_) (fun q22 y23 => ?_)
  · unfold graph_list_l1
    refine ref_seq (ref_seq (ref_region ?_))
    refine mv1 rfl rfl ?_
    refine s_rd (r_neq rfl rfl) rfl ?_
    refine l_nil (n_then ?_)
    refine ref_cond rfl (fun hb17 => ?_) (fun hb17 => ?_)
    · refine ref_skip (n_then (ref_seq (ref_block (ref_region ?_))))
      refine mv1 rfl rfl ?_
      refine mv1 rfl rfl ?_
      refine pull fun t18 h_t18 => ?_
      refine s_st (s_callC [0] [true] (fun (_ : Unit) => [tbO (rI .u8) 0 tab_0]) (fun (_ : Unit) => []) (fun (_ : Unit) => iv .i64 t18) (args := [.tmp 11]) (caps := []) Tryd.call100 rfl (math_bits_TrailingZeros64_ok h_t18) ⟨rfl, rfl, trivial⟩ (fun _ => rfl) (fun _ => trivial) (fun _ => rfl) ⟨arg rfl, trivial⟩ (fun _ _ _ _ h => h)) rfl (fun _ => ?_)
      refine s_st (s_bslice (xs := [.tmp 12]) (ds := [t18]) Tryd.underlying22 el_3 rfl (Nat.le_of_ble_eq_true rfl) ⟨(part_at rfl iv_at), trivial⟩) rfl (fun _ => ?_)
      refine pull fun out19 h_out19 => ?_
      refine s_st (s_append h_out19 Tryd.underlying22 el_3 rfl (j := 1) rfl rfl) rfl (fun o20 => ?_)
      refine as1 rfl rfl ?_
      refine l_nil (n_block (n_then (ref_region ?_)))
      refine mv1 rfl rfl ?_
      refine mv1 rfl rfl ?_
      refine s_rd (r_sub rfl rfl) rfl ?_
      refine s_rd (r_and rfl rfl) rfl ?_
      refine as1 rfl rfl ?_
      refine b_let (f := iv .u64) (t := 0) rfl fun set_21 => ?_
      refine l_nil ?_
      exact goB o20 (weak [0, 1] ⟨rfl, rfl, trivial⟩ ⟨rfl, rfl, trivial⟩)
    refine ref_exit (x_then ?_)
    exact brkB x16 (weak [1, 0] ⟨rfl, trivial⟩ ⟨rfl, rfl, trivial⟩)
  refine n_then (ref_seq (ref_region ?_))
  refine mv1 rfl rfl ?_
  refine as1 rfl rfl ?_
  refine l_nil (n_then (ref_ret ?_))
  exact fin1 (.inl rfl) y23 [1, 0] rfl ⟨rfl, rfl, trivial⟩ rfl (rv_tmp rfl)

/-! deliberation/graph.Attacked -/
noncomputable def graph_Attacked_m (g_0 : T_api_Graph) (i_1 : Int) : Option (List Int) :=
  Option.bind (graph_proper_m g_0) fun t2 =>
  bif decide (i_1 < 0) then
    some []
  else
    bif decide (i_1 ≥ t2.N) then
      some []
    else
      Option.bind (graph_masks_m t2) fun t4 =>
      Option.bind (idxM t4 i_1) fun t6 =>
      Option.bind (graph_list_m t6) fun t7 =>
      some t7

theorem graph_Attacked_ok {g_0 : T_api_Graph} {i_1 : Int} {r : List Int} (hm : graph_Attacked_m g_0 i_1 = some r) :
    FnOk prog 83 [ag [iv .i64 g_0.N, slv rT_api_Pair g_0.L], iv .i64 i_1] [tbO (rI .u8) 0 tab_0] (fun (x : (Value × List Nat)) => [pv x.1]) (fun (x : (Value × List Nat)) => [tbO (rI .u8) 0 tab_0, oa (rI .i64) x.1 x.2 r]) := by
  refine fn_ok (X := (Value × List Nat)) (fn := Tryd.f83) (N := 21) (res := fun r x => [pv x.1]) (Ω1 := fun r x => [tbO (rI .u8) 0 tab_0, oa (rI .i64) x.1 x.2 r]) Tryd.func83 rfl rfl hm rfl (fun E hM => ?_)
  unfold graph_Attacked_m
  refine ref_seq (ref_region ?_)
  refine s_st (s_box (part_agO (ψs := [iv .i64 g_0.N, slv rT_api_Pair g_0.L]) rfl ⟨.inl iv_at, .inl slv_at, trivial⟩)) rfl (fun b1 => ?_)
  refine as1 rfl rfl ?_
  refine l_nil (n_then (ref_seq (ref_region ?_)))
  refine s_rd (r_cloadS Tryd.isAgg50 Tryd.sizeOf50 rfl (j := 1) rfl rfl rfl) rfl ?_
  refine pull fun t2 h_t2 => ?_
  refine s_st (s_call (ψ := fun (_ : Unit) => ag [iv .i64 t2.N, slv rT_api_Pair t2.L]) (args := [.tmp 5]) Tryd.call93 rfl (graph_proper_ok h_t2) ⟨arg rfl, trivial⟩ (fun _ _ _ _ h => h)) rfl (fun _ => ?_)
  refine s_st0 (s_cstore (out := [iv .i64 t2.N, slv rT_api_Pair t2.L]) Tryd.sizeOf50 rfl (j := 1) rfl (part_agO (ψs := [iv .i64 t2.N, slv rT_api_Pair t2.L]) rfl ⟨.inl iv_at, .inl slv_at, trivial⟩) rfl rfl rfl) (fun _ => ?_)
  refine l_nil (n_then (ref_seq (ref_seq (ref_region ?_))))
  refine mv1 rfl rfl ?_
  refine s_rd (r_lss rfl rfl) rfl ?_
  refine mv1 rfl rfl ?_
  refine b_split (t := 9) rfl (fun _ => ?_) (fun _ => ?_)
  · refine s_off rfl rfl rfl rfl rfl ?_
    refine s_off rfl rfl rfl rfl rfl ?_
    refine s_off rfl rfl rfl rfl rfl ?_
    refine s_off rfl rfl rfl rfl rfl ?_
    refine s_rd (r_pickT rfl rfl) rfl ?_
    refine l_nil (n_then ?_)
    refine ref_condT rfl rfl ?_
    refine ref_seq (ref_region ?_)
    refine as1 rfl rfl ?_
    refine l_nil (n_then (ref_ret (r_then ?_)))
    refine b_of (own_nil (rI .i64)) ?_
    exact fin1 (.inl rfl) ((.slice none 0 0), []) [0, 2] rfl ⟨rfl, rfl, trivial⟩ rfl (rv_tmp rfl)
  refine s_on rfl rfl rfl ?_
  refine mv1 rfl rfl ?_
  refine s_on rfl rfl rfl ?_
  refine s_rd (r_faddr (fo := 0) Tryd.underlying50 rfl rfl Tryd.sizeOf3 rfl) rfl ?_
  refine s_on rfl rfl rfl ?_
  refine s_rd (r_cload Tryd.isAgg3 rfl (j := 1) rfl rfl) rfl ?_
  refine s_on rfl rfl rfl ?_
  refine s_rd (r_geq rfl rfl) rfl ?_
  refine s_rd (r_pickF rfl rfl) rfl ?_
  refine l_nil (n_then ?_)
  refine ref_cond rfl (fun hb3 => ?_) (fun hb3 => ?_)
  · refine ref_seq (ref_region ?_)
    refine as1 rfl rfl ?_
    refine l_nil (n_then (ref_ret (r_then ?_)))
    refine b_of (own_nil (rI .i64)) ?_
    exact fin1 (.inl rfl) ((.slice none 0 0), []) [0, 2] rfl ⟨rfl, rfl, trivial⟩ rfl (rv_tmp rfl)
  refine ref_skip (n_then (ref_seq (ref_region ?_)))
  refine s_rd (r_cloadS Tryd.isAgg50 Tryd.sizeOf50 rfl (j := 1) rfl rfl rfl) rfl ?_
  refine pull fun t4 h_t4 => ?_
  refine s_st (s_call (ψ := fun (x5 : (Value × List Nat)) => pv x5.1) (args := [.tmp 15]) Tryd.call95 rfl (graph_masks_ok h_t4) ⟨arg rfl, trivial⟩ (fun _ _ _ _ h => h)) rfl (fun x5 => ?_)
  refine mv1 rfl rfl ?_
  refine pull fun t6 h_t6 => ?_
  refine s_rd (r_oindex h_t6 Tryd.underlying124 el_107 rfl (j := 2) rfl rfl) rfl ?_
  refine s_rd (r_oload h_t6 el_107 rfl (j := 2) rfl) rfl ?_
  refine pull fun t7 h_t7 => ?_
  refine s_st (s_callC [0] [true] (fun (x8 : (Value × List Nat)) => [tbO (rI .u8) 0 tab_0]) (fun (x8 : (Value × List Nat)) => [oa (rI .i64) x8.1 x8.2 t7]) (fun (x8 : (Value × List Nat)) => pv x8.1) (args := [.tmp 19]) (caps := []) Tryd.call94 rfl (graph_list_ok h_t7) ⟨rfl, rfl, trivial⟩ (fun _ => rfl) (fun _ => trivial) (fun _ => rfl) ⟨arg rfl, trivial⟩ (fun _ _ _ _ h => h)) rfl (fun x8 => ?_)
  refine as1 rfl rfl ?_
  refine l_nil ?_
  refine b_of (nrm [tbO (rI .u8) 0 tab_0, oc b1 [iv .i64 t2.N, slv rT_api_Pair t2.L], oa (rI .u64) x5.1 x5.2 t4, oa (rI .i64) x8.1 x8.2 t7] rfl) ?_
  refine n_then (ref_ret ?_)
  exact fin1 (.inl rfl) x8 [0, 3] rfl ⟨rfl, rfl, trivial⟩ rfl (rv_tmp rfl)

/-! deliberation/grounded.build -/
noncomputable def grounded_build_l1 (g_0 : T_api_Graph) (s22 : Int × (List Int)) : Option (Sum ((List Int)) (Int × (List Int))) :=
  bif decide (s22.1 < (g_0.L.length : Int)) then
    Option.bind (idxM g_0.L s22.1) fun t25 =>
    Option.bind (vidxM 40 s22.2 t25.To) fun t27 =>
    Option.bind (vidxM 40 s22.2 t25.To) fun t28 =>
    some (Sum.inr (iadd .i64 s22.1 1, s22.2.set (Int.toNat t25.To) (iadd .i64 t27 1)))
  else
    some (Sum.inl s22.2)

noncomputable def grounded_build_l2 (g_0 : T_api_Graph) (q29 : (List Int)) (s45 : Int × (List Int)) : Option (Sum ((List Int)) (Int × (List Int))) :=
  bif decide (s45.1 < g_0.N) then
    Option.bind (vidxM 40 q29 s45.1) fun t48 =>
    bif t48 == 0 then
      Option.bind (appM 8 s45.2 [s45.1]) fun queue50 =>
      some (Sum.inr (iadd .i64 s45.1 1, queue50))
    else
      some (Sum.inr (iadd .i64 s45.1 1, s45.2))
  else
    some (Sum.inl s45.2)

noncomputable def grounded_build_l4 (s909 : Int × (List Int) × (List Int) × (List Int) × (List Int)) (s924 : Int × (List Int) × (List Int)) : Option (Sum ((List Int) × (List Int)) (Int × (List Int) × (List Int))) :=
  bif decide (s924.1 < (s909.2.2.2.2.length : Int)) then
    Option.bind (idxM s909.2.2.2.2 s924.1) fun i927 =>
    Option.bind (idxM s924.2.1 i927) fun t928 =>
    Option.bind (idxM s924.2.2 i927) fun t929 =>
    some (Sum.inr (iadd .i64 s924.1 1, s924.2.1.set (Int.toNat i927) 1, s924.2.2.set (Int.toNat i927) s909.1))
  else
    some (Sum.inl (s924.2.1, s924.2.2))

noncomputable def grounded_build_l7 (s1278 : Int × (List Int) × (List Int) × (List Int) × (List Int)) (k1281 : Int) (t1286 : List Int) (s1316 : Int × (List Int) × (List Int)) : Option (Sum ((List Int) × (List Int)) (Int × (List Int) × (List Int))) :=
  bif decide (s1316.1 < (t1286.length : Int)) then
    Option.bind (idxM t1286 s1316.1) fun j1319 =>
    Option.bind (vidxM 40 s1316.2.1 j1319) fun t1320 =>
    Option.bind (vidxM 40 s1316.2.1 j1319) fun t1321 =>
    joinM (fun j1324 : Bool =>
        bif j1324 then
          Option.bind (appM 8 s1316.2.2 [j1319]) fun next1328 =>
          some (Sum.inr (iadd .i64 s1316.1 1, s1316.2.1.set (Int.toNat j1319) (isub .i64 t1320 1), next1328))
        else
          some (Sum.inr (iadd .i64 s1316.1 1, s1316.2.1.set (Int.toNat j1319) (isub .i64 t1320 1), s1316.2.2))) fun k1326 =>
    Option.bind (vidxM 40 (s1316.2.1.set (Int.toNat j1319) (isub .i64 t1320 1)) j1319) fun t1322 =>
    bif t1322 == 0 then
      Option.bind (idxM (s1278.2.1.set (Int.toNat k1281) 2) j1319) fun t1323 =>
      k1326 (t1323 == 3)
    else
      k1326 false
  else
    some (Sum.inl (s1316.2.1, s1316.2.2))

noncomputable def grounded_build_l6 (g_0 : T_api_Graph) (s909 : Int × (List Int) × (List Int) × (List Int) × (List Int)) (t1222 : List Int) (s1278 : Int × (List Int) × (List Int) × (List Int) × (List Int)) : Option (Sum ((List Int) × (List Int) × (List Int) × (List Int)) (Int × (List Int) × (List Int) × (List Int) × (List Int))) :=
  bif decide (s1278.1 < (t1222.length : Int)) then
    Option.bind (idxM t1222 s1278.1) fun k1281 =>
    Option.bind (idxM s1278.2.1 k1281) fun t1282 =>
    bif t1282 != 3 then
      some (Sum.inr (iadd .i64 s1278.1 1, s1278.2.1, s1278.2.2.1, s1278.2.2.2.1, s1278.2.2.2.2))
    else
      Option.bind (idxM s1278.2.1 k1281) fun t1284 =>
      Option.bind (idxM s1278.2.2.1 k1281) fun t1285 =>
      Option.bind (graph_Attacked_m g_0 k1281) fun t1286 =>
      Option.bind (loopC (grounded_build_l7 s1278 k1281 t1286) (0, s1278.2.2.2.1, s1278.2.2.2.2)) fun q1330 : (List Int) × (List Int) =>
      some (Sum.inr (iadd .i64 s1278.1 1, s1278.2.1.set (Int.toNat k1281) 2, s1278.2.2.1.set (Int.toNat k1281) s909.1, q1330.1, q1330.2))
  else
    some (Sum.inl (s1278.2.1, s1278.2.2.1, s1278.2.2.2.1, s1278.2.2.2.2))

noncomputable def grounded_build_l5 (g_0 : T_api_Graph) (s909 : Int × (List Int) × (List Int) × (List Int) × (List Int)) (s1218 : Int × (List Int) × (List Int) × (List Int) × (List Int)) : Option (Sum ((List Int) × (List Int) × (List Int) × (List Int)) (Int × (List Int) × (List Int) × (List Int) × (List Int))) :=
  bif decide (s1218.1 < (s909.2.2.2.2.length : Int)) then
    Option.bind (idxM s909.2.2.2.2 s1218.1) fun i1221 =>
    Option.bind (graph_Attacked_m g_0 i1221) fun t1222 =>
    Option.bind (loopC (grounded_build_l6 g_0 s909 t1222) (0, s1218.2.1, s1218.2.2.1, s1218.2.2.2.1, s1218.2.2.2.2)) fun q1332 : (List Int) × (List Int) × (List Int) × (List Int) =>
    some (Sum.inr (iadd .i64 s1218.1 1, q1332.1, q1332.2.1, q1332.2.2.1, q1332.2.2.2))
  else
    some (Sum.inl (s1218.2.1, s1218.2.2.1, s1218.2.2.2.1, s1218.2.2.2.2))

noncomputable def grounded_build_l3 (g_0 : T_api_Graph) (s909 : Int × (List Int) × (List Int) × (List Int) × (List Int)) : Option (Sum ((List Int) × (List Int)) (Int × (List Int) × (List Int) × (List Int) × (List Int))) :=
  bif decide ((s909.2.2.2.2.length : Int) > 0) then
    Option.bind (loopC (grounded_build_l4 s909) (0, s909.2.1, s909.2.2.1)) fun q930 : (List Int) × (List Int) =>
    Option.bind (loopC (grounded_build_l5 g_0 s909) (0, q930.1, q930.2, s909.2.2.2.1, [])) fun q1334 : (List Int) × (List Int) × (List Int) × (List Int) =>
    letM (iadd .i64 s909.1 1) fun round1336 =>
    some (Sum.inr (round1336, q1334.1, q1334.2.1, q1334.2.2.1, q1334.2.2.2))
  else
    some (Sum.inl (s909.2.1, s909.2.2.1))

noncomputable def grounded_build_m (g_0 : T_api_Graph) : Option (List Int × List Int) :=
  Option.bind (slices_Repeat_int_int_m [3] g_0.N) fun labels3 =>
  Option.bind (mkM 8 0 g_0.N) fun ranks5 =>
  Option.bind (loopC (grounded_build_l1 g_0) (0, (List.replicate 40 0))) fun q29 : (List Int) =>
  Option.bind (loopC (grounded_build_l2 g_0 q29) (0, [])) fun q52 : (List Int) =>
  Option.bind (loopC (grounded_build_l3 g_0) (1, labels3, ranks5, q29, q52)) fun q1337 : (List Int) × (List Int) =>
  some (q1337.1, q1337.2)

theorem grounded_build_ok {g_0 : T_api_Graph} {r : List Int × List Int} (hm : grounded_build_m g_0 = some r) :
    FnOk prog 67 [ag [iv .i64 g_0.N, slv rT_api_Pair g_0.L]] [tbO (rI .u8) 0 tab_0] (fun (x : (Value × List Nat) × (Value × List Nat)) => [pv x.1.1, pv x.2.1]) (fun (x : (Value × List Nat) × (Value × List Nat)) => [tbO (rI .u8) 0 tab_0, oa (rI .i64) x.1.1 x.1.2 r.1, oa (rI .i64) x.2.1 x.2.2 r.2]) := by
  refine fn_ok (X := (Value × List Nat) × (Value × List Nat)) (fn := Tryd.f67) (N := 133) (res := fun r x => [pv x.1.1, pv x.2.1]) (Ω1 := fun r x => [tbO (rI .u8) 0 tab_0, oa (rI .i64) x.1.1 x.1.2 r.1, oa (rI .i64) x.2.1 x.2.2 r.2]) Tryd.func67 rfl rfl hm rfl (fun E hM => ?_)
  unfold grounded_build_m
  refine ref_seq (ref_region ?_)
  refine s_st (s_box (part_agO (ψs := [iv .i64 g_0.N, slv rT_api_Pair g_0.L]) rfl ⟨.inl iv_at, .inl slv_at, trivial⟩)) rfl (fun b1 => ?_)
  refine as1 rfl rfl ?_
  refine as1 rfl rfl ?_
  refine l_nil (n_then (ref_seq ?_))
  refine pull fun labels3 h_labels3 => ?_
  refine pull fun ranks5 h_ranks5 => ?_
  refine ref_drawI 2 [⟨[], [], [], [], [], fun us u => slv (rI .i64) [3], fun us u => []⟩, ⟨[], [], [], [], [], fun us u => pv (ptr b1 0), fun us u => []⟩, ⟨[1], [], [], [1], [], fun us u => iv .i64 g_0.N, fun us u => []⟩, ⟨[0, 1, 2], [], [2], [2], [], fun us u => pv u.V.1, fun us u => [oa (rI .i64) u.V.1 u.V.2 labels3]⟩, ⟨[], [], [], [], [], fun us u => pv (ptr b1 0), fun us u => []⟩, ⟨[4], [], [], [1], [], fun us u => iv .i64 g_0.N, fun us u => []⟩, ⟨[4, 5], [], [3], [3], [], fun us u => pv u.V.1, fun us u => [oa (rI .i64) u.V.1 u.V.2 ranks5]⟩, ⟨[0, 1, 2, 3], [3], [], [], [], fun us u => pv (us.getD 0 .none).V.1, fun us u => []⟩, ⟨[0, 1, 2, 3, 4, 5, 6, 7], [6], [], [], [], fun us u => pv (us.getD 0 .none).V.1, fun us u => []⟩] (fun χ2 => [(1, pv (ptr b1 0)), (2, pv (χ2 3).V.1), (3, pv (χ2 6).V.1)]) (fun χ2 => [tbO (rI .u8) 0 tab_0, oc b1 [iv .i64 g_0.N, slv rT_api_Pair g_0.L], oa (rI .i64) (χ2 3).V.1 (χ2 3).V.2 labels3, oa (rI .i64) (χ2 6).V.1 (χ2 6).V.2 ranks5]) rfl (by kernel_rfl) ⟨fun χ2 Ω _ => St.to XU.U XU.hU (s_bslice (xs := [.const (.int .i64 (3))]) (ds := [3]) Tryd.underlying22 el_3 rfl (Nat.le_of_ble_eq_true rfl) ⟨(part_at rfl iv_at), trivial⟩) (fun _ => rfl) (fun _ => rfl), (by intro _ h; cases h; rfl), ⟨fun χ2 Ω _ => St.toR (r_faddr (fo := 0) Tryd.underlying50 rfl rfl Tryd.sizeOf3 rfl) (fun _ => rfl) (fun _ => rfl), (by intro _ h; cases h; rfl), ⟨fun χ2 Ω ⟨h1, _⟩ => St.toR (r_cload Tryd.isAgg3 rfl (j := 1) h1 rfl) (fun _ => rfl) (fun _ => rfl), (by intro _ h; cases h; rfl), ⟨fun χ2 Ω ⟨h2, _⟩ => St.to XU.V XU.hV (St.placeL [2] (s_call (ψ := fun (x4 : (Value × List Nat)) => pv x4.1) (args := [.tmp 19, .tmp 21]) Tryd.call82 rfl (slices_Repeat_int_int_ok h_labels3) ⟨arg rfl, arg rfl, trivial⟩ (fun _ _ _ _ h => h)) (fun _ => rfl) (fun _ => ⟨h2, rfl, trivial⟩)) (fun _ => rfl) (fun _ => rfl), (by intro _ h; cases h; rfl), ⟨fun χ2 Ω _ => St.toR (r_faddr (fo := 0) Tryd.underlying50 rfl rfl Tryd.sizeOf3 rfl) (fun _ => rfl) (fun _ => rfl), (by intro _ h; cases h; rfl), ⟨fun χ2 Ω ⟨h1, _⟩ => St.toR (r_cload Tryd.isAgg3 rfl (j := 1) h1 rfl) (fun _ => rfl) (fun _ => rfl), (by intro _ h; cases h; rfl), ⟨fun χ2 Ω ⟨h3, _⟩ => St.to XU.V XU.hV (St.placeL (os := fun _ => [_]) [3] (s_make h_ranks5 Tryd.underlying22 el_3 ze_3 rfl rfl) (fun _ => rfl) (fun _ => ⟨h3, rfl, trivial⟩)) (fun _ => rfl) (fun _ => rfl), (by intro _ h; cases h; rfl), ⟨fun χ2 Ω _ => St.toR (r_assign rfl) (fun _ => rfl) (fun _ => rfl), (by intro _ h; cases h; rfl), ⟨fun χ2 Ω _ => St.toR (r_assign rfl) (fun _ => rfl) (fun _ => rfl), (by intro _ h; cases h; rfl), trivial⟩⟩⟩⟩⟩⟩⟩⟩⟩ (fun _ => ⟨rfl, rfl, rfl, trivial⟩) (fun _ => rfl) (fun χ2 => ?_)
  refine n_then (ref_seq (ref_region ?_))
  refine s_st (s_alloc zv_109) rfl (fun b7 => ?_)
  refine l_nil (n_then (ref_seq (ref_seq (ref_region ?_))))
  refine s_rd (r_faddr (fo := 1) Tryd.underlying50 rfl rfl Tryd.sizeOf48 rfl) rfl ?_
  refine s_rd (r_cload Tryd.isAgg48 rfl (j := 1) rfl rfl) rfl ?_
  refine s_rd (r_len Tryd.underlying48 rfl) rfl ?_
  refine mv1 rfl rfl ?_
  refine l_nil (n_then ?_)
  refine ref_loopB (f := (grounded_build_l1 g_0)) (Γl := (fun (s22 : Int × (List Int)) (x23 : Unit) => [(1, pv (ptr b1 0)), (2, pv (χ2 3).V.1), (3, pv (χ2 6).V.1), (4, pv (ptr b7 0)), (27, slv rT_api_Pair g_0.L), (28, iv .i64 (g_0.L.length : Int)), (29, iv .i64 s22.1)])) (Ωl := (fun (s22 : Int × (List Int)) (x23 : Unit) => [tbO (rI .u8) 0 tab_0, oc b1 [iv .i64 g_0.N, slv rT_api_Pair g_0.L], oa (rI .i64) (χ2 3).V.1 (χ2 3).V.2 labels3, oa (rI .i64) (χ2 6).V.1 (χ2 6).V.2 ranks5, oc b7 (List.map (iv .i64) s22.2)])) (Γb := (fun (q29 : (List Int)) (y30 : Unit) => [(1, pv (ptr b1 0)), (2, pv (χ2 3).V.1), (3, pv (χ2 6).V.1), (4, pv (ptr b7 0))])) (Ωb := (fun (q29 : (List Int)) (y30 : Unit) => [oc b1 [iv .i64 g_0.N, slv rT_api_Pair g_0.L], oa (rI .i64) (χ2 3).V.1 (χ2 3).V.2 labels3, oa (rI .i64) (χ2 6).V.1 (χ2 6).V.2 ranks5, oc b7 (List.map (iv .i64) q29), tbO (rI .u8) 0 tab_0])) (0, (List.replicate 40 0)) () (weak [0, 1, 2, 3, 4] ⟨rfl, rfl, rfl, rfl, rfl, rfl, rfl, trivial⟩ ⟨rfl, rfl, rfl, rfl, rfl, trivial⟩) (fun s22 x23 => ?_) (fun q29 y30 => ?_)
  · unfold grounded_build_l1
    refine ref_seq (ref_region ?_)
    refine s_rd (r_lss rfl rfl) rfl ?_
    refine l_nil (n_then (ref_seq ?_))
    refine ref_cond rfl (fun hb24 => ?_) (fun hb24 => ?_)
    · refine ref_skip (n_then (ref_seq (ref_block (ref_seq (ref_region ?_)))))
      refine pull fun t25 h_t25 => ?_
      refine s_rd (r_index h_t25 Tryd.underlying48 el_57 rfl rfl) rfl ?_
      refine s_rd (r_load el_57 rfl) rfl ?_
      refine s_st (s_alloc zt_57) rfl (fun b26 => ?_)
      refine s_st0 (s_cstore (out := [iv .i64 t25.From, iv .i64 t25.To]) Tryd.sizeOf57 rfl (j := 5) rfl (part_agO (ψs := [iv .i64 t25.From, iv .i64 t25.To]) rfl ⟨.inl iv_at, .inl iv_at, trivial⟩) rfl rfl rfl) (fun _ => ?_)
      refine l_nil (n_then (ref_region ?_))
      refine s_rd (r_faddr (fo := 1) Tryd.underlying57 rfl rfl Tryd.sizeOf3 rfl) rfl ?_
      refine s_rd (r_cload Tryd.isAgg3 rfl (j := 5) rfl rfl) rfl ?_
      refine pull fun t27 h_t27 => ?_
      refine s_rd (r_aaddrV (off := 0) (vidx_idx h_t27) (vidx_len h_t27) Tryd.underlying109 Tryd.sizeOf3 rfl rfl) rfl ?_
      refine s_rd (r_vload (vidx_idx h_t27) Tryd.isAgg3 rfl (j := 4) rfl) rfl ?_
      refine s_rd (r_add rfl rfl) rfl ?_
      refine pull fun t28 h_t28 => ?_
      refine s_rd (r_aaddrV (off := 0) (vidx_idx h_t28) (vidx_len h_t28) Tryd.underlying109 Tryd.sizeOf3 rfl rfl) rfl ?_
      refine s_st0 (s_vstore (u := iadd .i64 t27 1) (vidx_idx h_t28) Tryd.sizeOf3 rfl (j := 4) rfl (part_at rfl iv_at)) (fun _ => ?_)
      refine l_nil ?_
      refine b_of (nrm [tbO (rI .u8) 0 tab_0, oc b1 [iv .i64 g_0.N, slv rT_api_Pair g_0.L], oa (rI .i64) (χ2 3).V.1 (χ2 3).V.2 labels3, oa (rI .i64) (χ2 6).V.1 (χ2 6).V.2 ranks5, oc b7 (List.map (iv .i64) (s22.2.set (Int.toNat t25.To) (iadd .i64 t27 1))), oc b26 [iv .i64 t25.From, iv .i64 t25.To]] rfl) ?_
      refine n_block (n_then (ref_region ?_))
      refine s_rd (r_add rfl rfl) rfl ?_
      refine mv1 rfl rfl ?_
      refine l_nil ?_
      exact goB () (weak [0, 1, 2, 3, 4] ⟨rfl, rfl, rfl, rfl, rfl, rfl, rfl, trivial⟩ ⟨rfl, rfl, rfl, rfl, rfl, trivial⟩)
    refine ref_exit (x_then ?_)
    exact brkB () (weak [1, 2, 3, 4, 0] ⟨rfl, rfl, rfl, rfl, trivial⟩ ⟨rfl, rfl, rfl, rfl, rfl, trivial⟩)
  refine n_then (ref_seq (ref_region ?_))
  refine as1 rfl rfl ?_
  refine l_nil (n_then (ref_seq (ref_seq (ref_region ?_))))
  refine s_rd (r_faddr (fo := 0) Tryd.underlying50 rfl rfl Tryd.sizeOf3 rfl) rfl ?_
  refine s_rd (r_cload Tryd.isAgg3 rfl (j := 0) rfl rfl) rfl ?_
  refine mv1 rfl rfl ?_
  refine l_nil (n_then ?_)
  refine b_of (own_nil (rI .i64)) ?_
  refine ref_loopB (f := (grounded_build_l2 g_0 q29)) (Γl := (fun (s45 : Int × (List Int)) (x46 : (Value × List Nat)) => [(1, pv (ptr b1 0)), (2, pv (χ2 3).V.1), (3, pv (χ2 6).V.1), (4, pv (ptr b7 0)), (7, pv x46.1), (41, iv .i64 g_0.N), (42, iv .i64 s45.1)])) (Ωl := (fun (s45 : Int × (List Int)) (x46 : (Value × List Nat)) => [tbO (rI .u8) 0 tab_0, oc b1 [iv .i64 g_0.N, slv rT_api_Pair g_0.L], oa (rI .i64) (χ2 3).V.1 (χ2 3).V.2 labels3, oa (rI .i64) (χ2 6).V.1 (χ2 6).V.2 ranks5, oc b7 (List.map (iv .i64) q29), oa (rI .i64) x46.1 x46.2 s45.2])) (Γb := (fun (q52 : (List Int)) (y53 : (Value × List Nat)) => [(1, pv (ptr b1 0)), (2, pv (χ2 3).V.1), (3, pv (χ2 6).V.1), (4, pv (ptr b7 0)), (7, pv y53.1)])) (Ωb := (fun (q52 : (List Int)) (y53 : (Value × List Nat)) => [oc b1 [iv .i64 g_0.N, slv rT_api_Pair g_0.L], oa (rI .i64) (χ2 3).V.1 (χ2 3).V.2 labels3, oa (rI .i64) (χ2 6).V.1 (χ2 6).V.2 ranks5, oc b7 (List.map (iv .i64) q29), oa (rI .i64) y53.1 y53.2 q52, tbO (rI .u8) 0 tab_0])) (0, []) ((.slice none 0 0), []) (weak [4, 0, 1, 2, 3, 5] ⟨rfl, rfl, rfl, rfl, rfl, rfl, rfl, trivial⟩ ⟨rfl, rfl, rfl, rfl, rfl, rfl, trivial⟩) (fun s45 x46 => ?_) (fun q52 y53 => ?_)
  · unfold grounded_build_l2
    refine ref_seq (ref_region ?_)
    refine s_rd (r_lss rfl rfl) rfl ?_
    refine l_nil (n_then (ref_seq ?_))
    refine ref_cond rfl (fun hb47 => ?_) (fun hb47 => ?_)
    · refine ref_skip (n_then (ref_seq (ref_block (ref_seq (ref_region ?_)))))
      refine mv1 rfl rfl ?_
      refine as1 rfl rfl ?_
      refine l_nil (n_then (ref_seq (ref_region ?_)))
      refine mv1 rfl rfl ?_
      refine pull fun t48 h_t48 => ?_
      refine s_rd (r_aaddrV (off := 0) (vidx_idx h_t48) (vidx_len h_t48) Tryd.underlying109 Tryd.sizeOf3 rfl rfl) rfl ?_
      refine s_rd (r_vload (vidx_idx h_t48) Tryd.isAgg3 rfl (j := 4) rfl) rfl ?_
      refine s_rd (r_eql rfl rfl) rfl ?_
      refine l_nil (n_then ?_)
      refine ref_cond rfl (fun hb49 => ?_) (fun hb49 => ?_)
      · refine ref_region ?_
        refine mv1 rfl rfl ?_
        refine mv1 rfl rfl ?_
        refine s_st (s_bslice (xs := [.tmp 50]) (ds := [s45.1]) Tryd.underlying22 el_3 rfl (Nat.le_of_ble_eq_true rfl) ⟨(part_at rfl iv_at), trivial⟩) rfl (fun _ => ?_)
        refine pull fun queue50 h_queue50 => ?_
        refine s_st (s_append h_queue50 Tryd.underlying22 el_3 rfl (j := 5) rfl rfl) rfl (fun o51 => ?_)
        refine as1 rfl rfl ?_
        refine l_nil (n_block (n_then (ref_region ?_)))
        refine s_rd (r_add rfl rfl) rfl ?_
        refine mv1 rfl rfl ?_
        refine l_nil ?_
        exact goB o51 (weak [0, 1, 2, 3, 4, 5] ⟨rfl, rfl, rfl, rfl, rfl, rfl, rfl, trivial⟩ ⟨rfl, rfl, rfl, rfl, rfl, rfl, trivial⟩)
      refine ref_skip (n_block (n_then (ref_region ?_)))
      refine s_rd (r_add rfl rfl) rfl ?_
      refine mv1 rfl rfl ?_
      refine l_nil ?_
      exact goB x46 (weak [0, 1, 2, 3, 4, 5] ⟨rfl, rfl, rfl, rfl, rfl, rfl, rfl, trivial⟩ ⟨rfl, rfl, rfl, rfl, rfl, rfl, trivial⟩)
    refine ref_exit (x_then ?_)
    exact brkB x46 (weak [1, 2, 3, 4, 5, 0] ⟨rfl, rfl, rfl, rfl, rfl, trivial⟩ ⟨rfl, rfl, rfl, rfl, rfl, rfl, trivial⟩)
  refine n_then (ref_seq (ref_seq (ref_region ?_)))
  refine as1 rfl rfl ?_
  refine l_nil (n_then ?_)
  refine ref_loopB (f := (grounded_build_l3 g_0)) (Γl := (fun (s909 : Int × (List Int) × (List Int) × (List Int) × (List Int)) (x910 : (Value × List Nat)) => [(1, pv (ptr b1 0)), (2, pv (χ2 3).V.1), (3, pv (χ2 6).V.1), (4, pv (ptr b7 0)), (7, pv x910.1), (9, iv .i64 s909.1)])) (Ωl := (fun (s909 : Int × (List Int) × (List Int) × (List Int) × (List Int)) (x910 : (Value × List Nat)) => [tbO (rI .u8) 0 tab_0, oc b1 [iv .i64 g_0.N, slv rT_api_Pair g_0.L], oa (rI .i64) (χ2 3).V.1 (χ2 3).V.2 s909.2.1, oa (rI .i64) (χ2 6).V.1 (χ2 6).V.2 s909.2.2.1, oc b7 (List.map (iv .i64) s909.2.2.2.1), oa (rI .i64) x910.1 x910.2 s909.2.2.2.2])) (Γb := (fun (q1337 : (List Int) × (List Int)) (y1338 : Unit) => [(2, pv (χ2 3).V.1), (3, pv (χ2 6).V.1)])) (Ωb := (fun (q1337 : (List Int) × (List Int)) (y1338 : Unit) => [oa (rI .i64) (χ2 3).V.1 (χ2 3).V.2 q1337.1, oa (rI .i64) (χ2 6).V.1 (χ2 6).V.2 q1337.2, tbO (rI .u8) 0 tab_0])) (1, labels3, ranks5, q29, q52) y53 (weak [5, 0, 1, 2, 3, 4] ⟨rfl, rfl, rfl, rfl, rfl, rfl, trivial⟩ ⟨rfl, rfl, rfl, rfl, rfl, rfl, trivial⟩) (fun s909 x910 => ?_) (fun q1337 y1338 => ?_)
  · unfold grounded_build_l3
    refine ref_seq (ref_seq (ref_region ?_))
    refine mv1 rfl rfl ?_
    refine s_rd (r_olen Tryd.underlying22 rfl (j := 5) rfl) rfl ?_
    refine s_rd (r_gtr rfl rfl) rfl ?_
    refine l_nil (n_then ?_)
    refine ref_cond rfl (fun hb911 => ?_) (fun hb911 => ?_)
    · refine ref_skip (n_then (ref_seq (ref_block (ref_seq (ref_seq (ref_region ?_))))))
      refine mv1 rfl rfl ?_
      refine s_rd (r_olen Tryd.underlying22 rfl (j := 5) rfl) rfl ?_
      refine mv1 rfl rfl ?_
      refine l_nil (n_then ?_)
      refine ref_loopB (f := (grounded_build_l4 s909)) (Γl := (fun (s924 : Int × (List Int) × (List Int)) (x925 : Unit) => [(1, pv (ptr b1 0)), (2, pv (χ2 3).V.1), (3, pv (χ2 6).V.1), (4, pv (ptr b7 0)), (7, pv x910.1), (9, iv .i64 s909.1), (59, pv x910.1), (60, iv .i64 (s909.2.2.2.2.length : Int)), (61, iv .i64 s924.1)])) (Ωl := (fun (s924 : Int × (List Int) × (List Int)) (x925 : Unit) => [tbO (rI .u8) 0 tab_0, oc b1 [iv .i64 g_0.N, slv rT_api_Pair g_0.L], oa (rI .i64) (χ2 3).V.1 (χ2 3).V.2 s924.2.1, oa (rI .i64) (χ2 6).V.1 (χ2 6).V.2 s924.2.2, oc b7 (List.map (iv .i64) s909.2.2.2.1), oa (rI .i64) x910.1 x910.2 s909.2.2.2.2])) (Γb := (fun (q930 : (List Int) × (List Int)) (y931 : Unit) => [(1, pv (ptr b1 0)), (2, pv (χ2 3).V.1), (3, pv (χ2 6).V.1), (4, pv (ptr b7 0)), (7, pv x910.1), (9, iv .i64 s909.1)])) (Ωb := (fun (q930 : (List Int) × (List Int)) (y931 : Unit) => [oc b1 [iv .i64 g_0.N, slv rT_api_Pair g_0.L], oa (rI .i64) (χ2 3).V.1 (χ2 3).V.2 q930.1, oa (rI .i64) (χ2 6).V.1 (χ2 6).V.2 q930.2, oc b7 (List.map (iv .i64) s909.2.2.2.1), oa (rI .i64) x910.1 x910.2 s909.2.2.2.2, tbO (rI .u8) 0 tab_0])) (0, s909.2.1, s909.2.2.1) () (weak [0, 1, 2, 3, 4, 5] ⟨rfl, rfl, rfl, rfl, rfl, rfl, rfl, rfl, rfl, trivial⟩ ⟨rfl, rfl, rfl, rfl, rfl, rfl, trivial⟩) (fun s924 x925 => ?_) (fun q930 y931 => ?_)
      · unfold grounded_build_l4
        refine ref_seq (ref_region ?_)
        refine s_rd (r_lss rfl rfl) rfl ?_
        refine l_nil (n_then (ref_seq ?_))
        refine ref_cond rfl (fun hb926 => ?_) (fun hb926 => ?_)
        · refine ref_skip (n_then (ref_seq (ref_block (ref_seq (ref_region ?_)))))
          refine pull fun i927 h_i927 => ?_
          refine s_rd (r_oindex h_i927 Tryd.underlying22 el_3 rfl (j := 5) rfl rfl) rfl ?_
          refine s_rd (r_oload h_i927 el_3 rfl (j := 5) rfl) rfl ?_
          refine as1 rfl rfl ?_
          refine l_nil (n_then (ref_region ?_))
          refine mv1 rfl rfl ?_
          refine mv1 rfl rfl ?_
          refine mv1 rfl rfl ?_
          refine mv1 rfl rfl ?_
          refine mv1 rfl rfl ?_
          refine pull fun t928 h_t928 => ?_
          refine s_rd (r_oindex h_t928 Tryd.underlying22 el_3 rfl (j := 2) rfl rfl) rfl ?_
          refine s_st0 (s_ostore (u := 1) h_t928 el_3 rfl (j := 2) rfl (part_at rfl iv_at)) (fun _ => ?_)
          refine pull fun t929 h_t929 => ?_
          refine s_rd (r_oindex h_t929 Tryd.underlying22 el_3 rfl (j := 3) rfl rfl) rfl ?_
          refine s_st0 (s_ostore (u := s909.1) h_t929 el_3 rfl (j := 3) rfl (part_at rfl iv_at)) (fun _ => ?_)
          refine l_nil (n_block (n_then (ref_region ?_)))
          refine s_rd (r_add rfl rfl) rfl ?_
          refine mv1 rfl rfl ?_
          refine l_nil ?_
          exact goB () (weak [0, 1, 2, 3, 4, 5] ⟨rfl, rfl, rfl, rfl, rfl, rfl, rfl, rfl, rfl, trivial⟩ ⟨rfl, rfl, rfl, rfl, rfl, rfl, trivial⟩)
        refine ref_exit (x_then ?_)
        exact brkB () (weak [1, 2, 3, 4, 5, 0] ⟨rfl, rfl, rfl, rfl, rfl, rfl, trivial⟩ ⟨rfl, rfl, rfl, rfl, rfl, rfl, trivial⟩)
      refine n_then (ref_seq (ref_region ?_))
      refine as1 rfl rfl ?_
      refine l_nil (n_then (ref_seq (ref_seq (ref_region ?_))))
      refine mv1 rfl rfl ?_
      refine s_rd (r_olen Tryd.underlying22 rfl (j := 4) rfl) rfl ?_
      refine mv1 rfl rfl ?_
      refine l_nil (n_then ?_)
      refine b_of (own_nil (rI .i64)) ?_
      refine ref_loopB (f := (grounded_build_l5 g_0 s909)) (Γl := (fun (s1218 : Int × (List Int) × (List Int) × (List Int) × (List Int)) (x1219 : (Value × List Nat)) => [(1, pv (ptr b1 0)), (2, pv (χ2 3).V.1), (3, pv (χ2 6).V.1), (4, pv (ptr b7 0)), (9, iv .i64 s909.1), (12, pv x1219.1), (73, pv x910.1), (74, iv .i64 (s909.2.2.2.2.length : Int)), (75, iv .i64 s1218.1)])) (Ωl := (fun (s1218 : Int × (List Int) × (List Int) × (List Int) × (List Int)) (x1219 : (Value × List Nat)) => [tbO (rI .u8) 0 tab_0, oc b1 [iv .i64 g_0.N, slv rT_api_Pair g_0.L], oa (rI .i64) (χ2 3).V.1 (χ2 3).V.2 s1218.2.1, oa (rI .i64) (χ2 6).V.1 (χ2 6).V.2 s1218.2.2.1, oc b7 (List.map (iv .i64) s1218.2.2.2.1), oa (rI .i64) x1219.1 x1219.2 s1218.2.2.2.2, oa (rI .i64) x910.1 x910.2 s909.2.2.2.2])) (Γb := (fun (q1334 : (List Int) × (List Int) × (List Int) × (List Int)) (y1335 : (Value × List Nat)) => [(1, pv (ptr b1 0)), (2, pv (χ2 3).V.1), (3, pv (χ2 6).V.1), (4, pv (ptr b7 0)), (9, iv .i64 s909.1), (12, pv y1335.1)])) (Ωb := (fun (q1334 : (List Int) × (List Int) × (List Int) × (List Int)) (y1335 : (Value × List Nat)) => [oc b1 [iv .i64 g_0.N, slv rT_api_Pair g_0.L], oa (rI .i64) (χ2 3).V.1 (χ2 3).V.2 q1334.1, oa (rI .i64) (χ2 6).V.1 (χ2 6).V.2 q1334.2.1, oc b7 (List.map (iv .i64) q1334.2.2.1), oa (rI .i64) y1335.1 y1335.2 q1334.2.2.2, tbO (rI .u8) 0 tab_0])) (0, q930.1, q930.2, s909.2.2.2.1, []) ((.slice none 0 0), []) (weak [5, 0, 1, 2, 3, 6, 4] ⟨rfl, rfl, rfl, rfl, rfl, rfl, rfl, rfl, rfl, trivial⟩ ⟨rfl, rfl, rfl, rfl, rfl, rfl, rfl, trivial⟩) (fun s1218 x1219 => ?_) (fun q1334 y1335 => ?_)
      · unfold grounded_build_l5
        refine ref_seq (ref_region ?_)
        refine s_rd (r_lss rfl rfl) rfl ?_
        refine l_nil (n_then (ref_seq ?_))
        refine ref_cond rfl (fun hb1220 => ?_) (fun hb1220 => ?_)
        · refine ref_skip (n_then (ref_seq (ref_block (ref_seq (ref_region ?_)))))
          refine pull fun i1221 h_i1221 => ?_
          refine s_rd (r_oindex h_i1221 Tryd.underlying22 el_3 rfl (j := 6) rfl rfl) rfl ?_
          refine s_rd (r_oload h_i1221 el_3 rfl (j := 6) rfl) rfl ?_
          refine as1 rfl rfl ?_
          refine l_nil (n_then (ref_seq (ref_region ?_)))
          refine s_rd (r_cloadS Tryd.isAgg50 Tryd.sizeOf50 rfl (j := 1) rfl rfl rfl) rfl ?_
          refine mv1 rfl rfl ?_
          refine pull fun t1222 h_t1222 => ?_
          refine s_st (s_callC [0] [true] (fun (x1223 : (Value × List Nat)) => [tbO (rI .u8) 0 tab_0]) (fun (x1223 : (Value × List Nat)) => [oa (rI .i64) x1223.1 x1223.2 t1222]) (fun (x1223 : (Value × List Nat)) => pv x1223.1) (args := [.tmp 79, .tmp 80]) (caps := []) Tryd.call83 rfl (graph_Attacked_ok h_t1222) ⟨rfl, rfl, trivial⟩ (fun _ => rfl) (fun _ => trivial) (fun _ => rfl) ⟨arg rfl, arg rfl, trivial⟩ (fun _ _ _ _ h => h)) rfl (fun x1223 => ?_)
          refine s_rd (r_olen Tryd.underlying22 rfl (j := 7) rfl) rfl ?_
          refine mv1 rfl rfl ?_
          refine l_nil (n_then ?_)
          refine ref_loopB (f := (grounded_build_l6 g_0 s909 t1222)) (Γl := (fun (s1278 : Int × (List Int) × (List Int) × (List Int) × (List Int)) (x1279 : (Value × List Nat)) => [(1, pv (ptr b1 0)), (2, pv (χ2 3).V.1), (3, pv (χ2 6).V.1), (4, pv (ptr b7 0)), (9, iv .i64 s909.1), (12, pv x1279.1), (73, pv x910.1), (74, iv .i64 (s909.2.2.2.2.length : Int)), (75, iv .i64 s1218.1), (81, pv x1223.1), (82, iv .i64 (t1222.length : Int)), (83, iv .i64 s1278.1)])) (Ωl := (fun (s1278 : Int × (List Int) × (List Int) × (List Int) × (List Int)) (x1279 : (Value × List Nat)) => [tbO (rI .u8) 0 tab_0, oc b1 [iv .i64 g_0.N, slv rT_api_Pair g_0.L], oa (rI .i64) (χ2 3).V.1 (χ2 3).V.2 s1278.2.1, oa (rI .i64) (χ2 6).V.1 (χ2 6).V.2 s1278.2.2.1, oc b7 (List.map (iv .i64) s1278.2.2.2.1), oa (rI .i64) x1279.1 x1279.2 s1278.2.2.2.2, oa (rI .i64) x910.1 x910.2 s909.2.2.2.2, oa (rI .i64) x1223.1 x1223.2 t1222])) (Γb := (fun (q1332 : (List Int) × (List Int) × (List Int) × (List Int)) (y1333 : (Value × List Nat)) => [(1, pv (ptr b1 0)), (2, pv (χ2 3).V.1), (3, pv (χ2 6).V.1), (4, pv (ptr b7 0)), (9, iv .i64 s909.1), (12, pv y1333.1), (73, pv x910.1), (74, iv .i64 (s909.2.2.2.2.length : Int)), (75, iv .i64 s1218.1)])) (Ωb := (fun (q1332 : (List Int) × (List Int) × (List Int) × (List Int)) (y1333 : (Value × List Nat)) => [oc b1 [iv .i64 g_0.N, slv rT_api_Pair g_0.L], oa (rI .i64) (χ2 3).V.1 (χ2 3).V.2 q1332.1, oa (rI .i64) (χ2 6).V.1 (χ2 6).V.2 q1332.2.1, oc b7 (List.map (iv .i64) q1332.2.2.1), oa (rI .i64) y1333.1 y1333.2 q1332.2.2.2, oa (rI .i64) x910.1 x910.2 s909.2.2.2.2, tbO (rI .u8) 0 tab_0])) (0, s1218.2.1, s1218.2.2.1, s1218.2.2.2.1, s1218.2.2.2.2) x1219 (weak [0, 1, 2, 3, 4, 5, 6, 7] ⟨rfl, rfl, rfl, rfl, rfl, rfl, rfl, rfl, rfl, rfl, rfl, rfl, trivial⟩ ⟨rfl, rfl, rfl, rfl, rfl, rfl, rfl, rfl, trivial⟩) (fun s1278 x1279 => ?_) (fun q1332 y1333 => ?_)
          · unfold grounded_build_l6
            refine ref_seq (ref_region ?_)
            refine s_rd (r_lss rfl rfl) rfl ?_
            refine l_nil (n_then (ref_seq ?_))
            refine ref_cond rfl (fun hb1280 => ?_) (fun hb1280 => ?_)
            · refine ref_skip (n_then (ref_seq (ref_block (ref_seq (ref_region ?_)))))
              refine pull fun k1281 h_k1281 => ?_
              refine s_rd (r_oindex h_k1281 Tryd.underlying22 el_3 rfl (j := 7) rfl rfl) rfl ?_
              refine s_rd (r_oload h_k1281 el_3 rfl (j := 7) rfl) rfl ?_
              refine as1 rfl rfl ?_
              refine l_nil (n_then (ref_seq (ref_seq (ref_region ?_))))
              refine mv1 rfl rfl ?_
              refine mv1 rfl rfl ?_
              refine pull fun t1282 h_t1282 => ?_
              refine s_rd (r_oindex h_t1282 Tryd.underlying22 el_3 rfl (j := 2) rfl rfl) rfl ?_
              refine s_rd (r_oload h_t1282 el_3 rfl (j := 2) rfl) rfl ?_
              refine s_rd (r_neq rfl rfl) rfl ?_
              refine l_nil (n_then ?_)
              refine ref_cond rfl (fun hb1283 => ?_) (fun hb1283 => ?_)
              · refine ref_exit (x_then (x_eq (n_then (ref_region ?_))))
                refine s_rd (r_add rfl rfl) rfl ?_
                refine mv1 rfl rfl ?_
                refine l_nil ?_
                exact goB x1279 (weak [0, 1, 2, 3, 4, 5, 6, 7] ⟨rfl, rfl, rfl, rfl, rfl, rfl, rfl, rfl, rfl, rfl, rfl, rfl, trivial⟩ ⟨rfl, rfl, rfl, rfl, rfl, rfl, rfl, rfl, trivial⟩)
              refine ref_skip (n_then (ref_seq (ref_region ?_)))
              refine mv1 rfl rfl ?_
              refine mv1 rfl rfl ?_
              refine mv1 rfl rfl ?_
              refine mv1 rfl rfl ?_
              refine mv1 rfl rfl ?_
              refine pull fun t1284 h_t1284 => ?_
              refine s_rd (r_oindex h_t1284 Tryd.underlying22 el_3 rfl (j := 2) rfl rfl) rfl ?_
              refine s_st0 (s_ostore (u := 2) h_t1284 el_3 rfl (j := 2) rfl (part_at rfl iv_at)) (fun _ => ?_)
              refine pull fun t1285 h_t1285 => ?_
              refine s_rd (r_oindex h_t1285 Tryd.underlying22 el_3 rfl (j := 3) rfl rfl) rfl ?_
              refine s_st0 (s_ostore (u := s909.1) h_t1285 el_3 rfl (j := 3) rfl (part_at rfl iv_at)) (fun _ => ?_)
              refine l_nil (n_then (ref_seq (ref_region ?_)))
              refine s_rd (r_cloadS Tryd.isAgg50 Tryd.sizeOf50 rfl (j := 1) rfl rfl rfl) rfl ?_
              refine mv1 rfl rfl ?_
              refine pull fun t1286 h_t1286 => ?_
              refine s_st (s_callC [0] [true] (fun (x1287 : (Value × List Nat)) => [tbO (rI .u8) 0 tab_0]) (fun (x1287 : (Value × List Nat)) => [oa (rI .i64) x1287.1 x1287.2 t1286]) (fun (x1287 : (Value × List Nat)) => pv x1287.1) (args := [.tmp 99, .tmp 100]) (caps := []) Tryd.call83 rfl (graph_Attacked_ok h_t1286) ⟨rfl, rfl, trivial⟩ (fun _ => rfl) (fun _ => trivial) (fun _ => rfl) ⟨arg rfl, arg rfl, trivial⟩ (fun _ _ _ _ h => h)) rfl (fun x1287 => ?_)
              refine s_rd (r_olen Tryd.underlying22 rfl (j := 8) rfl) rfl ?_
              refine mv1 rfl rfl ?_
              refine l_nil ?_
              refine b_of (nrm [tbO (rI .u8) 0 tab_0, oc b1 [iv .i64 g_0.N, slv rT_api_Pair g_0.L], oa (rI .i64) (χ2 3).V.1 (χ2 3).V.2 (s1278.2.1.set (Int.toNat k1281) 2), oa (rI .i64) (χ2 6).V.1 (χ2 6).V.2 (s1278.2.2.1.set (Int.toNat k1281) s909.1), oc b7 (List.map (iv .i64) s1278.2.2.2.1), oa (rI .i64) x1279.1 x1279.2 s1278.2.2.2.2, oa (rI .i64) x910.1 x910.2 s909.2.2.2.2, oa (rI .i64) x1223.1 x1223.2 t1222, oa (rI .i64) x1287.1 x1287.2 t1286] rfl) ?_
              refine n_then ?_
              refine ref_loopB (f := (grounded_build_l7 s1278 k1281 t1286)) (Γl := (fun (s1316 : Int × (List Int) × (List Int)) (x1317 : (Value × List Nat)) => [(1, pv (ptr b1 0)), (2, pv (χ2 3).V.1), (3, pv (χ2 6).V.1), (4, pv (ptr b7 0)), (9, iv .i64 s909.1), (12, pv x1317.1), (73, pv x910.1), (74, iv .i64 (s909.2.2.2.2.length : Int)), (75, iv .i64 s1218.1), (81, pv x1223.1), (82, iv .i64 (t1222.length : Int)), (83, iv .i64 s1278.1), (101, pv x1287.1), (102, iv .i64 (t1286.length : Int)), (103, iv .i64 s1316.1)])) (Ωl := (fun (s1316 : Int × (List Int) × (List Int)) (x1317 : (Value × List Nat)) => [tbO (rI .u8) 0 tab_0, oc b1 [iv .i64 g_0.N, slv rT_api_Pair g_0.L], oa (rI .i64) (χ2 3).V.1 (χ2 3).V.2 (s1278.2.1.set (Int.toNat k1281) 2), oa (rI .i64) (χ2 6).V.1 (χ2 6).V.2 (s1278.2.2.1.set (Int.toNat k1281) s909.1), oc b7 (List.map (iv .i64) s1316.2.1), oa (rI .i64) x1317.1 x1317.2 s1316.2.2, oa (rI .i64) x910.1 x910.2 s909.2.2.2.2, oa (rI .i64) x1223.1 x1223.2 t1222, oa (rI .i64) x1287.1 x1287.2 t1286])) (Γb := (fun (q1330 : (List Int) × (List Int)) (y1331 : (Value × List Nat)) => [(1, pv (ptr b1 0)), (2, pv (χ2 3).V.1), (3, pv (χ2 6).V.1), (4, pv (ptr b7 0)), (9, iv .i64 s909.1), (12, pv y1331.1), (73, pv x910.1), (74, iv .i64 (s909.2.2.2.2.length : Int)), (75, iv .i64 s1218.1), (81, pv x1223.1), (82, iv .i64 (t1222.length : Int)), (83, iv .i64 s1278.1)])) (Ωb := (fun (q1330 : (List Int) × (List Int)) (y1331 : (Value × List Nat)) => [oc b1 [iv .i64 g_0.N, slv rT_api_Pair g_0.L], oa (rI .i64) (χ2 3).V.1 (χ2 3).V.2 (s1278.2.1.set (Int.toNat k1281) 2), oa (rI .i64) (χ2 6).V.1 (χ2 6).V.2 (s1278.2.2.1.set (Int.toNat k1281) s909.1), oc b7 (List.map (iv .i64) q1330.1), oa (rI .i64) y1331.1 y1331.2 q1330.2, oa (rI .i64) x910.1 x910.2 s909.2.2.2.2, oa (rI .i64) x1223.1 x1223.2 t1222, tbO (rI .u8) 0 tab_0])) (0, s1278.2.2.2.1, s1278.2.2.2.2) x1279 (weak [0, 1, 2, 3, 4, 5, 6, 7, 8] ⟨rfl, rfl, rfl, rfl, rfl, rfl, rfl, rfl, rfl, rfl, rfl, rfl, rfl, rfl, rfl, trivial⟩ ⟨rfl, rfl, rfl, rfl, rfl, rfl, rfl, rfl, rfl, trivial⟩) (fun s1316 x1317 => ?_) (fun q1330 y1331 => ?_)
              · unfold grounded_build_l7
                refine ref_seq (ref_region ?_)
                refine s_rd (r_lss rfl rfl) rfl ?_
                refine l_nil (n_then (ref_seq ?_))
                refine ref_cond rfl (fun hb1318 => ?_) (fun hb1318 => ?_)
                · refine ref_skip (n_then (ref_seq (ref_block (ref_seq (ref_region ?_)))))
                  refine pull fun j1319 h_j1319 => ?_
                  refine s_rd (r_oindex h_j1319 Tryd.underlying22 el_3 rfl (j := 8) rfl rfl) rfl ?_
                  refine s_rd (r_oload h_j1319 el_3 rfl (j := 8) rfl) rfl ?_
                  refine as1 rfl rfl ?_
                  refine l_nil (n_then (ref_seq (ref_region ?_)))
                  refine mv1 rfl rfl ?_
                  refine pull fun t1320 h_t1320 => ?_
                  refine s_rd (r_aaddrV (off := 0) (vidx_idx h_t1320) (vidx_len h_t1320) Tryd.underlying109 Tryd.sizeOf3 rfl rfl) rfl ?_
                  refine s_rd (r_vload (vidx_idx h_t1320) Tryd.isAgg3 rfl (j := 4) rfl) rfl ?_
                  refine s_rd (r_sub rfl rfl) rfl ?_
                  refine pull fun t1321 h_t1321 => ?_
                  refine s_rd (r_aaddrV (off := 0) (vidx_idx h_t1321) (vidx_len h_t1321) Tryd.underlying109 Tryd.sizeOf3 rfl rfl) rfl ?_
                  refine s_st0 (s_vstore (u := isub .i64 t1320 1) (vidx_idx h_t1321) Tryd.sizeOf3 rfl (j := 4) rfl (part_at rfl iv_at)) (fun _ => ?_)
                  refine l_nil (n_then (ref_seq ?_))
                  refine ref_join (fun (j1324 : Bool) (x1325 : Unit) => [(1, pv (ptr b1 0)), (2, pv (χ2 3).V.1), (3, pv (χ2 6).V.1), (4, pv (ptr b7 0)), (9, iv .i64 s909.1), (12, pv x1317.1), (18, iv .i64 j1319), (73, pv x910.1), (74, iv .i64 (s909.2.2.2.2.length : Int)), (75, iv .i64 s1218.1), (81, pv x1223.1), (82, iv .i64 (t1222.length : Int)), (83, iv .i64 s1278.1), (101, pv x1287.1), (102, iv .i64 (t1286.length : Int)), (103, iv .i64 s1316.1), (122, bv j1324)]) (fun (j1324 : Bool) (x1325 : Unit) => [oc b1 [iv .i64 g_0.N, slv rT_api_Pair g_0.L], oa (rI .i64) (χ2 3).V.1 (χ2 3).V.2 (s1278.2.1.set (Int.toNat k1281) 2), oa (rI .i64) (χ2 6).V.1 (χ2 6).V.2 (s1278.2.2.1.set (Int.toNat k1281) s909.1), oc b7 (List.map (iv .i64) (s1316.2.1.set (Int.toNat j1319) (isub .i64 t1320 1))), oa (rI .i64) x1317.1 x1317.2 s1316.2.2, oa (rI .i64) x910.1 x910.2 s909.2.2.2.2, oa (rI .i64) x1223.1 x1223.2 t1222, oa (rI .i64) x1287.1 x1287.2 t1286, tbO (rI .u8) 0 tab_0]) (fun k1326 hk1326 => ?_) (fun j1324 x1325 => ?_)
                  · refine ref_region ?_
                    refine mv1 rfl rfl ?_
                    refine pull fun t1322 h_t1322 => ?_
                    refine s_rd (r_aaddrV (off := 0) (vidx_idx h_t1322) (vidx_len h_t1322) Tryd.underlying109 Tryd.sizeOf3 rfl rfl) rfl ?_
                    refine s_rd (r_vload (vidx_idx h_t1322) Tryd.isAgg3 rfl (j := 4) rfl) rfl ?_
                    refine s_rd (r_eql rfl rfl) rfl ?_
                    refine mv1 rfl rfl ?_
                    refine b_split (t := 116) rfl (fun _ => ?_) (fun _ => ?_)
                    · refine s_on rfl rfl rfl ?_
                      refine mv1 rfl rfl ?_
                      refine s_on rfl rfl rfl ?_
                      refine mv1 rfl rfl ?_
                      refine s_on rfl rfl rfl ?_
                      refine pull fun t1323 h_t1323 => ?_
                      refine s_rd (r_oindex h_t1323 Tryd.underlying22 el_3 rfl (j := 2) rfl rfl) rfl ?_
                      refine s_on rfl rfl rfl ?_
                      refine s_rd (r_oload h_t1323 el_3 rfl (j := 2) rfl) rfl ?_
                      refine s_on rfl rfl rfl ?_
                      refine s_rd (r_eql rfl rfl) rfl ?_
                      refine s_rd (r_pickT rfl rfl) rfl ?_
                      refine l_nil ?_
                      exact b_to (hk1326 (t1323 == 3) ()) (weak [1, 2, 3, 4, 5, 6, 7, 8, 0] ⟨rfl, rfl, rfl, rfl, rfl, rfl, rfl, rfl, rfl, rfl, rfl, rfl, rfl, rfl, rfl, rfl, rfl, trivial⟩ ⟨rfl, rfl, rfl, rfl, rfl, rfl, rfl, rfl, rfl, trivial⟩)
                    refine s_off rfl rfl rfl rfl rfl ?_
                    refine s_off rfl rfl rfl rfl rfl ?_
                    refine s_off rfl rfl rfl rfl rfl ?_
                    refine s_off rfl rfl rfl rfl rfl ?_
                    refine s_off rfl rfl rfl rfl rfl ?_
                    refine s_rd (r_pickF rfl rfl) rfl ?_
                    refine l_nil ?_
                    exact b_to (hk1326 false ()) (weak [1, 2, 3, 4, 5, 6, 7, 8, 0] ⟨rfl, rfl, rfl, rfl, rfl, rfl, rfl, rfl, rfl, rfl, rfl, rfl, rfl, rfl, rfl, rfl, rfl, trivial⟩ ⟨rfl, rfl, rfl, rfl, rfl, rfl, rfl, rfl, rfl, trivial⟩)
                  refine n_then ?_
                  refine ref_cond rfl (fun hb1327 => ?_) (fun hb1327 => ?_)
                  · refine ref_region ?_
                    refine mv1 rfl rfl ?_
                    refine mv1 rfl rfl ?_
                    refine s_st (s_bslice (xs := [.tmp 124]) (ds := [j1319]) Tryd.underlying22 el_3 rfl (Nat.le_of_ble_eq_true rfl) ⟨(part_at rfl iv_at), trivial⟩) rfl (fun _ => ?_)
                    refine pull fun next1328 h_next1328 => ?_
                    refine s_st (s_append h_next1328 Tryd.underlying22 el_3 rfl (j := 4) rfl rfl) rfl (fun o1329 => ?_)
                    refine as1 rfl rfl ?_
                    refine l_nil (n_block (n_then (ref_region ?_)))
                    refine s_rd (r_add rfl rfl) rfl ?_
                    refine mv1 rfl rfl ?_
                    refine l_nil ?_
                    exact goB o1329 (weak [8, 0, 1, 2, 3, 4, 5, 6, 7] ⟨rfl, rfl, rfl, rfl, rfl, rfl, rfl, rfl, rfl, rfl, rfl, rfl, rfl, rfl, rfl, trivial⟩ ⟨rfl, rfl, rfl, rfl, rfl, rfl, rfl, rfl, rfl, trivial⟩)
                  refine ref_skip (n_block (n_then (ref_region ?_)))
                  refine s_rd (r_add rfl rfl) rfl ?_
                  refine mv1 rfl rfl ?_
                  refine l_nil ?_
                  exact goB x1317 (weak [8, 0, 1, 2, 3, 4, 5, 6, 7] ⟨rfl, rfl, rfl, rfl, rfl, rfl, rfl, rfl, rfl, rfl, rfl, rfl, rfl, rfl, rfl, trivial⟩ ⟨rfl, rfl, rfl, rfl, rfl, rfl, rfl, rfl, rfl, trivial⟩)
                refine ref_exit (x_then ?_)
                exact brkB x1317 (weak [1, 2, 3, 4, 5, 6, 7, 0] ⟨rfl, rfl, rfl, rfl, rfl, rfl, rfl, rfl, rfl, rfl, rfl, rfl, trivial⟩ ⟨rfl, rfl, rfl, rfl, rfl, rfl, rfl, rfl, trivial⟩)
              refine n_block (n_then (ref_region ?_))
              refine s_rd (r_add rfl rfl) rfl ?_
              refine mv1 rfl rfl ?_
              refine l_nil ?_
              exact goB y1331 (weak [7, 0, 1, 2, 3, 4, 5, 6] ⟨rfl, rfl, rfl, rfl, rfl, rfl, rfl, rfl, rfl, rfl, rfl, rfl, trivial⟩ ⟨rfl, rfl, rfl, rfl, rfl, rfl, rfl, rfl, trivial⟩)
            refine ref_exit (x_then ?_)
            exact brkB x1279 (weak [1, 2, 3, 4, 5, 6, 0] ⟨rfl, rfl, rfl, rfl, rfl, rfl, rfl, rfl, rfl, trivial⟩ ⟨rfl, rfl, rfl, rfl, rfl, rfl, rfl, trivial⟩)
          refine n_block (n_then (ref_region ?_))
          refine s_rd (r_add rfl rfl) rfl ?_
          refine mv1 rfl rfl ?_
          refine l_nil ?_
          exact goB y1333 (weak [6, 0, 1, 2, 3, 4, 5] ⟨rfl, rfl, rfl, rfl, rfl, rfl, rfl, rfl, rfl, trivial⟩ ⟨rfl, rfl, rfl, rfl, rfl, rfl, rfl, trivial⟩)
        refine ref_exit (x_then ?_)
        exact brkB x1219 (weak [1, 2, 3, 4, 5, 0] ⟨rfl, rfl, rfl, rfl, rfl, rfl, trivial⟩ ⟨rfl, rfl, rfl, rfl, rfl, rfl, trivial⟩)
      refine n_then (ref_region ?_)
      refine mv1 rfl rfl ?_
      refine as1 rfl rfl ?_
      refine l_nil (n_block (n_then (ref_region ?_)))
      refine mv1 rfl rfl ?_
      refine s_rd (r_add rfl rfl) rfl ?_
      refine as1 rfl rfl ?_
      refine b_let (f := iv .i64) (t := 9) rfl fun round1336 => ?_
      refine l_nil ?_
      exact goB y1335 (weak [5, 0, 1, 2, 3, 4] ⟨rfl, rfl, rfl, rfl, rfl, rfl, trivial⟩ ⟨rfl, rfl, rfl, rfl, rfl, rfl, trivial⟩)
    refine ref_exit (x_then ?_)
    exact brkB () (weak [2, 3, 0] ⟨rfl, rfl, trivial⟩ ⟨rfl, rfl, rfl, trivial⟩)
  refine n_then (ref_seq (ref_region ?_))
  refine mv1 rfl rfl ?_
  refine mv1 rfl rfl ?_
  refine as1 rfl rfl ?_
  refine as1 rfl rfl ?_
  refine l_nil (n_then (ref_ret ?_))
  exact fin2 (.inl rfl) ((χ2 3).V, (χ2 6).V) [2, 0, 1] rfl ⟨rfl, rfl, rfl, trivial⟩ rfl (rv_tmp rfl) (rv_tmp rfl)

/-! deliberation/grounded.Label -/
noncomputable def grounded_Label_m (g_0 : T_api_Graph) : Option (List Int) :=
  Option.bind (grounded_build_m g_0) fun t2 =>
  some t2.1

theorem grounded_Label_ok {g_0 : T_api_Graph} {r : List Int} (hm : grounded_Label_m g_0 = some r) :
    FnOk prog 43 [ag [iv .i64 g_0.N, slv rT_api_Pair g_0.L]] [tbO (rI .u8) 0 tab_0] (fun (x : (Value × List Nat)) => [pv x.1]) (fun (x : (Value × List Nat)) => [tbO (rI .u8) 0 tab_0, oa (rI .i64) x.1 x.2 r]) := by
  refine fn_ok (X := (Value × List Nat)) (fn := Tryd.f43) (N := 11) (res := fun r x => [pv x.1]) (Ω1 := fun r x => [tbO (rI .u8) 0 tab_0, oa (rI .i64) x.1 x.2 r]) Tryd.func43 rfl rfl hm rfl (fun E hM => ?_)
  unfold grounded_Label_m
  refine ref_seq (ref_region ?_)
  refine s_st (s_box (part_agO (ψs := [iv .i64 g_0.N, slv rT_api_Pair g_0.L]) rfl ⟨.inl iv_at, .inl slv_at, trivial⟩)) rfl (fun b1 => ?_)
  refine as1 rfl rfl ?_
  refine l_nil (n_then (ref_seq (ref_region ?_)))
  refine s_rd (r_cloadS Tryd.isAgg50 Tryd.sizeOf50 rfl (j := 1) rfl rfl rfl) rfl ?_
  refine pull fun t2 h_t2 => ?_
  refine s_st (s_callC [0] [true] (fun (x3 : (Value × List Nat) × (Value × List Nat)) => [tbO (rI .u8) 0 tab_0]) (fun (x3 : (Value × List Nat) × (Value × List Nat)) => [oa (rI .i64) x3.1.1 x3.1.2 t2.1, oa (rI .i64) x3.2.1 x3.2.2 t2.2]) (fun (x3 : (Value × List Nat) × (Value × List Nat)) => tup [pv x3.1.1, pv x3.2.1]) (args := [.tmp 6]) (caps := []) Tryd.call67 rfl (grounded_build_ok h_t2) ⟨rfl, rfl, trivial⟩ (fun _ => rfl) (fun _ => trivial) (fun _ => rfl) ⟨arg rfl, trivial⟩ (fun _ _ _ _ h => h)) rfl (fun x3 => ?_)
  refine mv1 rfl rfl ?_
  refine s_rd (r_extract rfl rfl) rfl ?_
  refine s_rd (r_extract rfl rfl) rfl ?_
  refine as1 rfl rfl ?_
  refine as1 rfl rfl ?_
  refine l_nil (n_then (ref_seq (ref_region ?_)))
  refine mv1 rfl rfl ?_
  refine as1 rfl rfl ?_
  refine l_nil (n_then (ref_ret ?_))
  exact fin1 (.inl rfl) x3.1 [0, 2] rfl ⟨rfl, rfl, trivial⟩ rfl (rv_tmp rfl)

/-! deliberation/precedent.Decide -/
noncomputable def precedent_Decide_l1 (l_0 : T_api_Library) (t2 : List Int × T_api_Graph × Int) (labels6 : List Int) (s18 : Int) : Option (Sum ((Sum (Int × Int × Int) (Unit))) (Int)) :=
  bif decide (s18 < (t2.1.length : Int)) then
    Option.bind (idxM t2.1 s18) fun i21 =>
    joinM (fun j23 : Bool =>
        bif j23 then
          Option.bind (idxM l_0.Cases i21) fun t27 =>
          some (Sum.inl (Sum.inl (t27.Winner, i21, 0)))
        else
          some (Sum.inr (iadd .i64 s18 1))) fun k25 =>
    bif decide (s18 < (labels6.length : Int)) then
      Option.bind (idxM labels6 s18) fun t22 =>
      k25 (t22 == 1)
    else
      k25 false
  else
    some (Sum.inl (Sum.inr ()))

noncomputable def precedent_Decide_m (l_0 : T_api_Library) (facts_1 : (List ByteArray)) : Option (Int × Int × Int) :=
  Option.bind (precedent_Citable_m l_0 facts_1) fun t2 =>
  bif t2.2.2 != 0 then
    some (0, 0, t2.2.2)
  else
    Option.bind (grounded_Label_m t2.2.1) fun labels6 =>
    Option.bind (loopC (precedent_Decide_l1 l_0 t2 labels6) 0) (sumK (fun a : Int × Int × Int => some a) fun q28 : Unit =>
      some (0, (-1), 0))

theorem precedent_Decide_ok {l_0 : T_api_Library} {facts_1 : (List ByteArray)} {r : Int × Int × Int} (hm : precedent_Decide_m l_0 facts_1 = some r) :
    FnOk prog 20 [ag [slv rS l_0.Sides.i0, slv rS l_0.Sides.i1, slv rT_api_Case l_0.Cases], slv rS facts_1] [tbO (rI .u8) 0 tab_0] (fun (x : Unit) => [iv .i64 r.1, iv .i64 r.2.1, iv .i64 r.2.2]) (fun (x : Unit) => [tbO (rI .u8) 0 tab_0]) := by
  refine fn_ok (fn := Tryd.f20) (N := 51) (res := fun r x => [iv .i64 r.1, iv .i64 r.2.1, iv .i64 r.2.2]) (Ω1 := fun r x => [tbO (rI .u8) 0 tab_0]) Tryd.func20 rfl rfl hm rfl (fun E hM => ?_)
  unfold precedent_Decide_m
  refine ref_seq (ref_region ?_)
  refine s_st (s_box (part_agO (ψs := [slv rS l_0.Sides.i0, slv rS l_0.Sides.i1, slv rT_api_Case l_0.Cases]) rfl ⟨.inl slv_at, .inl slv_at, .inl slv_at, trivial⟩)) rfl (fun b1 => ?_)
  refine as1 rfl rfl ?_
  refine as1 rfl rfl ?_
  refine as1 rfl rfl ?_
  refine l_nil (n_then (ref_seq (ref_region ?_)))
  refine s_rd (r_cloadS Tryd.isAgg29 Tryd.sizeOf29 rfl (j := 1) rfl rfl rfl) rfl ?_
  refine mv1 rfl rfl ?_
  refine pull fun t2 h_t2 => ?_
  refine s_st (s_call (ψ := fun (x3 : (Value × List Nat)) => tup [pv x3.1, ag [iv .i64 t2.2.1.N, slv rT_api_Pair t2.2.1.L], iv .i64 t2.2.2]) (args := [.tmp 14, .tmp 15]) Tryd.call19 rfl (precedent_Citable_ok h_t2) ⟨arg rfl, arg rfl, trivial⟩ (fun _ _ _ _ h => h)) rfl (fun x3 => ?_)
  refine mv1 rfl rfl ?_
  refine s_rd (r_extract rfl rfl) rfl ?_
  refine s_rd (r_extract rfl rfl) rfl ?_
  refine s_rd (r_extract rfl rfl) rfl ?_
  refine s_st (s_alloc zt_50) rfl (fun b4 => ?_)
  refine as1 rfl rfl ?_
  refine s_st0 (s_cstore (out := [iv .i64 t2.2.1.N, slv rT_api_Pair t2.2.1.L]) Tryd.sizeOf50 rfl (j := 3) rfl (part_agO (ψs := [iv .i64 t2.2.1.N, slv rT_api_Pair t2.2.1.L]) rfl ⟨.inl iv_at, .inl slv_at, trivial⟩) rfl rfl rfl) (fun _ => ?_)
  refine as1 rfl rfl ?_
  refine l_nil ?_
  refine b_of (nrm [tbO (rI .u8) 0 tab_0, oc b1 [slv rS l_0.Sides.i0, slv rS l_0.Sides.i1, slv rT_api_Case l_0.Cases], oa (rI .i64) x3.1 x3.2 t2.1, oc b4 [iv .i64 t2.2.1.N, slv rT_api_Pair t2.2.1.L]] rfl) ?_
  refine n_then (ref_seq (ref_seq (ref_region ?_)))
  refine mv1 rfl rfl ?_
  refine s_rd (r_neq rfl rfl) rfl ?_
  refine l_nil (n_then ?_)
  refine ref_cond rfl (fun hb5 => ?_) (fun hb5 => ?_)
  · refine ref_seq (ref_region ?_)
    refine mv1 rfl rfl ?_
    refine as1 rfl rfl ?_
    refine as1 rfl rfl ?_
    refine as1 rfl rfl ?_
    refine l_nil (n_then (ref_ret (r_then ?_)))
    exact fin3 (.inl rfl) () [0] rfl ⟨rfl, trivial⟩ rfl (rv_tmp rfl) (rv_tmp rfl) (rv_tmp rfl)
  refine ref_skip (n_then (ref_seq (ref_region ?_)))
  refine s_rd (r_cloadS Tryd.isAgg50 Tryd.sizeOf50 rfl (j := 3) rfl rfl rfl) rfl ?_
  refine pull fun labels6 h_labels6 => ?_
  refine s_st (s_callC [0] [true] (fun (x7 : (Value × List Nat)) => [tbO (rI .u8) 0 tab_0]) (fun (x7 : (Value × List Nat)) => [oa (rI .i64) x7.1 x7.2 labels6]) (fun (x7 : (Value × List Nat)) => pv x7.1) (args := [.tmp 23]) (caps := []) Tryd.call43 rfl (grounded_Label_ok h_labels6) ⟨rfl, rfl, trivial⟩ (fun _ => rfl) (fun _ => trivial) (fun _ => rfl) ⟨arg rfl, trivial⟩ (fun _ _ _ _ h => h)) rfl (fun x7 => ?_)
  refine as1 rfl rfl ?_
  refine l_nil (n_then (ref_seq (ref_seq (ref_region ?_))))
  refine mv1 rfl rfl ?_
  refine s_rd (r_olen Tryd.underlying22 rfl (j := 2) rfl) rfl ?_
  refine mv1 rfl rfl ?_
  refine l_nil (n_then ?_)
  refine ref_loopX (f := (precedent_Decide_l1 l_0 t2 labels6)) (Γl := (fun (s18 : Int) (x19 : Unit) => [(2, pv (ptr b1 0)), (10, pv x7.1), (25, pv x3.1), (26, iv .i64 (t2.1.length : Int)), (27, iv .i64 s18)])) (Ωl := (fun (s18 : Int) (x19 : Unit) => [tbO (rI .u8) 0 tab_0, oc b1 [slv rS l_0.Sides.i0, slv rS l_0.Sides.i1, slv rT_api_Case l_0.Cases], oa (rI .i64) x7.1 x7.2 labels6, oa (rI .i64) x3.1 x3.2 t2.1])) (Γb := (fun (q28 : Unit) (y29 : Unit) => [])) (Ωb := (fun (q28 : Unit) (y29 : Unit) => [tbO (rI .u8) 0 tab_0])) (kr := (fun a : Int × Int × Int => some a)) 0 () (weak [0, 1, 4, 2] ⟨rfl, rfl, rfl, rfl, rfl, trivial⟩ ⟨rfl, rfl, rfl, rfl, trivial⟩) (fun s18 x19 => ?_) (fun q28 y29 => ?_)
  · unfold precedent_Decide_l1
    refine ref_seq (ref_region ?_)
    refine s_rd (r_lss rfl rfl) rfl ?_
    refine l_nil (n_then (ref_seq ?_))
    refine ref_cond rfl (fun hb20 => ?_) (fun hb20 => ?_)
    · refine ref_skip (n_then (ref_seq (ref_block (ref_seq (ref_region ?_)))))
      refine mv1 rfl rfl ?_
      refine pull fun i21 h_i21 => ?_
      refine s_rd (r_oindex h_i21 Tryd.underlying22 el_3 rfl (j := 3) rfl rfl) rfl ?_
      refine s_rd (r_oload h_i21 el_3 rfl (j := 3) rfl) rfl ?_
      refine as1 rfl rfl ?_
      refine as1 rfl rfl ?_
      refine l_nil (n_then (ref_seq ?_))
      refine ref_join (fun (j23 : Bool) (x24 : Unit) => [(2, pv (ptr b1 0)), (10, pv x7.1), (12, iv .i64 i21), (25, pv x3.1), (26, iv .i64 (t2.1.length : Int)), (27, iv .i64 s18), (42, bv j23)]) (fun (j23 : Bool) (x24 : Unit) => [oc b1 [slv rS l_0.Sides.i0, slv rS l_0.Sides.i1, slv rT_api_Case l_0.Cases], oa (rI .i64) x7.1 x7.2 labels6, oa (rI .i64) x3.1 x3.2 t2.1, tbO (rI .u8) 0 tab_0]) (fun k25 hk25 => ?_) (fun j23 x24 => ?_)
      · refine ref_region ?_
        refine mv1 rfl rfl ?_
        refine mv1 rfl rfl ?_
        refine s_rd (r_olen Tryd.underlying22 rfl (j := 2) rfl) rfl ?_
        refine s_rd (r_lss rfl rfl) rfl ?_
        refine mv1 rfl rfl ?_
        refine b_split (t := 36) rfl (fun _ => ?_) (fun _ => ?_)
        · refine s_on rfl rfl rfl ?_
          refine mv1 rfl rfl ?_
          refine s_on rfl rfl rfl ?_
          refine mv1 rfl rfl ?_
          refine s_on rfl rfl rfl ?_
          refine pull fun t22 h_t22 => ?_
          refine s_rd (r_oindex h_t22 Tryd.underlying22 el_3 rfl (j := 2) rfl rfl) rfl ?_
          refine s_on rfl rfl rfl ?_
          refine s_rd (r_oload h_t22 el_3 rfl (j := 2) rfl) rfl ?_
          refine s_on rfl rfl rfl ?_
          refine s_rd (r_eql rfl rfl) rfl ?_
          refine s_rd (r_pickT rfl rfl) rfl ?_
          refine l_nil ?_
          exact b_to (hk25 (t22 == 1) ()) (weak [1, 2, 3, 0] ⟨rfl, rfl, rfl, rfl, rfl, rfl, rfl, trivial⟩ ⟨rfl, rfl, rfl, rfl, trivial⟩)
        refine s_off rfl rfl rfl rfl rfl ?_
        refine s_off rfl rfl rfl rfl rfl ?_
        refine s_off rfl rfl rfl rfl rfl ?_
        refine s_off rfl rfl rfl rfl rfl ?_
        refine s_off rfl rfl rfl rfl rfl ?_
        refine s_rd (r_pickF rfl rfl) rfl ?_
        refine l_nil ?_
        exact b_to (hk25 false ()) (weak [1, 2, 3, 0] ⟨rfl, rfl, rfl, rfl, rfl, rfl, rfl, trivial⟩ ⟨rfl, rfl, rfl, rfl, trivial⟩)
      refine n_then ?_
      refine ref_cond rfl (fun hb26 => ?_) (fun hb26 => ?_)
      · refine ref_seq (ref_region ?_)
        refine s_rd (r_faddr (fo := 2) Tryd.underlying29 rfl rfl Tryd.sizeOf27 rfl) rfl ?_
        refine s_rd (r_cload Tryd.isAgg27 rfl (j := 0) rfl rfl) rfl ?_
        refine mv1 rfl rfl ?_
        refine pull fun t27 h_t27 => ?_
        refine s_rd (r_index h_t27 Tryd.underlying27 el_39 rfl rfl) rfl ?_
        refine s_rd (r_fea (fo := 2) (ρ := rT_api_Case) (y := t27) (ρ' := (rI .i64)) (z := t27.Winner) Tryd.underlying39 rfl rfl Tryd.sizeOf3 rfl rfl rfl) rfl ?_
        refine s_rd (r_load el_3 rfl) rfl ?_
        refine mv1 rfl rfl ?_
        refine as1 rfl rfl ?_
        refine as1 rfl rfl ?_
        refine as1 rfl rfl ?_
        refine l_nil (n_then (ref_ret (r_block (r_then ?_))))
        refine retX ?_
        refine r_block (r_then ?_)
        exact fin3 (.inl rfl) () [3] rfl ⟨rfl, trivial⟩ rfl (rv_tmp rfl) (rv_tmp rfl) (rv_tmp rfl)
      refine ref_skip (n_block (n_then (ref_region ?_)))
      refine s_rd (r_add rfl rfl) rfl ?_
      refine mv1 rfl rfl ?_
      refine l_nil ?_
      exact goX () (weak [3, 0, 1, 2] ⟨rfl, rfl, rfl, rfl, rfl, trivial⟩ ⟨rfl, rfl, rfl, rfl, trivial⟩)
    refine ref_exit (x_then ?_)
    exact brkX () (weak [0] trivial ⟨rfl, trivial⟩)
  refine n_then (ref_seq (ref_region ?_))
  refine as1 rfl rfl ?_
  refine as1 rfl rfl ?_
  refine as1 rfl rfl ?_
  refine l_nil (n_then (ref_ret ?_))
  exact fin3 (.inl rfl) () [0] rfl ⟨rfl, trivial⟩ rfl (rv_tmp rfl) (rv_tmp rfl) (rv_tmp rfl)

/-! deliberation/deliberationkeep.Ints -/
noncomputable def keep_Ints_l1 (a__0 : (List Int)) (b_1 : (List Int)) (s8 : Int) : Option (Sum ((Sum (Bool) (Unit))) (Int)) :=
  bif decide (s8 < (a__0.length : Int)) then
    Option.bind (idxM a__0 s8) fun t11 =>
    Option.bind (idxM b_1 s8) fun t12 =>
    bif t11 != t12 then
      some (Sum.inl (Sum.inl false))
    else
      some (Sum.inr (iadd .i64 s8 1))
  else
    some (Sum.inl (Sum.inr ()))

noncomputable def keep_Ints_m (a__0 : (List Int)) (b_1 : (List Int)) : Option (Bool) :=
  bif (a__0.length : Int) != (b_1.length : Int) then
    some false
  else
    Option.bind (loopC (keep_Ints_l1 a__0 b_1) 0) (sumK (fun a : Bool => some a) fun q14 : Unit =>
      some true)

theorem keep_Ints_ok {a__0 : (List Int)} {b_1 : (List Int)} {r : Bool} (hm : keep_Ints_m a__0 b_1 = some r) :
    FnOk prog 38 [slv (rI .i64) a__0, slv (rI .i64) b_1] [] (fun (x : Unit) => [bv r]) (fun (x : Unit) => []) := by
  refine fn_ok (fn := Tryd.f38) (N := 26) (res := fun r x => [bv r]) (Ω1 := fun r x => []) Tryd.func38 rfl rfl hm rfl (fun E hM => ?_)
  unfold keep_Ints_m
  refine ref_seq (ref_region ?_)
  refine as1 rfl rfl ?_
  refine l_nil (n_then (ref_seq (ref_seq (ref_region ?_))))
  refine mv1 rfl rfl ?_
  refine s_rd (r_len Tryd.underlying22 rfl) rfl ?_
  refine mv1 rfl rfl ?_
  refine s_rd (r_len Tryd.underlying22 rfl) rfl ?_
  refine s_rd (r_neq rfl rfl) rfl ?_
  refine l_nil (n_then ?_)
  refine ref_cond rfl (fun hb1 => ?_) (fun hb1 => ?_)
  · refine ref_seq (ref_region ?_)
    refine as1 rfl rfl ?_
    refine l_nil (n_then (ref_ret (r_then ?_)))
    exact fin1 (.inl rfl) () [] rfl trivial rfl (rv_tmp rfl)
  refine ref_skip (n_then (ref_seq (ref_seq (ref_region ?_))))
  refine mv1 rfl rfl ?_
  refine s_rd (r_len Tryd.underlying22 rfl) rfl ?_
  refine mv1 rfl rfl ?_
  refine l_nil (n_then ?_)
  refine ref_loopX (f := (keep_Ints_l1 a__0 b_1)) (Γl := (fun (s8 : Int) (x9 : Unit) => [(0, slv (rI .i64) a__0), (1, slv (rI .i64) b_1), (12, iv .i64 (a__0.length : Int)), (13, iv .i64 s8)])) (Ωl := (fun (s8 : Int) (x9 : Unit) => [])) (Γb := (fun (q14 : Unit) (y15 : Unit) => [])) (Ωb := (fun (q14 : Unit) (y15 : Unit) => [])) (kr := (fun a : Bool => some a)) 0 () (weak [] ⟨rfl, rfl, rfl, rfl, trivial⟩ trivial) (fun s8 x9 => ?_) (fun q14 y15 => ?_)
  · unfold keep_Ints_l1
    refine ref_seq (ref_region ?_)
    refine s_rd (r_lss rfl rfl) rfl ?_
    refine l_nil (n_then (ref_seq ?_))
    refine ref_cond rfl (fun hb10 => ?_) (fun hb10 => ?_)
    · refine ref_skip (n_then (ref_seq (ref_block (ref_seq (ref_region ?_)))))
      refine mv1 rfl rfl ?_
      refine as1 rfl rfl ?_
      refine l_nil (n_then (ref_seq ?_))
      refine ref_draw [0, 1, 2, 3, 4, 5, 6, 7, 8] rfl (by kernel_rfl) (fun hok => ?_)
      refine a_rd (i := 0) hok rfl (by kernel_rfl) rfl (r_move rfl) rfl ?_
      refine a_rd (i := 1) hok rfl (by kernel_rfl) rfl (r_move rfl) rfl ?_
      refine pull fun t11 h_t11 => ?_
      refine a_rd (i := 2) hok rfl (by kernel_rfl) rfl (r_index h_t11 Tryd.underlying22 el_3 rfl rfl) rfl ?_
      refine a_rd (i := 3) hok rfl (by kernel_rfl) rfl (r_load el_3 rfl) rfl ?_
      refine a_rd (i := 4) hok rfl (by kernel_rfl) rfl (r_move rfl) rfl ?_
      refine a_rd (i := 5) hok rfl (by kernel_rfl) rfl (r_move rfl) rfl ?_
      refine pull fun t12 h_t12 => ?_
      refine a_rd (i := 6) hok rfl (by kernel_rfl) rfl (r_index h_t12 Tryd.underlying22 el_3 rfl rfl) rfl ?_
      refine a_rd (i := 7) hok rfl (by kernel_rfl) rfl (r_load el_3 rfl) rfl ?_
      refine a_rd (i := 8) hok rfl (by kernel_rfl) rfl (r_neq rfl rfl) rfl ?_
      refine a_fin hok (by kernel_rfl) ?_
      refine n_then ?_
      refine ref_cond rfl (fun hb13 => ?_) (fun hb13 => ?_)
      · refine ref_seq (ref_region ?_)
        refine as1 rfl rfl ?_
        refine l_nil (n_then (ref_ret (r_block (r_then ?_))))
        refine retX ?_
        refine r_block (r_then ?_)
        exact fin1 (.inl rfl) () [] rfl trivial rfl (rv_tmp rfl)
      refine ref_skip (n_block (n_then (ref_region ?_)))
      refine s_rd (r_add rfl rfl) rfl ?_
      refine mv1 rfl rfl ?_
      refine l_nil ?_
      exact goX () (weak [] ⟨rfl, rfl, rfl, rfl, trivial⟩ trivial)
    refine ref_exit (x_then ?_)
    exact brkX () (weak [] trivial trivial)
  refine n_then (ref_seq (ref_region ?_))
  refine as1 rfl rfl ?_
  refine l_nil (n_then (ref_ret ?_))
  exact fin1 (.inl rfl) () [] rfl trivial rfl (rv_tmp rfl)

/-! deliberation/deliberationref38.Same -/
noncomputable def ref38_Same_l1 (a__0 : (List ByteArray)) (b_1 : (List ByteArray)) (s8 : Int) : Option (Sum ((Sum (Bool) (Unit))) (Int)) :=
  bif decide (s8 < (a__0.length : Int)) then
    Option.bind (idxM a__0 s8) fun t11 =>
    Option.bind (idxM b_1 s8) fun t12 =>
    bif !(t11.toList == t12.toList) then
      some (Sum.inl (Sum.inl false))
    else
      some (Sum.inr (iadd .i64 s8 1))
  else
    some (Sum.inl (Sum.inr ()))

noncomputable def ref38_Same_m (a__0 : (List ByteArray)) (b_1 : (List ByteArray)) : Option (Bool) :=
  bif (a__0.length : Int) != (b_1.length : Int) then
    some false
  else
    Option.bind (loopC (ref38_Same_l1 a__0 b_1) 0) (sumK (fun a : Bool => some a) fun q14 : Unit =>
      some true)

theorem ref38_Same_ok {a__0 : (List ByteArray)} {b_1 : (List ByteArray)} {r : Bool} (hm : ref38_Same_m a__0 b_1 = some r) :
    FnOk prog 39 [slv rS a__0, slv rS b_1] [] (fun (x : Unit) => [bv r]) (fun (x : Unit) => []) := by
  refine fn_ok (fn := Tryd.f39) (N := 26) (res := fun r x => [bv r]) (Ω1 := fun r x => []) Tryd.func39 rfl rfl hm rfl (fun E hM => ?_)
  unfold ref38_Same_m
  refine ref_seq (ref_region ?_)
  refine as1 rfl rfl ?_
  refine l_nil (n_then (ref_seq (ref_seq (ref_region ?_))))
  refine mv1 rfl rfl ?_
  refine s_rd (r_len Tryd.underlying25 rfl) rfl ?_
  refine mv1 rfl rfl ?_
  refine s_rd (r_len Tryd.underlying25 rfl) rfl ?_
  refine s_rd (r_neq rfl rfl) rfl ?_
  refine l_nil (n_then ?_)
  refine ref_cond rfl (fun hb1 => ?_) (fun hb1 => ?_)
  · refine ref_seq (ref_region ?_)
    refine as1 rfl rfl ?_
    refine l_nil (n_then (ref_ret (r_then ?_)))
    exact fin1 (.inl rfl) () [] rfl trivial rfl (rv_tmp rfl)
  refine ref_skip (n_then (ref_seq (ref_seq (ref_region ?_))))
  refine as1 rfl rfl ?_
  refine l_nil (n_then ?_)
  refine ref_loopX (f := (ref38_Same_l1 a__0 b_1)) (Γl := (fun (s8 : Int) (x9 : Unit) => [(0, slv rS a__0), (1, slv rS b_1), (5, iv .i64 s8)])) (Ωl := (fun (s8 : Int) (x9 : Unit) => [])) (Γb := (fun (q14 : Unit) (y15 : Unit) => [])) (Ωb := (fun (q14 : Unit) (y15 : Unit) => [])) (kr := (fun a : Bool => some a)) 0 () (weak [] ⟨rfl, rfl, rfl, trivial⟩ trivial) (fun s8 x9 => ?_) (fun q14 y15 => ?_)
  · unfold ref38_Same_l1
    refine ref_seq (ref_seq (ref_region ?_))
    refine mv1 rfl rfl ?_
    refine mv1 rfl rfl ?_
    refine s_rd (r_len Tryd.underlying25 rfl) rfl ?_
    refine s_rd (r_lss rfl rfl) rfl ?_
    refine l_nil (n_then ?_)
    refine ref_cond rfl (fun hb10 => ?_) (fun hb10 => ?_)
    · refine ref_skip (n_then (ref_seq (ref_block (ref_seq ?_))))
      refine ref_draw [0, 1, 2, 3, 4, 5, 6, 7, 8] rfl (by kernel_rfl) (fun hok => ?_)
      refine a_rd (i := 0) hok rfl (by kernel_rfl) rfl (r_move rfl) rfl ?_
      refine a_rd (i := 1) hok rfl (by kernel_rfl) rfl (r_move rfl) rfl ?_
      refine pull fun t11 h_t11 => ?_
      refine a_rd (i := 2) hok rfl (by kernel_rfl) rfl (r_index h_t11 Tryd.underlying25 el_9 rfl rfl) rfl ?_
      refine a_rd (i := 3) hok rfl (by kernel_rfl) rfl (r_load el_9 rfl) rfl ?_
      refine a_rd (i := 4) hok rfl (by kernel_rfl) rfl (r_move rfl) rfl ?_
      refine a_rd (i := 5) hok rfl (by kernel_rfl) rfl (r_move rfl) rfl ?_
      refine pull fun t12 h_t12 => ?_
      refine a_rd (i := 6) hok rfl (by kernel_rfl) rfl (r_index h_t12 Tryd.underlying25 el_9 rfl rfl) rfl ?_
      refine a_rd (i := 7) hok rfl (by kernel_rfl) rfl (r_load el_9 rfl) rfl ?_
      refine a_rd (i := 8) hok rfl (by kernel_rfl) rfl (r_sneq rfl rfl) rfl ?_
      refine a_fin hok (by kernel_rfl) ?_
      refine n_then ?_
      refine ref_cond rfl (fun hb13 => ?_) (fun hb13 => ?_)
      · refine ref_seq (ref_region ?_)
        refine as1 rfl rfl ?_
        refine l_nil (n_then (ref_ret (r_block (r_then ?_))))
        refine retX ?_
        refine r_block (r_then ?_)
        exact fin1 (.inl rfl) () [] rfl trivial rfl (rv_tmp rfl)
      refine ref_skip (n_block (n_then (ref_region ?_)))
      refine mv1 rfl rfl ?_
      refine s_rd (r_add rfl rfl) rfl ?_
      refine as1 rfl rfl ?_
      refine l_nil ?_
      exact goX () (weak [] ⟨rfl, rfl, rfl, trivial⟩ trivial)
    refine ref_exit (x_then ?_)
    exact brkX () (weak [] trivial trivial)
  refine n_then (ref_seq (ref_region ?_))
  refine as1 rfl rfl ?_
  refine l_nil (n_then (ref_ret ?_))
  exact fin1 (.inl rfl) () [] rfl trivial rfl (rv_tmp rfl)

end Go.Dc
