/- Part LAW23C.A1 of a proof: lemmas. -/
import Derived.Test.YtkcaadcoagimdaaDoorLAW23CA0
import Derived.Test.YtkcaadcoagimdaaDoorProg
set_option linter.unusedVariables false
set_option maxRecDepth 100000
set_option maxHeartbeats 4000000
namespace Go.Dc
open Go.Proofs
open Go.Proofs.Tryd (prog)

/-! (deliberation/network.Net).Stable -/
noncomputable def network_Net_Stable_m (n_0 : T_network_Net) (s_1 : Int) : Option (Bool) :=
  Option.bind (network_Net_Free_m n_0 s_1) fun t2 =>
  bif t2 then
    Option.bind (network_Net_Hit_m n_0 s_1) fun t3 =>
    some ((iandn .u64 (iandn .u64 n_0.All s_1) t3) == 0)
  else
    some false

theorem network_Net_Stable_ok {n_0 : T_network_Net} {s_1 : Int} {r : Bool} (hm : network_Net_Stable_m n_0 s_1 = some r) :
    FnOk prog 80 [ag [iv .u64 n_0.All, slv (rI .u64) n_0.By, slv (rI .u64) n_0.Out], iv .u64 s_1] [tbO (rI .u8) 0 tab_0] (fun (x : Unit) => [bv r]) (fun (x : Unit) => [tbO (rI .u8) 0 tab_0]) := by
  refine fn_ok (fn := Tryd.f80) (N := 19) (res := fun r x => [bv r]) (Ω1 := fun r x => [tbO (rI .u8) 0 tab_0]) Tryd.func80 rfl rfl hm rfl (fun E hM => ?_)
  unfold network_Net_Stable_m
  refine ref_seq (ref_region ?_)
  refine s_st (s_box (part_agO (ψs := [iv .u64 n_0.All, slv (rI .u64) n_0.By, slv (rI .u64) n_0.Out]) rfl ⟨.inl iv_at, .inl slv_at, .inl slv_at, trivial⟩)) rfl (fun b1 => ?_)
  refine as1 rfl rfl ?_
  refine l_nil (n_then (ref_seq ?_))
  refine ref_draw [0, 1, 3, 4, 5, 6, 7, 8, 9, 11, 12, 13] rfl (by kernel_rfl) (fun hok => ?_)
  refine a_rd (i := 0) hok rfl (by kernel_rfl) rfl (r_cloadS Tryd.isAgg74 Tryd.sizeOf74 rfl (j := 1) rfl rfl rfl) rfl ?_
  refine a_rd (i := 1) hok rfl (by kernel_rfl) rfl (r_move rfl) rfl ?_
  refine pull fun t2 h_t2 => ?_
  refine a_next hok 2 [] (by kernel_rfl) ?_ trivial
  refine a_st (i := 2) hok rfl rfl (s_callC [0] [true] (fun (_ : Unit) => [tbO (rI .u8) 0 tab_0]) (fun (_ : Unit) => []) (fun (_ : Unit) => bv t2) (args := [.tmp 5, .tmp 6]) (caps := []) Tryd.call88 rfl (network_Net_Free_ok h_t2) ⟨rfl, rfl, trivial⟩ (fun _ => rfl) (fun _ => trivial) (fun _ => rfl) ⟨arg rfl, arg rfl, trivial⟩ (fun _ _ _ _ h => h)) (by intro _ h; cases h; rfl) (fun _ => ⟨trivial, ⟨trivial, trivial⟩⟩) (fun _ => ?_)
  refine a_rd (i := 3) hok rfl (by kernel_rfl) rfl (r_move rfl) rfl ?_
  refine b_split (t := 8) rfl (fun _ => ?_) (fun _ => ?_)
  · refine a_rdOn (i := 4) hok rfl rfl rfl rfl (by kernel_rfl) rfl (r_faddr (fo := 0) Tryd.underlying74 rfl rfl Tryd.sizeOf67 rfl) rfl ?_
    refine a_rdOn (i := 5) hok rfl rfl rfl rfl (by kernel_rfl) rfl (r_cload Tryd.isAgg67 rfl (j := 1) rfl rfl) rfl ?_
    refine a_rdOn (i := 6) hok rfl rfl rfl rfl (by kernel_rfl) rfl (r_move rfl) rfl ?_
    refine a_rdOn (i := 7) hok rfl rfl rfl rfl (by kernel_rfl) rfl (r_andn rfl rfl) rfl ?_
    refine a_rdOn (i := 8) hok rfl rfl rfl rfl (by kernel_rfl) rfl (r_cloadS Tryd.isAgg74 Tryd.sizeOf74 rfl (j := 1) rfl rfl rfl) rfl ?_
    refine a_rdOn (i := 9) hok rfl rfl rfl rfl (by kernel_rfl) rfl (r_move rfl) rfl ?_
    refine pull fun t3 h_t3 => ?_
    refine a_next hok 10 [] (by kernel_rfl) ?_ trivial
    refine a_stOn (i := 10) hok rfl rfl rfl rfl rfl (s_callC [0] [true] (fun (_ : Unit) => [tbO (rI .u8) 0 tab_0]) (fun (_ : Unit) => []) (fun (_ : Unit) => iv .u64 t3) (args := [.tmp 13, .tmp 14]) (caps := []) Tryd.call83 rfl (network_Net_Hit_ok h_t3) ⟨rfl, rfl, trivial⟩ (fun _ => rfl) (fun _ => trivial) (fun _ => rfl) ⟨arg rfl, arg rfl, trivial⟩ (fun _ _ _ _ h => h)) (by intro _ h; cases h; rfl) (fun _ => ⟨trivial, ⟨trivial, ⟨trivial, ⟨trivial, ⟨⟨⟨rfl, rfl⟩, trivial⟩, ⟨trivial, ⟨trivial, ⟨trivial, ⟨⟨⟨rfl, rfl⟩, trivial⟩, trivial⟩⟩⟩⟩⟩⟩⟩⟩⟩) (fun _ => ?_)
    refine a_rdOn (i := 11) hok rfl rfl rfl rfl (by kernel_rfl) rfl (r_andn rfl rfl) rfl ?_
    refine a_rdOn (i := 12) hok rfl rfl rfl rfl (by kernel_rfl) rfl (r_eql rfl rfl) rfl ?_
    refine a_rd (i := 13) hok rfl (by kernel_rfl) rfl (r_pickT rfl rfl) rfl ?_
    refine a_next hok 14 [] (by kernel_rfl) ?_ trivial
    refine a_st (i := 14) hok rfl rfl (St.ofRd (r_assign rfl)) (by intro _ h; cases h; rfl) (fun _ => ⟨trivial, ⟨trivial, ⟨trivial, ⟨trivial, ⟨trivial, ⟨trivial, ⟨trivial, ⟨trivial, ⟨trivial, ⟨trivial, ⟨trivial, ⟨trivial, trivial⟩⟩⟩⟩⟩⟩⟩⟩⟩⟩⟩⟩) (fun _ => ?_)
    refine a_fin hok (by kernel_rfl) ?_
    refine b_of (nrm [tbO (rI .u8) 0 tab_0, oc b1 [iv .u64 n_0.All, slv (rI .u64) n_0.By, slv (rI .u64) n_0.Out]] rfl) ?_
    refine n_then (ref_ret ?_)
    exact fin1 (.inl rfl) () [0] rfl ⟨rfl, trivial⟩ rfl (rv_tmp rfl)
  refine a_off (i := 4) hok rfl rfl rfl rfl rfl (by kernel_rfl) rfl rfl ?_
  refine a_off (i := 5) hok rfl rfl rfl rfl rfl (by kernel_rfl) rfl rfl ?_
  refine a_off (i := 6) hok rfl rfl rfl rfl rfl (by kernel_rfl) rfl rfl ?_
  refine a_off (i := 7) hok rfl rfl rfl rfl rfl (by kernel_rfl) rfl rfl ?_
  refine a_off (i := 8) hok rfl rfl rfl rfl rfl (by kernel_rfl) rfl rfl ?_
  refine a_off (i := 9) hok rfl rfl rfl rfl rfl (by kernel_rfl) rfl rfl ?_
  refine a_next hok 10 [] (by kernel_rfl) ?_ trivial
  refine a_stOff (i := 10) hok rfl rfl rfl rfl rfl rfl (by intro _ h; cases h; rfl) ⟨trivial, ⟨trivial, ⟨trivial, ⟨trivial, ⟨trivial, ⟨trivial, ⟨trivial, ⟨trivial, ⟨⟨⟨rfl, rfl⟩, trivial⟩, trivial⟩⟩⟩⟩⟩⟩⟩⟩⟩ ?_
  refine a_off (i := 11) hok rfl rfl rfl rfl rfl (by kernel_rfl) rfl rfl ?_
  refine a_off (i := 12) hok rfl rfl rfl rfl rfl (by kernel_rfl) rfl rfl ?_
  refine a_rd (i := 13) hok rfl (by kernel_rfl) rfl (r_pickF rfl rfl) rfl ?_
  refine a_next hok 14 [] (by kernel_rfl) ?_ trivial
  refine a_st (i := 14) hok rfl rfl (St.ofRd (r_assign rfl)) (by intro _ h; cases h; rfl) (fun _ => ⟨trivial, ⟨trivial, ⟨trivial, ⟨trivial, ⟨trivial, ⟨trivial, ⟨trivial, ⟨trivial, ⟨trivial, ⟨trivial, ⟨trivial, ⟨trivial, trivial⟩⟩⟩⟩⟩⟩⟩⟩⟩⟩⟩⟩) (fun _ => ?_)
  refine a_fin hok (by kernel_rfl) ?_
  refine n_then (ref_ret ?_)
  exact fin1 (.inl rfl) () [0] rfl ⟨rfl, trivial⟩ rfl (rv_tmp rfl)

/-! (deliberation/network.Net).Answer$1 -/
noncomputable def network_Net_Answer_1_m (s_0 : Int) (p_1 : Int) (p_2 : T_network_Net) (p_3 : Int) (p_4 : Bool) (p_5 : Bool) : Option (Bool × Bool) :=
  joinM (fun j4 : Bool =>
      joinM (fun j8 : Bool =>
          bif j8 then
            some (false, !p_4)
          else
            some (true, p_5)) fun k10 =>
      bif j4 then
        Option.bind (network_Set_Has_m s_0 p_3) fun t7 =>
        k10 (!(t7 == p_4))
      else
        k10 false) fun k6 =>
  bif p_1 == 1 then
    Option.bind (network_Net_Admissible_m p_2 s_0) fun t1 =>
    bif t1 then
      k6 true
    else
      bif p_1 != 1 then
        Option.bind (network_Net_Stable_m p_2 s_0) fun t2 =>
        k6 t2
      else
        k6 false
  else
    bif p_1 != 1 then
      Option.bind (network_Net_Stable_m p_2 s_0) fun t3 =>
      k6 t3
    else
      k6 false

theorem network_Net_Answer_1_ok {s_0 : Int} {p_1 : Int} {p_2 : T_network_Net} {p_3 : Int} {p_4 : Bool} {p_5 : Bool} {b_1 : Nat} {b_2 : Nat} {b_3 : Nat} {b_4 : Nat} {b_5 : Nat} {r : Bool × Bool} (hm : network_Net_Answer_1_m s_0 p_1 p_2 p_3 p_4 p_5 = some r) :
    FnOk prog 78 [iv .u64 s_0, pv (ptr b_1 0), pv (ptr b_2 0), pv (ptr b_3 0), pv (ptr b_4 0), pv (ptr b_5 0)] [oc b_1 [iv .i64 p_1], oc b_2 [iv .u64 p_2.All, slv (rI .u64) p_2.By, slv (rI .u64) p_2.Out], oc b_3 [iv .i64 p_3], oc b_4 [bv p_4], oc b_5 [bv p_5], tbO (rI .u8) 0 tab_0] (fun (x : Unit) => [bv r.1]) (fun (x : Unit) => [oc b_1 [iv .i64 p_1], oc b_2 [iv .u64 p_2.All, slv (rI .u64) p_2.By, slv (rI .u64) p_2.Out], oc b_3 [iv .i64 p_3], oc b_4 [bv p_4], oc b_5 [bv r.2], tbO (rI .u8) 0 tab_0]) := by
  refine fn_ok (fn := Tryd.f78) (N := 35) (res := fun r x => [bv r.1]) (Ω1 := fun r x => [oc b_1 [iv .i64 p_1], oc b_2 [iv .u64 p_2.All, slv (rI .u64) p_2.By, slv (rI .u64) p_2.Out], oc b_3 [iv .i64 p_3], oc b_4 [bv p_4], oc b_5 [bv r.2], tbO (rI .u8) 0 tab_0]) Tryd.func78 rfl rfl hm rfl (fun E hM => ?_)
  unfold network_Net_Answer_1_m
  refine ref_seq (ref_region ?_)
  refine as1 rfl rfl ?_
  refine l_nil (n_then (ref_seq ?_))
  refine ref_join (fun (j4 : Bool) (x5 : Unit) => [(0, iv .u64 s_0), (1, pv (ptr b_1 0)), (2, pv (ptr b_2 0)), (3, pv (ptr b_3 0)), (4, pv (ptr b_4 0)), (5, pv (ptr b_5 0)), (8, bv j4)]) (fun (j4 : Bool) (x5 : Unit) => [oc b_1 [iv .i64 p_1], oc b_2 [iv .u64 p_2.All, slv (rI .u64) p_2.By, slv (rI .u64) p_2.Out], oc b_3 [iv .i64 p_3], oc b_4 [bv p_4], oc b_5 [bv p_5], tbO (rI .u8) 0 tab_0]) (fun k6 hk6 => ?_) (fun j4 x5 => ?_)
  · refine ref_region ?_
    refine s_rd (r_cload Tryd.isAgg3 rfl (j := 0) rfl rfl) rfl ?_
    refine s_rd (r_eql rfl rfl) rfl ?_
    refine mv1 rfl rfl ?_
    refine b_split (t := 11) rfl (fun _ => ?_) (fun _ => ?_)
    · refine s_on rfl rfl rfl ?_
      refine s_rd (r_cloadS Tryd.isAgg74 Tryd.sizeOf74 rfl (j := 1) rfl rfl rfl) rfl ?_
      refine s_on rfl rfl rfl ?_
      refine mv1 rfl rfl ?_
      refine s_on rfl rfl rfl ?_
      refine pull fun t1 h_t1 => ?_
      refine s_st (s_callC [5] [true] (fun (_ : Unit) => [tbO (rI .u8) 0 tab_0]) (fun (_ : Unit) => []) (fun (_ : Unit) => bv t1) (args := [.tmp 12, .tmp 13]) (caps := []) Tryd.call79 rfl (network_Net_Admissible_ok h_t1) ⟨rfl, rfl, trivial⟩ (fun _ => rfl) (fun _ => trivial) (fun _ => rfl) ⟨arg rfl, arg rfl, trivial⟩ (fun _ _ _ _ h => h)) rfl (fun _ => ?_)
      refine s_rd (r_pickT rfl rfl) rfl ?_
      refine mv1 rfl rfl ?_
      refine b_split (t := 16) rfl (fun _ => ?_) (fun _ => ?_)
      · refine s_off rfl rfl rfl rfl rfl ?_
        refine s_off rfl rfl rfl rfl rfl ?_
        refine s_off rfl rfl rfl rfl rfl ?_
        refine s_offU rfl rfl rfl ?_
        refine s_offU rfl rfl rfl ?_
        refine s_offU rfl rfl rfl ?_
        refine s_off rfl rfl rfl rfl rfl ?_
        refine s_rd (r_pickT rfl rfl) rfl ?_
        refine as1 rfl rfl ?_
        refine l_nil ?_
        exact b_to (hk6 true ()) (weak [0, 1, 2, 3, 4, 5] ⟨rfl, rfl, rfl, rfl, rfl, rfl, rfl, trivial⟩ ⟨rfl, rfl, rfl, rfl, rfl, rfl, trivial⟩)
      refine s_on rfl rfl rfl ?_
      refine s_rd (r_cload Tryd.isAgg3 rfl (j := 0) rfl rfl) rfl ?_
      refine s_on rfl rfl rfl ?_
      refine s_rd (r_neq rfl rfl) rfl ?_
      refine s_on rfl rfl rfl ?_
      refine mv1 rfl rfl ?_
      refine b_split (t := 19) rfl (fun _ => ?_) (fun _ => ?_)
      · refine s_on rfl rfl rfl ?_
        refine s_rd (r_cloadS Tryd.isAgg74 Tryd.sizeOf74 rfl (j := 1) rfl rfl rfl) rfl ?_
        refine s_on rfl rfl rfl ?_
        refine mv1 rfl rfl ?_
        refine s_on rfl rfl rfl ?_
        refine pull fun t2 h_t2 => ?_
        refine s_st (s_callC [5] [true] (fun (_ : Unit) => [tbO (rI .u8) 0 tab_0]) (fun (_ : Unit) => []) (fun (_ : Unit) => bv t2) (args := [.tmp 20, .tmp 21]) (caps := []) Tryd.call80 rfl (network_Net_Stable_ok h_t2) ⟨rfl, rfl, trivial⟩ (fun _ => rfl) (fun _ => trivial) (fun _ => rfl) ⟨arg rfl, arg rfl, trivial⟩ (fun _ _ _ _ h => h)) rfl (fun _ => ?_)
        refine s_on rfl rfl rfl ?_
        refine s_rd (r_pickT rfl rfl) rfl ?_
        refine s_rd (r_pickF rfl rfl) rfl ?_
        refine as1 rfl rfl ?_
        refine l_nil ?_
        exact b_to (hk6 t2 ()) (weak [0, 1, 2, 3, 4, 5] ⟨rfl, rfl, rfl, rfl, rfl, rfl, rfl, trivial⟩ ⟨rfl, rfl, rfl, rfl, rfl, rfl, trivial⟩)
      refine s_off rfl rfl rfl rfl rfl ?_
      refine s_off rfl rfl rfl rfl rfl ?_
      refine s_off rfl rfl rfl rfl rfl ?_
      refine s_on rfl rfl rfl ?_
      refine s_rd (r_pickF rfl rfl) rfl ?_
      refine s_rd (r_pickF rfl rfl) rfl ?_
      refine as1 rfl rfl ?_
      refine l_nil ?_
      exact b_to (hk6 false ()) (weak [0, 1, 2, 3, 4, 5] ⟨rfl, rfl, rfl, rfl, rfl, rfl, rfl, trivial⟩ ⟨rfl, rfl, rfl, rfl, rfl, rfl, trivial⟩)
    refine s_off rfl rfl rfl rfl rfl ?_
    refine s_off rfl rfl rfl rfl rfl ?_
    refine s_off rfl rfl rfl rfl rfl ?_
    refine s_rd (r_pickF rfl rfl) rfl ?_
    refine mv1 rfl rfl ?_
    refine s_on rfl rfl rfl ?_
    refine s_rd (r_cload Tryd.isAgg3 rfl (j := 0) rfl rfl) rfl ?_
    refine s_on rfl rfl rfl ?_
    refine s_rd (r_neq rfl rfl) rfl ?_
    refine s_on rfl rfl rfl ?_
    refine mv1 rfl rfl ?_
    refine b_split (t := 19) rfl (fun _ => ?_) (fun _ => ?_)
    · refine s_on rfl rfl rfl ?_
      refine s_rd (r_cloadS Tryd.isAgg74 Tryd.sizeOf74 rfl (j := 1) rfl rfl rfl) rfl ?_
      refine s_on rfl rfl rfl ?_
      refine mv1 rfl rfl ?_
      refine s_on rfl rfl rfl ?_
      refine pull fun t3 h_t3 => ?_
      refine s_st (s_callC [5] [true] (fun (_ : Unit) => [tbO (rI .u8) 0 tab_0]) (fun (_ : Unit) => []) (fun (_ : Unit) => bv t3) (args := [.tmp 20, .tmp 21]) (caps := []) Tryd.call80 rfl (network_Net_Stable_ok h_t3) ⟨rfl, rfl, trivial⟩ (fun _ => rfl) (fun _ => trivial) (fun _ => rfl) ⟨arg rfl, arg rfl, trivial⟩ (fun _ _ _ _ h => h)) rfl (fun _ => ?_)
      refine s_on rfl rfl rfl ?_
      refine s_rd (r_pickT rfl rfl) rfl ?_
      refine s_rd (r_pickF rfl rfl) rfl ?_
      refine as1 rfl rfl ?_
      refine l_nil ?_
      exact b_to (hk6 t3 ()) (weak [0, 1, 2, 3, 4, 5] ⟨rfl, rfl, rfl, rfl, rfl, rfl, rfl, trivial⟩ ⟨rfl, rfl, rfl, rfl, rfl, rfl, trivial⟩)
    refine s_off rfl rfl rfl rfl rfl ?_
    refine s_off rfl rfl rfl rfl rfl ?_
    refine s_off rfl rfl rfl rfl rfl ?_
    refine s_on rfl rfl rfl ?_
    refine s_rd (r_pickF rfl rfl) rfl ?_
    refine s_rd (r_pickF rfl rfl) rfl ?_
    refine as1 rfl rfl ?_
    refine l_nil ?_
    exact b_to (hk6 false ()) (weak [0, 1, 2, 3, 4, 5] ⟨rfl, rfl, rfl, rfl, rfl, rfl, rfl, trivial⟩ ⟨rfl, rfl, rfl, rfl, rfl, rfl, trivial⟩)
  refine n_then (ref_seq (ref_seq ?_))
  refine ref_join (fun (j8 : Bool) (x9 : Unit) => [(1, pv (ptr b_1 0)), (2, pv (ptr b_2 0)), (3, pv (ptr b_3 0)), (4, pv (ptr b_4 0)), (5, pv (ptr b_5 0)), (32, bv j8)]) (fun (j8 : Bool) (x9 : Unit) => [oc b_1 [iv .i64 p_1], oc b_2 [iv .u64 p_2.All, slv (rI .u64) p_2.By, slv (rI .u64) p_2.Out], oc b_3 [iv .i64 p_3], oc b_4 [bv p_4], oc b_5 [bv p_5], tbO (rI .u8) 0 tab_0]) (fun k10 hk10 => ?_) (fun j8 x9 => ?_)
  · refine ref_draw [0, 1, 2, 3, 5, 6, 7] rfl (by kernel_rfl) (fun hok => ?_)
    refine a_rd (i := 0) hok rfl (by kernel_rfl) rfl (r_move rfl) rfl ?_
    refine a_rd (i := 1) hok rfl (by kernel_rfl) rfl (r_move rfl) rfl ?_
    refine b_split (t := 26) rfl (fun _ => ?_) (fun _ => ?_)
    · refine a_rdOn (i := 2) hok rfl rfl rfl rfl (by kernel_rfl) rfl (r_move rfl) rfl ?_
      refine a_rdOn (i := 3) hok rfl rfl rfl rfl (by kernel_rfl) rfl (r_cload Tryd.isAgg3 rfl (j := 2) rfl rfl) rfl ?_
      refine a_rdOn (i := 5) hok rfl rfl rfl rfl (by kernel_rfl) rfl (r_cload Tryd.isAgg4 rfl (j := 3) rfl rfl) rfl ?_
      refine pull fun t7 h_t7 => ?_
      refine a_next hok 4 [] (by kernel_rfl) ?_ trivial
      refine a_stOn (i := 4) hok rfl rfl rfl rfl rfl (s_call (ψ := fun (_ : Unit) => bv t7) (args := [.tmp 27, .tmp 28]) Tryd.call76 rfl (network_Set_Has_ok h_t7) ⟨arg rfl, arg rfl, trivial⟩ (fun _ _ _ _ h => h)) (by intro _ h; cases h; rfl) (fun _ => ⟨⟨⟨rfl, rfl⟩, trivial⟩, ⟨trivial, ⟨trivial, ⟨trivial, ⟨trivial, trivial⟩⟩⟩⟩⟩) (fun _ => ?_)
      refine a_rdOn (i := 6) hok rfl rfl rfl rfl (by kernel_rfl) rfl (r_bneq Tryd.underlying4 rfl rfl) rfl ?_
      refine a_rd (i := 7) hok rfl (by kernel_rfl) rfl (r_pickT rfl rfl) rfl ?_
      refine a_fin hok (by kernel_rfl) ?_
      exact b_to (hk10 (!(t7 == p_4)) ()) (weak [0, 1, 2, 3, 4, 5] ⟨rfl, rfl, rfl, rfl, rfl, rfl, trivial⟩ ⟨rfl, rfl, rfl, rfl, rfl, rfl, trivial⟩)
    refine a_off (i := 2) hok rfl rfl rfl rfl rfl (by kernel_rfl) rfl rfl ?_
    refine a_off (i := 3) hok rfl rfl rfl rfl rfl (by kernel_rfl) rfl rfl ?_
    refine a_off (i := 5) hok rfl rfl rfl rfl rfl (by kernel_rfl) rfl rfl ?_
    refine a_next hok 4 [] (by kernel_rfl) ?_ trivial
    refine a_stOff (i := 4) hok rfl rfl rfl rfl rfl rfl (by intro _ h; cases h; rfl) ⟨trivial, ⟨trivial, ⟨trivial, ⟨trivial, ⟨trivial, trivial⟩⟩⟩⟩⟩ ?_
    refine a_off (i := 6) hok rfl rfl rfl rfl rfl (by kernel_rfl) rfl rfl ?_
    refine a_rd (i := 7) hok rfl (by kernel_rfl) rfl (r_pickF rfl rfl) rfl ?_
    refine a_fin hok (by kernel_rfl) ?_
    exact b_to (hk10 false ()) (weak [0, 1, 2, 3, 4, 5] ⟨rfl, rfl, rfl, rfl, rfl, rfl, trivial⟩ ⟨rfl, rfl, rfl, rfl, rfl, rfl, trivial⟩)
  refine n_then ?_
  refine ref_cond rfl (fun hb11 => ?_) (fun hb11 => ?_)
  · refine ref_seq (ref_region ?_)
    refine s_rd (r_cload Tryd.isAgg4 rfl (j := 3) rfl rfl) rfl ?_
    refine s_rd (r_not rfl) rfl ?_
    refine s_st0 (s_cstore (out := [bv (!p_4)]) Tryd.sizeOf4 rfl (j := 4) rfl (part_at rfl bv_at) rfl rfl rfl) (fun _ => ?_)
    refine l_nil (n_then (ref_seq (ref_region ?_)))
    refine as1 rfl rfl ?_
    refine l_nil (n_then (ref_ret (r_then ?_)))
    exact fin1 (.inl rfl) () [0, 1, 2, 3, 4, 5] rfl ⟨rfl, rfl, rfl, rfl, rfl, rfl, trivial⟩ rfl (rv_tmp rfl)
  refine ref_skip (n_then (ref_seq (ref_region ?_)))
  refine as1 rfl rfl ?_
  refine l_nil (n_then (ref_ret ?_))
  exact fin1 (.inl rfl) () [0, 1, 2, 3, 4, 5] rfl ⟨rfl, rfl, rfl, rfl, rfl, rfl, trivial⟩ rfl (rv_tmp rfl)

/-! deliberation/network.subsets -/
noncomputable def network_subsets_l1 (s_0 : Int) (e_0 : Int) (e_1 : T_network_Net) (e_2 : Int) (e_3 : Bool) (s11 : Int × Bool) : Option (Sum (Bool) (Int × Bool)) :=
  Option.bind (network_Net_Answer_1_m s11.1 e_0 e_1 e_2 e_3 s11.2) fun t13 =>
  bif !t13.1 then
    some (Sum.inl t13.2)
  else
    bif s11.1 == 0 then
      some (Sum.inl t13.2)
    else
      letM (iand .u64 (isub .u64 s11.1 1) s_0) fun x15 =>
      some (Sum.inr (x15, t13.2))

noncomputable def network_subsets_m (s_0 : Int) (e_0 : Int) (e_1 : T_network_Net) (e_2 : Int) (e_3 : Bool) (e_4 : Bool) : Option (Bool) :=
  Option.bind (loopC (network_subsets_l1 s_0 e_0 e_1 e_2 e_3) (s_0, e_4)) (fun a : Bool => some a)

theorem network_subsets_ok {s_0 : Int} {e_0 : Int} {e_1 : T_network_Net} {e_2 : Int} {e_3 : Bool} {e_4 : Bool} {be_0 : Nat} {be_1 : Nat} {be_2 : Nat} {be_3 : Nat} {be_4 : Nat} {r : Bool} (hm : network_subsets_m s_0 e_0 e_1 e_2 e_3 e_4 = some r) :
    FnOk prog 77 [iv .u64 s_0, pv (.func (.func 78) #[] #[(ptr be_0 0), (ptr be_1 0), (ptr be_2 0), (ptr be_3 0), (ptr be_4 0)])] [oc be_0 [iv .i64 e_0], oc be_1 [iv .u64 e_1.All, slv (rI .u64) e_1.By, slv (rI .u64) e_1.Out], oc be_2 [iv .i64 e_2], oc be_3 [bv e_3], oc be_4 [bv e_4], tbO (rI .u8) 0 tab_0] (fun (x : Unit) => []) (fun (x : Unit) => [oc be_0 [iv .i64 e_0], oc be_1 [iv .u64 e_1.All, slv (rI .u64) e_1.By, slv (rI .u64) e_1.Out], oc be_2 [iv .i64 e_2], oc be_3 [bv e_3], oc be_4 [bv r], tbO (rI .u8) 0 tab_0]) := by
  refine fn_ok (fn := Tryd.f77) (N := 18) (res := fun r x => []) (Ω1 := fun r x => [oc be_0 [iv .i64 e_0], oc be_1 [iv .u64 e_1.All, slv (rI .u64) e_1.By, slv (rI .u64) e_1.Out], oc be_2 [iv .i64 e_2], oc be_3 [bv e_3], oc be_4 [bv r], tbO (rI .u8) 0 tab_0]) Tryd.func77 rfl rfl hm rfl (fun E hM => ?_)
  unfold network_subsets_m
  refine ref_seq (ref_region ?_)
  refine mv1 rfl rfl ?_
  refine as1 rfl rfl ?_
  refine l_nil (n_then ?_)
  refine ref_block (ref_loop (f := (network_subsets_l1 s_0 e_0 e_1 e_2 e_3)) (Γl := (fun (s11 : Int × Bool) (x12 : Unit) => [(0, iv .u64 s_0), (1, pv (.func (.func 78) #[] #[(ptr be_0 0), (ptr be_1 0), (ptr be_2 0), (ptr be_3 0), (ptr be_4 0)])), (4, iv .u64 s11.1)])) (Ωl := (fun (s11 : Int × Bool) (x12 : Unit) => [tbO (rI .u8) 0 tab_0, oc be_0 [iv .i64 e_0], oc be_1 [iv .u64 e_1.All, slv (rI .u64) e_1.By, slv (rI .u64) e_1.Out], oc be_2 [iv .i64 e_2], oc be_3 [bv e_3], oc be_4 [bv s11.2]])) (k := (fun a : Bool => some a)) (s_0, e_4) () (weak [5, 0, 1, 2, 3, 4] ⟨rfl, rfl, rfl, trivial⟩ ⟨rfl, rfl, rfl, rfl, rfl, rfl, trivial⟩) (fun s11 x12 => ?_))
  · unfold network_subsets_l1
    refine ref_seq (ref_block (ref_seq (ref_region ?_)))
    refine mv1 rfl rfl ?_
    refine mv1 rfl rfl ?_
    refine pull fun t13 h_t13 => ?_
    refine s_st (s_callC [1, 2, 3, 4, 5, 0] [true, true, true, true, true, true] (fun (_ : Unit) => [oc be_0 [iv .i64 e_0], oc be_1 [iv .u64 e_1.All, slv (rI .u64) e_1.By, slv (rI .u64) e_1.Out], oc be_2 [iv .i64 e_2], oc be_3 [bv e_3], oc be_4 [bv t13.2], tbO (rI .u8) 0 tab_0]) (fun (_ : Unit) => []) (fun (_ : Unit) => bv t13.1) (args := [.tmp 11]) (caps := [(ptr be_0 0), (ptr be_1 0), (ptr be_2 0), (ptr be_3 0), (ptr be_4 0)]) Tryd.call78 rfl (network_Net_Answer_1_ok h_t13) ⟨rfl, rfl, ⟨rfl, rfl, ⟨rfl, rfl, ⟨rfl, rfl, ⟨rfl, rfl, ⟨rfl, rfl, trivial⟩⟩⟩⟩⟩⟩ (fun _ => rfl) (fun _ => trivial) (fun _ => rfl) ⟨arg rfl, arg rfl, arg rfl, arg rfl, arg rfl, arg rfl, trivial⟩ (fun _ _ _ _ h => h)) rfl (fun _ => ?_)
    refine s_rd (r_not rfl) rfl ?_
    refine mv1 rfl rfl ?_
    refine b_split (t := 14) rfl (fun _ => ?_) (fun _ => ?_)
    · refine s_off rfl rfl rfl rfl rfl ?_
      refine s_off rfl rfl rfl rfl rfl ?_
      refine s_rd (r_pickT rfl rfl) rfl ?_
      refine l_nil ?_
      refine b_of (nrm [tbO (rI .u8) 0 tab_0, oc be_0 [iv .i64 e_0], oc be_1 [iv .u64 e_1.All, slv (rI .u64) e_1.By, slv (rI .u64) e_1.Out], oc be_2 [iv .i64 e_2], oc be_3 [bv e_3], oc be_4 [bv t13.2]] rfl) ?_
      refine n_then ?_
      refine ref_condT rfl rfl ?_
      refine ref_ret (r_block (r_then ?_))
      refine r_loop ?_
      refine r_block ?_
      exact fin0 (.inl rfl) () [1, 2, 3, 4, 5, 0] rfl ⟨rfl, rfl, rfl, rfl, rfl, rfl, trivial⟩ rfl 
    refine s_on rfl rfl rfl ?_
    refine mv1 rfl rfl ?_
    refine s_on rfl rfl rfl ?_
    refine s_rd (r_eql rfl rfl) rfl ?_
    refine s_rd (r_pickF rfl rfl) rfl ?_
    refine l_nil ?_
    refine b_of (nrm [tbO (rI .u8) 0 tab_0, oc be_0 [iv .i64 e_0], oc be_1 [iv .u64 e_1.All, slv (rI .u64) e_1.By, slv (rI .u64) e_1.Out], oc be_2 [iv .i64 e_2], oc be_3 [bv e_3], oc be_4 [bv t13.2]] rfl) ?_
    refine n_then ?_
    refine ref_cond rfl (fun hb14 => ?_) (fun hb14 => ?_)
    · refine ref_ret (r_block (r_then ?_))
      refine r_loop ?_
      refine r_block ?_
      exact fin0 (.inl rfl) () [1, 2, 3, 4, 5, 0] rfl ⟨rfl, rfl, rfl, rfl, rfl, rfl, trivial⟩ rfl 
    refine ref_skip (n_block (n_then (ref_region ?_)))
    refine mv1 rfl rfl ?_
    refine s_rd (r_sub rfl rfl) rfl ?_
    refine mv1 rfl rfl ?_
    refine s_rd (r_and rfl rfl) rfl ?_
    refine as1 rfl rfl ?_
    refine b_let (f := iv .u64) (t := 4) rfl fun x15 => ?_
    refine l_nil ?_
    exact n_loop () (weak [0, 1, 2, 3, 4, 5] ⟨rfl, rfl, rfl, trivial⟩ ⟨rfl, rfl, rfl, rfl, rfl, rfl, trivial⟩)

/-! (deliberation/network.Net).Answer -/
noncomputable def network_Net_Answer_m (n_0 : T_network_Net) (question_1 : Int) (node_2 : Int) : Option (Bool) :=
  bif question_1 == 4 then
    Option.bind (network_Net_In_m n_0) fun t5 =>
    Option.bind (network_Set_Has_m t5 node_2) fun t6 =>
    some t6
  else
    Option.bind (network_subsets_m n_0.All question_1 n_0 node_2 (question_1 == 3) (question_1 == 3)) fun t9 =>
    some t9

theorem network_Net_Answer_ok {n_0 : T_network_Net} {question_1 : Int} {node_2 : Int} {r : Bool} (hm : network_Net_Answer_m n_0 question_1 node_2 = some r) :
    FnOk prog 60 [ag [iv .u64 n_0.All, slv (rI .u64) n_0.By, slv (rI .u64) n_0.Out], iv .i64 question_1, iv .i64 node_2] [tbO (rI .u8) 0 tab_0] (fun (x : Unit) => [bv r]) (fun (x : Unit) => [tbO (rI .u8) 0 tab_0]) := by
  refine fn_ok (fn := Tryd.f60) (N := 23) (res := fun r x => [bv r]) (Ω1 := fun r x => [tbO (rI .u8) 0 tab_0]) Tryd.func60 rfl rfl hm rfl (fun E hM => ?_)
  unfold network_Net_Answer_m
  refine ref_seq (ref_region ?_)
  refine s_st (s_box (part_agO (ψs := [iv .u64 n_0.All, slv (rI .u64) n_0.By, slv (rI .u64) n_0.Out]) rfl ⟨.inl iv_at, .inl slv_at, .inl slv_at, trivial⟩)) rfl (fun b1 => ?_)
  refine s_st (s_box (part_at rfl iv_at)) rfl (fun b2 => ?_)
  refine s_st (s_box (part_at rfl iv_at)) rfl (fun b3 => ?_)
  refine as1 rfl rfl ?_
  refine l_nil (n_then (ref_seq (ref_seq (ref_region ?_))))
  refine s_rd (r_cload Tryd.isAgg3 rfl (j := 2) rfl rfl) rfl ?_
  refine s_rd (r_eql rfl rfl) rfl ?_
  refine l_nil (n_then ?_)
  refine ref_cond rfl (fun hb4 => ?_) (fun hb4 => ?_)
  · refine ref_seq ?_
    refine ref_draw [0, 2] rfl (by kernel_rfl) (fun hok => ?_)
    refine a_rd (i := 0) hok rfl (by kernel_rfl) rfl (r_cloadS Tryd.isAgg74 Tryd.sizeOf74 rfl (j := 1) rfl rfl rfl) rfl ?_
    refine a_rd (i := 2) hok rfl (by kernel_rfl) rfl (r_cload Tryd.isAgg3 rfl (j := 3) rfl rfl) rfl ?_
    refine pull fun t5 h_t5 => ?_
    refine a_next hok 1 [] (by kernel_rfl) ?_ trivial
    refine a_st (i := 1) hok rfl rfl (s_callC [0] [true] (fun (_ : Unit) => [tbO (rI .u8) 0 tab_0]) (fun (_ : Unit) => []) (fun (_ : Unit) => iv .u64 t5) (args := [.tmp 11]) (caps := []) Tryd.call39 rfl (network_Net_In_ok h_t5) ⟨rfl, rfl, trivial⟩ (fun _ => rfl) (fun _ => trivial) (fun _ => rfl) ⟨arg rfl, trivial⟩ (fun _ _ _ _ h => h)) (by intro _ h; cases h; rfl) (fun _ => ⟨⟨⟨rfl, rfl⟩, trivial⟩, ⟨trivial, trivial⟩⟩) (fun _ => ?_)
    refine pull fun t6 h_t6 => ?_
    refine a_next hok 3 [] (by kernel_rfl) ?_ trivial
    refine a_st (i := 3) hok rfl rfl (s_call (ψ := fun (_ : Unit) => bv t6) (args := [.tmp 12, .tmp 13]) Tryd.call76 rfl (network_Set_Has_ok h_t6) ⟨arg rfl, arg rfl, trivial⟩ (fun _ _ _ _ h => h)) (by intro _ h; cases h; rfl) (fun _ => ⟨trivial, ⟨⟨⟨rfl, rfl⟩, trivial⟩, trivial⟩⟩) (fun _ => ?_)
    refine a_next hok 4 [] (by kernel_rfl) ?_ trivial
    refine a_st (i := 4) hok rfl rfl (St.ofRd (r_assign rfl)) (by intro _ h; cases h; rfl) (fun _ => ⟨trivial, ⟨trivial, trivial⟩⟩) (fun _ => ?_)
    refine a_fin hok (by kernel_rfl) ?_
    refine b_of (nrm [tbO (rI .u8) 0 tab_0, oc b1 [iv .u64 n_0.All, slv (rI .u64) n_0.By, slv (rI .u64) n_0.Out], oc b2 [iv .i64 question_1], oc b3 [iv .i64 node_2]] rfl) ?_
    refine n_then (ref_ret (r_then ?_))
    exact fin1 (.inl rfl) () [0] rfl ⟨rfl, trivial⟩ rfl (rv_tmp rfl)
  refine ref_skip (n_then (ref_seq (ref_region ?_)))
  refine s_rd (r_cload Tryd.isAgg3 rfl (j := 2) rfl rfl) rfl ?_
  refine s_rd (r_eql rfl rfl) rfl ?_
  refine s_st (s_alloc zt_4) rfl (fun b7 => ?_)
  refine s_st0 (s_cstore (out := [bv (question_1 == 3)]) Tryd.sizeOf4 rfl (j := 4) rfl (part_at rfl bv_at) rfl rfl rfl) (fun _ => ?_)
  refine l_nil ?_
  refine b_of (nrm [tbO (rI .u8) 0 tab_0, oc b1 [iv .u64 n_0.All, slv (rI .u64) n_0.By, slv (rI .u64) n_0.Out], oc b2 [iv .i64 question_1], oc b3 [iv .i64 node_2], oc b7 [bv (question_1 == 3)]] rfl) ?_
  refine n_then (ref_seq (ref_region ?_))
  refine s_rd (r_cload Tryd.isAgg4 rfl (j := 4) rfl rfl) rfl ?_
  refine s_st (s_alloc zt_4) rfl (fun b8 => ?_)
  refine s_st0 (s_cstore (out := [bv (question_1 == 3)]) Tryd.sizeOf4 rfl (j := 5) rfl (part_at rfl bv_at) rfl rfl rfl) (fun _ => ?_)
  refine l_nil (n_then (ref_seq (ref_region ?_)))
  refine s_rd (r_faddr (fo := 0) Tryd.underlying74 rfl rfl Tryd.sizeOf67 rfl) rfl ?_
  refine s_rd (r_cload Tryd.isAgg67 rfl (j := 1) rfl rfl) rfl ?_
  refine s_rd (r_mkfn (xs := [.tmp 4, .tmp 3, .tmp 5, .tmp 7, .tmp 8]) (vs := [(ptr b2 0), (ptr b1 0), (ptr b3 0), (ptr b7 0), (ptr b8 0)]) ⟨rfl, rfl, rfl, rfl, rfl, trivial⟩) rfl ?_
  refine pull fun t9 h_t9 => ?_
  refine s_st (s_callC [2, 1, 3, 4, 5, 0] [true, true, true, true, true, true] (fun (_ : Unit) => [oc b2 [iv .i64 question_1], oc b1 [iv .u64 n_0.All, slv (rI .u64) n_0.By, slv (rI .u64) n_0.Out], oc b3 [iv .i64 node_2], oc b7 [bv (question_1 == 3)], oc b8 [bv t9], tbO (rI .u8) 0 tab_0]) (fun (_ : Unit) => []) (fun (_ : Unit) => tup []) (args := [.tmp 19, .tmp 20]) (caps := []) Tryd.call77 rfl (network_subsets_ok h_t9) ⟨rfl, rfl, ⟨rfl, rfl, ⟨rfl, rfl, ⟨rfl, rfl, ⟨rfl, rfl, ⟨rfl, rfl, trivial⟩⟩⟩⟩⟩⟩ (fun _ => rfl) (fun _ => trivial) (fun _ => rfl) ⟨arg rfl, arg rfl, trivial⟩ (fun _ _ _ _ h => h)) rfl (fun _ => ?_)
  refine l_nil ?_
  refine b_of (nrm [tbO (rI .u8) 0 tab_0, oc b1 [iv .u64 n_0.All, slv (rI .u64) n_0.By, slv (rI .u64) n_0.Out], oc b2 [iv .i64 question_1], oc b3 [iv .i64 node_2], oc b7 [bv (question_1 == 3)], oc b8 [bv t9]] rfl) ?_
  refine n_then (ref_seq (ref_region ?_))
  refine s_rd (r_cload Tryd.isAgg4 rfl (j := 5) rfl rfl) rfl ?_
  refine as1 rfl rfl ?_
  refine l_nil (n_then (ref_ret ?_))
  exact fin1 (.inl rfl) () [0] rfl ⟨rfl, trivial⟩ rfl (rv_tmp rfl)

/-! deliberation/chance.joint$1 -/
noncomputable def chance_joint_1_l1 (n_0 : T_network_Net) (p_3 : Int) (p_4 : Int) (t3 : List Int) (s11 : Int) : Option (Sum ((Sum (Int) (Unit))) (Int)) :=
  bif decide (s11 < (t3.length : Int)) then
    Option.bind (idxM t3 s11) fun x14 =>
    Option.bind (network_Net_Answer_m n_0 p_3 x14) fun t15 =>
    bif !t15 then
      some (Sum.inl (Sum.inl p_4))
    else
      some (Sum.inr (iadd .i64 s11 1))
  else
    some (Sum.inl (Sum.inr ()))

noncomputable def chance_joint_1_m (n_0 : T_network_Net) (weight_1 : Int) (p_2 : Int) (p_3 : Int) (p_4 : Int) : Option (Int) :=
  bif (iandn .u64 p_2 n_0.All) != 0 then
    some p_4
  else
    Option.bind (network_Set_List_m p_2) fun t3 =>
    Option.bind (loopC (chance_joint_1_l1 n_0 p_3 p_4 t3) 0) (sumK (fun a : Int => some a) fun q17 : Unit =>
      some (iadd .i64 p_4 weight_1))

theorem chance_joint_1_ok {n_0 : T_network_Net} {weight_1 : Int} {p_2 : Int} {p_3 : Int} {p_4 : Int} {b_2 : Nat} {b_3 : Nat} {b_4 : Nat} {r : Int} (hm : chance_joint_1_m n_0 weight_1 p_2 p_3 p_4 = some r) :
    FnOk prog 58 [ag [iv .u64 n_0.All, slv (rI .u64) n_0.By, slv (rI .u64) n_0.Out], iv .i64 weight_1, pv (ptr b_2 0), pv (ptr b_3 0), pv (ptr b_4 0)] [oc b_2 [iv .u64 p_2], oc b_3 [iv .i64 p_3], oc b_4 [iv .i64 p_4], tbO (rI .u8) 0 tab_0] (fun (x : Unit) => []) (fun (x : Unit) => [oc b_2 [iv .u64 p_2], oc b_3 [iv .i64 p_3], oc b_4 [iv .i64 r], tbO (rI .u8) 0 tab_0]) := by
  refine fn_ok (fn := Tryd.f58) (N := 30) (res := fun r x => []) (Ω1 := fun r x => [oc b_2 [iv .u64 p_2], oc b_3 [iv .i64 p_3], oc b_4 [iv .i64 r], tbO (rI .u8) 0 tab_0]) Tryd.func58 rfl rfl hm rfl (fun E hM => ?_)
  unfold chance_joint_1_m
  refine ref_seq (ref_region ?_)
  refine s_st (s_box (part_agO (ψs := [iv .u64 n_0.All, slv (rI .u64) n_0.By, slv (rI .u64) n_0.Out]) rfl ⟨.inl iv_at, .inl slv_at, .inl slv_at, trivial⟩)) rfl (fun b1 => ?_)
  refine l_nil (n_then (ref_seq (ref_seq (ref_region ?_))))
  refine s_rd (r_cload Tryd.isAgg67 rfl (j := 0) rfl rfl) rfl ?_
  refine s_rd (r_faddr (fo := 0) Tryd.underlying74 rfl rfl Tryd.sizeOf67 rfl) rfl ?_
  refine s_rd (r_cload Tryd.isAgg67 rfl (j := 4) rfl rfl) rfl ?_
  refine s_rd (r_andn rfl rfl) rfl ?_
  refine s_rd (r_neq rfl rfl) rfl ?_
  refine l_nil (n_then ?_)
  refine ref_cond rfl (fun hb2 => ?_) (fun hb2 => ?_)
  · refine ref_ret (r_then ?_)
    exact fin0 (.inl rfl) () [0, 1, 2, 3] rfl ⟨rfl, rfl, rfl, rfl, trivial⟩ rfl 
  refine ref_skip (n_then (ref_seq (ref_seq (ref_region ?_))))
  refine s_rd (r_cload Tryd.isAgg67 rfl (j := 0) rfl rfl) rfl ?_
  refine pull fun t3 h_t3 => ?_
  refine s_st (s_callC [3] [true] (fun (x4 : (Value × List Nat)) => [tbO (rI .u8) 0 tab_0]) (fun (x4 : (Value × List Nat)) => [oa (rI .i64) x4.1 x4.2 t3]) (fun (x4 : (Value × List Nat)) => pv x4.1) (args := [.tmp 14]) (caps := []) Tryd.call59 rfl (network_Set_List_ok h_t3) ⟨rfl, rfl, trivial⟩ (fun _ => rfl) (fun _ => trivial) (fun _ => rfl) ⟨arg rfl, trivial⟩ (fun _ _ _ _ h => h)) rfl (fun x4 => ?_)
  refine s_rd (r_olen Tryd.underlying22 rfl (j := 5) rfl) rfl ?_
  refine mv1 rfl rfl ?_
  refine l_nil (n_then ?_)
  refine ref_loopX (f := (chance_joint_1_l1 n_0 p_3 p_4 t3)) (Γl := (fun (s11 : Int) (x12 : Unit) => [(1, iv .i64 weight_1), (2, pv (ptr b_2 0)), (3, pv (ptr b_3 0)), (4, pv (ptr b_4 0)), (5, pv (ptr b1 0)), (15, pv x4.1), (16, iv .i64 (t3.length : Int)), (17, iv .i64 s11)])) (Ωl := (fun (s11 : Int) (x12 : Unit) => [tbO (rI .u8) 0 tab_0, oc b_2 [iv .u64 p_2], oc b_3 [iv .i64 p_3], oc b_4 [iv .i64 p_4], oc b1 [iv .u64 n_0.All, slv (rI .u64) n_0.By, slv (rI .u64) n_0.Out], oa (rI .i64) x4.1 x4.2 t3])) (Γb := (fun (q17 : Unit) (y18 : Unit) => [(1, iv .i64 weight_1), (2, pv (ptr b_2 0)), (3, pv (ptr b_3 0)), (4, pv (ptr b_4 0))])) (Ωb := (fun (q17 : Unit) (y18 : Unit) => [oc b_2 [iv .u64 p_2], oc b_3 [iv .i64 p_3], oc b_4 [iv .i64 p_4], tbO (rI .u8) 0 tab_0])) (kr := (fun a : Int => some a)) 0 () (weak [3, 0, 1, 2, 4, 5] ⟨rfl, rfl, rfl, rfl, rfl, rfl, rfl, rfl, trivial⟩ ⟨rfl, rfl, rfl, rfl, rfl, rfl, trivial⟩) (fun s11 x12 => ?_) (fun q17 y18 => ?_)
  · unfold chance_joint_1_l1
    refine ref_seq (ref_region ?_)
    refine s_rd (r_lss rfl rfl) rfl ?_
    refine l_nil (n_then (ref_seq ?_))
    refine ref_cond rfl (fun hb13 => ?_) (fun hb13 => ?_)
    · refine ref_skip (n_then (ref_seq (ref_block (ref_seq (ref_region ?_)))))
      refine pull fun x14 h_x14 => ?_
      refine s_rd (r_oindex h_x14 Tryd.underlying22 el_3 rfl (j := 5) rfl rfl) rfl ?_
      refine s_rd (r_oload h_x14 el_3 rfl (j := 5) rfl) rfl ?_
      refine as1 rfl rfl ?_
      refine l_nil (n_then (ref_seq (ref_region ?_)))
      refine s_rd (r_cloadS Tryd.isAgg74 Tryd.sizeOf74 rfl (j := 4) rfl rfl rfl) rfl ?_
      refine s_rd (r_cload Tryd.isAgg3 rfl (j := 2) rfl rfl) rfl ?_
      refine mv1 rfl rfl ?_
      refine pull fun t15 h_t15 => ?_
      refine s_st (s_callC [0] [true] (fun (_ : Unit) => [tbO (rI .u8) 0 tab_0]) (fun (_ : Unit) => []) (fun (_ : Unit) => bv t15) (args := [.tmp 21, .tmp 22, .tmp 23]) (caps := []) Tryd.call60 rfl (network_Net_Answer_ok h_t15) ⟨rfl, rfl, trivial⟩ (fun _ => rfl) (fun _ => trivial) (fun _ => rfl) ⟨arg rfl, arg rfl, arg rfl, trivial⟩ (fun _ _ _ _ h => h)) rfl (fun _ => ?_)
      refine s_rd (r_not rfl) rfl ?_
      refine l_nil (n_then ?_)
      refine ref_cond rfl (fun hb16 => ?_) (fun hb16 => ?_)
      · refine ref_ret (r_block (r_then ?_))
        refine retX ?_
        refine r_block (r_then ?_)
        exact fin0 (.inl rfl) () [1, 2, 3, 0] rfl ⟨rfl, rfl, rfl, rfl, trivial⟩ rfl 
      refine ref_skip (n_block (n_then (ref_region ?_)))
      refine s_rd (r_add rfl rfl) rfl ?_
      refine mv1 rfl rfl ?_
      refine l_nil ?_
      exact goX () (weak [0, 1, 2, 3, 4, 5] ⟨rfl, rfl, rfl, rfl, rfl, rfl, rfl, rfl, trivial⟩ ⟨rfl, rfl, rfl, rfl, rfl, rfl, trivial⟩)
    refine ref_exit (x_then ?_)
    exact brkX () (weak [1, 2, 3, 0] ⟨rfl, rfl, rfl, rfl, trivial⟩ ⟨rfl, rfl, rfl, rfl, trivial⟩)
  refine n_then (ref_region ?_)
  refine s_rd (r_cload Tryd.isAgg3 rfl (j := 2) rfl rfl) rfl ?_
  refine mv1 rfl rfl ?_
  refine s_rd (r_add rfl rfl) rfl ?_
  refine s_st0 (s_cstore (out := [iv .i64 (iadd .i64 p_4 weight_1)]) Tryd.sizeOf3 rfl (j := 2) rfl (part_at rfl iv_at) rfl rfl rfl) (fun _ => ?_)
  refine l_nil ?_
  exact fin0 (.inr rfl) () [0, 1, 2, 3] rfl ⟨rfl, rfl, rfl, rfl, trivial⟩ rfl 

/-! deliberation/chance.worlds$1 -/
noncomputable def chance_worlds_1_b (rec_ : Int → Int → (List T_api_Fraction) → Int → Int → Int → T_api_Graph → (List Bool) → Option (Int × (List Bool))) (i_0 : Int) (weight_1 : Int) (p_2 : (List T_api_Fraction)) (e_3 : Int) (e_4 : Int) (e_5 : Int) (p_4 : T_api_Graph) (p_5 : (List Bool)) : Option (Int × (List Bool)) :=
  bif i_0 == (p_2.length : Int) then
    Option.bind (chance_world_m p_4 p_5) fun t2 =>
    Option.bind (chance_joint_1_m t2 weight_1 e_3 e_4 e_5) fun t3 =>
    some (t3, p_5)
  else
    Option.bind (idxM p_2 i_0) fun t4 =>
    Option.bind (chance_certain_m t4) fun t6 =>
    bif t6 then
      Option.bind (idxM p_5 i_0) fun t8 =>
      Option.bind (rec_ (iadd .i64 i_0 1) weight_1 p_2 e_3 e_4 e_5 p_4 (p_5.set (Int.toNat i_0) (t4.Num != 0))) fun t9 =>
      some (t9.1, t9.2)
    else
      Option.bind (idxM p_5 i_0) fun t10 =>
      Option.bind (rec_ (iadd .i64 i_0 1) (imul .i64 weight_1 t4.Num) p_2 e_3 e_4 e_5 p_4 (p_5.set (Int.toNat i_0) true)) fun t11 =>
      Option.bind (idxM t11.2 i_0) fun t12 =>
      Option.bind (rec_ (iadd .i64 i_0 1) (imul .i64 weight_1 (isub .i64 t4.Den t4.Num)) p_2 e_3 e_4 t11.1 p_4 (t11.2.set (Int.toNat i_0) false)) fun t13 =>
      some (t13.1, t13.2)

noncomputable def chance_worlds_1_n : Nat → Int → Int → (List T_api_Fraction) → Int → Int → Int → T_api_Graph → (List Bool) → Option (Int × (List Bool))
  | 0 => fun _ _ _ _ _ _ _ _ => none
  | n_ + 1 => chance_worlds_1_b (chance_worlds_1_n n_)

noncomputable def chance_worlds_1_m (i_0 : Int) (weight_1 : Int) (p_2 : (List T_api_Fraction)) (e_3 : Int) (e_4 : Int) (e_5 : Int) (p_4 : T_api_Graph) (p_5 : (List Bool)) : Option (Int × (List Bool)) := recC fun n_ => chance_worlds_1_n n_ i_0 weight_1 p_2 e_3 e_4 e_5 p_4 p_5

theorem chance_worlds_1_step (rec_ : Int → Int → (List T_api_Fraction) → Int → Int → Int → T_api_Graph → (List Bool) → Option (Int × (List Bool))) (ih : ∀ {i_0 : Int} {weight_1 : Int} {p_2 : (List T_api_Fraction)} {e_3 : Int} {e_4 : Int} {e_5 : Int} {p_4 : T_api_Graph} {p_5 : (List Bool)} {b_2 : Nat} {h_1 : Value × List Nat} {b_3 : Nat} {be_3 : Nat} {be_4 : Nat} {be_5 : Nat} {b_4 : Nat} {b_5 : Nat} {h_8 : Value × List Nat} {b_6 : Nat} {r : Int × (List Bool)}, rec_ i_0 weight_1 p_2 e_3 e_4 e_5 p_4 p_5 = some r →
    FnOk prog 62 [iv .i64 i_0, iv .i64 weight_1, pv (ptr b_2 0), pv (ptr b_3 0), pv (ptr b_4 0), pv (ptr b_5 0), pv (ptr b_6 0)] [oc b_2 [pv h_1.1], oa rT_api_Fraction h_1.1 h_1.2 p_2, oc b_3 [pv (.func (.func 58) #[] #[(ptr be_3 0), (ptr be_4 0), (ptr be_5 0)])], oc be_3 [iv .u64 e_3], oc be_4 [iv .i64 e_4], oc be_5 [iv .i64 e_5], oc b_4 [iv .i64 p_4.N, slv rT_api_Pair p_4.L], oc b_5 [pv h_8.1], oa rB h_8.1 h_8.2 p_5, oc b_6 [pv (.func (.func 62) #[] #[(ptr b_2 0), (ptr b_3 0), (ptr b_4 0), (ptr b_5 0), (ptr b_6 0)])], tbO (rI .u8) 0 tab_0] (fun (x : Unit) => []) (fun (x : Unit) => [oc b_2 [pv h_1.1], oa rT_api_Fraction h_1.1 h_1.2 p_2, oc b_3 [pv (.func (.func 58) #[] #[(ptr be_3 0), (ptr be_4 0), (ptr be_5 0)])], oc be_3 [iv .u64 e_3], oc be_4 [iv .i64 e_4], oc be_5 [iv .i64 r.1], oc b_4 [iv .i64 p_4.N, slv rT_api_Pair p_4.L], oc b_5 [pv h_8.1], oa rB h_8.1 h_8.2 r.2, oc b_6 [pv (.func (.func 62) #[] #[(ptr b_2 0), (ptr b_3 0), (ptr b_4 0), (ptr b_5 0), (ptr b_6 0)])], tbO (rI .u8) 0 tab_0])) {i_0 : Int} {weight_1 : Int} {p_2 : (List T_api_Fraction)} {e_3 : Int} {e_4 : Int} {e_5 : Int} {p_4 : T_api_Graph} {p_5 : (List Bool)} {b_2 : Nat} {h_1 : Value × List Nat} {b_3 : Nat} {be_3 : Nat} {be_4 : Nat} {be_5 : Nat} {b_4 : Nat} {b_5 : Nat} {h_8 : Value × List Nat} {b_6 : Nat} {r : Int × (List Bool)} (hm : chance_worlds_1_b rec_ i_0 weight_1 p_2 e_3 e_4 e_5 p_4 p_5 = some r) :
    FnOk prog 62 [iv .i64 i_0, iv .i64 weight_1, pv (ptr b_2 0), pv (ptr b_3 0), pv (ptr b_4 0), pv (ptr b_5 0), pv (ptr b_6 0)] [oc b_2 [pv h_1.1], oa rT_api_Fraction h_1.1 h_1.2 p_2, oc b_3 [pv (.func (.func 58) #[] #[(ptr be_3 0), (ptr be_4 0), (ptr be_5 0)])], oc be_3 [iv .u64 e_3], oc be_4 [iv .i64 e_4], oc be_5 [iv .i64 e_5], oc b_4 [iv .i64 p_4.N, slv rT_api_Pair p_4.L], oc b_5 [pv h_8.1], oa rB h_8.1 h_8.2 p_5, oc b_6 [pv (.func (.func 62) #[] #[(ptr b_2 0), (ptr b_3 0), (ptr b_4 0), (ptr b_5 0), (ptr b_6 0)])], tbO (rI .u8) 0 tab_0] (fun (x : Unit) => []) (fun (x : Unit) => [oc b_2 [pv h_1.1], oa rT_api_Fraction h_1.1 h_1.2 p_2, oc b_3 [pv (.func (.func 58) #[] #[(ptr be_3 0), (ptr be_4 0), (ptr be_5 0)])], oc be_3 [iv .u64 e_3], oc be_4 [iv .i64 e_4], oc be_5 [iv .i64 r.1], oc b_4 [iv .i64 p_4.N, slv rT_api_Pair p_4.L], oc b_5 [pv h_8.1], oa rB h_8.1 h_8.2 r.2, oc b_6 [pv (.func (.func 62) #[] #[(ptr b_2 0), (ptr b_3 0), (ptr b_4 0), (ptr b_5 0), (ptr b_6 0)])], tbO (rI .u8) 0 tab_0]) := by
  refine fn_ok (fn := Tryd.f62) (N := 62) (res := fun r x => []) (Ω1 := fun r x => [oc b_2 [pv h_1.1], oa rT_api_Fraction h_1.1 h_1.2 p_2, oc b_3 [pv (.func (.func 58) #[] #[(ptr be_3 0), (ptr be_4 0), (ptr be_5 0)])], oc be_3 [iv .u64 e_3], oc be_4 [iv .i64 e_4], oc be_5 [iv .i64 r.1], oc b_4 [iv .i64 p_4.N, slv rT_api_Pair p_4.L], oc b_5 [pv h_8.1], oa rB h_8.1 h_8.2 r.2, oc b_6 [pv (.func (.func 62) #[] #[(ptr b_2 0), (ptr b_3 0), (ptr b_4 0), (ptr b_5 0), (ptr b_6 0)])], tbO (rI .u8) 0 tab_0]) Tryd.func62 rfl rfl hm rfl (fun E hM => ?_)
  unfold chance_worlds_1_b
  refine ref_seq (ref_seq (ref_region ?_))
  refine mv1 rfl rfl ?_
  refine s_rd (r_cload Tryd.isAgg29 rfl (j := 0) rfl rfl) rfl ?_
  refine s_rd (r_olen Tryd.underlying29 rfl (j := 1) rfl) rfl ?_
  refine s_rd (r_eql rfl rfl) rfl ?_
  refine l_nil (n_then ?_)
  refine ref_cond rfl (fun hb1 => ?_) (fun hb1 => ?_)
  · refine ref_seq ?_
    refine ref_draw [0, 1, 2, 4] rfl (by kernel_rfl) (fun hok => ?_)
    refine a_rd (i := 0) hok rfl (by kernel_rfl) rfl (r_cload Tryd.isAgg76 rfl (j := 2) rfl rfl) rfl ?_
    refine a_rd (i := 1) hok rfl (by kernel_rfl) rfl (r_cloadS Tryd.isAgg27 Tryd.sizeOf27 rfl (j := 6) rfl rfl rfl) rfl ?_
    refine a_rd (i := 2) hok rfl (by kernel_rfl) rfl (r_cload Tryd.isAgg97 rfl (j := 7) rfl rfl) rfl ?_
    refine a_rd (i := 4) hok rfl (by kernel_rfl) rfl (r_move rfl) rfl ?_
    refine pull fun t2 h_t2 => ?_
    refine a_next hok 3 [] (by kernel_rfl) ?_ trivial
    refine a_st (i := 3) hok rfl rfl (s_callC [8] [true] (fun (_ : Unit) => [oa rB h_8.1 h_8.2 p_5]) (fun (_ : Unit) => []) (fun (_ : Unit) => ag [iv .u64 t2.All, slv (rI .u64) t2.By, slv (rI .u64) t2.Out]) (args := [.tmp 15, .tmp 16]) (caps := []) Tryd.call63 rfl (chance_world_ok h_t2) ⟨rfl, rfl, trivial⟩ (fun _ => rfl) (fun _ => trivial) (fun _ => rfl) ⟨arg rfl, arg rfl, trivial⟩ (fun _ _ _ _ h => h)) (by intro _ h; cases h; rfl) (fun _ => ⟨trivial, ⟨trivial, ⟨trivial, ⟨⟨⟨rfl, rfl⟩, trivial⟩, trivial⟩⟩⟩⟩) (fun _ => ?_)
    refine pull fun t3 h_t3 => ?_
    refine a_next hok 5 [] (by kernel_rfl) ?_ trivial
    refine a_st (i := 5) hok rfl rfl (s_callC [3, 4, 5, 10] [true, true, true, true] (fun (_ : Unit) => [oc be_3 [iv .u64 e_3], oc be_4 [iv .i64 e_4], oc be_5 [iv .i64 t3], tbO (rI .u8) 0 tab_0]) (fun (_ : Unit) => []) (fun (_ : Unit) => tup []) (args := [.tmp 17, .tmp 18]) (caps := [(ptr be_3 0), (ptr be_4 0), (ptr be_5 0)]) Tryd.call58 rfl (chance_joint_1_ok h_t3) ⟨rfl, rfl, ⟨rfl, rfl, ⟨rfl, rfl, ⟨rfl, rfl, trivial⟩⟩⟩⟩ (fun _ => rfl) (fun _ => trivial) (fun _ => rfl) ⟨arg rfl, arg rfl, arg rfl, arg rfl, arg rfl, trivial⟩ (fun _ _ _ _ h => h)) (by intro _ h; cases h; rfl) (fun _ => ⟨trivial, ⟨⟨⟨rfl, rfl⟩, trivial⟩, ⟨⟨⟨rfl, rfl⟩, trivial⟩, ⟨trivial, trivial⟩⟩⟩⟩) (fun _ => ?_)
    refine a_fin hok (by kernel_rfl) ?_
    refine b_of (nrm [oc b_2 [pv h_1.1], oa rT_api_Fraction h_1.1 h_1.2 p_2, oc b_3 [pv (.func (.func 58) #[] #[(ptr be_3 0), (ptr be_4 0), (ptr be_5 0)])], oc be_3 [iv .u64 e_3], oc be_4 [iv .i64 e_4], oc be_5 [iv .i64 t3], oc b_4 [iv .i64 p_4.N, slv rT_api_Pair p_4.L], oc b_5 [pv h_8.1], oa rB h_8.1 h_8.2 p_5, oc b_6 [pv (.func (.func 62) #[] #[(ptr b_2 0), (ptr b_3 0), (ptr b_4 0), (ptr b_5 0), (ptr b_6 0)])], tbO (rI .u8) 0 tab_0] rfl) ?_
    refine n_then (ref_ret (r_then ?_))
    exact fin0 (.inl rfl) () [0, 1, 2, 3, 4, 5, 6, 7, 8, 9, 10] rfl ⟨rfl, rfl, rfl, rfl, rfl, rfl, rfl, rfl, rfl, rfl, rfl, trivial⟩ rfl 
  refine ref_skip (n_then (ref_seq (ref_region ?_)))
  refine s_rd (r_cload Tryd.isAgg29 rfl (j := 0) rfl rfl) rfl ?_
  refine mv1 rfl rfl ?_
  refine pull fun t4 h_t4 => ?_
  refine s_rd (r_oindex h_t4 Tryd.underlying29 el_36 rfl (j := 1) rfl rfl) rfl ?_
  refine s_rd (r_oload h_t4 el_36 rfl (j := 1) rfl) rfl ?_
  refine s_st (s_alloc zt_36) rfl (fun b5 => ?_)
  refine s_st0 (s_cstore (out := [iv .i64 t4.Num, iv .i64 t4.Den]) Tryd.sizeOf36 rfl (j := 11) rfl (part_agO (ψs := [iv .i64 t4.Num, iv .i64 t4.Den]) rfl ⟨.inl iv_at, .inl iv_at, trivial⟩) rfl rfl rfl) (fun _ => ?_)
  refine l_nil (n_then (ref_seq (ref_seq (ref_region ?_))))
  refine s_rd (r_cloadS Tryd.isAgg36 Tryd.sizeOf36 rfl (j := 11) rfl rfl rfl) rfl ?_
  refine pull fun t6 h_t6 => ?_
  refine s_st (s_call (ψ := fun (_ : Unit) => bv t6) (args := [.tmp 24]) Tryd.call57 rfl (chance_certain_ok h_t6) ⟨arg rfl, trivial⟩ (fun _ _ _ _ h => h)) rfl (fun _ => ?_)
  refine l_nil (n_then ?_)
  refine ref_cond rfl (fun hb7 => ?_) (fun hb7 => ?_)
  · refine ref_seq (ref_region ?_)
    refine s_rd (r_cload Tryd.isAgg97 rfl (j := 7) rfl rfl) rfl ?_
    refine mv1 rfl rfl ?_
    refine s_rd (r_faddr (fo := 0) Tryd.underlying36 rfl rfl Tryd.sizeOf3 rfl) rfl ?_
    refine s_rd (r_cload Tryd.isAgg3 rfl (j := 11) rfl rfl) rfl ?_
    refine s_rd (r_neq rfl rfl) rfl ?_
    refine pull fun t8 h_t8 => ?_
    refine s_rd (r_oindex h_t8 Tryd.underlying97 el_4 rfl (j := 8) rfl rfl) rfl ?_
    refine s_st0 (s_ostore (u := t4.Num != 0) h_t8 el_4 rfl (j := 8) rfl (part_at rfl bv_at)) (fun _ => ?_)
    refine l_nil ?_
    refine b_of (nrm [oc b_2 [pv h_1.1], oa rT_api_Fraction h_1.1 h_1.2 p_2, oc b_3 [pv (.func (.func 58) #[] #[(ptr be_3 0), (ptr be_4 0), (ptr be_5 0)])], oc be_3 [iv .u64 e_3], oc be_4 [iv .i64 e_4], oc be_5 [iv .i64 e_5], oc b_4 [iv .i64 p_4.N, slv rT_api_Pair p_4.L], oc b_5 [pv h_8.1], oa rB h_8.1 h_8.2 (p_5.set (Int.toNat i_0) (t4.Num != 0)), oc b_6 [pv (.func (.func 62) #[] #[(ptr b_2 0), (ptr b_3 0), (ptr b_4 0), (ptr b_5 0), (ptr b_6 0)])], tbO (rI .u8) 0 tab_0, oc b5 [iv .i64 t4.Num, iv .i64 t4.Den]] rfl) ?_
    refine n_then (ref_seq (ref_region ?_))
    refine s_rd (r_cload Tryd.isAgg98 rfl (j := 9) rfl rfl) rfl ?_
    refine mv1 rfl rfl ?_
    refine s_rd (r_add rfl rfl) rfl ?_
    refine mv1 rfl rfl ?_
    refine pull fun t9 h_t9 => ?_
    refine s_st (s_callC [0, 1, 2, 3, 4, 5, 6, 7, 8, 9, 10] [true, true, true, true, true, true, true, true, true, true, true] (fun (_ : Unit) => [oc b_2 [pv h_1.1], oa rT_api_Fraction h_1.1 h_1.2 p_2, oc b_3 [pv (.func (.func 58) #[] #[(ptr be_3 0), (ptr be_4 0), (ptr be_5 0)])], oc be_3 [iv .u64 e_3], oc be_4 [iv .i64 e_4], oc be_5 [iv .i64 t9.1], oc b_4 [iv .i64 p_4.N, slv rT_api_Pair p_4.L], oc b_5 [pv h_8.1], oa rB h_8.1 h_8.2 t9.2, oc b_6 [pv (.func (.func 62) #[] #[(ptr b_2 0), (ptr b_3 0), (ptr b_4 0), (ptr b_5 0), (ptr b_6 0)])], tbO (rI .u8) 0 tab_0]) (fun (_ : Unit) => []) (fun (_ : Unit) => tup []) (args := [.tmp 34, .tmp 35]) (caps := [(ptr b_2 0), (ptr b_3 0), (ptr b_4 0), (ptr b_5 0), (ptr b_6 0)]) Tryd.call62 rfl (ih h_t9) ⟨rfl, rfl, ⟨rfl, rfl, ⟨rfl, rfl, ⟨rfl, rfl, ⟨rfl, rfl, ⟨rfl, rfl, ⟨rfl, rfl, ⟨rfl, rfl, ⟨rfl, rfl, ⟨rfl, rfl, ⟨rfl, rfl, trivial⟩⟩⟩⟩⟩⟩⟩⟩⟩⟩⟩ (fun _ => rfl) (fun _ => trivial) (fun _ => rfl) ⟨arg rfl, arg rfl, arg rfl, arg rfl, arg rfl, arg rfl, arg rfl, trivial⟩ (fun _ _ _ _ h => h)) rfl (fun _ => ?_)
    refine l_nil ?_
    refine b_of (nrm [oc b_2 [pv h_1.1], oa rT_api_Fraction h_1.1 h_1.2 p_2, oc b_3 [pv (.func (.func 58) #[] #[(ptr be_3 0), (ptr be_4 0), (ptr be_5 0)])], oc be_3 [iv .u64 e_3], oc be_4 [iv .i64 e_4], oc be_5 [iv .i64 t9.1], oc b_4 [iv .i64 p_4.N, slv rT_api_Pair p_4.L], oc b_5 [pv h_8.1], oa rB h_8.1 h_8.2 t9.2, oc b_6 [pv (.func (.func 62) #[] #[(ptr b_2 0), (ptr b_3 0), (ptr b_4 0), (ptr b_5 0), (ptr b_6 0)])], tbO (rI .u8) 0 tab_0, oc b5 [iv .i64 t4.Num, iv .i64 t4.Den]] rfl) ?_
    refine n_then (ref_ret (r_then ?_))
    exact fin0 (.inl rfl) () [0, 1, 2, 3, 4, 5, 6, 7, 8, 9, 10] rfl ⟨rfl, rfl, rfl, rfl, rfl, rfl, rfl, rfl, rfl, rfl, rfl, trivial⟩ rfl 
  refine ref_skip (n_then (ref_seq (ref_region ?_)))
  refine s_rd (r_cload Tryd.isAgg97 rfl (j := 7) rfl rfl) rfl ?_
  refine mv1 rfl rfl ?_
  refine pull fun t10 h_t10 => ?_
  refine s_rd (r_oindex h_t10 Tryd.underlying97 el_4 rfl (j := 8) rfl rfl) rfl ?_
  refine s_st0 (s_ostore (u := true) h_t10 el_4 rfl (j := 8) rfl (part_at rfl bv_at)) (fun _ => ?_)
  refine l_nil ?_
  refine b_of (nrm [oc b_2 [pv h_1.1], oa rT_api_Fraction h_1.1 h_1.2 p_2, oc b_3 [pv (.func (.func 58) #[] #[(ptr be_3 0), (ptr be_4 0), (ptr be_5 0)])], oc be_3 [iv .u64 e_3], oc be_4 [iv .i64 e_4], oc be_5 [iv .i64 e_5], oc b_4 [iv .i64 p_4.N, slv rT_api_Pair p_4.L], oc b_5 [pv h_8.1], oa rB h_8.1 h_8.2 (p_5.set (Int.toNat i_0) true), oc b_6 [pv (.func (.func 62) #[] #[(ptr b_2 0), (ptr b_3 0), (ptr b_4 0), (ptr b_5 0), (ptr b_6 0)])], tbO (rI .u8) 0 tab_0, oc b5 [iv .i64 t4.Num, iv .i64 t4.Den]] rfl) ?_
  refine n_then (ref_seq (ref_region ?_))
  refine s_rd (r_cload Tryd.isAgg98 rfl (j := 9) rfl rfl) rfl ?_
  refine mv1 rfl rfl ?_
  refine s_rd (r_add rfl rfl) rfl ?_
  refine mv1 rfl rfl ?_
  refine s_rd (r_faddr (fo := 0) Tryd.underlying36 rfl rfl Tryd.sizeOf3 rfl) rfl ?_
  refine s_rd (r_cload Tryd.isAgg3 rfl (j := 11) rfl rfl) rfl ?_
  refine s_rd (r_mul rfl rfl) rfl ?_
  refine pull fun t11 h_t11 => ?_
  refine s_st (s_callC [0, 1, 2, 3, 4, 5, 6, 7, 8, 9, 10] [true, true, true, true, true, true, true, true, true, true, true] (fun (_ : Unit) => [oc b_2 [pv h_1.1], oa rT_api_Fraction h_1.1 h_1.2 p_2, oc b_3 [pv (.func (.func 58) #[] #[(ptr be_3 0), (ptr be_4 0), (ptr be_5 0)])], oc be_3 [iv .u64 e_3], oc be_4 [iv .i64 e_4], oc be_5 [iv .i64 t11.1], oc b_4 [iv .i64 p_4.N, slv rT_api_Pair p_4.L], oc b_5 [pv h_8.1], oa rB h_8.1 h_8.2 t11.2, oc b_6 [pv (.func (.func 62) #[] #[(ptr b_2 0), (ptr b_3 0), (ptr b_4 0), (ptr b_5 0), (ptr b_6 0)])], tbO (rI .u8) 0 tab_0]) (fun (_ : Unit) => []) (fun (_ : Unit) => tup []) (args := [.tmp 42, .tmp 46]) (caps := [(ptr b_2 0), (ptr b_3 0), (ptr b_4 0), (ptr b_5 0), (ptr b_6 0)]) Tryd.call62 rfl (ih h_t11) ⟨rfl, rfl, ⟨rfl, rfl, ⟨rfl, rfl, ⟨rfl, rfl, ⟨rfl, rfl, ⟨rfl, rfl, ⟨rfl, rfl, ⟨rfl, rfl, ⟨rfl, rfl, ⟨rfl, rfl, ⟨rfl, rfl, trivial⟩⟩⟩⟩⟩⟩⟩⟩⟩⟩⟩ (fun _ => rfl) (fun _ => trivial) (fun _ => rfl) ⟨arg rfl, arg rfl, arg rfl, arg rfl, arg rfl, arg rfl, arg rfl, trivial⟩ (fun _ _ _ _ h => h)) rfl (fun _ => ?_)
  refine l_nil ?_
  refine b_of (nrm [oc b_2 [pv h_1.1], oa rT_api_Fraction h_1.1 h_1.2 p_2, oc b_3 [pv (.func (.func 58) #[] #[(ptr be_3 0), (ptr be_4 0), (ptr be_5 0)])], oc be_3 [iv .u64 e_3], oc be_4 [iv .i64 e_4], oc be_5 [iv .i64 t11.1], oc b_4 [iv .i64 p_4.N, slv rT_api_Pair p_4.L], oc b_5 [pv h_8.1], oa rB h_8.1 h_8.2 t11.2, oc b_6 [pv (.func (.func 62) #[] #[(ptr b_2 0), (ptr b_3 0), (ptr b_4 0), (ptr b_5 0), (ptr b_6 0)])], tbO (rI .u8) 0 tab_0, oc b5 [iv .i64 t4.Num, iv .i64 t4.Den]] rfl) ?_
  refine n_then (ref_seq (ref_region ?_))
  refine s_rd (r_cload Tryd.isAgg97 rfl (j := 7) rfl rfl) rfl ?_
  refine mv1 rfl rfl ?_
  refine pull fun t12 h_t12 => ?_
  refine s_rd (r_oindex h_t12 Tryd.underlying97 el_4 rfl (j := 8) rfl rfl) rfl ?_
  refine s_st0 (s_ostore (u := false) h_t12 el_4 rfl (j := 8) rfl (part_at rfl bv_at)) (fun _ => ?_)
  refine l_nil (n_then (ref_region ?_))
  refine s_rd (r_cload Tryd.isAgg98 rfl (j := 9) rfl rfl) rfl ?_
  refine mv1 rfl rfl ?_
  refine s_rd (r_add rfl rfl) rfl ?_
  refine mv1 rfl rfl ?_
  refine s_rd (r_faddr (fo := 1) Tryd.underlying36 rfl rfl Tryd.sizeOf3 rfl) rfl ?_
  refine s_rd (r_cload Tryd.isAgg3 rfl (j := 11) rfl rfl) rfl ?_
  refine s_rd (r_faddr (fo := 0) Tryd.underlying36 rfl rfl Tryd.sizeOf3 rfl) rfl ?_
  refine s_rd (r_cload Tryd.isAgg3 rfl (j := 11) rfl rfl) rfl ?_
  refine s_rd (r_sub rfl rfl) rfl ?_
  refine s_rd (r_mul rfl rfl) rfl ?_
  refine pull fun t13 h_t13 => ?_
  refine s_st (s_callC [0, 1, 2, 3, 4, 5, 6, 7, 8, 9, 10] [true, true, true, true, true, true, true, true, true, true, true] (fun (_ : Unit) => [oc b_2 [pv h_1.1], oa rT_api_Fraction h_1.1 h_1.2 p_2, oc b_3 [pv (.func (.func 58) #[] #[(ptr be_3 0), (ptr be_4 0), (ptr be_5 0)])], oc be_3 [iv .u64 e_3], oc be_4 [iv .i64 e_4], oc be_5 [iv .i64 t13.1], oc b_4 [iv .i64 p_4.N, slv rT_api_Pair p_4.L], oc b_5 [pv h_8.1], oa rB h_8.1 h_8.2 t13.2, oc b_6 [pv (.func (.func 62) #[] #[(ptr b_2 0), (ptr b_3 0), (ptr b_4 0), (ptr b_5 0), (ptr b_6 0)])], tbO (rI .u8) 0 tab_0]) (fun (_ : Unit) => []) (fun (_ : Unit) => tup []) (args := [.tmp 53, .tmp 60]) (caps := [(ptr b_2 0), (ptr b_3 0), (ptr b_4 0), (ptr b_5 0), (ptr b_6 0)]) Tryd.call62 rfl (ih h_t13) ⟨rfl, rfl, ⟨rfl, rfl, ⟨rfl, rfl, ⟨rfl, rfl, ⟨rfl, rfl, ⟨rfl, rfl, ⟨rfl, rfl, ⟨rfl, rfl, ⟨rfl, rfl, ⟨rfl, rfl, ⟨rfl, rfl, trivial⟩⟩⟩⟩⟩⟩⟩⟩⟩⟩⟩ (fun _ => rfl) (fun _ => trivial) (fun _ => rfl) ⟨arg rfl, arg rfl, arg rfl, arg rfl, arg rfl, arg rfl, arg rfl, trivial⟩ (fun _ _ _ _ h => h)) rfl (fun _ => ?_)
  refine l_nil ?_
  refine b_of (nrm [oc b_2 [pv h_1.1], oa rT_api_Fraction h_1.1 h_1.2 p_2, oc b_3 [pv (.func (.func 58) #[] #[(ptr be_3 0), (ptr be_4 0), (ptr be_5 0)])], oc be_3 [iv .u64 e_3], oc be_4 [iv .i64 e_4], oc be_5 [iv .i64 t13.1], oc b_4 [iv .i64 p_4.N, slv rT_api_Pair p_4.L], oc b_5 [pv h_8.1], oa rB h_8.1 h_8.2 t13.2, oc b_6 [pv (.func (.func 62) #[] #[(ptr b_2 0), (ptr b_3 0), (ptr b_4 0), (ptr b_5 0), (ptr b_6 0)])], tbO (rI .u8) 0 tab_0, oc b5 [iv .i64 t4.Num, iv .i64 t4.Den]] rfl) ?_
  exact fin0 (.inr rfl) () [0, 1, 2, 3, 4, 5, 6, 7, 8, 9, 10] rfl ⟨rfl, rfl, rfl, rfl, rfl, rfl, rfl, rfl, rfl, rfl, rfl, trivial⟩ rfl 

theorem chance_worlds_1_n_ok : ∀ (n_ : Nat) {i_0 : Int} {weight_1 : Int} {p_2 : (List T_api_Fraction)} {e_3 : Int} {e_4 : Int} {e_5 : Int} {p_4 : T_api_Graph} {p_5 : (List Bool)} {b_2 : Nat} {h_1 : Value × List Nat} {b_3 : Nat} {be_3 : Nat} {be_4 : Nat} {be_5 : Nat} {b_4 : Nat} {b_5 : Nat} {h_8 : Value × List Nat} {b_6 : Nat} {r : Int × (List Bool)}, chance_worlds_1_n n_ i_0 weight_1 p_2 e_3 e_4 e_5 p_4 p_5 = some r →
    FnOk prog 62 [iv .i64 i_0, iv .i64 weight_1, pv (ptr b_2 0), pv (ptr b_3 0), pv (ptr b_4 0), pv (ptr b_5 0), pv (ptr b_6 0)] [oc b_2 [pv h_1.1], oa rT_api_Fraction h_1.1 h_1.2 p_2, oc b_3 [pv (.func (.func 58) #[] #[(ptr be_3 0), (ptr be_4 0), (ptr be_5 0)])], oc be_3 [iv .u64 e_3], oc be_4 [iv .i64 e_4], oc be_5 [iv .i64 e_5], oc b_4 [iv .i64 p_4.N, slv rT_api_Pair p_4.L], oc b_5 [pv h_8.1], oa rB h_8.1 h_8.2 p_5, oc b_6 [pv (.func (.func 62) #[] #[(ptr b_2 0), (ptr b_3 0), (ptr b_4 0), (ptr b_5 0), (ptr b_6 0)])], tbO (rI .u8) 0 tab_0] (fun (x : Unit) => []) (fun (x : Unit) => [oc b_2 [pv h_1.1], oa rT_api_Fraction h_1.1 h_1.2 p_2, oc b_3 [pv (.func (.func 58) #[] #[(ptr be_3 0), (ptr be_4 0), (ptr be_5 0)])], oc be_3 [iv .u64 e_3], oc be_4 [iv .i64 e_4], oc be_5 [iv .i64 r.1], oc b_4 [iv .i64 p_4.N, slv rT_api_Pair p_4.L], oc b_5 [pv h_8.1], oa rB h_8.1 h_8.2 r.2, oc b_6 [pv (.func (.func 62) #[] #[(ptr b_2 0), (ptr b_3 0), (ptr b_4 0), (ptr b_5 0), (ptr b_6 0)])], tbO (rI .u8) 0 tab_0]) := by
  intro n_
  induction n_ with
  | zero => intros; rename_i h; cases h
  | succ n_ ih => intros; rename_i h; exact chance_worlds_1_step _ @ih h

theorem chance_worlds_1_ok {i_0 : Int} {weight_1 : Int} {p_2 : (List T_api_Fraction)} {e_3 : Int} {e_4 : Int} {e_5 : Int} {p_4 : T_api_Graph} {p_5 : (List Bool)} {b_2 : Nat} {h_1 : Value × List Nat} {b_3 : Nat} {be_3 : Nat} {be_4 : Nat} {be_5 : Nat} {b_4 : Nat} {b_5 : Nat} {h_8 : Value × List Nat} {b_6 : Nat} {r : Int × (List Bool)} (hm : chance_worlds_1_m i_0 weight_1 p_2 e_3 e_4 e_5 p_4 p_5 = some r) :
    FnOk prog 62 [iv .i64 i_0, iv .i64 weight_1, pv (ptr b_2 0), pv (ptr b_3 0), pv (ptr b_4 0), pv (ptr b_5 0), pv (ptr b_6 0)] [oc b_2 [pv h_1.1], oa rT_api_Fraction h_1.1 h_1.2 p_2, oc b_3 [pv (.func (.func 58) #[] #[(ptr be_3 0), (ptr be_4 0), (ptr be_5 0)])], oc be_3 [iv .u64 e_3], oc be_4 [iv .i64 e_4], oc be_5 [iv .i64 e_5], oc b_4 [iv .i64 p_4.N, slv rT_api_Pair p_4.L], oc b_5 [pv h_8.1], oa rB h_8.1 h_8.2 p_5, oc b_6 [pv (.func (.func 62) #[] #[(ptr b_2 0), (ptr b_3 0), (ptr b_4 0), (ptr b_5 0), (ptr b_6 0)])], tbO (rI .u8) 0 tab_0] (fun (x : Unit) => []) (fun (x : Unit) => [oc b_2 [pv h_1.1], oa rT_api_Fraction h_1.1 h_1.2 p_2, oc b_3 [pv (.func (.func 58) #[] #[(ptr be_3 0), (ptr be_4 0), (ptr be_5 0)])], oc be_3 [iv .u64 e_3], oc be_4 [iv .i64 e_4], oc be_5 [iv .i64 r.1], oc b_4 [iv .i64 p_4.N, slv rT_api_Pair p_4.L], oc b_5 [pv h_8.1], oa rB h_8.1 h_8.2 r.2, oc b_6 [pv (.func (.func 62) #[] #[(ptr b_2 0), (ptr b_3 0), (ptr b_4 0), (ptr b_5 0), (ptr b_6 0)])], tbO (rI .u8) 0 tab_0]) := by
  obtain ⟨n_, h⟩ := recC_some hm
  exact chance_worlds_1_n_ok n_ h

theorem chance_worlds_1_b_le {rec_ rec_' : Int → Int → (List T_api_Fraction) → Int → Int → Int → T_api_Graph → (List Bool) → Option (Int × (List Bool))} (h : ∀ i_0 weight_1 p_2 e_3 e_4 e_5 p_4 p_5, Le (rec_ i_0 weight_1 p_2 e_3 e_4 e_5 p_4 p_5) (rec_' i_0 weight_1 p_2 e_3 e_4 e_5 p_4 p_5)) {i_0 : Int} {weight_1 : Int} {p_2 : (List T_api_Fraction)} {e_3 : Int} {e_4 : Int} {e_5 : Int} {p_4 : T_api_Graph} {p_5 : (List Bool)} : Le (chance_worlds_1_b rec_ i_0 weight_1 p_2 e_3 e_4 e_5 p_4 p_5) (chance_worlds_1_b rec_' i_0 weight_1 p_2 e_3 e_4 e_5 p_4 p_5) := by
  unfold chance_worlds_1_b
  repeat' with_reducible (first | exact Le.refl _ | exact h _ _ _ _ _ _ _ _ | refine Le.bind ?_ (Le.sumK fun _ => ?_) | refine Le.bind ?_ (fun _ => ?_) | refine Le.cond ?_ ?_ | refine Le.letM (fun _ => ?_) | refine Le.join (fun _ => ?_) (fun _ _ hj => ?_) | exact hj _)

theorem chance_worlds_1_n_le : ∀ (n_ : Nat) (i_0 : Int) (weight_1 : Int) (p_2 : (List T_api_Fraction)) (e_3 : Int) (e_4 : Int) (e_5 : Int) (p_4 : T_api_Graph) (p_5 : (List Bool)), Le (chance_worlds_1_n n_ i_0 weight_1 p_2 e_3 e_4 e_5 p_4 p_5) (chance_worlds_1_n (n_ + 1) i_0 weight_1 p_2 e_3 e_4 e_5 p_4 p_5)
  | 0, _, _, _, _, _, _, _, _ => fun _ h => by cases h
  | n_ + 1, _, _, _, _, _, _, _, _ => chance_worlds_1_b_le (chance_worlds_1_n_le n_)

/-! deliberation/chance.worlds -/
noncomputable def chance_worlds_l1 (t4 : List T_api_Fraction) (s14 : Int × Int) : Option (Sum (Int) (Int × Int)) :=
  bif decide (s14.2 < (t4.length : Int)) then
    Option.bind (idxM t4 s14.2) fun t17 =>
    Option.bind (chance_certain_m t17) fun t19 =>
    bif !t19 then
      letM (imul .i64 s14.1 t17.Den) fun total21 =>
      some (Sum.inr (total21, iadd .i64 s14.2 1))
    else
      some (Sum.inr (s14.1, iadd .i64 s14.2 1))
  else
    some (Sum.inl s14.1)

noncomputable def chance_worlds_m (g_0 : T_api_Graph) (o_1 : T_api_Odds) (e_0 : Int) (e_1 : Int) (e_2 : Int) : Option (Int × Int) :=
  Option.bind (slices_Concat_api_Fraction_api_Fraction_m [o_1.Nodes, o_1.Attacks]) fun t4 =>
  Option.bind (loopC (chance_worlds_l1 t4) (1, 0)) fun q22 : Int =>
  Option.bind (slices_Concat_api_Fraction_api_Fraction_m [o_1.Nodes, o_1.Attacks]) fun t24 =>
  Option.bind (mkM 1 false (t24.length : Int)) fun t27 =>
  Option.bind (chance_worlds_1_m 0 1 t24 e_0 e_1 e_2 g_0 t27) fun t31 =>
  some (q22, t31.1)

theorem chance_worlds_ok {g_0 : T_api_Graph} {o_1 : T_api_Odds} {e_0 : Int} {e_1 : Int} {e_2 : Int} {be_0 : Nat} {be_1 : Nat} {be_2 : Nat} {r : Int × Int} (hm : chance_worlds_m g_0 o_1 e_0 e_1 e_2 = some r) :
    FnOk prog 37 [ag [iv .i64 g_0.N, slv rT_api_Pair g_0.L], ag [slv rT_api_Fraction o_1.Nodes, slv rT_api_Fraction o_1.Attacks], pv (.func (.func 58) #[] #[(ptr be_0 0), (ptr be_1 0), (ptr be_2 0)])] [oc be_0 [iv .u64 e_0], oc be_1 [iv .i64 e_1], oc be_2 [iv .i64 e_2], tbO (rI .u8) 0 tab_0] (fun (x : Unit) => [iv .i64 r.1]) (fun (x : Unit) => [oc be_0 [iv .u64 e_0], oc be_1 [iv .i64 e_1], oc be_2 [iv .i64 r.2], tbO (rI .u8) 0 tab_0]) := by
  refine fn_ok (fn := Tryd.f37) (N := 45) (res := fun r x => [iv .i64 r.1]) (Ω1 := fun r x => [oc be_0 [iv .u64 e_0], oc be_1 [iv .i64 e_1], oc be_2 [iv .i64 r.2], tbO (rI .u8) 0 tab_0]) Tryd.func37 rfl rfl hm rfl (fun E hM => ?_)
  unfold chance_worlds_m
  refine ref_seq (ref_region ?_)
  refine s_st (s_box (part_agO (ψs := [iv .i64 g_0.N, slv rT_api_Pair g_0.L]) rfl ⟨.inl iv_at, .inl slv_at, trivial⟩)) rfl (fun b1 => ?_)
  refine s_st (s_box (part_agO (ψs := [slv rT_api_Fraction o_1.Nodes, slv rT_api_Fraction o_1.Attacks]) rfl ⟨.inl slv_at, .inl slv_at, trivial⟩)) rfl (fun b2 => ?_)
  refine s_st (s_box (part_at (φ := pv (.func (.func 58) #[] #[(ptr be_0 0), (ptr be_1 0), (ptr be_2 0)])) rfl (pv_at rfl))) rfl (fun b3 => ?_)
  refine as1 rfl rfl ?_
  refine l_nil (n_then (ref_seq (ref_region ?_)))
  refine as1 rfl rfl ?_
  refine l_nil (n_then (ref_seq (ref_seq (ref_region ?_))))
  refine s_rd (r_faddr (fo := 0) Tryd.underlying31 rfl rfl Tryd.sizeOf29 rfl) rfl ?_
  refine s_rd (r_cload Tryd.isAgg29 rfl (j := 5) rfl rfl) rfl ?_
  refine s_rd (r_faddr (fo := 1) Tryd.underlying31 rfl rfl Tryd.sizeOf29 rfl) rfl ?_
  refine s_rd (r_cload Tryd.isAgg29 rfl (j := 5) rfl rfl) rfl ?_
  refine s_st (s_bslice (xs := [.tmp 14, .tmp 16]) (ds := [o_1.Nodes, o_1.Attacks]) Tryd.underlying106 el_29 rfl (Nat.le_of_ble_eq_true rfl) ⟨(part_at rfl slv_at), ⟨(part_at rfl slv_at), trivial⟩⟩) rfl (fun _ => ?_)
  refine pull fun t4 h_t4 => ?_
  refine s_st (s_call (ψ := fun (x5 : (Value × List Nat)) => pv x5.1) (args := [.tmp 17]) Tryd.call56 rfl (slices_Concat_api_Fraction_api_Fraction_ok h_t4) ⟨arg rfl, trivial⟩ (fun _ _ _ _ h => h)) rfl (fun x5 => ?_)
  refine s_rd (r_olen Tryd.underlying29 rfl (j := 7) rfl) rfl ?_
  refine mv1 rfl rfl ?_
  refine l_nil ?_
  refine b_of (nrm [oc be_0 [iv .u64 e_0], oc be_1 [iv .i64 e_1], oc be_2 [iv .i64 e_2], tbO (rI .u8) 0 tab_0, oc b1 [iv .i64 g_0.N, slv rT_api_Pair g_0.L], oc b2 [slv rT_api_Fraction o_1.Nodes, slv rT_api_Fraction o_1.Attacks], oc b3 [pv (.func (.func 58) #[] #[(ptr be_0 0), (ptr be_1 0), (ptr be_2 0)])], oa rT_api_Fraction x5.1 x5.2 t4] rfl) ?_
  refine n_then ?_
  refine ref_loopB (f := (chance_worlds_l1 t4)) (Γl := (fun (s14 : Int × Int) (x15 : Unit) => [(2, pv (.func (.func 58) #[] #[(ptr be_0 0), (ptr be_1 0), (ptr be_2 0)])), (3, pv (ptr b1 0)), (4, pv (ptr b2 0)), (5, pv (ptr b3 0)), (7, iv .i64 s14.1), (18, pv x5.1), (19, iv .i64 (t4.length : Int)), (20, iv .i64 s14.2)])) (Ωl := (fun (s14 : Int × Int) (x15 : Unit) => [tbO (rI .u8) 0 tab_0, oc be_0 [iv .u64 e_0], oc be_1 [iv .i64 e_1], oc be_2 [iv .i64 e_2], oc b1 [iv .i64 g_0.N, slv rT_api_Pair g_0.L], oc b2 [slv rT_api_Fraction o_1.Nodes, slv rT_api_Fraction o_1.Attacks], oc b3 [pv (.func (.func 58) #[] #[(ptr be_0 0), (ptr be_1 0), (ptr be_2 0)])], oa rT_api_Fraction x5.1 x5.2 t4])) (Γb := (fun (q22 : Int) (y23 : Unit) => [(2, pv (.func (.func 58) #[] #[(ptr be_0 0), (ptr be_1 0), (ptr be_2 0)])), (3, pv (ptr b1 0)), (4, pv (ptr b2 0)), (5, pv (ptr b3 0)), (7, iv .i64 q22)])) (Ωb := (fun (q22 : Int) (y23 : Unit) => [oc be_0 [iv .u64 e_0], oc be_1 [iv .i64 e_1], oc be_2 [iv .i64 e_2], oc b1 [iv .i64 g_0.N, slv rT_api_Pair g_0.L], oc b2 [slv rT_api_Fraction o_1.Nodes, slv rT_api_Fraction o_1.Attacks], oc b3 [pv (.func (.func 58) #[] #[(ptr be_0 0), (ptr be_1 0), (ptr be_2 0)])], tbO (rI .u8) 0 tab_0])) (1, 0) () (weak [3, 0, 1, 2, 4, 5, 6, 7] ⟨rfl, rfl, rfl, rfl, rfl, rfl, rfl, rfl, trivial⟩ ⟨rfl, rfl, rfl, rfl, rfl, rfl, rfl, rfl, trivial⟩) (fun s14 x15 => ?_) (fun q22 y23 => ?_)
  · unfold chance_worlds_l1
    refine ref_seq (ref_region ?_)
    refine s_rd (r_lss rfl rfl) rfl ?_
    refine l_nil (n_then (ref_seq ?_))
    refine ref_cond rfl (fun hb16 => ?_) (fun hb16 => ?_)
    · refine ref_skip (n_then (ref_seq (ref_block (ref_seq (ref_region ?_)))))
      refine pull fun t17 h_t17 => ?_
      refine s_rd (r_oindex h_t17 Tryd.underlying29 el_36 rfl (j := 7) rfl rfl) rfl ?_
      refine s_rd (r_oload h_t17 el_36 rfl (j := 7) rfl) rfl ?_
      refine s_st (s_alloc zt_36) rfl (fun b18 => ?_)
      refine s_st0 (s_cstore (out := [iv .i64 t17.Num, iv .i64 t17.Den]) Tryd.sizeOf36 rfl (j := 8) rfl (part_agO (ψs := [iv .i64 t17.Num, iv .i64 t17.Den]) rfl ⟨.inl iv_at, .inl iv_at, trivial⟩) rfl rfl rfl) (fun _ => ?_)
      refine l_nil (n_then (ref_seq (ref_region ?_)))
      refine s_rd (r_cloadS Tryd.isAgg36 Tryd.sizeOf36 rfl (j := 8) rfl rfl rfl) rfl ?_
      refine pull fun t19 h_t19 => ?_
      refine s_st (s_call (ψ := fun (_ : Unit) => bv t19) (args := [.tmp 24]) Tryd.call57 rfl (chance_certain_ok h_t19) ⟨arg rfl, trivial⟩ (fun _ _ _ _ h => h)) rfl (fun _ => ?_)
      refine s_rd (r_not rfl) rfl ?_
      refine l_nil (n_then ?_)
      refine ref_cond rfl (fun hb20 => ?_) (fun hb20 => ?_)
      · refine ref_region ?_
        refine mv1 rfl rfl ?_
        refine s_rd (r_faddr (fo := 1) Tryd.underlying36 rfl rfl Tryd.sizeOf3 rfl) rfl ?_
        refine s_rd (r_cload Tryd.isAgg3 rfl (j := 8) rfl rfl) rfl ?_
        refine s_rd (r_mul rfl rfl) rfl ?_
        refine as1 rfl rfl ?_
        refine b_let (f := iv .i64) (t := 7) rfl fun total21 => ?_
        refine l_nil (n_block (n_then (ref_region ?_)))
        refine s_rd (r_add rfl rfl) rfl ?_
        refine mv1 rfl rfl ?_
        refine l_nil ?_
        exact goB () (weak [0, 1, 2, 3, 4, 5, 6, 7] ⟨rfl, rfl, rfl, rfl, rfl, rfl, rfl, rfl, trivial⟩ ⟨rfl, rfl, rfl, rfl, rfl, rfl, rfl, rfl, trivial⟩)
      refine ref_skip (n_block (n_then (ref_region ?_)))
      refine s_rd (r_add rfl rfl) rfl ?_
      refine mv1 rfl rfl ?_
      refine l_nil ?_
      exact goB () (weak [0, 1, 2, 3, 4, 5, 6, 7] ⟨rfl, rfl, rfl, rfl, rfl, rfl, rfl, rfl, trivial⟩ ⟨rfl, rfl, rfl, rfl, rfl, rfl, rfl, rfl, trivial⟩)
    refine ref_exit (x_then ?_)
    exact brkB () (weak [1, 2, 3, 4, 5, 6, 0] ⟨rfl, rfl, rfl, rfl, rfl, trivial⟩ ⟨rfl, rfl, rfl, rfl, rfl, rfl, rfl, trivial⟩)
  refine n_then (ref_seq (ref_region ?_))
  refine s_rd (r_faddr (fo := 0) Tryd.underlying31 rfl rfl Tryd.sizeOf29 rfl) rfl ?_
  refine s_rd (r_cload Tryd.isAgg29 rfl (j := 4) rfl rfl) rfl ?_
  refine s_rd (r_faddr (fo := 1) Tryd.underlying31 rfl rfl Tryd.sizeOf29 rfl) rfl ?_
  refine s_rd (r_cload Tryd.isAgg29 rfl (j := 4) rfl rfl) rfl ?_
  refine s_st (s_bslice (xs := [.tmp 33, .tmp 35]) (ds := [o_1.Nodes, o_1.Attacks]) Tryd.underlying106 el_29 rfl (Nat.le_of_ble_eq_true rfl) ⟨(part_at rfl slv_at), ⟨(part_at rfl slv_at), trivial⟩⟩) rfl (fun _ => ?_)
  refine pull fun t24 h_t24 => ?_
  refine s_st (s_call (ψ := fun (x25 : (Value × List Nat)) => pv x25.1) (args := [.tmp 36]) Tryd.call56 rfl (slices_Concat_api_Fraction_api_Fraction_ok h_t24) ⟨arg rfl, trivial⟩ (fun _ _ _ _ h => h)) rfl (fun x25 => ?_)
  refine s_st (s_alloc zt_29) rfl (fun b26 => ?_)
  refine s_st0 (s_cstore (out := [pv x25.1]) Tryd.sizeOf29 rfl (j := 8) rfl (part_own rfl (j := 7) rfl) rfl rfl rfl) (fun _ => ?_)
  refine l_nil ?_
  refine b_of (nrm [oc be_0 [iv .u64 e_0], oc be_1 [iv .i64 e_1], oc be_2 [iv .i64 e_2], oc b1 [iv .i64 g_0.N, slv rT_api_Pair g_0.L], oc b2 [slv rT_api_Fraction o_1.Nodes, slv rT_api_Fraction o_1.Attacks], oc b3 [pv (.func (.func 58) #[] #[(ptr be_0 0), (ptr be_1 0), (ptr be_2 0)])], tbO (rI .u8) 0 tab_0, oa rT_api_Fraction x25.1 x25.2 t24, oc b26 [pv x25.1]] rfl) ?_
  refine n_then (ref_seq (ref_region ?_))
  refine s_rd (r_cload Tryd.isAgg29 rfl (j := 8) rfl rfl) rfl ?_
  refine s_rd (r_olen Tryd.underlying29 rfl (j := 7) rfl) rfl ?_
  refine pull fun t27 h_t27 => ?_
  refine s_st (s_make h_t27 Tryd.underlying97 el_4 ze_4 rfl rfl) rfl (fun o28 => ?_)
  refine s_st (s_alloc zt_97) rfl (fun b29 => ?_)
  refine s_st0 (s_cstore (out := [pv o28.1]) Tryd.sizeOf97 rfl (j := 10) rfl (part_own rfl (j := 9) rfl) rfl rfl rfl) (fun _ => ?_)
  refine l_nil (n_then (ref_seq (ref_region ?_)))
  refine s_st (s_alloc zt_98) rfl (fun b30 => ?_)
  refine l_nil ?_
  refine b_of (nrm [oc be_0 [iv .u64 e_0], oc be_1 [iv .i64 e_1], oc be_2 [iv .i64 e_2], oc b1 [iv .i64 g_0.N, slv rT_api_Pair g_0.L], oc b2 [slv rT_api_Fraction o_1.Nodes, slv rT_api_Fraction o_1.Attacks], oc b3 [pv (.func (.func 58) #[] #[(ptr be_0 0), (ptr be_1 0), (ptr be_2 0)])], tbO (rI .u8) 0 tab_0, oa rT_api_Fraction x25.1 x25.2 t24, oc b26 [pv x25.1], oa rB o28.1 o28.2 t27, oc b29 [pv o28.1], oc b30 [pv .nilFunc]] rfl) ?_
  refine n_then (ref_seq (ref_region ?_))
  refine s_rd (r_mkfn (xs := [.tmp 10, .tmp 5, .tmp 3, .tmp 11, .tmp 12]) (vs := [(ptr b26 0), (ptr b3 0), (ptr b1 0), (ptr b29 0), (ptr b30 0)]) ⟨rfl, rfl, rfl, rfl, rfl, trivial⟩) rfl ?_
  refine s_st0 (s_cstore (out := [pv (.func (.func 62) #[] #[(ptr b26 0), (ptr b3 0), (ptr b1 0), (ptr b29 0), (ptr b30 0)])]) Tryd.sizeOf98 rfl (j := 11) rfl (part_at (φ := pv (.func (.func 62) #[] #[(ptr b26 0), (ptr b3 0), (ptr b1 0), (ptr b29 0), (ptr b30 0)])) rfl (pv_at rfl)) rfl rfl rfl) (fun _ => ?_)
  refine l_nil (n_then (ref_seq (ref_region ?_)))
  refine s_rd (r_cload Tryd.isAgg98 rfl (j := 11) rfl rfl) rfl ?_
  refine pull fun t31 h_t31 => ?_
  refine s_st (s_callC [8, 7, 5, 0, 1, 2, 3, 10, 9, 11, 6] [true, true, true, true, true, true, true, true, true, true, true] (fun (_ : Unit) => [oc b26 [pv x25.1], oa rT_api_Fraction x25.1 x25.2 t24, oc b3 [pv (.func (.func 58) #[] #[(ptr be_0 0), (ptr be_1 0), (ptr be_2 0)])], oc be_0 [iv .u64 e_0], oc be_1 [iv .i64 e_1], oc be_2 [iv .i64 t31.1], oc b1 [iv .i64 g_0.N, slv rT_api_Pair g_0.L], oc b29 [pv o28.1], oa rB o28.1 o28.2 t31.2, oc b30 [pv (.func (.func 62) #[] #[(ptr b26 0), (ptr b3 0), (ptr b1 0), (ptr b29 0), (ptr b30 0)])], tbO (rI .u8) 0 tab_0]) (fun (_ : Unit) => []) (fun (_ : Unit) => tup []) (args := [.const (.int .i64 (0)), .const (.int .i64 (1))]) (caps := [(ptr b26 0), (ptr b3 0), (ptr b1 0), (ptr b29 0), (ptr b30 0)]) Tryd.call62 rfl (chance_worlds_1_ok h_t31) ⟨rfl, rfl, ⟨rfl, rfl, ⟨rfl, rfl, ⟨rfl, rfl, ⟨rfl, rfl, ⟨rfl, rfl, ⟨rfl, rfl, ⟨rfl, rfl, ⟨rfl, rfl, ⟨rfl, rfl, ⟨rfl, rfl, trivial⟩⟩⟩⟩⟩⟩⟩⟩⟩⟩⟩ (fun _ => rfl) (fun _ => trivial) (fun _ => rfl) ⟨arg rfl, arg rfl, arg rfl, arg rfl, arg rfl, arg rfl, arg rfl, trivial⟩ (fun _ _ _ _ h => h)) rfl (fun _ => ?_)
  refine l_nil ?_
  refine b_of (nrm [oc be_0 [iv .u64 e_0], oc be_1 [iv .i64 e_1], oc be_2 [iv .i64 t31.1], oc b1 [iv .i64 g_0.N, slv rT_api_Pair g_0.L], oc b2 [slv rT_api_Fraction o_1.Nodes, slv rT_api_Fraction o_1.Attacks], oc b3 [pv (.func (.func 58) #[] #[(ptr be_0 0), (ptr be_1 0), (ptr be_2 0)])], tbO (rI .u8) 0 tab_0, oa rT_api_Fraction x25.1 x25.2 t24, oc b26 [pv x25.1], oa rB o28.1 o28.2 t31.2, oc b29 [pv o28.1], oc b30 [pv (.func (.func 62) #[] #[(ptr b26 0), (ptr b3 0), (ptr b1 0), (ptr b29 0), (ptr b30 0)])]] rfl) ?_
  refine n_then (ref_seq (ref_region ?_))
  refine mv1 rfl rfl ?_
  refine as1 rfl rfl ?_
  refine l_nil (n_then (ref_ret ?_))
  exact fin1 (.inl rfl) () [0, 1, 2, 6] rfl ⟨rfl, rfl, rfl, rfl, trivial⟩ rfl (rv_tmp rfl)

/-! deliberation/chance.joint -/
noncomputable def chance_joint_m (g_0 : T_api_Graph) (o_1 : T_api_Odds) (set__2 : Int) (question_3 : Int) : Option (Int × Int) :=
  Option.bind (chance_worlds_m g_0 o_1 set__2 question_3 0) fun total6 =>
  some (total6.2, total6.1)

theorem chance_joint_ok {g_0 : T_api_Graph} {o_1 : T_api_Odds} {set__2 : Int} {question_3 : Int} {r : Int × Int} (hm : chance_joint_m g_0 o_1 set__2 question_3 = some r) :
    FnOk prog 32 [ag [iv .i64 g_0.N, slv rT_api_Pair g_0.L], ag [slv rT_api_Fraction o_1.Nodes, slv rT_api_Fraction o_1.Attacks], iv .u64 set__2, iv .i64 question_3] [tbO (rI .u8) 0 tab_0] (fun (x : Unit) => [iv .i64 r.1, iv .i64 r.2]) (fun (x : Unit) => [tbO (rI .u8) 0 tab_0]) := by
  refine fn_ok (fn := Tryd.f32) (N := 18) (res := fun r x => [iv .i64 r.1, iv .i64 r.2]) (Ω1 := fun r x => [tbO (rI .u8) 0 tab_0]) Tryd.func32 rfl rfl hm rfl (fun E hM => ?_)
  unfold chance_joint_m
  refine ref_seq (ref_region ?_)
  refine s_st (s_box (part_agO (ψs := [iv .i64 g_0.N, slv rT_api_Pair g_0.L]) rfl ⟨.inl iv_at, .inl slv_at, trivial⟩)) rfl (fun b1 => ?_)
  refine s_st (s_box (part_agO (ψs := [slv rT_api_Fraction o_1.Nodes, slv rT_api_Fraction o_1.Attacks]) rfl ⟨.inl slv_at, .inl slv_at, trivial⟩)) rfl (fun b2 => ?_)
  refine s_st (s_box (part_at rfl iv_at)) rfl (fun b3 => ?_)
  refine s_st (s_box (part_at rfl iv_at)) rfl (fun b4 => ?_)
  refine as1 rfl rfl ?_
  refine as1 rfl rfl ?_
  refine l_nil ?_
  refine b_of (nrm [tbO (rI .u8) 0 tab_0, oc b1 [iv .i64 g_0.N, slv rT_api_Pair g_0.L], oc b2 [slv rT_api_Fraction o_1.Nodes, slv rT_api_Fraction o_1.Attacks], oc b3 [iv .u64 set__2], oc b4 [iv .i64 question_3]] rfl) ?_
  refine n_then (ref_seq (ref_region ?_))
  refine s_st (s_alloc zt_3) rfl (fun b5 => ?_)
  refine s_st0 (s_cstore (out := [iv .i64 0]) Tryd.sizeOf3 rfl (j := 5) rfl (part_at rfl iv_at) rfl rfl rfl) (fun _ => ?_)
  refine l_nil (n_then (ref_seq (ref_region ?_)))
  refine s_rd (r_cloadS Tryd.isAgg27 Tryd.sizeOf27 rfl (j := 1) rfl rfl rfl) rfl ?_
  refine s_rd (r_cloadS Tryd.isAgg31 Tryd.sizeOf31 rfl (j := 2) rfl rfl rfl) rfl ?_
  refine s_rd (r_mkfn (xs := [.tmp 6, .tmp 7, .tmp 10]) (vs := [(ptr b3 0), (ptr b4 0), (ptr b5 0)]) ⟨rfl, rfl, rfl, trivial⟩) rfl ?_
  refine pull fun total6 h_total6 => ?_
  refine s_st (s_callC [3, 4, 5, 0] [true, true, true, true] (fun (_ : Unit) => [oc b3 [iv .u64 set__2], oc b4 [iv .i64 question_3], oc b5 [iv .i64 total6.2], tbO (rI .u8) 0 tab_0]) (fun (_ : Unit) => []) (fun (_ : Unit) => iv .i64 total6.1) (args := [.tmp 12, .tmp 13, .tmp 14]) (caps := []) Tryd.call37 rfl (chance_worlds_ok h_total6) ⟨rfl, rfl, ⟨rfl, rfl, ⟨rfl, rfl, ⟨rfl, rfl, trivial⟩⟩⟩⟩ (fun _ => rfl) (fun _ => trivial) (fun _ => rfl) ⟨arg rfl, arg rfl, arg rfl, trivial⟩ (fun _ _ _ _ h => h)) rfl (fun _ => ?_)
  refine as1 rfl rfl ?_
  refine l_nil ?_
  refine b_of (nrm [tbO (rI .u8) 0 tab_0, oc b1 [iv .i64 g_0.N, slv rT_api_Pair g_0.L], oc b2 [slv rT_api_Fraction o_1.Nodes, slv rT_api_Fraction o_1.Attacks], oc b3 [iv .u64 set__2], oc b4 [iv .i64 question_3], oc b5 [iv .i64 total6.2]] rfl) ?_
  refine n_then (ref_seq (ref_region ?_))
  refine s_rd (r_cload Tryd.isAgg3 rfl (j := 5) rfl rfl) rfl ?_
  refine mv1 rfl rfl ?_
  refine as1 rfl rfl ?_
  refine as1 rfl rfl ?_
  refine l_nil (n_then (ref_ret ?_))
  exact fin2 (.inl rfl) () [0] rfl ⟨rfl, trivial⟩ rfl (rv_tmp rfl) (rv_tmp rfl)

/-! deliberation/chance.reduced -/
noncomputable def chance_reduced_l1  (s6 : Int × Int) : Option (Sum (Int) (Int × Int)) :=
  bif s6.2 != 0 then
    Option.bind (iremM .i64 s6.1 s6.2) fun b9 =>
    some (Sum.inr (s6.2, b9))
  else
    some (Sum.inl s6.1)

noncomputable def chance_reduced_m (num_0 : Int) (den_1 : Int) : Option (T_api_Fraction) :=
  Option.bind (loopC (chance_reduced_l1) (num_0, den_1)) fun q10 : Int =>
  Option.bind (iquoM .i64 num_0 q10) fun t12 =>
  Option.bind (iquoM .i64 den_1 q10) fun t13 =>
  some (T_api_Fraction.mk t12 t13)

theorem chance_reduced_ok {num_0 : Int} {den_1 : Int} {r : T_api_Fraction} (hm : chance_reduced_m num_0 den_1 = some r) :
    FnOk prog 31 [iv .i64 num_0, iv .i64 den_1] [] (fun (x : Unit) => [ag [iv .i64 r.Num, iv .i64 r.Den]]) (fun (x : Unit) => []) := by
  refine fn_ok (fn := Tryd.f31) (N := 22) (res := fun r x => [ag [iv .i64 r.Num, iv .i64 r.Den]]) (Ω1 := fun r x => []) Tryd.func31 rfl rfl hm rfl (fun E hM => ?_)
  unfold chance_reduced_m
  refine ref_seq (ref_region ?_)
  refine s_st (s_alloc zt_36) rfl (fun b1 => ?_)
  refine l_nil (n_then (ref_seq (ref_region ?_)))
  refine mv1 rfl rfl ?_
  refine mv1 rfl rfl ?_
  refine as1 rfl rfl ?_
  refine as1 rfl rfl ?_
  refine l_nil (n_then (ref_seq ?_))
  refine ref_loopB (f := (chance_reduced_l1)) (Γl := (fun (s6 : Int × Int) (x7 : Unit) => [(0, iv .i64 num_0), (1, iv .i64 den_1), (4, pv (ptr b1 0)), (5, iv .i64 s6.1), (6, iv .i64 s6.2)])) (Ωl := (fun (s6 : Int × Int) (x7 : Unit) => [oc b1 [iv .i64 0, iv .i64 0]])) (Γb := (fun (q10 : Int) (y11 : Unit) => [(0, iv .i64 num_0), (1, iv .i64 den_1), (4, pv (ptr b1 0)), (5, iv .i64 q10)])) (Ωb := (fun (q10 : Int) (y11 : Unit) => [oc b1 [iv .i64 0, iv .i64 0]])) (num_0, den_1) () (weak [0] ⟨rfl, rfl, rfl, rfl, rfl, trivial⟩ ⟨rfl, trivial⟩) (fun s6 x7 => ?_) (fun q10 y11 => ?_)
  · unfold chance_reduced_l1
    refine ref_seq (ref_seq (ref_region ?_))
    refine mv1 rfl rfl ?_
    refine s_rd (r_neq rfl rfl) rfl ?_
    refine l_nil (n_then ?_)
    refine ref_cond rfl (fun hb8 => ?_) (fun hb8 => ?_)
    · refine ref_skip (n_then (ref_block ?_))
      refine ref_draw [0, 1, 2, 3] rfl (by kernel_rfl) (fun hok => ?_)
      refine a_rd (i := 0) hok rfl (by kernel_rfl) rfl (r_move rfl) rfl ?_
      refine a_rd (i := 1) hok rfl (by kernel_rfl) rfl (r_move rfl) rfl ?_
      refine a_rd (i := 2) hok rfl (by kernel_rfl) rfl (r_move rfl) rfl ?_
      refine pull fun b9 h_b9 => ?_
      refine a_rd (i := 3) hok rfl (by kernel_rfl) rfl (r_remM h_b9 rfl rfl) rfl ?_
      refine a_next hok 4 [] (by kernel_rfl) ?_ trivial
      refine a_st (i := 4) hok rfl rfl (St.ofRd (r_assign rfl)) (by intro _ h; cases h; rfl) (fun _ => ⟨trivial, ⟨trivial, ⟨trivial, ⟨trivial, trivial⟩⟩⟩⟩) (fun _ => ?_)
      refine a_next hok 5 [] (by kernel_rfl) ?_ trivial
      refine a_st (i := 5) hok rfl rfl (St.ofRd (r_assign rfl)) (by intro _ h; cases h; rfl) (fun _ => ⟨trivial, ⟨trivial, ⟨trivial, ⟨trivial, trivial⟩⟩⟩⟩) (fun _ => ?_)
      refine a_fin hok (by kernel_rfl) ?_
      refine n_block ?_
      exact goB () (weak [0] ⟨rfl, rfl, rfl, rfl, rfl, trivial⟩ ⟨rfl, trivial⟩)
    refine ref_exit (x_then ?_)
    exact brkB () (weak [0] ⟨rfl, rfl, rfl, rfl, trivial⟩ ⟨rfl, trivial⟩)
  refine n_then (ref_seq ?_)
  refine ref_draw [0, 1, 2, 3, 4, 5, 6] rfl (by kernel_rfl) (fun hok => ?_)
  refine a_rd (i := 0) hok rfl (by kernel_rfl) rfl (r_move rfl) rfl ?_
  refine a_rd (i := 1) hok rfl (by kernel_rfl) rfl (r_move rfl) rfl ?_
  refine pull fun t12 h_t12 => ?_
  refine a_rd (i := 2) hok rfl (by kernel_rfl) rfl (r_quoM h_t12 rfl rfl) rfl ?_
  refine a_rd (i := 3) hok rfl (by kernel_rfl) rfl (r_move rfl) rfl ?_
  refine a_rd (i := 4) hok rfl (by kernel_rfl) rfl (r_move rfl) rfl ?_
  refine pull fun t13 h_t13 => ?_
  refine a_rd (i := 5) hok rfl (by kernel_rfl) rfl (r_quoM h_t13 rfl rfl) rfl ?_
  refine a_rd (i := 6) hok rfl (by kernel_rfl) rfl (r_build (ps := [(0, .tmp 17), (1, .tmp 20)]) (rs := [(0, [iv .i64 t12]), (1, [iv .i64 t13])]) st_36 zs_36 ⟨rfl, (part_at rfl iv_at), ⟨rfl, (part_at rfl iv_at), trivial⟩⟩ rfl rfl) rfl ?_
  refine a_next hok 7 [] (by kernel_rfl) ?_ trivial
  refine a_st (i := 7) hok rfl rfl (s_cstore (out := [iv .i64 t12, iv .i64 t13]) Tryd.sizeOf36 rfl (j := 0) rfl (part_agO (ψs := [iv .i64 t12, iv .i64 t13]) rfl ⟨.inl iv_at, .inl iv_at, trivial⟩) rfl rfl rfl) (by intro _ h; cases h) (fun _ => ⟨trivial, ⟨trivial, ⟨trivial, ⟨trivial, ⟨trivial, ⟨trivial, ⟨trivial, trivial⟩⟩⟩⟩⟩⟩⟩) (fun _ => ?_)
  refine a_fin hok (by kernel_rfl) ?_
  refine n_then (ref_ret ?_)
  exact fin1 (.inl rfl) () [] rfl trivial rfl (rv_cell rfl (j := 0) rfl Tryd.isAgg36 Tryd.sizeOf36 rfl rfl)

/-! deliberation/chance.Joint -/
noncomputable def chance_Joint_m (g_0 : T_api_Graph) (o_1 : T_api_Odds) (set__2 : (List Int)) (question_3 : Int) : Option (T_api_Fraction × Int) :=
  Option.bind (chance_arguments_m g_0 o_1 set__2 question_3) fun e4 =>
  bif e4 != 0 then
    some ((T_api_Fraction.mk 0 0), e4)
  else
    Option.bind (network_Of_m set__2) fun t6 =>
    Option.bind (chance_joint_m g_0 o_1 t6 question_3) fun t7 =>
    Option.bind (chance_reduced_m t7.1 t7.2) fun t8 =>
    some (t8, 0)

theorem chance_Joint_ok {g_0 : T_api_Graph} {o_1 : T_api_Odds} {set__2 : (List Int)} {question_3 : Int} {r : T_api_Fraction × Int} (hm : chance_Joint_m g_0 o_1 set__2 question_3 = some r) :
    FnOk prog 12 [ag [iv .i64 g_0.N, slv rT_api_Pair g_0.L], ag [slv rT_api_Fraction o_1.Nodes, slv rT_api_Fraction o_1.Attacks], slv (rI .i64) set__2, iv .i64 question_3] [tbO (rI .u8) 0 tab_0] (fun (x : Unit) => [ag [iv .i64 r.1.Num, iv .i64 r.1.Den], iv .i64 r.2]) (fun (x : Unit) => [tbO (rI .u8) 0 tab_0]) := by
  refine fn_ok (fn := Tryd.f12) (N := 29) (res := fun r x => [ag [iv .i64 r.1.Num, iv .i64 r.1.Den], iv .i64 r.2]) (Ω1 := fun r x => [tbO (rI .u8) 0 tab_0]) Tryd.func12 rfl rfl hm rfl (fun E hM => ?_)
  unfold chance_Joint_m
  refine ref_seq (ref_region ?_)
  refine s_st (s_box (part_agO (ψs := [iv .i64 g_0.N, slv rT_api_Pair g_0.L]) rfl ⟨.inl iv_at, .inl slv_at, trivial⟩)) rfl (fun b1 => ?_)
  refine s_st (s_box (part_agO (ψs := [slv rT_api_Fraction o_1.Nodes, slv rT_api_Fraction o_1.Attacks]) rfl ⟨.inl slv_at, .inl slv_at, trivial⟩)) rfl (fun b2 => ?_)
  refine s_st (s_alloc zt_36) rfl (fun b3 => ?_)
  refine as1 rfl rfl ?_
  refine l_nil (n_then (ref_seq (ref_seq (ref_region ?_))))
  refine s_rd (r_cloadS Tryd.isAgg27 Tryd.sizeOf27 rfl (j := 1) rfl rfl rfl) rfl ?_
  refine s_rd (r_cloadS Tryd.isAgg31 Tryd.sizeOf31 rfl (j := 2) rfl rfl rfl) rfl ?_
  refine mv1 rfl rfl ?_
  refine mv1 rfl rfl ?_
  refine pull fun e4 h_e4 => ?_
  refine s_st (s_call (ψ := fun (_ : Unit) => iv .i64 e4) (args := [.tmp 11, .tmp 12, .tmp 13, .tmp 14]) Tryd.call30 rfl (chance_arguments_ok h_e4) ⟨arg rfl, arg rfl, arg rfl, arg rfl, trivial⟩ (fun _ _ _ _ h => h)) rfl (fun _ => ?_)
  refine as1 rfl rfl ?_
  refine l_nil ?_
  refine b_of (nrm [tbO (rI .u8) 0 tab_0, oc b1 [iv .i64 g_0.N, slv rT_api_Pair g_0.L], oc b2 [slv rT_api_Fraction o_1.Nodes, slv rT_api_Fraction o_1.Attacks], oc b3 [iv .i64 0, iv .i64 0]] rfl) ?_
  refine n_then (ref_seq (ref_region ?_))
  refine mv1 rfl rfl ?_
  refine s_rd (r_neq rfl rfl) rfl ?_
  refine l_nil (n_then ?_)
  refine ref_cond rfl (fun hb5 => ?_) (fun hb5 => ?_)
  · refine ref_seq (ref_region ?_)
    refine s_rd (r_build (ps := []) (rs := []) st_36 zs_36 trivial rfl rfl) rfl ?_
    refine mv1 rfl rfl ?_
    refine s_st0 (s_cstore (out := [iv .i64 0, iv .i64 0]) Tryd.sizeOf36 rfl (j := 3) rfl (part_agO (ψs := [iv .i64 0, iv .i64 0]) rfl ⟨.inl iv_at, .inl iv_at, trivial⟩) rfl rfl rfl) (fun _ => ?_)
    refine as1 rfl rfl ?_
    refine l_nil (n_then (ref_ret (r_then ?_)))
    exact fin2 (.inl rfl) () [0] rfl ⟨rfl, trivial⟩ rfl (rv_cell rfl (j := 3) rfl Tryd.isAgg36 Tryd.sizeOf36 rfl rfl) (rv_tmp rfl)
  refine ref_skip (n_then (ref_seq ?_))
  refine ref_draw [0, 1, 2, 4, 6, 7] rfl (by kernel_rfl) (fun hok => ?_)
  refine a_rd (i := 0) hok rfl (by kernel_rfl) rfl (r_cloadS Tryd.isAgg27 Tryd.sizeOf27 rfl (j := 1) rfl rfl rfl) rfl ?_
  refine a_rd (i := 1) hok rfl (by kernel_rfl) rfl (r_cloadS Tryd.isAgg31 Tryd.sizeOf31 rfl (j := 2) rfl rfl rfl) rfl ?_
  refine a_rd (i := 2) hok rfl (by kernel_rfl) rfl (r_move rfl) rfl ?_
  refine a_rd (i := 4) hok rfl (by kernel_rfl) rfl (r_move rfl) rfl ?_
  refine pull fun t6 h_t6 => ?_
  refine a_next hok 3 [] (by kernel_rfl) ?_ trivial
  refine a_st (i := 3) hok rfl rfl (s_call (ψ := fun (_ : Unit) => iv .u64 t6) (args := [.tmp 22]) Tryd.call33 rfl (network_Of_ok h_t6) ⟨arg rfl, trivial⟩ (fun _ _ _ _ h => h)) (by intro _ h; cases h; rfl) (fun _ => ⟨trivial, ⟨trivial, ⟨⟨⟨rfl, rfl⟩, trivial⟩, ⟨⟨⟨rfl, rfl⟩, trivial⟩, trivial⟩⟩⟩⟩) (fun _ => ?_)
  refine pull fun t7 h_t7 => ?_
  refine a_next hok 5 [] (by kernel_rfl) ?_ trivial
  refine a_st (i := 5) hok rfl rfl (s_callC [0] [true] (fun (_ : Unit) => [tbO (rI .u8) 0 tab_0]) (fun (_ : Unit) => []) (fun (_ : Unit) => tup [iv .i64 t7.1, iv .i64 t7.2]) (args := [.tmp 20, .tmp 21, .tmp 23, .tmp 24]) (caps := []) Tryd.call32 rfl (chance_joint_ok h_t7) ⟨rfl, rfl, trivial⟩ (fun _ => rfl) (fun _ => trivial) (fun _ => rfl) ⟨arg rfl, arg rfl, arg rfl, arg rfl, trivial⟩ (fun _ _ _ _ h => h)) (by intro _ h; cases h; rfl) (fun _ => ⟨trivial, ⟨trivial, ⟨trivial, ⟨trivial, trivial⟩⟩⟩⟩) (fun _ => ?_)
  refine a_rd (i := 6) hok rfl (by kernel_rfl) rfl (r_extract rfl rfl) rfl ?_
  refine a_rd (i := 7) hok rfl (by kernel_rfl) rfl (r_extract rfl rfl) rfl ?_
  refine pull fun t8 h_t8 => ?_
  refine a_next hok 8 [] (by kernel_rfl) ?_ trivial
  refine a_st (i := 8) hok rfl rfl (s_call (ψ := fun (_ : Unit) => ag [iv .i64 t8.Num, iv .i64 t8.Den]) (args := [.tmp 26, .tmp 27]) Tryd.call31 rfl (chance_reduced_ok h_t8) ⟨arg rfl, arg rfl, trivial⟩ (fun _ _ _ _ h => h)) (by intro _ h; cases h; rfl) (fun _ => ⟨trivial, ⟨trivial, ⟨trivial, ⟨trivial, ⟨⟨⟨rfl, rfl⟩, trivial⟩, ⟨⟨⟨rfl, rfl⟩, trivial⟩, trivial⟩⟩⟩⟩⟩⟩) (fun _ => ?_)
  refine a_next hok 9 [] (by kernel_rfl) ?_ trivial
  refine a_st (i := 9) hok rfl rfl (s_cstore (out := [iv .i64 t8.Num, iv .i64 t8.Den]) Tryd.sizeOf36 rfl (j := 3) rfl (part_agO (ψs := [iv .i64 t8.Num, iv .i64 t8.Den]) rfl ⟨.inl iv_at, .inl iv_at, trivial⟩) rfl rfl rfl) (by intro _ h; cases h) (fun _ => ⟨trivial, ⟨trivial, ⟨trivial, ⟨trivial, ⟨trivial, ⟨trivial, trivial⟩⟩⟩⟩⟩⟩) (fun _ => ?_)
  refine a_next hok 10 [] (by kernel_rfl) ?_ trivial
  refine a_st (i := 10) hok rfl rfl (St.ofRd (r_assign rfl)) (by intro _ h; cases h; rfl) (fun _ => ⟨trivial, ⟨trivial, ⟨trivial, ⟨trivial, ⟨trivial, ⟨trivial, trivial⟩⟩⟩⟩⟩⟩) (fun _ => ?_)
  refine a_fin hok (by kernel_rfl) ?_
  refine b_of (nrm [tbO (rI .u8) 0 tab_0, oc b1 [iv .i64 g_0.N, slv rT_api_Pair g_0.L], oc b2 [slv rT_api_Fraction o_1.Nodes, slv rT_api_Fraction o_1.Attacks], oc b3 [iv .i64 t8.Num, iv .i64 t8.Den]] rfl) ?_
  refine n_then (ref_ret ?_)
  exact fin2 (.inl rfl) () [0] rfl ⟨rfl, trivial⟩ rfl (rv_cell rfl (j := 3) rfl Tryd.isAgg36 Tryd.sizeOf36 rfl rfl) (rv_tmp rfl)

/-! deliberation/deliberationnet.In -/
noncomputable def net_In_l1 (l_0 : (List Int)) (x_1 : Int) (s6 : Int) : Option (Sum ((Sum (Bool) (Unit))) (Int)) :=
  bif decide (s6 < (l_0.length : Int)) then
    Option.bind (idxM l_0 s6) fun t9 =>
    bif t9 == x_1 then
      some (Sum.inl (Sum.inl true))
    else
      some (Sum.inr (iadd .i64 s6 1))
  else
    some (Sum.inl (Sum.inr ()))

noncomputable def net_In_m (l_0 : (List Int)) (x_1 : Int) : Option (Bool) :=
  Option.bind (loopC (net_In_l1 l_0 x_1) 0) (sumK (fun a : Bool => some a) fun q11 : Unit =>
    some false)

theorem net_In_ok {l_0 : (List Int)} {x_1 : Int} {r : Bool} (hm : net_In_m l_0 x_1 = some r) :
    FnOk prog 44 [slv (rI .i64) l_0, iv .i64 x_1] [] (fun (x : Unit) => [bv r]) (fun (x : Unit) => []) := by
  refine fn_ok (fn := Tryd.f44) (N := 18) (res := fun r x => [bv r]) (Ω1 := fun r x => []) Tryd.func44 rfl rfl hm rfl (fun E hM => ?_)
  unfold net_In_m
  refine ref_seq (ref_region ?_)
  refine as1 rfl rfl ?_
  refine l_nil (n_then (ref_seq (ref_seq (ref_region ?_))))
  refine as1 rfl rfl ?_
  refine l_nil (n_then ?_)
  refine ref_loopX (f := (net_In_l1 l_0 x_1)) (Γl := (fun (s6 : Int) (x7 : Unit) => [(0, slv (rI .i64) l_0), (1, iv .i64 x_1), (5, iv .i64 s6)])) (Ωl := (fun (s6 : Int) (x7 : Unit) => [])) (Γb := (fun (q11 : Unit) (y12 : Unit) => [])) (Ωb := (fun (q11 : Unit) (y12 : Unit) => [])) (kr := (fun a : Bool => some a)) 0 () (weak [] ⟨rfl, rfl, rfl, trivial⟩ trivial) (fun s6 x7 => ?_) (fun q11 y12 => ?_)
  · unfold net_In_l1
    refine ref_seq (ref_seq (ref_region ?_))
    refine mv1 rfl rfl ?_
    refine mv1 rfl rfl ?_
    refine s_rd (r_len Tryd.underlying22 rfl) rfl ?_
    refine s_rd (r_lss rfl rfl) rfl ?_
    refine l_nil (n_then ?_)
    refine ref_cond rfl (fun hb8 => ?_) (fun hb8 => ?_)
    · refine ref_skip (n_then (ref_seq (ref_block (ref_seq (ref_region ?_)))))
      refine mv1 rfl rfl ?_
      refine mv1 rfl rfl ?_
      refine pull fun t9 h_t9 => ?_
      refine s_rd (r_index h_t9 Tryd.underlying22 el_3 rfl rfl) rfl ?_
      refine s_rd (r_load el_3 rfl) rfl ?_
      refine mv1 rfl rfl ?_
      refine s_rd (r_eql rfl rfl) rfl ?_
      refine l_nil (n_then ?_)
      refine ref_cond rfl (fun hb10 => ?_) (fun hb10 => ?_)
      · refine ref_seq (ref_region ?_)
        refine as1 rfl rfl ?_
        refine l_nil (n_then (ref_ret (r_block (r_then ?_))))
        refine retX ?_
        refine r_block (r_then ?_)
        exact fin1 (.inl rfl) () [] rfl trivial rfl (rv_tmp rfl)
      refine ref_skip (n_block (n_then (ref_region ?_)))
      refine mv1 rfl rfl ?_
      refine s_rd (r_add rfl rfl) rfl ?_
      refine as1 rfl rfl ?_
      refine l_nil ?_
      exact goX () (weak [] ⟨rfl, rfl, rfl, trivial⟩ trivial)
    refine ref_exit (x_then ?_)
    exact brkX () (weak [] trivial trivial)
  refine n_then (ref_seq (ref_region ?_))
  refine as1 rfl rfl ?_
  refine l_nil (n_then (ref_ret ?_))
  exact fin1 (.inl rfl) () [] rfl trivial rfl (rv_tmp rfl)

/-! deliberation/deliberationnet.Without -/
noncomputable def net_Without_l1 (g_0 : T_api_Graph) (gone_1 : (List Int)) (s50 : Int × (List T_api_Pair)) : Option (Sum ((List T_api_Pair)) (Int × (List T_api_Pair))) :=
  bif decide (s50.1 < (g_0.L.length : Int)) then
    joinM (fun j57 : Bool =>
        bif j57 then
          Option.bind (idxM g_0.L s50.1) fun t61 =>
          Option.bind (appM 16 s50.2 [t61]) fun t62 =>
          letM (iadd .i64 s50.1 1) fun i64x =>
          some (Sum.inr (i64x, t62))
        else
          letM (iadd .i64 s50.1 1) fun i65 =>
          some (Sum.inr (i65, s50.2))) fun k59 =>
    Option.bind (idxM g_0.L s50.1) fun t53 =>
    Option.bind (net_In_m gone_1 t53.From) fun t54 =>
    bif !t54 then
      Option.bind (idxM g_0.L s50.1) fun t55 =>
      Option.bind (net_In_m gone_1 t55.To) fun t56 =>
      k59 (!t56)
    else
      k59 false
  else
    some (Sum.inl s50.2)

noncomputable def net_Without_m (g_0 : T_api_Graph) (gone_1 : (List Int)) : Option (T_api_Graph) :=
  Option.bind (loopC (net_Without_l1 g_0 gone_1) (0, [])) fun q66 : (List T_api_Pair) =>
  some (T_api_Graph.mk g_0.N q66)

theorem net_Without_ok {g_0 : T_api_Graph} {gone_1 : (List Int)} {r : T_api_Graph} (hm : net_Without_m g_0 gone_1 = some r) :
    FnOk prog 43 [ag [iv .i64 g_0.N, slv rT_api_Pair g_0.L], slv (rI .i64) gone_1] [] (fun (x : Unit) => [ag [iv .i64 r.N, slv rT_api_Pair r.L]]) (fun (x : Unit) => []) := by
  refine fn_ok (fn := Tryd.f43) (N := 48) (res := fun r x => [ag [iv .i64 r.N, slv rT_api_Pair r.L]]) (Ω1 := fun r x => []) Tryd.func43 rfl rfl hm rfl (fun E hM => ?_)
  unfold net_Without_m
  refine ref_seq (ref_region ?_)
  refine s_st (s_box (part_agO (ψs := [iv .i64 g_0.N, slv rT_api_Pair g_0.L]) rfl ⟨.inl iv_at, .inl slv_at, trivial⟩)) rfl (fun b1 => ?_)
  refine s_st (s_alloc zt_27) rfl (fun b2 => ?_)
  refine l_nil (n_then (ref_seq (ref_region ?_)))
  refine s_rd (r_faddr (fo := 0) Tryd.underlying27 rfl rfl Tryd.sizeOf3 rfl) rfl ?_
  refine s_rd (r_cload Tryd.isAgg3 rfl (j := 0) rfl rfl) rfl ?_
  refine s_rd (r_build (ps := [(0, .tmp 8)]) (rs := [(0, [iv .i64 g_0.N])]) st_27 zs_27 ⟨rfl, (part_at rfl iv_at), trivial⟩ rfl rfl) rfl ?_
  refine s_st (s_alloc zt_27) rfl (fun b3 => ?_)
  refine s_st0 (s_cstore (out := [iv .i64 g_0.N, pv (.slice none 0 0)]) Tryd.sizeOf27 rfl (j := 2) rfl (part_agO (ψs := [iv .i64 g_0.N, pv (.slice none 0 0)]) rfl ⟨.inl iv_at, .inl (pv_at rfl), trivial⟩) rfl rfl rfl) (fun _ => ?_)
  refine l_nil ?_
  refine b_of (nrm [oc b1 [iv .i64 g_0.N, slv rT_api_Pair g_0.L], oc b2 [iv .i64 0, pv (.slice none 0 0)], oc b3 [iv .i64 g_0.N, pv (.slice none 0 0)]] rfl) ?_
  refine n_then (ref_seq (ref_seq (ref_region ?_)))
  refine as1 rfl rfl ?_
  refine l_nil (n_then ?_)
  refine b_of (own_nil rT_api_Pair) ?_
  refine ref_loopB (f := (net_Without_l1 g_0 gone_1)) (Γl := (fun (s50 : Int × (List T_api_Pair)) (x51 : (Value × List Nat)) => [(1, slv (rI .i64) gone_1), (2, pv (ptr b1 0)), (4, pv (ptr b2 0)), (5, pv (ptr b3 0)), (6, iv .i64 s50.1)])) (Ωl := (fun (s50 : Int × (List T_api_Pair)) (x51 : (Value × List Nat)) => [oc b1 [iv .i64 g_0.N, slv rT_api_Pair g_0.L], oc b2 [iv .i64 0, pv (.slice none 0 0)], oc b3 [iv .i64 g_0.N, pv x51.1], oa rT_api_Pair x51.1 x51.2 s50.2])) (Γb := (fun (q66 : (List T_api_Pair)) (y67 : (Value × List Nat)) => [(4, pv (ptr b2 0)), (5, pv (ptr b3 0))])) (Ωb := (fun (q66 : (List T_api_Pair)) (y67 : (Value × List Nat)) => [oc b2 [iv .i64 0, pv (.slice none 0 0)], oc b3 [iv .i64 g_0.N, pv y67.1], oa rT_api_Pair y67.1 y67.2 q66])) (0, []) ((.slice none 0 0), []) (weak [0, 1, 2, 3] ⟨rfl, rfl, rfl, rfl, rfl, trivial⟩ ⟨rfl, rfl, rfl, rfl, trivial⟩) (fun s50 x51 => ?_) (fun q66 y67 => ?_)
  · unfold net_Without_l1
    refine ref_seq (ref_seq (ref_region ?_))
    refine mv1 rfl rfl ?_
    refine s_rd (r_faddr (fo := 1) Tryd.underlying27 rfl rfl Tryd.sizeOf25 rfl) rfl ?_
    refine s_rd (r_cload Tryd.isAgg25 rfl (j := 0) rfl rfl) rfl ?_
    refine s_rd (r_len Tryd.underlying25 rfl) rfl ?_
    refine s_rd (r_lss rfl rfl) rfl ?_
    refine l_nil (n_then ?_)
    refine ref_cond rfl (fun hb52 => ?_) (fun hb52 => ?_)
    · refine ref_skip (n_then (ref_seq (ref_block (ref_seq ?_))))
      refine ref_join (fun (j57 : Bool) (x58 : Unit) => [(1, slv (rI .i64) gone_1), (2, pv (ptr b1 0)), (4, pv (ptr b2 0)), (5, pv (ptr b3 0)), (6, iv .i64 s50.1), (36, bv j57)]) (fun (j57 : Bool) (x58 : Unit) => [oc b1 [iv .i64 g_0.N, slv rT_api_Pair g_0.L], oc b2 [iv .i64 0, pv (.slice none 0 0)], oc b3 [iv .i64 g_0.N, pv x51.1], oa rT_api_Pair x51.1 x51.2 s50.2]) (fun k59 hk59 => ?_) (fun j57 x58 => ?_)
      · refine ref_region ?_
        refine mv1 rfl rfl ?_
        refine s_rd (r_faddr (fo := 1) Tryd.underlying27 rfl rfl Tryd.sizeOf25 rfl) rfl ?_
        refine s_rd (r_cload Tryd.isAgg25 rfl (j := 0) rfl rfl) rfl ?_
        refine mv1 rfl rfl ?_
        refine pull fun t53 h_t53 => ?_
        refine s_rd (r_index h_t53 Tryd.underlying25 el_63 rfl rfl) rfl ?_
        refine s_rd (r_fea (fo := 0) (ρ := rT_api_Pair) (y := t53) (ρ' := (rI .i64)) (z := t53.From) Tryd.underlying63 rfl rfl Tryd.sizeOf3 rfl rfl rfl) rfl ?_
        refine s_rd (r_load el_3 rfl) rfl ?_
        refine pull fun t54 h_t54 => ?_
        refine s_st (s_call (ψ := fun (_ : Unit) => bv t54) (args := [.tmp 17, .tmp 23]) Tryd.call44 rfl (net_In_ok h_t54) ⟨arg rfl, arg rfl, trivial⟩ (fun _ _ _ _ h => h)) rfl (fun _ => ?_)
        refine s_rd (r_not rfl) rfl ?_
        refine mv1 rfl rfl ?_
        refine b_split (t := 26) rfl (fun _ => ?_) (fun _ => ?_)
        · refine s_on rfl rfl rfl ?_
          refine mv1 rfl rfl ?_
          refine s_on rfl rfl rfl ?_
          refine s_rd (r_faddr (fo := 1) Tryd.underlying27 rfl rfl Tryd.sizeOf25 rfl) rfl ?_
          refine s_on rfl rfl rfl ?_
          refine s_rd (r_cload Tryd.isAgg25 rfl (j := 0) rfl rfl) rfl ?_
          refine s_on rfl rfl rfl ?_
          refine mv1 rfl rfl ?_
          refine s_on rfl rfl rfl ?_
          refine pull fun t55 h_t55 => ?_
          refine s_rd (r_index h_t55 Tryd.underlying25 el_63 rfl rfl) rfl ?_
          refine s_on rfl rfl rfl ?_
          refine s_rd (r_fea (fo := 1) (ρ := rT_api_Pair) (y := t55) (ρ' := (rI .i64)) (z := t55.To) Tryd.underlying63 rfl rfl Tryd.sizeOf3 rfl rfl rfl) rfl ?_
          refine s_on rfl rfl rfl ?_
          refine s_rd (r_load el_3 rfl) rfl ?_
          refine s_on rfl rfl rfl ?_
          refine pull fun t56 h_t56 => ?_
          refine s_st (s_call (ψ := fun (_ : Unit) => bv t56) (args := [.tmp 27, .tmp 33]) Tryd.call44 rfl (net_In_ok h_t56) ⟨arg rfl, arg rfl, trivial⟩ (fun _ _ _ _ h => h)) rfl (fun _ => ?_)
          refine s_on rfl rfl rfl ?_
          refine s_rd (r_not rfl) rfl ?_
          refine s_rd (r_pickT rfl rfl) rfl ?_
          refine l_nil ?_
          exact b_to (hk59 (!t56) ()) (weak [0, 1, 2, 3] ⟨rfl, rfl, rfl, rfl, rfl, rfl, trivial⟩ ⟨rfl, rfl, rfl, rfl, trivial⟩)
        refine s_off rfl rfl rfl rfl rfl ?_
        refine s_off rfl rfl rfl rfl rfl ?_
        refine s_off rfl rfl rfl rfl rfl ?_
        refine s_off rfl rfl rfl rfl rfl ?_
        refine s_off rfl rfl rfl rfl rfl ?_
        refine s_off rfl rfl rfl rfl rfl ?_
        refine s_off rfl rfl rfl rfl rfl ?_
        refine s_off rfl rfl rfl rfl rfl ?_
        refine s_off rfl rfl rfl rfl rfl ?_
        refine s_rd (r_pickF rfl rfl) rfl ?_
        refine l_nil ?_
        exact b_to (hk59 false ()) (weak [0, 1, 2, 3] ⟨rfl, rfl, rfl, rfl, rfl, rfl, trivial⟩ ⟨rfl, rfl, rfl, rfl, trivial⟩)
      refine n_then ?_
      refine ref_cond rfl (fun hb60 => ?_) (fun hb60 => ?_)
      · refine ref_draw [0, 1, 2, 3, 4, 5, 6, 9] rfl (by kernel_rfl) (fun hok => ?_)
        refine a_rd (i := 0) hok rfl (by kernel_rfl) rfl (r_faddr (fo := 1) Tryd.underlying27 rfl rfl Tryd.sizeOf25 rfl) rfl ?_
        refine a_rd (i := 1) hok rfl (by kernel_rfl) rfl (r_cload Tryd.isAgg25 rfl (j := 2) rfl rfl) rfl ?_
        refine a_rd (i := 2) hok rfl (by kernel_rfl) rfl (r_faddr (fo := 1) Tryd.underlying27 rfl rfl Tryd.sizeOf25 rfl) rfl ?_
        refine a_rd (i := 3) hok rfl (by kernel_rfl) rfl (r_cload Tryd.isAgg25 rfl (j := 0) rfl rfl) rfl ?_
        refine a_rd (i := 4) hok rfl (by kernel_rfl) rfl (r_move rfl) rfl ?_
        refine pull fun t61 h_t61 => ?_
        refine a_rd (i := 5) hok rfl (by kernel_rfl) rfl (r_index h_t61 Tryd.underlying25 el_63 rfl rfl) rfl ?_
        refine a_rd (i := 6) hok rfl (by kernel_rfl) rfl (r_load el_63 rfl) rfl ?_
        refine a_next hok 7 [] (by kernel_rfl) ?_ trivial
        refine a_st (i := 7) hok rfl rfl (s_bslice (xs := [.tmp 43]) (ds := [t61]) Tryd.underlying25 el_63 rfl (Nat.le_of_ble_eq_true rfl) ⟨(part_agO (ψs := [iv .i64 t61.From, iv .i64 t61.To]) rfl ⟨.inl iv_at, .inl iv_at, trivial⟩), trivial⟩) (by intro _ h; cases h; rfl) (fun _ => ⟨trivial, ⟨trivial, ⟨trivial, ⟨⟨⟨rfl, rfl⟩, trivial⟩, ⟨trivial, ⟨⟨⟨rfl, rfl⟩, trivial⟩, ⟨trivial, trivial⟩⟩⟩⟩⟩⟩⟩) (fun _ => ?_)
        refine pull fun t62 h_t62 => ?_
        refine a_next hok 8 [] (by kernel_rfl) ?_ trivial
        refine a_st (i := 8) hok rfl rfl (s_append h_t62 Tryd.underlying25 el_63 rfl (j := 3) rfl rfl) (by intro _ h; cases h; rfl) (fun _ => ⟨trivial, ⟨trivial, ⟨trivial, ⟨⟨⟨rfl, rfl⟩, trivial⟩, ⟨trivial, ⟨trivial, ⟨trivial, trivial⟩⟩⟩⟩⟩⟩⟩) (fun o63 => ?_)
        refine a_rd (i := 9) hok rfl (by kernel_rfl) rfl (r_faddr (fo := 1) Tryd.underlying27 rfl rfl Tryd.sizeOf25 rfl) rfl ?_
        refine a_next hok 10 [] (by kernel_rfl) ?_ trivial
        refine a_st (i := 10) hok rfl rfl (s_cstore (out := [iv .i64 g_0.N, pv o63.1]) Tryd.sizeOf25 rfl (j := 2) rfl (part_own rfl (j := 3) rfl) rfl rfl rfl) (by intro _ h; cases h) (fun _ => ⟨trivial, ⟨trivial, ⟨trivial, ⟨trivial, ⟨trivial, ⟨trivial, ⟨trivial, ⟨trivial, trivial⟩⟩⟩⟩⟩⟩⟩⟩) (fun _ => ?_)
        refine a_fin hok (by kernel_rfl) ?_
        refine n_block (n_then (ref_region ?_))
        refine mv1 rfl rfl ?_
        refine s_rd (r_add rfl rfl) rfl ?_
        refine as1 rfl rfl ?_
        refine b_let (f := iv .i64) (t := 6) rfl fun i64x => ?_
        refine l_nil ?_
        exact goB o63 (weak [0, 1, 2, 3] ⟨rfl, rfl, rfl, rfl, rfl, trivial⟩ ⟨rfl, rfl, rfl, rfl, trivial⟩)
      refine ref_skip (n_block (n_then (ref_region ?_)))
      refine mv1 rfl rfl ?_
      refine s_rd (r_add rfl rfl) rfl ?_
      refine as1 rfl rfl ?_
      refine b_let (f := iv .i64) (t := 6) rfl fun i65 => ?_
      refine l_nil ?_
      exact goB x51 (weak [0, 1, 2, 3] ⟨rfl, rfl, rfl, rfl, rfl, trivial⟩ ⟨rfl, rfl, rfl, rfl, trivial⟩)
    refine ref_exit (x_then ?_)
    exact brkB x51 (weak [1, 2, 3] ⟨rfl, rfl, trivial⟩ ⟨rfl, rfl, rfl, trivial⟩)
  refine n_then (ref_seq (ref_region ?_))
  refine s_rd (r_cloadS Tryd.isAgg27 Tryd.sizeOf27 rfl (j := 1) rfl rfl rfl) rfl ?_
  refine s_st0 (s_cstore (out := [iv .i64 g_0.N, pv y67.1]) Tryd.sizeOf27 rfl (j := 0) rfl (part_agO (ψs := [iv .i64 g_0.N, pv y67.1]) rfl ⟨.inl iv_at, .inr ⟨_, _, _, _, _, 2, rfl, rfl⟩, trivial⟩) rfl rfl rfl) (fun _ => ?_)
  refine l_nil (n_then (ref_ret ?_))
  refine b_of (frzGL [(47, ag [iv .i64 g_0.N, slv rT_api_Pair q66])] [(0, b2, [iv .i64 g_0.N, slv rT_api_Pair q66]), (1, b3, [iv .i64 g_0.N, slv rT_api_Pair q66])] (j := 2) rfl ⟨⟨_, rfl, .inr ⟨_, _, rfl, rfl, ⟨.inl rfl, .inr ⟨rfl, rfl⟩, trivial⟩⟩⟩, trivial⟩ ⟨⟨_, rfl, ⟨.inl rfl, .inr ⟨rfl, rfl⟩, trivial⟩⟩, ⟨_, rfl, ⟨.inl rfl, .inr ⟨rfl, rfl⟩, trivial⟩⟩, trivial⟩) ?_
  refine b_of (nrm [oc b2 [iv .i64 g_0.N, slv rT_api_Pair q66], oc b3 [iv .i64 g_0.N, slv rT_api_Pair q66], dead] rfl) ?_
  exact fin1 (.inl rfl) () [] rfl trivial rfl (rv_cell rfl (j := 0) rfl Tryd.isAgg27 Tryd.sizeOf27 rfl rfl)

/-! deliberation/deliberationnet.Has -/
noncomputable def net_Has_l1 (g_0 : T_api_Graph) (from__1 : Int) (to__2 : Int) (s8 : Int) : Option (Sum ((Sum (Bool) (Unit))) (Int)) :=
  bif decide (s8 < (g_0.L.length : Int)) then
    Option.bind (idxM g_0.L s8) fun t11 =>
    bif t11.From == from__1 then
      Option.bind (idxM g_0.L s8) fun t12 =>
      bif t12.To == to__2 then
        some (Sum.inl (Sum.inl true))
      else
        some (Sum.inr (iadd .i64 s8 1))
    else
      some (Sum.inr (iadd .i64 s8 1))
  else
    some (Sum.inl (Sum.inr ()))

noncomputable def net_Has_m (g_0 : T_api_Graph) (from__1 : Int) (to__2 : Int) : Option (Bool) :=
  Option.bind (loopC (net_Has_l1 g_0 from__1 to__2) 0) (sumK (fun a : Bool => some a) fun q14 : Unit =>
    some false)

theorem net_Has_ok {g_0 : T_api_Graph} {from__1 : Int} {to__2 : Int} {r : Bool} (hm : net_Has_m g_0 from__1 to__2 = some r) :
    FnOk prog 67 [ag [iv .i64 g_0.N, slv rT_api_Pair g_0.L], iv .i64 from__1, iv .i64 to__2] [] (fun (x : Unit) => [bv r]) (fun (x : Unit) => []) := by
  refine fn_ok (fn := Tryd.f67) (N := 33) (res := fun r x => [bv r]) (Ω1 := fun r x => []) Tryd.func67 rfl rfl hm rfl (fun E hM => ?_)
  unfold net_Has_m
  refine ref_seq (ref_region ?_)
  refine s_st (s_box (part_agO (ψs := [iv .i64 g_0.N, slv rT_api_Pair g_0.L]) rfl ⟨.inl iv_at, .inl slv_at, trivial⟩)) rfl (fun b1 => ?_)
  refine as1 rfl rfl ?_
  refine l_nil (n_then (ref_seq (ref_seq (ref_region ?_))))
  refine as1 rfl rfl ?_
  refine l_nil (n_then ?_)
  refine ref_loopX (f := (net_Has_l1 g_0 from__1 to__2)) (Γl := (fun (s8 : Int) (x9 : Unit) => [(1, iv .i64 from__1), (2, iv .i64 to__2), (3, pv (ptr b1 0)), (7, iv .i64 s8)])) (Ωl := (fun (s8 : Int) (x9 : Unit) => [oc b1 [iv .i64 g_0.N, slv rT_api_Pair g_0.L]])) (Γb := (fun (q14 : Unit) (y15 : Unit) => [])) (Ωb := (fun (q14 : Unit) (y15 : Unit) => [])) (kr := (fun a : Bool => some a)) 0 () (weak [0] ⟨rfl, rfl, rfl, rfl, trivial⟩ ⟨rfl, trivial⟩) (fun s8 x9 => ?_) (fun q14 y15 => ?_)
  · unfold net_Has_l1
    refine ref_seq (ref_seq (ref_region ?_))
    refine mv1 rfl rfl ?_
    refine s_rd (r_faddr (fo := 1) Tryd.underlying27 rfl rfl Tryd.sizeOf25 rfl) rfl ?_
    refine s_rd (r_cload Tryd.isAgg25 rfl (j := 0) rfl rfl) rfl ?_
    refine s_rd (r_len Tryd.underlying25 rfl) rfl ?_
    refine s_rd (r_lss rfl rfl) rfl ?_
    refine l_nil (n_then ?_)
    refine ref_cond rfl (fun hb10 => ?_) (fun hb10 => ?_)
    · refine ref_skip (n_then (ref_seq (ref_block (ref_seq (ref_region ?_)))))
      refine s_rd (r_faddr (fo := 1) Tryd.underlying27 rfl rfl Tryd.sizeOf25 rfl) rfl ?_
      refine s_rd (r_cload Tryd.isAgg25 rfl (j := 0) rfl rfl) rfl ?_
      refine mv1 rfl rfl ?_
      refine pull fun t11 h_t11 => ?_
      refine s_rd (r_index h_t11 Tryd.underlying25 el_63 rfl rfl) rfl ?_
      refine s_rd (r_fea (fo := 0) (ρ := rT_api_Pair) (y := t11) (ρ' := (rI .i64)) (z := t11.From) Tryd.underlying63 rfl rfl Tryd.sizeOf3 rfl rfl rfl) rfl ?_
      refine s_rd (r_load el_3 rfl) rfl ?_
      refine mv1 rfl rfl ?_
      refine s_rd (r_eql rfl rfl) rfl ?_
      refine mv1 rfl rfl ?_
      refine b_split (t := 23) rfl (fun _ => ?_) (fun _ => ?_)
      · refine s_on rfl rfl rfl ?_
        refine s_rd (r_faddr (fo := 1) Tryd.underlying27 rfl rfl Tryd.sizeOf25 rfl) rfl ?_
        refine s_on rfl rfl rfl ?_
        refine s_rd (r_cload Tryd.isAgg25 rfl (j := 0) rfl rfl) rfl ?_
        refine s_on rfl rfl rfl ?_
        refine mv1 rfl rfl ?_
        refine s_on rfl rfl rfl ?_
        refine pull fun t12 h_t12 => ?_
        refine s_rd (r_index h_t12 Tryd.underlying25 el_63 rfl rfl) rfl ?_
        refine s_on rfl rfl rfl ?_
        refine s_rd (r_fea (fo := 1) (ρ := rT_api_Pair) (y := t12) (ρ' := (rI .i64)) (z := t12.To) Tryd.underlying63 rfl rfl Tryd.sizeOf3 rfl rfl rfl) rfl ?_
        refine s_on rfl rfl rfl ?_
        refine s_rd (r_load el_3 rfl) rfl ?_
        refine s_on rfl rfl rfl ?_
        refine mv1 rfl rfl ?_
        refine s_on rfl rfl rfl ?_
        refine s_rd (r_eql rfl rfl) rfl ?_
        refine s_rd (r_pickT rfl rfl) rfl ?_
        refine l_nil (n_then ?_)
        refine ref_cond rfl (fun hb13 => ?_) (fun hb13 => ?_)
        · refine ref_seq (ref_region ?_)
          refine as1 rfl rfl ?_
          refine l_nil (n_then (ref_ret (r_block (r_then ?_))))
          refine retX ?_
          refine r_block (r_then ?_)
          exact fin1 (.inl rfl) () [] rfl trivial rfl (rv_tmp rfl)
        refine ref_skip (n_block (n_then (ref_region ?_)))
        refine mv1 rfl rfl ?_
        refine s_rd (r_add rfl rfl) rfl ?_
        refine as1 rfl rfl ?_
        refine l_nil ?_
        exact goX () (weak [0] ⟨rfl, rfl, rfl, rfl, trivial⟩ ⟨rfl, trivial⟩)
      refine s_off rfl rfl rfl rfl rfl ?_
      refine s_off rfl rfl rfl rfl rfl ?_
      refine s_off rfl rfl rfl rfl rfl ?_
      refine s_off rfl rfl rfl rfl rfl ?_
      refine s_off rfl rfl rfl rfl rfl ?_
      refine s_off rfl rfl rfl rfl rfl ?_
      refine s_off rfl rfl rfl rfl rfl ?_
      refine s_off rfl rfl rfl rfl rfl ?_
      refine s_rd (r_pickF rfl rfl) rfl ?_
      refine l_nil (n_then ?_)
      refine ref_condF rfl rfl ?_
      refine ref_skip (n_block (n_then (ref_region ?_)))
      refine mv1 rfl rfl ?_
      refine s_rd (r_add rfl rfl) rfl ?_
      refine as1 rfl rfl ?_
      refine l_nil ?_
      exact goX () (weak [0] ⟨rfl, rfl, rfl, rfl, trivial⟩ ⟨rfl, trivial⟩)
    refine ref_exit (x_then ?_)
    exact brkX () (weak [] trivial trivial)
  refine n_then (ref_seq (ref_region ?_))
  refine as1 rfl rfl ?_
  refine l_nil (n_then (ref_ret ?_))
  exact fin1 (.inl rfl) () [] rfl trivial rfl (rv_tmp rfl)

/-! deliberation/deliberationnet.Attacked -/
noncomputable def net_Attacked_l1 (g_0 : T_api_Graph) (s_1 : (List Int)) (a__2 : Int) (s8 : Int) : Option (Sum ((Sum (Bool) (Unit))) (Int)) :=
  bif decide (s8 < (s_1.length : Int)) then
    Option.bind (idxM s_1 s8) fun t11 =>
    Option.bind (net_Has_m g_0 t11 a__2) fun t12 =>
    bif t12 then
      some (Sum.inl (Sum.inl true))
    else
      some (Sum.inr (iadd .i64 s8 1))
  else
    some (Sum.inl (Sum.inr ()))

noncomputable def net_Attacked_m (g_0 : T_api_Graph) (s_1 : (List Int)) (a__2 : Int) : Option (Bool) :=
  Option.bind (loopC (net_Attacked_l1 g_0 s_1 a__2) 0) (sumK (fun a : Bool => some a) fun q14 : Unit =>
    some false)

theorem net_Attacked_ok {g_0 : T_api_Graph} {s_1 : (List Int)} {a__2 : Int} {r : Bool} (hm : net_Attacked_m g_0 s_1 a__2 = some r) :
    FnOk prog 68 [ag [iv .i64 g_0.N, slv rT_api_Pair g_0.L], slv (rI .i64) s_1, iv .i64 a__2] [] (fun (x : Unit) => [bv r]) (fun (x : Unit) => []) := by
  refine fn_ok (fn := Tryd.f68) (N := 21) (res := fun r x => [bv r]) (Ω1 := fun r x => []) Tryd.func68 rfl rfl hm rfl (fun E hM => ?_)
  unfold net_Attacked_m
  refine ref_seq (ref_region ?_)
  refine s_st (s_box (part_agO (ψs := [iv .i64 g_0.N, slv rT_api_Pair g_0.L]) rfl ⟨.inl iv_at, .inl slv_at, trivial⟩)) rfl (fun b1 => ?_)
  refine as1 rfl rfl ?_
  refine l_nil (n_then (ref_seq (ref_seq (ref_region ?_))))
  refine as1 rfl rfl ?_
  refine l_nil (n_then ?_)
  refine ref_loopX (f := (net_Attacked_l1 g_0 s_1 a__2)) (Γl := (fun (s8 : Int) (x9 : Unit) => [(1, slv (rI .i64) s_1), (2, iv .i64 a__2), (3, pv (ptr b1 0)), (7, iv .i64 s8)])) (Ωl := (fun (s8 : Int) (x9 : Unit) => [oc b1 [iv .i64 g_0.N, slv rT_api_Pair g_0.L]])) (Γb := (fun (q14 : Unit) (y15 : Unit) => [])) (Ωb := (fun (q14 : Unit) (y15 : Unit) => [])) (kr := (fun a : Bool => some a)) 0 () (weak [0] ⟨rfl, rfl, rfl, rfl, trivial⟩ ⟨rfl, trivial⟩) (fun s8 x9 => ?_) (fun q14 y15 => ?_)
  · unfold net_Attacked_l1
    refine ref_seq (ref_seq (ref_region ?_))
    refine mv1 rfl rfl ?_
    refine mv1 rfl rfl ?_
    refine s_rd (r_len Tryd.underlying22 rfl) rfl ?_
    refine s_rd (r_lss rfl rfl) rfl ?_
    refine l_nil (n_then ?_)
    refine ref_cond rfl (fun hb10 => ?_) (fun hb10 => ?_)
    · refine ref_skip (n_then (ref_seq (ref_block (ref_seq ?_))))
      refine ref_draw [0, 1, 2, 3, 4, 5] rfl (by kernel_rfl) (fun hok => ?_)
      refine a_rd (i := 0) hok rfl (by kernel_rfl) rfl (r_cloadS Tryd.isAgg27 Tryd.sizeOf27 rfl (j := 0) rfl rfl rfl) rfl ?_
      refine a_rd (i := 1) hok rfl (by kernel_rfl) rfl (r_move rfl) rfl ?_
      refine a_rd (i := 2) hok rfl (by kernel_rfl) rfl (r_move rfl) rfl ?_
      refine pull fun t11 h_t11 => ?_
      refine a_rd (i := 3) hok rfl (by kernel_rfl) rfl (r_index h_t11 Tryd.underlying22 el_3 rfl rfl) rfl ?_
      refine a_rd (i := 4) hok rfl (by kernel_rfl) rfl (r_load el_3 rfl) rfl ?_
      refine a_rd (i := 5) hok rfl (by kernel_rfl) rfl (r_move rfl) rfl ?_
      refine pull fun t12 h_t12 => ?_
      refine a_next hok 6 [] (by kernel_rfl) ?_ trivial
      refine a_st (i := 6) hok rfl rfl (s_call (ψ := fun (_ : Unit) => bv t12) (args := [.tmp 14, .tmp 18, .tmp 19]) Tryd.call67 rfl (net_Has_ok h_t12) ⟨arg rfl, arg rfl, arg rfl, trivial⟩ (fun _ _ _ _ h => h)) (by intro _ h; cases h; rfl) (fun _ => ⟨trivial, ⟨trivial, ⟨trivial, ⟨trivial, ⟨trivial, ⟨trivial, trivial⟩⟩⟩⟩⟩⟩) (fun _ => ?_)
      refine a_fin hok (by kernel_rfl) ?_
      refine n_then ?_
      refine ref_cond rfl (fun hb13 => ?_) (fun hb13 => ?_)
      · refine ref_seq (ref_region ?_)
        refine as1 rfl rfl ?_
        refine l_nil (n_then (ref_ret (r_block (r_then ?_))))
        refine retX ?_
        refine r_block (r_then ?_)
        exact fin1 (.inl rfl) () [] rfl trivial rfl (rv_tmp rfl)
      refine ref_skip (n_block (n_then (ref_region ?_)))
      refine mv1 rfl rfl ?_
      refine s_rd (r_add rfl rfl) rfl ?_
      refine as1 rfl rfl ?_
      refine l_nil ?_
      exact goX () (weak [0] ⟨rfl, rfl, rfl, rfl, trivial⟩ ⟨rfl, trivial⟩)
    refine ref_exit (x_then ?_)
    exact brkX () (weak [] trivial trivial)
  refine n_then (ref_seq (ref_region ?_))
  refine as1 rfl rfl ?_
  refine l_nil (n_then (ref_ret ?_))
  exact fin1 (.inl rfl) () [] rfl trivial rfl (rv_tmp rfl)

/-! deliberation/deliberationnet.Grounded -/
noncomputable def net_Grounded_l1 (g_0 : T_api_Graph) (s16 : Int × (List Int)) : Option (Sum ((List Int)) (Int × (List Int))) :=
  bif decide (s16.1 < g_0.N) then
    Option.bind (idxM s16.2 s16.1) fun t19 =>
    letM (iadd .i64 s16.1 1) fun i20 =>
    some (Sum.inr (i20, s16.2.set (Int.toNat s16.1) 3))
  else
    some (Sum.inl s16.2)

noncomputable def net_Grounded_l4 (g_0 : T_api_Graph) (s292 : Int × (List Int) × (List Int)) (s341 : Int × (List Int)) (s350 : Bool × Int) : Option (Sum (Bool) (Bool × Int)) :=
  bif decide (s350.2 < g_0.N) then
    bif s350.1 then
      Option.bind (net_Has_m g_0 s350.2 s341.1) fun t353 =>
      bif !t353 then
        letM (iadd .i64 s350.2 1) fun b355 =>
        some (Sum.inr (true, b355))
      else
        Option.bind (idxM s292.2.1 s350.2) fun t354 =>
        letM (iadd .i64 s350.2 1) fun b356 =>
        some (Sum.inr (t354 == 2, b356))
    else
      letM (iadd .i64 s350.2 1) fun b357 =>
      some (Sum.inr (false, b357))
  else
    some (Sum.inl s350.1)

noncomputable def net_Grounded_l3 (g_0 : T_api_Graph) (s292 : Int × (List Int) × (List Int)) (s341 : Int × (List Int)) : Option (Sum ((List Int)) (Int × (List Int))) :=
  bif decide (s341.1 < g_0.N) then
    Option.bind (idxM s292.2.1 s341.1) fun t344 =>
    Option.bind (loopC (net_Grounded_l4 g_0 s292 s341) (t344 == 3, 0)) fun q358 : Bool =>
    bif q358 then
      Option.bind (appM 8 s341.2 [s341.1]) fun now361 =>
      letM (iadd .i64 s341.1 1) fun a_363 =>
      some (Sum.inr (a_363, now361))
    else
      letM (iadd .i64 s341.1 1) fun a_364 =>
      some (Sum.inr (a_364, s341.2))
  else
    some (Sum.inl s341.2)

noncomputable def net_Grounded_l5 (s292 : Int × (List Int) × (List Int)) (q365 : (List Int)) (s379 : Int × (List Int) × (List Int)) : Option (Sum ((List Int) × (List Int)) (Int × (List Int) × (List Int))) :=
  bif decide (s379.1 < (q365.length : Int)) then
    Option.bind (idxM q365 s379.1) fun a_382 =>
    Option.bind (idxM s379.2.1 a_382) fun t383 =>
    Option.bind (idxM s379.2.2 a_382) fun t384 =>
    some (Sum.inr (iadd .i64 s379.1 1, s379.2.1.set (Int.toNat a_382) 1, s379.2.2.set (Int.toNat a_382) s292.1))
  else
    some (Sum.inl (s379.2.1, s379.2.2))

noncomputable def net_Grounded_l6 (g_0 : T_api_Graph) (s292 : Int × (List Int) × (List Int)) (q365 : (List Int)) (s411 : Int × (List Int) × (List Int)) : Option (Sum ((List Int) × (List Int)) (Int × (List Int) × (List Int))) :=
  bif decide (s411.1 < g_0.N) then
    joinM (fun j416 : Bool =>
        bif j416 then
          Option.bind (idxM s411.2.1 s411.1) fun t420 =>
          Option.bind (idxM s411.2.2 s411.1) fun t421 =>
          letM (iadd .i64 s411.1 1) fun b422 =>
          some (Sum.inr (b422, s411.2.1.set (Int.toNat s411.1) 2, s411.2.2.set (Int.toNat s411.1) s292.1))
        else
          letM (iadd .i64 s411.1 1) fun b423 =>
          some (Sum.inr (b423, s411.2.1, s411.2.2))) fun k418 =>
    Option.bind (idxM s411.2.1 s411.1) fun t414 =>
    bif t414 == 3 then
      Option.bind (net_Attacked_m g_0 q365 s411.1) fun t415 =>
      k418 t415
    else
      k418 false
  else
    some (Sum.inl (s411.2.1, s411.2.2))

noncomputable def net_Grounded_l2 (g_0 : T_api_Graph) (s292 : Int × (List Int) × (List Int)) : Option (Sum ((List Int) × (List Int)) (Int × (List Int) × (List Int))) :=
  bif decide (s292.1 ≤ (iadd .i64 g_0.N 1)) then
    Option.bind (loopC (net_Grounded_l3 g_0 s292) (0, [])) fun q365 : (List Int) =>
    Option.bind (loopC (net_Grounded_l5 s292 q365) (0, s292.2.1, s292.2.2)) fun q385 : (List Int) × (List Int) =>
    Option.bind (loopC (net_Grounded_l6 g_0 s292 q365) (0, q385.1, q385.2)) fun q424 : (List Int) × (List Int) =>
    letM (iadd .i64 s292.1 1) fun round426 =>
    some (Sum.inr (round426, q424.1, q424.2))
  else
    some (Sum.inl (s292.2.1, s292.2.2))

noncomputable def net_Grounded_m (g_0 : T_api_Graph) : Option (List Int × List Int) :=
  Option.bind (mkM 8 0 g_0.N) fun labels3 =>
  Option.bind (mkM 8 0 g_0.N) fun ranks5 =>
  Option.bind (loopC (net_Grounded_l1 g_0) (0, labels3)) fun q21 : (List Int) =>
  Option.bind (loopC (net_Grounded_l2 g_0) (1, q21, ranks5)) fun q427 : (List Int) × (List Int) =>
  some (q427.1, q427.2)

theorem net_Grounded_ok {g_0 : T_api_Graph} {r : List Int × List Int} (hm : net_Grounded_m g_0 = some r) :
    FnOk prog 45 [ag [iv .i64 g_0.N, slv rT_api_Pair g_0.L]] [] (fun (x : (Value × List Nat) × (Value × List Nat)) => [pv x.1.1, pv x.2.1]) (fun (x : (Value × List Nat) × (Value × List Nat)) => [oa (rI .i64) x.1.1 x.1.2 r.1, oa (rI .i64) x.2.1 x.2.2 r.2]) := by
  refine fn_ok (X := (Value × List Nat) × (Value × List Nat)) (fn := Tryd.f45) (N := 114) (res := fun r x => [pv x.1.1, pv x.2.1]) (Ω1 := fun r x => [oa (rI .i64) x.1.1 x.1.2 r.1, oa (rI .i64) x.2.1 x.2.2 r.2]) Tryd.func45 rfl rfl hm rfl (fun E hM => ?_)
  unfold net_Grounded_m
  refine ref_seq (ref_region ?_)
  refine s_st (s_box (part_agO (ψs := [iv .i64 g_0.N, slv rT_api_Pair g_0.L]) rfl ⟨.inl iv_at, .inl slv_at, trivial⟩)) rfl (fun b1 => ?_)
  refine as1 rfl rfl ?_
  refine as1 rfl rfl ?_
  refine l_nil (n_then (ref_seq ?_))
  refine pull fun labels3 h_labels3 => ?_
  refine pull fun ranks5 h_ranks5 => ?_
  refine ref_drawI 2 [⟨[], [], [], [], [], fun us u => pv (ptr b1 0), fun us u => []⟩, ⟨[0], [], [], [0], [], fun us u => iv .i64 g_0.N, fun us u => []⟩, ⟨[0, 1], [], [1], [1], [], fun us u => pv u.V.1, fun us u => [oa (rI .i64) u.V.1 u.V.2 labels3]⟩, ⟨[], [], [], [], [], fun us u => pv (ptr b1 0), fun us u => []⟩, ⟨[3], [], [], [0], [], fun us u => iv .i64 g_0.N, fun us u => []⟩, ⟨[3, 4], [], [2], [2], [], fun us u => pv u.V.1, fun us u => [oa (rI .i64) u.V.1 u.V.2 ranks5]⟩, ⟨[0, 1, 2], [2], [], [], [], fun us u => pv (us.getD 0 .none).V.1, fun us u => []⟩, ⟨[0, 1, 2, 3, 4, 5, 6], [5], [], [], [], fun us u => pv (us.getD 0 .none).V.1, fun us u => []⟩] (fun χ2 => [(1, pv (ptr b1 0)), (4, pv (χ2 2).V.1), (5, pv (χ2 5).V.1)]) (fun χ2 => [oc b1 [iv .i64 g_0.N, slv rT_api_Pair g_0.L], oa (rI .i64) (χ2 2).V.1 (χ2 2).V.2 labels3, oa (rI .i64) (χ2 5).V.1 (χ2 5).V.2 ranks5]) rfl (by kernel_rfl) ⟨fun χ2 Ω _ => St.toR (r_faddr (fo := 0) Tryd.underlying27 rfl rfl Tryd.sizeOf3 rfl) (fun _ => rfl) (fun _ => rfl), (by intro _ h; cases h; rfl), ⟨fun χ2 Ω ⟨h0, _⟩ => St.toR (r_cload Tryd.isAgg3 rfl (j := 0) h0 rfl) (fun _ => rfl) (fun _ => rfl), (by intro _ h; cases h; rfl), ⟨fun χ2 Ω ⟨h1, _⟩ => St.to XU.V XU.hV (St.placeL (os := fun _ => [_]) [1] (s_make h_labels3 Tryd.underlying22 el_3 ze_3 rfl rfl) (fun _ => rfl) (fun _ => ⟨h1, rfl, trivial⟩)) (fun _ => rfl) (fun _ => rfl), (by intro _ h; cases h; rfl), ⟨fun χ2 Ω _ => St.toR (r_faddr (fo := 0) Tryd.underlying27 rfl rfl Tryd.sizeOf3 rfl) (fun _ => rfl) (fun _ => rfl), (by intro _ h; cases h; rfl), ⟨fun χ2 Ω ⟨h0, _⟩ => St.toR (r_cload Tryd.isAgg3 rfl (j := 0) h0 rfl) (fun _ => rfl) (fun _ => rfl), (by intro _ h; cases h; rfl), ⟨fun χ2 Ω ⟨h2, _⟩ => St.to XU.V XU.hV (St.placeL (os := fun _ => [_]) [2] (s_make h_ranks5 Tryd.underlying22 el_3 ze_3 rfl rfl) (fun _ => rfl) (fun _ => ⟨h2, rfl, trivial⟩)) (fun _ => rfl) (fun _ => rfl), (by intro _ h; cases h; rfl), ⟨fun χ2 Ω _ => St.toR (r_assign rfl) (fun _ => rfl) (fun _ => rfl), (by intro _ h; cases h; rfl), ⟨fun χ2 Ω _ => St.toR (r_assign rfl) (fun _ => rfl) (fun _ => rfl), (by intro _ h; cases h; rfl), trivial⟩⟩⟩⟩⟩⟩⟩⟩ (fun _ => ⟨rfl, rfl, rfl, trivial⟩) (fun _ => rfl) (fun χ2 => ?_)
  refine n_then (ref_seq (ref_seq (ref_region ?_)))
  refine as1 rfl rfl ?_
  refine l_nil (n_then ?_)
  refine ref_loopB (f := (net_Grounded_l1 g_0)) (Γl := (fun (s16 : Int × (List Int)) (x17 : Unit) => [(1, pv (ptr b1 0)), (4, pv (χ2 2).V.1), (5, pv (χ2 5).V.1), (6, iv .i64 s16.1)])) (Ωl := (fun (s16 : Int × (List Int)) (x17 : Unit) => [oc b1 [iv .i64 g_0.N, slv rT_api_Pair g_0.L], oa (rI .i64) (χ2 2).V.1 (χ2 2).V.2 s16.2, oa (rI .i64) (χ2 5).V.1 (χ2 5).V.2 ranks5])) (Γb := (fun (q21 : (List Int)) (y22 : Unit) => [(1, pv (ptr b1 0)), (4, pv (χ2 2).V.1), (5, pv (χ2 5).V.1)])) (Ωb := (fun (q21 : (List Int)) (y22 : Unit) => [oc b1 [iv .i64 g_0.N, slv rT_api_Pair g_0.L], oa (rI .i64) (χ2 2).V.1 (χ2 2).V.2 q21, oa (rI .i64) (χ2 5).V.1 (χ2 5).V.2 ranks5])) (0, labels3) () (weak [0, 1, 2] ⟨rfl, rfl, rfl, rfl, trivial⟩ ⟨rfl, rfl, rfl, trivial⟩) (fun s16 x17 => ?_) (fun q21 y22 => ?_)
  · unfold net_Grounded_l1
    refine ref_seq (ref_seq (ref_region ?_))
    refine mv1 rfl rfl ?_
    refine s_rd (r_faddr (fo := 0) Tryd.underlying27 rfl rfl Tryd.sizeOf3 rfl) rfl ?_
    refine s_rd (r_cload Tryd.isAgg3 rfl (j := 0) rfl rfl) rfl ?_
    refine s_rd (r_lss rfl rfl) rfl ?_
    refine l_nil (n_then ?_)
    refine ref_cond rfl (fun hb18 => ?_) (fun hb18 => ?_)
    · refine ref_skip (n_then (ref_seq (ref_block (ref_region ?_))))
      refine mv1 rfl rfl ?_
      refine mv1 rfl rfl ?_
      refine pull fun t19 h_t19 => ?_
      refine s_rd (r_oindex h_t19 Tryd.underlying22 el_3 rfl (j := 1) rfl rfl) rfl ?_
      refine s_st0 (s_ostore (u := 3) h_t19 el_3 rfl (j := 1) rfl (part_at rfl iv_at)) (fun _ => ?_)
      refine l_nil (n_block (n_then (ref_region ?_)))
      refine mv1 rfl rfl ?_
      refine s_rd (r_add rfl rfl) rfl ?_
      refine as1 rfl rfl ?_
      refine b_let (f := iv .i64) (t := 6) rfl fun i20 => ?_
      refine l_nil ?_
      exact goB () (weak [0, 1, 2] ⟨rfl, rfl, rfl, rfl, trivial⟩ ⟨rfl, rfl, rfl, trivial⟩)
    refine ref_exit (x_then ?_)
    exact brkB () (weak [0, 1, 2] ⟨rfl, rfl, rfl, trivial⟩ ⟨rfl, rfl, rfl, trivial⟩)
  refine n_then (ref_seq (ref_seq (ref_region ?_)))
  refine as1 rfl rfl ?_
  refine l_nil (n_then ?_)
  refine ref_loopB (f := (net_Grounded_l2 g_0)) (Γl := (fun (s292 : Int × (List Int) × (List Int)) (x293 : Unit) => [(1, pv (ptr b1 0)), (4, pv (χ2 2).V.1), (5, pv (χ2 5).V.1), (7, iv .i64 s292.1)])) (Ωl := (fun (s292 : Int × (List Int) × (List Int)) (x293 : Unit) => [oc b1 [iv .i64 g_0.N, slv rT_api_Pair g_0.L], oa (rI .i64) (χ2 2).V.1 (χ2 2).V.2 s292.2.1, oa (rI .i64) (χ2 5).V.1 (χ2 5).V.2 s292.2.2])) (Γb := (fun (q427 : (List Int) × (List Int)) (y428 : Unit) => [(4, pv (χ2 2).V.1), (5, pv (χ2 5).V.1)])) (Ωb := (fun (q427 : (List Int) × (List Int)) (y428 : Unit) => [oa (rI .i64) (χ2 2).V.1 (χ2 2).V.2 q427.1, oa (rI .i64) (χ2 5).V.1 (χ2 5).V.2 q427.2])) (1, q21, ranks5) () (weak [0, 1, 2] ⟨rfl, rfl, rfl, rfl, trivial⟩ ⟨rfl, rfl, rfl, trivial⟩) (fun s292 x293 => ?_) (fun q427 y428 => ?_)
  · unfold net_Grounded_l2
    refine ref_seq (ref_seq (ref_region ?_))
    refine mv1 rfl rfl ?_
    refine s_rd (r_faddr (fo := 0) Tryd.underlying27 rfl rfl Tryd.sizeOf3 rfl) rfl ?_
    refine s_rd (r_cload Tryd.isAgg3 rfl (j := 0) rfl rfl) rfl ?_
    refine s_rd (r_add rfl rfl) rfl ?_
    refine s_rd (r_leq rfl rfl) rfl ?_
    refine l_nil (n_then ?_)
    refine ref_cond rfl (fun hb294 => ?_) (fun hb294 => ?_)
    · refine ref_skip (n_then (ref_seq (ref_block (ref_seq (ref_region ?_)))))
      refine as1 rfl rfl ?_
      refine l_nil (n_then (ref_seq (ref_seq (ref_region ?_))))
      refine as1 rfl rfl ?_
      refine l_nil (n_then ?_)
      refine b_of (own_nil (rI .i64)) ?_
      refine ref_loopB (f := (net_Grounded_l3 g_0 s292)) (Γl := (fun (s341 : Int × (List Int)) (x342 : (Value × List Nat)) => [(1, pv (ptr b1 0)), (4, pv (χ2 2).V.1), (5, pv (χ2 5).V.1), (7, iv .i64 s292.1), (8, pv x342.1), (9, iv .i64 s341.1)])) (Ωl := (fun (s341 : Int × (List Int)) (x342 : (Value × List Nat)) => [oc b1 [iv .i64 g_0.N, slv rT_api_Pair g_0.L], oa (rI .i64) (χ2 2).V.1 (χ2 2).V.2 s292.2.1, oa (rI .i64) (χ2 5).V.1 (χ2 5).V.2 s292.2.2, oa (rI .i64) x342.1 x342.2 s341.2])) (Γb := (fun (q365 : (List Int)) (y366 : (Value × List Nat)) => [(1, pv (ptr b1 0)), (4, pv (χ2 2).V.1), (5, pv (χ2 5).V.1), (7, iv .i64 s292.1), (8, pv y366.1)])) (Ωb := (fun (q365 : (List Int)) (y366 : (Value × List Nat)) => [oc b1 [iv .i64 g_0.N, slv rT_api_Pair g_0.L], oa (rI .i64) (χ2 2).V.1 (χ2 2).V.2 s292.2.1, oa (rI .i64) (χ2 5).V.1 (χ2 5).V.2 s292.2.2, oa (rI .i64) y366.1 y366.2 q365])) (0, []) ((.slice none 0 0), []) (weak [0, 1, 2, 3] ⟨rfl, rfl, rfl, rfl, rfl, rfl, trivial⟩ ⟨rfl, rfl, rfl, rfl, trivial⟩) (fun s341 x342 => ?_) (fun q365 y366 => ?_)
      · unfold net_Grounded_l3
        refine ref_seq (ref_seq (ref_region ?_))
        refine mv1 rfl rfl ?_
        refine s_rd (r_faddr (fo := 0) Tryd.underlying27 rfl rfl Tryd.sizeOf3 rfl) rfl ?_
        refine s_rd (r_cload Tryd.isAgg3 rfl (j := 0) rfl rfl) rfl ?_
        refine s_rd (r_lss rfl rfl) rfl ?_
        refine l_nil (n_then ?_)
        refine ref_cond rfl (fun hb343 => ?_) (fun hb343 => ?_)
        · refine ref_skip (n_then (ref_seq (ref_block (ref_seq (ref_region ?_)))))
          refine mv1 rfl rfl ?_
          refine mv1 rfl rfl ?_
          refine pull fun t344 h_t344 => ?_
          refine s_rd (r_oindex h_t344 Tryd.underlying22 el_3 rfl (j := 1) rfl rfl) rfl ?_
          refine s_rd (r_oload h_t344 el_3 rfl (j := 1) rfl) rfl ?_
          refine s_rd (r_eql rfl rfl) rfl ?_
          refine as1 rfl rfl ?_
          refine l_nil (n_then (ref_seq (ref_seq (ref_region ?_))))
          refine as1 rfl rfl ?_
          refine l_nil (n_then ?_)
          refine ref_loopB (f := (net_Grounded_l4 g_0 s292 s341)) (Γl := (fun (s350 : Bool × Int) (x351 : Unit) => [(1, pv (ptr b1 0)), (4, pv (χ2 2).V.1), (5, pv (χ2 5).V.1), (7, iv .i64 s292.1), (8, pv x342.1), (9, iv .i64 s341.1), (10, bv s350.1), (11, iv .i64 s350.2)])) (Ωl := (fun (s350 : Bool × Int) (x351 : Unit) => [oc b1 [iv .i64 g_0.N, slv rT_api_Pair g_0.L], oa (rI .i64) (χ2 2).V.1 (χ2 2).V.2 s292.2.1, oa (rI .i64) (χ2 5).V.1 (χ2 5).V.2 s292.2.2, oa (rI .i64) x342.1 x342.2 s341.2])) (Γb := (fun (q358 : Bool) (y359 : Unit) => [(1, pv (ptr b1 0)), (4, pv (χ2 2).V.1), (5, pv (χ2 5).V.1), (7, iv .i64 s292.1), (8, pv x342.1), (9, iv .i64 s341.1), (10, bv q358)])) (Ωb := (fun (q358 : Bool) (y359 : Unit) => [oc b1 [iv .i64 g_0.N, slv rT_api_Pair g_0.L], oa (rI .i64) (χ2 2).V.1 (χ2 2).V.2 s292.2.1, oa (rI .i64) (χ2 5).V.1 (χ2 5).V.2 s292.2.2, oa (rI .i64) x342.1 x342.2 s341.2])) (t344 == 3, 0) () (weak [0, 1, 2, 3] ⟨rfl, rfl, rfl, rfl, rfl, rfl, rfl, rfl, trivial⟩ ⟨rfl, rfl, rfl, rfl, trivial⟩) (fun s350 x351 => ?_) (fun q358 y359 => ?_)
          · unfold net_Grounded_l4
            refine ref_seq (ref_seq (ref_region ?_))
            refine mv1 rfl rfl ?_
            refine s_rd (r_faddr (fo := 0) Tryd.underlying27 rfl rfl Tryd.sizeOf3 rfl) rfl ?_
            refine s_rd (r_cload Tryd.isAgg3 rfl (j := 0) rfl rfl) rfl ?_
            refine s_rd (r_lss rfl rfl) rfl ?_
            refine l_nil (n_then ?_)
            refine ref_cond rfl (fun hb352 => ?_) (fun hb352 => ?_)
            · refine ref_skip (n_then (ref_seq (ref_block (ref_region ?_))))
              refine mv1 rfl rfl ?_
              refine mv1 rfl rfl ?_
              refine b_split (t := 55) rfl (fun _ => ?_) (fun _ => ?_)
              · refine s_on rfl rfl rfl ?_
                refine s_rd (r_cloadS Tryd.isAgg27 Tryd.sizeOf27 rfl (j := 0) rfl rfl rfl) rfl ?_
                refine s_on rfl rfl rfl ?_
                refine mv1 rfl rfl ?_
                refine s_on rfl rfl rfl ?_
                refine mv1 rfl rfl ?_
                refine s_on rfl rfl rfl ?_
                refine pull fun t353 h_t353 => ?_
                refine s_st (s_call (ψ := fun (_ : Unit) => bv t353) (args := [.tmp 56, .tmp 57, .tmp 58]) Tryd.call67 rfl (net_Has_ok h_t353) ⟨arg rfl, arg rfl, arg rfl, trivial⟩ (fun _ _ _ _ h => h)) rfl (fun _ => ?_)
                refine s_on rfl rfl rfl ?_
                refine s_rd (r_not rfl) rfl ?_
                refine s_on rfl rfl rfl ?_
                refine mv1 rfl rfl ?_
                refine b_split (t := 61) rfl (fun _ => ?_) (fun _ => ?_)
                · refine s_off rfl rfl rfl rfl rfl ?_
                  refine s_off rfl rfl rfl rfl rfl ?_
                  refine s_off rfl rfl rfl rfl rfl ?_
                  refine s_off rfl rfl rfl rfl rfl ?_
                  refine s_off rfl rfl rfl rfl rfl ?_
                  refine s_on rfl rfl rfl ?_
                  refine s_rd (r_pickT rfl rfl) rfl ?_
                  refine s_rd (r_pickT rfl rfl) rfl ?_
                  refine as1 rfl rfl ?_
                  refine l_nil (n_block (n_then (ref_region ?_)))
                  refine mv1 rfl rfl ?_
                  refine s_rd (r_add rfl rfl) rfl ?_
                  refine as1 rfl rfl ?_
                  refine b_let (f := iv .i64) (t := 11) rfl fun b355 => ?_
                  refine l_nil ?_
                  exact goB () (weak [0, 1, 2, 3] ⟨rfl, rfl, rfl, rfl, rfl, rfl, rfl, rfl, trivial⟩ ⟨rfl, rfl, rfl, rfl, trivial⟩)
                refine s_on rfl rfl rfl ?_
                refine mv1 rfl rfl ?_
                refine s_on rfl rfl rfl ?_
                refine mv1 rfl rfl ?_
                refine s_on rfl rfl rfl ?_
                refine pull fun t354 h_t354 => ?_
                refine s_rd (r_oindex h_t354 Tryd.underlying22 el_3 rfl (j := 1) rfl rfl) rfl ?_
                refine s_on rfl rfl rfl ?_
                refine s_rd (r_oload h_t354 el_3 rfl (j := 1) rfl) rfl ?_
                refine s_on rfl rfl rfl ?_
                refine s_rd (r_eql rfl rfl) rfl ?_
                refine s_on rfl rfl rfl ?_
                refine s_rd (r_pickF rfl rfl) rfl ?_
                refine s_rd (r_pickT rfl rfl) rfl ?_
                refine as1 rfl rfl ?_
                refine l_nil (n_block (n_then (ref_region ?_)))
                refine mv1 rfl rfl ?_
                refine s_rd (r_add rfl rfl) rfl ?_
                refine as1 rfl rfl ?_
                refine b_let (f := iv .i64) (t := 11) rfl fun b356 => ?_
                refine l_nil ?_
                exact goB () (weak [0, 1, 2, 3] ⟨rfl, rfl, rfl, rfl, rfl, rfl, rfl, rfl, trivial⟩ ⟨rfl, rfl, rfl, rfl, trivial⟩)
              refine s_off rfl rfl rfl rfl rfl ?_
              refine s_off rfl rfl rfl rfl rfl ?_
              refine s_off rfl rfl rfl rfl rfl ?_
              refine s_off rfl rfl rfl rfl rfl ?_
              refine s_off rfl rfl rfl rfl rfl ?_
              refine s_off rfl rfl rfl rfl rfl ?_
              refine s_offU rfl rfl rfl ?_
              refine s_offU rfl rfl rfl ?_
              refine s_offU rfl rfl rfl ?_
              refine s_offU rfl rfl rfl ?_
              refine s_offU rfl rfl rfl ?_
              refine s_off rfl rfl rfl rfl rfl ?_
              refine s_rd (r_pickF rfl rfl) rfl ?_
              refine as1 rfl rfl ?_
              refine l_nil (n_block (n_then (ref_region ?_)))
              refine mv1 rfl rfl ?_
              refine s_rd (r_add rfl rfl) rfl ?_
              refine as1 rfl rfl ?_
              refine b_let (f := iv .i64) (t := 11) rfl fun b357 => ?_
              refine l_nil ?_
              exact goB () (weak [0, 1, 2, 3] ⟨rfl, rfl, rfl, rfl, rfl, rfl, rfl, rfl, trivial⟩ ⟨rfl, rfl, rfl, rfl, trivial⟩)
            refine ref_exit (x_then ?_)
            exact brkB () (weak [0, 1, 2, 3] ⟨rfl, rfl, rfl, rfl, rfl, rfl, rfl, trivial⟩ ⟨rfl, rfl, rfl, rfl, trivial⟩)
          refine n_then (ref_seq (ref_region ?_))
          refine mv1 rfl rfl ?_
          refine l_nil (n_then ?_)
          refine ref_cond rfl (fun hb360 => ?_) (fun hb360 => ?_)
          · refine ref_region ?_
            refine mv1 rfl rfl ?_
            refine mv1 rfl rfl ?_
            refine s_st (s_bslice (xs := [.tmp 71]) (ds := [s341.1]) Tryd.underlying22 el_3 rfl (Nat.le_of_ble_eq_true rfl) ⟨(part_at rfl iv_at), trivial⟩) rfl (fun _ => ?_)
            refine pull fun now361 h_now361 => ?_
            refine s_st (s_append h_now361 Tryd.underlying22 el_3 rfl (j := 3) rfl rfl) rfl (fun o362 => ?_)
            refine as1 rfl rfl ?_
            refine l_nil (n_block (n_then (ref_region ?_)))
            refine mv1 rfl rfl ?_
            refine s_rd (r_add rfl rfl) rfl ?_
            refine as1 rfl rfl ?_
            refine b_let (f := iv .i64) (t := 9) rfl fun a_363 => ?_
            refine l_nil ?_
            exact goB o362 (weak [0, 1, 2, 3] ⟨rfl, rfl, rfl, rfl, rfl, rfl, trivial⟩ ⟨rfl, rfl, rfl, rfl, trivial⟩)
          refine ref_skip (n_block (n_then (ref_region ?_)))
          refine mv1 rfl rfl ?_
          refine s_rd (r_add rfl rfl) rfl ?_
          refine as1 rfl rfl ?_
          refine b_let (f := iv .i64) (t := 9) rfl fun a_364 => ?_
          refine l_nil ?_
          exact goB x342 (weak [0, 1, 2, 3] ⟨rfl, rfl, rfl, rfl, rfl, rfl, trivial⟩ ⟨rfl, rfl, rfl, rfl, trivial⟩)
        refine ref_exit (x_then ?_)
        exact brkB x342 (weak [0, 1, 2, 3] ⟨rfl, rfl, rfl, rfl, rfl, trivial⟩ ⟨rfl, rfl, rfl, rfl, trivial⟩)
      refine n_then (ref_seq (ref_seq (ref_region ?_)))
      refine mv1 rfl rfl ?_
      refine s_rd (r_olen Tryd.underlying22 rfl (j := 3) rfl) rfl ?_
      refine mv1 rfl rfl ?_
      refine l_nil (n_then ?_)
      refine ref_loopB (f := (net_Grounded_l5 s292 q365)) (Γl := (fun (s379 : Int × (List Int) × (List Int)) (x380 : Unit) => [(1, pv (ptr b1 0)), (4, pv (χ2 2).V.1), (5, pv (χ2 5).V.1), (7, iv .i64 s292.1), (8, pv y366.1), (74, pv y366.1), (75, iv .i64 (q365.length : Int)), (76, iv .i64 s379.1)])) (Ωl := (fun (s379 : Int × (List Int) × (List Int)) (x380 : Unit) => [oc b1 [iv .i64 g_0.N, slv rT_api_Pair g_0.L], oa (rI .i64) (χ2 2).V.1 (χ2 2).V.2 s379.2.1, oa (rI .i64) (χ2 5).V.1 (χ2 5).V.2 s379.2.2, oa (rI .i64) y366.1 y366.2 q365])) (Γb := (fun (q385 : (List Int) × (List Int)) (y386 : Unit) => [(1, pv (ptr b1 0)), (4, pv (χ2 2).V.1), (5, pv (χ2 5).V.1), (7, iv .i64 s292.1), (8, pv y366.1)])) (Ωb := (fun (q385 : (List Int) × (List Int)) (y386 : Unit) => [oc b1 [iv .i64 g_0.N, slv rT_api_Pair g_0.L], oa (rI .i64) (χ2 2).V.1 (χ2 2).V.2 q385.1, oa (rI .i64) (χ2 5).V.1 (χ2 5).V.2 q385.2, oa (rI .i64) y366.1 y366.2 q365])) (0, s292.2.1, s292.2.2) () (weak [0, 1, 2, 3] ⟨rfl, rfl, rfl, rfl, rfl, rfl, rfl, rfl, trivial⟩ ⟨rfl, rfl, rfl, rfl, trivial⟩) (fun s379 x380 => ?_) (fun q385 y386 => ?_)
      · unfold net_Grounded_l5
        refine ref_seq (ref_region ?_)
        refine s_rd (r_lss rfl rfl) rfl ?_
        refine l_nil (n_then (ref_seq ?_))
        refine ref_cond rfl (fun hb381 => ?_) (fun hb381 => ?_)
        · refine ref_skip (n_then (ref_seq (ref_block (ref_seq (ref_region ?_)))))
          refine pull fun a_382 h_a_382 => ?_
          refine s_rd (r_oindex h_a_382 Tryd.underlying22 el_3 rfl (j := 3) rfl rfl) rfl ?_
          refine s_rd (r_oload h_a_382 el_3 rfl (j := 3) rfl) rfl ?_
          refine as1 rfl rfl ?_
          refine l_nil (n_then (ref_region ?_))
          refine mv1 rfl rfl ?_
          refine mv1 rfl rfl ?_
          refine mv1 rfl rfl ?_
          refine mv1 rfl rfl ?_
          refine mv1 rfl rfl ?_
          refine pull fun t383 h_t383 => ?_
          refine s_rd (r_oindex h_t383 Tryd.underlying22 el_3 rfl (j := 1) rfl rfl) rfl ?_
          refine s_st0 (s_ostore (u := 1) h_t383 el_3 rfl (j := 1) rfl (part_at rfl iv_at)) (fun _ => ?_)
          refine pull fun t384 h_t384 => ?_
          refine s_rd (r_oindex h_t384 Tryd.underlying22 el_3 rfl (j := 2) rfl rfl) rfl ?_
          refine s_st0 (s_ostore (u := s292.1) h_t384 el_3 rfl (j := 2) rfl (part_at rfl iv_at)) (fun _ => ?_)
          refine l_nil (n_block (n_then (ref_region ?_)))
          refine s_rd (r_add rfl rfl) rfl ?_
          refine mv1 rfl rfl ?_
          refine l_nil ?_
          exact goB () (weak [0, 1, 2, 3] ⟨rfl, rfl, rfl, rfl, rfl, rfl, rfl, rfl, trivial⟩ ⟨rfl, rfl, rfl, rfl, trivial⟩)
        refine ref_exit (x_then ?_)
        exact brkB () (weak [0, 1, 2, 3] ⟨rfl, rfl, rfl, rfl, rfl, trivial⟩ ⟨rfl, rfl, rfl, rfl, trivial⟩)
      refine n_then (ref_seq (ref_region ?_))
      refine as1 rfl rfl ?_
      refine l_nil (n_then ?_)
      refine ref_loopB (f := (net_Grounded_l6 g_0 s292 q365)) (Γl := (fun (s411 : Int × (List Int) × (List Int)) (x412 : Unit) => [(1, pv (ptr b1 0)), (4, pv (χ2 2).V.1), (5, pv (χ2 5).V.1), (7, iv .i64 s292.1), (8, pv y366.1), (14, iv .i64 s411.1)])) (Ωl := (fun (s411 : Int × (List Int) × (List Int)) (x412 : Unit) => [oc b1 [iv .i64 g_0.N, slv rT_api_Pair g_0.L], oa (rI .i64) (χ2 2).V.1 (χ2 2).V.2 s411.2.1, oa (rI .i64) (χ2 5).V.1 (χ2 5).V.2 s411.2.2, oa (rI .i64) y366.1 y366.2 q365])) (Γb := (fun (q424 : (List Int) × (List Int)) (y425 : Unit) => [(1, pv (ptr b1 0)), (4, pv (χ2 2).V.1), (5, pv (χ2 5).V.1), (7, iv .i64 s292.1)])) (Ωb := (fun (q424 : (List Int) × (List Int)) (y425 : Unit) => [oc b1 [iv .i64 g_0.N, slv rT_api_Pair g_0.L], oa (rI .i64) (χ2 2).V.1 (χ2 2).V.2 q424.1, oa (rI .i64) (χ2 5).V.1 (χ2 5).V.2 q424.2])) (0, q385.1, q385.2) () (weak [0, 1, 2, 3] ⟨rfl, rfl, rfl, rfl, rfl, rfl, trivial⟩ ⟨rfl, rfl, rfl, rfl, trivial⟩) (fun s411 x412 => ?_) (fun q424 y425 => ?_)
      · unfold net_Grounded_l6
        refine ref_seq (ref_seq (ref_region ?_))
        refine mv1 rfl rfl ?_
        refine s_rd (r_faddr (fo := 0) Tryd.underlying27 rfl rfl Tryd.sizeOf3 rfl) rfl ?_
        refine s_rd (r_cload Tryd.isAgg3 rfl (j := 0) rfl rfl) rfl ?_
        refine s_rd (r_lss rfl rfl) rfl ?_
        refine l_nil (n_then ?_)
        refine ref_cond rfl (fun hb413 => ?_) (fun hb413 => ?_)
        · refine ref_skip (n_then (ref_seq (ref_block (ref_seq ?_))))
          refine ref_join (fun (j416 : Bool) (x417 : Unit) => [(1, pv (ptr b1 0)), (4, pv (χ2 2).V.1), (5, pv (χ2 5).V.1), (7, iv .i64 s292.1), (8, pv y366.1), (14, iv .i64 s411.1), (104, bv j416)]) (fun (j416 : Bool) (x417 : Unit) => [oc b1 [iv .i64 g_0.N, slv rT_api_Pair g_0.L], oa (rI .i64) (χ2 2).V.1 (χ2 2).V.2 s411.2.1, oa (rI .i64) (χ2 5).V.1 (χ2 5).V.2 s411.2.2, oa (rI .i64) y366.1 y366.2 q365]) (fun k418 hk418 => ?_) (fun j416 x417 => ?_)
          · refine ref_region ?_
            refine mv1 rfl rfl ?_
            refine mv1 rfl rfl ?_
            refine pull fun t414 h_t414 => ?_
            refine s_rd (r_oindex h_t414 Tryd.underlying22 el_3 rfl (j := 1) rfl rfl) rfl ?_
            refine s_rd (r_oload h_t414 el_3 rfl (j := 1) rfl) rfl ?_
            refine s_rd (r_eql rfl rfl) rfl ?_
            refine mv1 rfl rfl ?_
            refine b_split (t := 99) rfl (fun _ => ?_) (fun _ => ?_)
            · refine s_on rfl rfl rfl ?_
              refine s_rd (r_cloadS Tryd.isAgg27 Tryd.sizeOf27 rfl (j := 0) rfl rfl rfl) rfl ?_
              refine s_on rfl rfl rfl ?_
              refine mv1 rfl rfl ?_
              refine s_on rfl rfl rfl ?_
              refine mv1 rfl rfl ?_
              refine s_on rfl rfl rfl ?_
              refine pull fun t415 h_t415 => ?_
              refine s_st (s_callB (ψ := fun (_ : Unit) => bv t415) (args := [.tmp 100, .tmp 101, .tmp 102]) Tryd.call68 rfl (net_Attacked_ok h_t415) ⟨argB rfl, argO rfl (j := 3) rfl, argB rfl, trivial⟩ (fun _ _ _ _ _ h => h)) rfl (fun _ => ?_)
              refine s_rd (r_pickT rfl rfl) rfl ?_
              refine l_nil ?_
              exact b_to (hk418 t415 ()) (weak [0, 1, 2, 3] ⟨rfl, rfl, rfl, rfl, rfl, rfl, rfl, trivial⟩ ⟨rfl, rfl, rfl, rfl, trivial⟩)
            refine s_off rfl rfl rfl rfl rfl ?_
            refine s_off rfl rfl rfl rfl rfl ?_
            refine s_off rfl rfl rfl rfl rfl ?_
            refine s_off rfl rfl rfl rfl rfl ?_
            refine s_rd (r_pickF rfl rfl) rfl ?_
            refine l_nil ?_
            exact b_to (hk418 false ()) (weak [0, 1, 2, 3] ⟨rfl, rfl, rfl, rfl, rfl, rfl, rfl, trivial⟩ ⟨rfl, rfl, rfl, rfl, trivial⟩)
          refine n_then ?_
          refine ref_cond rfl (fun hb419 => ?_) (fun hb419 => ?_)
          · refine ref_region ?_
            refine mv1 rfl rfl ?_
            refine mv1 rfl rfl ?_
            refine mv1 rfl rfl ?_
            refine mv1 rfl rfl ?_
            refine mv1 rfl rfl ?_
            refine pull fun t420 h_t420 => ?_
            refine s_rd (r_oindex h_t420 Tryd.underlying22 el_3 rfl (j := 1) rfl rfl) rfl ?_
            refine s_st0 (s_ostore (u := 2) h_t420 el_3 rfl (j := 1) rfl (part_at rfl iv_at)) (fun _ => ?_)
            refine pull fun t421 h_t421 => ?_
            refine s_rd (r_oindex h_t421 Tryd.underlying22 el_3 rfl (j := 2) rfl rfl) rfl ?_
            refine s_st0 (s_ostore (u := s292.1) h_t421 el_3 rfl (j := 2) rfl (part_at rfl iv_at)) (fun _ => ?_)
            refine l_nil (n_block (n_then (ref_region ?_)))
            refine mv1 rfl rfl ?_
            refine s_rd (r_add rfl rfl) rfl ?_
            refine as1 rfl rfl ?_
            refine b_let (f := iv .i64) (t := 14) rfl fun b422 => ?_
            refine l_nil ?_
            exact goB () (weak [0, 1, 2, 3] ⟨rfl, rfl, rfl, rfl, rfl, rfl, trivial⟩ ⟨rfl, rfl, rfl, rfl, trivial⟩)
          refine ref_skip (n_block (n_then (ref_region ?_)))
          refine mv1 rfl rfl ?_
          refine s_rd (r_add rfl rfl) rfl ?_
          refine as1 rfl rfl ?_
          refine b_let (f := iv .i64) (t := 14) rfl fun b423 => ?_
          refine l_nil ?_
          exact goB () (weak [0, 1, 2, 3] ⟨rfl, rfl, rfl, rfl, rfl, rfl, trivial⟩ ⟨rfl, rfl, rfl, rfl, trivial⟩)
        refine ref_exit (x_then ?_)
        exact brkB () (weak [0, 1, 2] ⟨rfl, rfl, rfl, rfl, trivial⟩ ⟨rfl, rfl, rfl, trivial⟩)
      refine n_block (n_then (ref_region ?_))
      refine mv1 rfl rfl ?_
      refine s_rd (r_add rfl rfl) rfl ?_
      refine as1 rfl rfl ?_
      refine b_let (f := iv .i64) (t := 7) rfl fun round426 => ?_
      refine l_nil ?_
      exact goB () (weak [0, 1, 2] ⟨rfl, rfl, rfl, rfl, trivial⟩ ⟨rfl, rfl, rfl, trivial⟩)
    refine ref_exit (x_then ?_)
    exact brkB () (weak [1, 2] ⟨rfl, rfl, trivial⟩ ⟨rfl, rfl, trivial⟩)
  refine n_then (ref_seq (ref_region ?_))
  refine mv1 rfl rfl ?_
  refine mv1 rfl rfl ?_
  refine as1 rfl rfl ?_
  refine as1 rfl rfl ?_
  refine l_nil (n_then (ref_ret ?_))
  exact fin2 (.inl rfl) ((χ2 2).V, (χ2 5).V) [0, 1] rfl ⟨rfl, rfl, trivial⟩ rfl (rv_tmp rfl) (rv_tmp rfl)

/-! deliberation/deliberationnet.Members -/
noncomputable def net_Members_l1 (bits_0 : Int) (s15 : Int × (List Int)) : Option (Sum ((List Int)) (Int × (List Int))) :=
  bif decide (s15.1 < 64) then
    Option.bind (ishrM .u64 bits_0 (IntKind.wrap .u64 s15.1)) fun t18 =>
    bif (iand .u64 t18 1) == 1 then
      Option.bind (appM 8 s15.2 [s15.1]) fun out20 =>
      letM (iadd .i64 s15.1 1) fun i22 =>
      some (Sum.inr (i22, out20))
    else
      letM (iadd .i64 s15.1 1) fun i23 =>
      some (Sum.inr (i23, s15.2))
  else
    some (Sum.inl s15.2)

noncomputable def net_Members_m (bits_0 : Int) : Option (List Int) :=
  Option.bind (loopC (net_Members_l1 bits_0) (0, [])) fun q24 : (List Int) =>
  some q24

theorem net_Members_ok {bits_0 : Int} {r : List Int} (hm : net_Members_m bits_0 = some r) :
    FnOk prog 17 [iv .u64 bits_0] [] (fun (x : (Value × List Nat)) => [pv x.1]) (fun (x : (Value × List Nat)) => [oa (rI .i64) x.1 x.2 r]) := by
  refine fn_ok (X := (Value × List Nat)) (fn := Tryd.f17) (N := 20) (res := fun r x => [pv x.1]) (Ω1 := fun r x => [oa (rI .i64) x.1 x.2 r]) Tryd.func17 rfl rfl hm rfl (fun E hM => ?_)
  unfold net_Members_m
  refine ref_seq (ref_region ?_)
  refine as1 rfl rfl ?_
  refine l_nil (n_then (ref_seq (ref_region ?_)))
  refine as1 rfl rfl ?_
  refine l_nil (n_then (ref_seq (ref_seq (ref_region ?_))))
  refine as1 rfl rfl ?_
  refine l_nil (n_then ?_)
  refine b_of (own_nil (rI .i64)) ?_
  refine ref_loopB (f := (net_Members_l1 bits_0)) (Γl := (fun (s15 : Int × (List Int)) (x16 : (Value × List Nat)) => [(0, iv .u64 bits_0), (3, pv x16.1), (4, iv .i64 s15.1)])) (Ωl := (fun (s15 : Int × (List Int)) (x16 : (Value × List Nat)) => [oa (rI .i64) x16.1 x16.2 s15.2])) (Γb := (fun (q24 : (List Int)) (y25 : (Value × List Nat)) => [(3, pv y25.1)])) (Ωb := (fun (q24 : (List Int)) (y25 : (Value × List Nat)) => [oa (rI .i64) y25.1 y25.2 q24])) (0, []) ((.slice none 0 0), []) (weak [0] ⟨rfl, rfl, rfl, trivial⟩ ⟨rfl, trivial⟩) (fun s15 x16 => ?_) (fun q24 y25 => ?_)
  · unfold net_Members_l1
    refine ref_seq (ref_seq (ref_region ?_))
    refine mv1 rfl rfl ?_
    refine s_rd (r_lss rfl rfl) rfl ?_
    refine l_nil (n_then ?_)
    refine ref_cond rfl (fun hb17 => ?_) (fun hb17 => ?_)
    · refine ref_skip (n_then (ref_seq (ref_block (ref_seq (ref_region ?_)))))
      refine mv1 rfl rfl ?_
      refine mv1 rfl rfl ?_
      refine s_rd (r_conv (k' := .u64) rfl rfl rfl) rfl ?_
      refine pull fun t18 h_t18 => ?_
      refine s_rd (r_shrM h_t18 rfl rfl) rfl ?_
      refine s_rd (r_and rfl rfl) rfl ?_
      refine s_rd (r_eql rfl rfl) rfl ?_
      refine l_nil (n_then ?_)
      refine ref_cond rfl (fun hb19 => ?_) (fun hb19 => ?_)
      · refine ref_region ?_
        refine mv1 rfl rfl ?_
        refine mv1 rfl rfl ?_
        refine s_st (s_bslice (xs := [.tmp 16]) (ds := [s15.1]) Tryd.underlying22 el_3 rfl (Nat.le_of_ble_eq_true rfl) ⟨(part_at rfl iv_at), trivial⟩) rfl (fun _ => ?_)
        refine pull fun out20 h_out20 => ?_
        refine s_st (s_append h_out20 Tryd.underlying22 el_3 rfl (j := 0) rfl rfl) rfl (fun o21 => ?_)
        refine as1 rfl rfl ?_
        refine l_nil (n_block (n_then (ref_region ?_)))
        refine mv1 rfl rfl ?_
        refine s_rd (r_add rfl rfl) rfl ?_
        refine as1 rfl rfl ?_
        refine b_let (f := iv .i64) (t := 4) rfl fun i22 => ?_
        refine l_nil ?_
        exact goB o21 (weak [0] ⟨rfl, rfl, rfl, trivial⟩ ⟨rfl, trivial⟩)
      refine ref_skip (n_block (n_then (ref_region ?_)))
      refine mv1 rfl rfl ?_
      refine s_rd (r_add rfl rfl) rfl ?_
      refine as1 rfl rfl ?_
      refine b_let (f := iv .i64) (t := 4) rfl fun i23 => ?_
      refine l_nil ?_
      exact goB x16 (weak [0] ⟨rfl, rfl, rfl, trivial⟩ ⟨rfl, trivial⟩)
    refine ref_exit (x_then ?_)
    exact brkB x16 (weak [0] ⟨rfl, trivial⟩ ⟨rfl, trivial⟩)
  refine n_then (ref_seq (ref_region ?_))
  refine mv1 rfl rfl ?_
  refine as1 rfl rfl ?_
  refine l_nil (n_then (ref_ret ?_))
  exact fin1 (.inl rfl) y25 [0] rfl ⟨rfl, trivial⟩ rfl (rv_tmp rfl)

/-! deliberation/deliberationnet.Free -/
noncomputable def net_Free_l1 (g_0 : T_api_Graph) (s_1 : (List Int)) (s8 : Int) : Option (Sum ((Sum (Bool) (Unit))) (Int)) :=
  bif decide (s8 < (s_1.length : Int)) then
    Option.bind (idxM s_1 s8) fun t11 =>
    Option.bind (net_Attacked_m g_0 s_1 t11) fun t12 =>
    bif t12 then
      some (Sum.inl (Sum.inl false))
    else
      some (Sum.inr (iadd .i64 s8 1))
  else
    some (Sum.inl (Sum.inr ()))

noncomputable def net_Free_m (g_0 : T_api_Graph) (s_1 : (List Int)) : Option (Bool) :=
  Option.bind (loopC (net_Free_l1 g_0 s_1) 0) (sumK (fun a : Bool => some a) fun q14 : Unit =>
    some true)

theorem net_Free_ok {g_0 : T_api_Graph} {s_1 : (List Int)} {r : Bool} (hm : net_Free_m g_0 s_1 = some r) :
    FnOk prog 70 [ag [iv .i64 g_0.N, slv rT_api_Pair g_0.L], slv (rI .i64) s_1] [] (fun (x : Unit) => [bv r]) (fun (x : Unit) => []) := by
  refine fn_ok (fn := Tryd.f70) (N := 19) (res := fun r x => [bv r]) (Ω1 := fun r x => []) Tryd.func70 rfl rfl hm rfl (fun E hM => ?_)
  unfold net_Free_m
  refine ref_seq (ref_region ?_)
  refine s_st (s_box (part_agO (ψs := [iv .i64 g_0.N, slv rT_api_Pair g_0.L]) rfl ⟨.inl iv_at, .inl slv_at, trivial⟩)) rfl (fun b1 => ?_)
  refine as1 rfl rfl ?_
  refine l_nil (n_then (ref_seq (ref_seq (ref_region ?_))))
  refine as1 rfl rfl ?_
  refine l_nil (n_then ?_)
  refine ref_loopX (f := (net_Free_l1 g_0 s_1)) (Γl := (fun (s8 : Int) (x9 : Unit) => [(1, slv (rI .i64) s_1), (2, pv (ptr b1 0)), (5, iv .i64 s8)])) (Ωl := (fun (s8 : Int) (x9 : Unit) => [oc b1 [iv .i64 g_0.N, slv rT_api_Pair g_0.L]])) (Γb := (fun (q14 : Unit) (y15 : Unit) => [])) (Ωb := (fun (q14 : Unit) (y15 : Unit) => [])) (kr := (fun a : Bool => some a)) 0 () (weak [0] ⟨rfl, rfl, rfl, trivial⟩ ⟨rfl, trivial⟩) (fun s8 x9 => ?_) (fun q14 y15 => ?_)
  · unfold net_Free_l1
    refine ref_seq (ref_seq (ref_region ?_))
    refine mv1 rfl rfl ?_
    refine mv1 rfl rfl ?_
    refine s_rd (r_len Tryd.underlying22 rfl) rfl ?_
    refine s_rd (r_lss rfl rfl) rfl ?_
    refine l_nil (n_then ?_)
    refine ref_cond rfl (fun hb10 => ?_) (fun hb10 => ?_)
    · refine ref_skip (n_then (ref_seq (ref_block (ref_seq ?_))))
      refine ref_draw [0, 1, 2, 3, 4, 5] rfl (by kernel_rfl) (fun hok => ?_)
      refine a_rd (i := 0) hok rfl (by kernel_rfl) rfl (r_cloadS Tryd.isAgg27 Tryd.sizeOf27 rfl (j := 0) rfl rfl rfl) rfl ?_
      refine a_rd (i := 1) hok rfl (by kernel_rfl) rfl (r_move rfl) rfl ?_
      refine a_rd (i := 2) hok rfl (by kernel_rfl) rfl (r_move rfl) rfl ?_
      refine a_rd (i := 3) hok rfl (by kernel_rfl) rfl (r_move rfl) rfl ?_
      refine pull fun t11 h_t11 => ?_
      refine a_rd (i := 4) hok rfl (by kernel_rfl) rfl (r_index h_t11 Tryd.underlying22 el_3 rfl rfl) rfl ?_
      refine a_rd (i := 5) hok rfl (by kernel_rfl) rfl (r_load el_3 rfl) rfl ?_
      refine pull fun t12 h_t12 => ?_
      refine a_next hok 6 [] (by kernel_rfl) ?_ trivial
      refine a_st (i := 6) hok rfl rfl (s_call (ψ := fun (_ : Unit) => bv t12) (args := [.tmp 12, .tmp 13, .tmp 17]) Tryd.call68 rfl (net_Attacked_ok h_t12) ⟨arg rfl, arg rfl, arg rfl, trivial⟩ (fun _ _ _ _ h => h)) (by intro _ h; cases h; rfl) (fun _ => ⟨trivial, ⟨trivial, ⟨trivial, ⟨trivial, ⟨trivial, ⟨trivial, trivial⟩⟩⟩⟩⟩⟩) (fun _ => ?_)
      refine a_fin hok (by kernel_rfl) ?_
      refine n_then ?_
      refine ref_cond rfl (fun hb13 => ?_) (fun hb13 => ?_)
      · refine ref_seq (ref_region ?_)
        refine as1 rfl rfl ?_
        refine l_nil (n_then (ref_ret (r_block (r_then ?_))))
        refine retX ?_
        refine r_block (r_then ?_)
        exact fin1 (.inl rfl) () [] rfl trivial rfl (rv_tmp rfl)
      refine ref_skip (n_block (n_then (ref_region ?_)))
      refine mv1 rfl rfl ?_
      refine s_rd (r_add rfl rfl) rfl ?_
      refine as1 rfl rfl ?_
      refine l_nil ?_
      exact goX () (weak [0] ⟨rfl, rfl, rfl, trivial⟩ ⟨rfl, trivial⟩)
    refine ref_exit (x_then ?_)
    exact brkX () (weak [] trivial trivial)
  refine n_then (ref_seq (ref_region ?_))
  refine as1 rfl rfl ?_
  refine l_nil (n_then (ref_ret ?_))
  exact fin1 (.inl rfl) () [] rfl trivial rfl (rv_tmp rfl)

/-! deliberation/deliberationnet.Admissible -/
noncomputable def net_Admissible_l1 (g_0 : T_api_Graph) (s_1 : (List Int)) (s10 : Int) : Option (Sum ((Sum (Bool) (Unit))) (Int)) :=
  bif decide (s10 < (g_0.L.length : Int)) then
    Option.bind (idxM g_0.L s10) fun t13 =>
    Option.bind (net_In_m s_1 t13.To) fun t14 =>
    bif t14 then
      Option.bind (idxM g_0.L s10) fun t15 =>
      Option.bind (net_Attacked_m g_0 s_1 t15.From) fun t16 =>
      bif !t16 then
        some (Sum.inl (Sum.inl false))
      else
        letM (iadd .i64 s10 1) fun i18 =>
        some (Sum.inr i18)
    else
      letM (iadd .i64 s10 1) fun i19 =>
      some (Sum.inr i19)
  else
    some (Sum.inl (Sum.inr ()))

noncomputable def net_Admissible_m (g_0 : T_api_Graph) (s_1 : (List Int)) : Option (Bool) :=
  Option.bind (loopC (net_Admissible_l1 g_0 s_1) 0) (sumK (fun a : Bool => some a) fun q20 : Unit =>
    Option.bind (net_Free_m g_0 s_1) fun t22 =>
    some t22)

theorem net_Admissible_ok {g_0 : T_api_Graph} {s_1 : (List Int)} {r : Bool} (hm : net_Admissible_m g_0 s_1 = some r) :
    FnOk prog 69 [ag [iv .i64 g_0.N, slv rT_api_Pair g_0.L], slv (rI .i64) s_1] [] (fun (x : Unit) => [bv r]) (fun (x : Unit) => []) := by
  refine fn_ok (fn := Tryd.f69) (N := 36) (res := fun r x => [bv r]) (Ω1 := fun r x => []) Tryd.func69 rfl rfl hm rfl (fun E hM => ?_)
  unfold net_Admissible_m
  refine ref_seq (ref_region ?_)
  refine s_st (s_box (part_agO (ψs := [iv .i64 g_0.N, slv rT_api_Pair g_0.L]) rfl ⟨.inl iv_at, .inl slv_at, trivial⟩)) rfl (fun b1 => ?_)
  refine as1 rfl rfl ?_
  refine l_nil (n_then (ref_seq (ref_seq (ref_region ?_))))
  refine as1 rfl rfl ?_
  refine l_nil (n_then ?_)
  refine ref_loopX (f := (net_Admissible_l1 g_0 s_1)) (Γl := (fun (s10 : Int) (x11 : Unit) => [(1, slv (rI .i64) s_1), (2, pv (ptr b1 0)), (5, iv .i64 s10)])) (Ωl := (fun (s10 : Int) (x11 : Unit) => [oc b1 [iv .i64 g_0.N, slv rT_api_Pair g_0.L]])) (Γb := (fun (q20 : Unit) (y21 : Unit) => [(1, slv (rI .i64) s_1), (2, pv (ptr b1 0))])) (Ωb := (fun (q20 : Unit) (y21 : Unit) => [oc b1 [iv .i64 g_0.N, slv rT_api_Pair g_0.L]])) (kr := (fun a : Bool => some a)) 0 () (weak [0] ⟨rfl, rfl, rfl, trivial⟩ ⟨rfl, trivial⟩) (fun s10 x11 => ?_) (fun q20 y21 => ?_)
  · unfold net_Admissible_l1
    refine ref_seq (ref_seq (ref_region ?_))
    refine mv1 rfl rfl ?_
    refine s_rd (r_faddr (fo := 1) Tryd.underlying27 rfl rfl Tryd.sizeOf25 rfl) rfl ?_
    refine s_rd (r_cload Tryd.isAgg25 rfl (j := 0) rfl rfl) rfl ?_
    refine s_rd (r_len Tryd.underlying25 rfl) rfl ?_
    refine s_rd (r_lss rfl rfl) rfl ?_
    refine l_nil (n_then ?_)
    refine ref_cond rfl (fun hb12 => ?_) (fun hb12 => ?_)
    · refine ref_skip (n_then (ref_seq (ref_block (ref_seq ?_))))
      refine ref_draw [0, 1, 2, 3, 4, 5, 6, 8, 9, 10, 11, 12, 13, 14, 15, 16, 18, 19] rfl (by kernel_rfl) (fun hok => ?_)
      refine a_rd (i := 0) hok rfl (by kernel_rfl) rfl (r_move rfl) rfl ?_
      refine a_rd (i := 1) hok rfl (by kernel_rfl) rfl (r_faddr (fo := 1) Tryd.underlying27 rfl rfl Tryd.sizeOf25 rfl) rfl ?_
      refine a_rd (i := 2) hok rfl (by kernel_rfl) rfl (r_cload Tryd.isAgg25 rfl (j := 0) rfl rfl) rfl ?_
      refine a_rd (i := 3) hok rfl (by kernel_rfl) rfl (r_move rfl) rfl ?_
      refine pull fun t13 h_t13 => ?_
      refine a_rd (i := 4) hok rfl (by kernel_rfl) rfl (r_index h_t13 Tryd.underlying25 el_63 rfl rfl) rfl ?_
      refine a_rd (i := 5) hok rfl (by kernel_rfl) rfl (r_fea (fo := 1) (ρ := rT_api_Pair) (y := t13) (ρ' := (rI .i64)) (z := t13.To) Tryd.underlying63 rfl rfl Tryd.sizeOf3 rfl rfl rfl) rfl ?_
      refine a_rd (i := 6) hok rfl (by kernel_rfl) rfl (r_load el_3 rfl) rfl ?_
      refine pull fun t14 h_t14 => ?_
      refine a_next hok 7 [] (by kernel_rfl) ?_ trivial
      refine a_st (i := 7) hok rfl rfl (s_call (ψ := fun (_ : Unit) => bv t14) (args := [.tmp 13, .tmp 19]) Tryd.call44 rfl (net_In_ok h_t14) ⟨arg rfl, arg rfl, trivial⟩ (fun _ _ _ _ h => h)) (by intro _ h; cases h; rfl) (fun _ => ⟨trivial, ⟨trivial, ⟨trivial, ⟨trivial, ⟨⟨⟨rfl, rfl⟩, trivial⟩, ⟨trivial, ⟨trivial, trivial⟩⟩⟩⟩⟩⟩⟩) (fun _ => ?_)
      refine a_rd (i := 8) hok rfl (by kernel_rfl) rfl (r_move rfl) rfl ?_
      refine b_split (t := 21) rfl (fun _ => ?_) (fun _ => ?_)
      · refine a_rdOn (i := 9) hok rfl rfl rfl rfl (by kernel_rfl) rfl (r_cloadS Tryd.isAgg27 Tryd.sizeOf27 rfl (j := 0) rfl rfl rfl) rfl ?_
        refine a_rdOn (i := 10) hok rfl rfl rfl rfl (by kernel_rfl) rfl (r_move rfl) rfl ?_
        refine a_rdOn (i := 11) hok rfl rfl rfl rfl (by kernel_rfl) rfl (r_faddr (fo := 1) Tryd.underlying27 rfl rfl Tryd.sizeOf25 rfl) rfl ?_
        refine a_rdOn (i := 12) hok rfl rfl rfl rfl (by kernel_rfl) rfl (r_cload Tryd.isAgg25 rfl (j := 0) rfl rfl) rfl ?_
        refine a_rdOn (i := 13) hok rfl rfl rfl rfl (by kernel_rfl) rfl (r_move rfl) rfl ?_
        refine pull fun t15 h_t15 => ?_
        refine a_rdOn (i := 14) hok rfl rfl rfl rfl (by kernel_rfl) rfl (r_index h_t15 Tryd.underlying25 el_63 rfl rfl) rfl ?_
        refine a_rdOn (i := 15) hok rfl rfl rfl rfl (by kernel_rfl) rfl (r_fea (fo := 0) (ρ := rT_api_Pair) (y := t15) (ρ' := (rI .i64)) (z := t15.From) Tryd.underlying63 rfl rfl Tryd.sizeOf3 rfl rfl rfl) rfl ?_
        refine a_rdOn (i := 16) hok rfl rfl rfl rfl (by kernel_rfl) rfl (r_load el_3 rfl) rfl ?_
        refine pull fun t16 h_t16 => ?_
        refine a_next hok 17 [] (by kernel_rfl) ?_ trivial
        refine a_stOn (i := 17) hok rfl rfl rfl rfl rfl (s_call (ψ := fun (_ : Unit) => bv t16) (args := [.tmp 22, .tmp 23, .tmp 29]) Tryd.call68 rfl (net_Attacked_ok h_t16) ⟨arg rfl, arg rfl, arg rfl, trivial⟩ (fun _ _ _ _ h => h)) (by intro _ h; cases h; rfl) (fun _ => ⟨trivial, ⟨trivial, ⟨trivial, ⟨trivial, ⟨⟨⟨rfl, rfl⟩, trivial⟩, ⟨trivial, ⟨trivial, ⟨trivial, ⟨trivial, ⟨trivial, ⟨trivial, ⟨trivial, ⟨trivial, ⟨⟨⟨rfl, rfl⟩, trivial⟩, ⟨trivial, ⟨trivial, trivial⟩⟩⟩⟩⟩⟩⟩⟩⟩⟩⟩⟩⟩⟩⟩⟩) (fun _ => ?_)
        refine a_rdOn (i := 18) hok rfl rfl rfl rfl (by kernel_rfl) rfl (r_not rfl) rfl ?_
        refine a_rd (i := 19) hok rfl (by kernel_rfl) rfl (r_pickT rfl rfl) rfl ?_
        refine a_fin hok (by kernel_rfl) ?_
        refine n_then ?_
        refine ref_cond rfl (fun hb17 => ?_) (fun hb17 => ?_)
        · refine ref_seq (ref_region ?_)
          refine as1 rfl rfl ?_
          refine l_nil (n_then (ref_ret (r_block (r_then ?_))))
          refine retX ?_
          refine r_block (r_then ?_)
          exact fin1 (.inl rfl) () [] rfl trivial rfl (rv_tmp rfl)
        refine ref_skip (n_block (n_then (ref_region ?_)))
        refine mv1 rfl rfl ?_
        refine s_rd (r_add rfl rfl) rfl ?_
        refine as1 rfl rfl ?_
        refine b_let (f := iv .i64) (t := 5) rfl fun i18 => ?_
        refine l_nil ?_
        exact goX () (weak [0] ⟨rfl, rfl, rfl, trivial⟩ ⟨rfl, trivial⟩)
      refine a_off (i := 9) hok rfl rfl rfl rfl rfl (by kernel_rfl) rfl rfl ?_
      refine a_off (i := 10) hok rfl rfl rfl rfl rfl (by kernel_rfl) rfl rfl ?_
      refine a_off (i := 11) hok rfl rfl rfl rfl rfl (by kernel_rfl) rfl rfl ?_
      refine a_off (i := 12) hok rfl rfl rfl rfl rfl (by kernel_rfl) rfl rfl ?_
      refine a_off (i := 13) hok rfl rfl rfl rfl rfl (by kernel_rfl) rfl rfl ?_
      refine a_off (i := 14) hok rfl rfl rfl rfl rfl (by kernel_rfl) rfl rfl ?_
      refine a_off (i := 15) hok rfl rfl rfl rfl rfl (by kernel_rfl) rfl rfl ?_
      refine a_off (i := 16) hok rfl rfl rfl rfl rfl (by kernel_rfl) rfl rfl ?_
      refine a_next hok 17 [] (by kernel_rfl) ?_ trivial
      refine a_stOff (i := 17) hok rfl rfl rfl rfl rfl rfl (by intro _ h; cases h; rfl) ⟨trivial, ⟨trivial, ⟨trivial, ⟨trivial, ⟨trivial, ⟨trivial, ⟨trivial, ⟨trivial, ⟨trivial, ⟨trivial, ⟨trivial, ⟨trivial, ⟨trivial, ⟨⟨⟨rfl, rfl⟩, trivial⟩, ⟨trivial, ⟨trivial, trivial⟩⟩⟩⟩⟩⟩⟩⟩⟩⟩⟩⟩⟩⟩⟩⟩ ?_
      refine a_off (i := 18) hok rfl rfl rfl rfl rfl (by kernel_rfl) rfl rfl ?_
      refine a_rd (i := 19) hok rfl (by kernel_rfl) rfl (r_pickF rfl rfl) rfl ?_
      refine a_fin hok (by kernel_rfl) ?_
      refine n_then ?_
      refine ref_condF rfl rfl ?_
      refine ref_skip (n_block (n_then (ref_region ?_)))
      refine mv1 rfl rfl ?_
      refine s_rd (r_add rfl rfl) rfl ?_
      refine as1 rfl rfl ?_
      refine b_let (f := iv .i64) (t := 5) rfl fun i19 => ?_
      refine l_nil ?_
      exact goX () (weak [0] ⟨rfl, rfl, rfl, trivial⟩ ⟨rfl, trivial⟩)
    refine ref_exit (x_then ?_)
    exact brkX () (weak [0] ⟨rfl, rfl, trivial⟩ ⟨rfl, trivial⟩)
  refine n_then (ref_seq (ref_region ?_))
  refine s_rd (r_cloadS Tryd.isAgg27 Tryd.sizeOf27 rfl (j := 0) rfl rfl rfl) rfl ?_
  refine mv1 rfl rfl ?_
  refine pull fun t22 h_t22 => ?_
  refine s_st (s_call (ψ := fun (_ : Unit) => bv t22) (args := [.tmp 33, .tmp 34]) Tryd.call70 rfl (net_Free_ok h_t22) ⟨arg rfl, arg rfl, trivial⟩ (fun _ _ _ _ h => h)) rfl (fun _ => ?_)
  refine as1 rfl rfl ?_
  refine l_nil (n_then (ref_ret ?_))
  exact fin1 (.inl rfl) () [] rfl trivial rfl (rv_tmp rfl)

/-! deliberation/deliberationnet.SomeAdmissible -/
noncomputable def net_SomeAdmissible_l2 (gone_2 : (List Int)) (s32 : List Int) (s39 : Bool × Int) : Option (Sum (Bool) (Bool × Int)) :=
  bif decide (s39.2 < (s32.length : Int)) then
    bif s39.1 then
      letM (iadd .i64 s39.2 1) fun i44 =>
      some (Sum.inr (true, i44))
    else
      Option.bind (idxM s32 s39.2) fun t42 =>
      Option.bind (net_In_m gone_2 t42) fun t43 =>
      letM (iadd .i64 s39.2 1) fun i45 =>
      some (Sum.inr (t43, i45))
  else
    some (Sum.inl s39.1)

noncomputable def net_SomeAdmissible_l1 (g_0 : T_api_Graph) (a__1 : Int) (gone_2 : (List Int)) (s26 : Int) : Option (Sum ((Sum (Bool) (Unit))) (Int)) :=
  Option.bind (ishlM .u64 1 (IntKind.wrap .u64 g_0.N)) fun t28 =>
  bif decide (s26 < t28) then
    Option.bind (ishrM .u64 s26 (IntKind.wrap .u64 a__1)) fun t30 =>
    bif (iand .u64 t30 1) == 0 then
      letM (iadd .u64 s26 1) fun bits50 =>
      some (Sum.inr bits50)
    else
      Option.bind (net_Members_m s26) fun s32 =>
      Option.bind (loopC (net_SomeAdmissible_l2 gone_2 s32) (false, 0)) fun q46 : Bool =>
      bif !q46 then
        Option.bind (net_Admissible_m g_0 s32) fun t48 =>
        bif t48 then
          some (Sum.inl (Sum.inl true))
        else
          letM (iadd .u64 s26 1) fun bits51 =>
          some (Sum.inr bits51)
      else
        letM (iadd .u64 s26 1) fun bits52 =>
        some (Sum.inr bits52)
  else
    some (Sum.inl (Sum.inr ()))

noncomputable def net_SomeAdmissible_m (g_0 : T_api_Graph) (a__1 : Int) (gone_2 : (List Int)) : Option (Bool) :=
  Option.bind (loopC (net_SomeAdmissible_l1 g_0 a__1 gone_2) 0) (sumK (fun a : Bool => some a) fun q53 : Unit =>
    some false)

theorem net_SomeAdmissible_ok {g_0 : T_api_Graph} {a__1 : Int} {gone_2 : (List Int)} {r : Bool} (hm : net_SomeAdmissible_m g_0 a__1 gone_2 = some r) :
    FnOk prog 46 [ag [iv .i64 g_0.N, slv rT_api_Pair g_0.L], iv .i64 a__1, slv (rI .i64) gone_2] [] (fun (x : Unit) => [bv r]) (fun (x : Unit) => []) := by
  refine fn_ok (fn := Tryd.f46) (N := 49) (res := fun r x => [bv r]) (Ω1 := fun r x => []) Tryd.func46 rfl rfl hm rfl (fun E hM => ?_)
  unfold net_SomeAdmissible_m
  refine ref_seq (ref_region ?_)
  refine s_st (s_box (part_agO (ψs := [iv .i64 g_0.N, slv rT_api_Pair g_0.L]) rfl ⟨.inl iv_at, .inl slv_at, trivial⟩)) rfl (fun b1 => ?_)
  refine as1 rfl rfl ?_
  refine l_nil (n_then (ref_seq (ref_seq (ref_region ?_))))
  refine as1 rfl rfl ?_
  refine l_nil (n_then ?_)
  refine ref_loopX (f := (net_SomeAdmissible_l1 g_0 a__1 gone_2)) (Γl := (fun (s26 : Int) (x27 : Unit) => [(1, iv .i64 a__1), (2, slv (rI .i64) gone_2), (3, pv (ptr b1 0)), (7, iv .u64 s26)])) (Ωl := (fun (s26 : Int) (x27 : Unit) => [oc b1 [iv .i64 g_0.N, slv rT_api_Pair g_0.L]])) (Γb := (fun (q53 : Unit) (y54 : Unit) => [])) (Ωb := (fun (q53 : Unit) (y54 : Unit) => [])) (kr := (fun a : Bool => some a)) 0 () (weak [0] ⟨rfl, rfl, rfl, rfl, trivial⟩ ⟨rfl, trivial⟩) (fun s26 x27 => ?_) (fun q53 y54 => ?_)
  · unfold net_SomeAdmissible_l1
    refine ref_seq (ref_seq (ref_region ?_))
    refine mv1 rfl rfl ?_
    refine s_rd (r_faddr (fo := 0) Tryd.underlying27 rfl rfl Tryd.sizeOf3 rfl) rfl ?_
    refine s_rd (r_cload Tryd.isAgg3 rfl (j := 0) rfl rfl) rfl ?_
    refine s_rd (r_conv (k' := .u64) rfl rfl rfl) rfl ?_
    refine pull fun t28 h_t28 => ?_
    refine s_rd (r_shlM h_t28 rfl rfl) rfl ?_
    refine s_rd (r_lss rfl rfl) rfl ?_
    refine l_nil (n_then ?_)
    refine ref_cond rfl (fun hb29 => ?_) (fun hb29 => ?_)
    · refine ref_skip (n_then (ref_seq (ref_block (ref_seq (ref_seq (ref_region ?_))))))
      refine mv1 rfl rfl ?_
      refine mv1 rfl rfl ?_
      refine s_rd (r_conv (k' := .u64) rfl rfl rfl) rfl ?_
      refine pull fun t30 h_t30 => ?_
      refine s_rd (r_shrM h_t30 rfl rfl) rfl ?_
      refine s_rd (r_and rfl rfl) rfl ?_
      refine s_rd (r_eql rfl rfl) rfl ?_
      refine l_nil (n_then ?_)
      refine ref_cond rfl (fun hb31 => ?_) (fun hb31 => ?_)
      · refine ref_exit (x_then (x_eq (n_then (ref_region ?_))))
        refine mv1 rfl rfl ?_
        refine s_rd (r_add rfl rfl) rfl ?_
        refine as1 rfl rfl ?_
        refine b_let (f := iv .u64) (t := 7) rfl fun bits50 => ?_
        refine l_nil ?_
        exact goX () (weak [0] ⟨rfl, rfl, rfl, rfl, trivial⟩ ⟨rfl, trivial⟩)
      refine ref_skip (n_then (ref_seq (ref_region ?_)))
      refine mv1 rfl rfl ?_
      refine pull fun s32 h_s32 => ?_
      refine s_st (s_call (ψ := fun (x33 : (Value × List Nat)) => pv x33.1) (args := [.tmp 25]) Tryd.call17 rfl (net_Members_ok h_s32) ⟨arg rfl, trivial⟩ (fun _ _ _ _ h => h)) rfl (fun x33 => ?_)
      refine as1 rfl rfl ?_
      refine l_nil (n_then (ref_seq (ref_region ?_)))
      refine as1 rfl rfl ?_
      refine l_nil (n_then (ref_seq (ref_seq (ref_region ?_))))
      refine as1 rfl rfl ?_
      refine l_nil (n_then ?_)
      refine ref_loopB (f := (net_SomeAdmissible_l2 gone_2 s32)) (Γl := (fun (s39 : Bool × Int) (x40 : Unit) => [(1, iv .i64 a__1), (2, slv (rI .i64) gone_2), (3, pv (ptr b1 0)), (7, iv .u64 s26), (8, pv x33.1), (9, bv s39.1), (10, iv .i64 s39.2)])) (Ωl := (fun (s39 : Bool × Int) (x40 : Unit) => [oc b1 [iv .i64 g_0.N, slv rT_api_Pair g_0.L], oa (rI .i64) x33.1 x33.2 s32])) (Γb := (fun (q46 : Bool) (y47 : Unit) => [(1, iv .i64 a__1), (2, slv (rI .i64) gone_2), (3, pv (ptr b1 0)), (7, iv .u64 s26), (8, pv x33.1), (9, bv q46)])) (Ωb := (fun (q46 : Bool) (y47 : Unit) => [oc b1 [iv .i64 g_0.N, slv rT_api_Pair g_0.L], oa (rI .i64) x33.1 x33.2 s32])) (false, 0) () (weak [0, 1] ⟨rfl, rfl, rfl, rfl, rfl, rfl, rfl, trivial⟩ ⟨rfl, rfl, trivial⟩) (fun s39 x40 => ?_) (fun q46 y47 => ?_)
      · unfold net_SomeAdmissible_l2
        refine ref_seq (ref_seq (ref_region ?_))
        refine mv1 rfl rfl ?_
        refine mv1 rfl rfl ?_
        refine s_rd (r_olen Tryd.underlying22 rfl (j := 1) rfl) rfl ?_
        refine s_rd (r_lss rfl rfl) rfl ?_
        refine l_nil (n_then ?_)
        refine ref_cond rfl (fun hb41 => ?_) (fun hb41 => ?_)
        · refine ref_skip (n_then (ref_seq (ref_block (ref_region ?_))))
          refine mv1 rfl rfl ?_
          refine mv1 rfl rfl ?_
          refine b_split (t := 34) rfl (fun _ => ?_) (fun _ => ?_)
          · refine s_off rfl rfl rfl rfl rfl ?_
            refine s_off rfl rfl rfl rfl rfl ?_
            refine s_off rfl rfl rfl rfl rfl ?_
            refine s_off rfl rfl rfl rfl rfl ?_
            refine s_off rfl rfl rfl rfl rfl ?_
            refine s_off rfl rfl rfl rfl rfl ?_
            refine s_rd (r_pickT rfl rfl) rfl ?_
            refine as1 rfl rfl ?_
            refine l_nil (n_block (n_then (ref_region ?_)))
            refine mv1 rfl rfl ?_
            refine s_rd (r_add rfl rfl) rfl ?_
            refine as1 rfl rfl ?_
            refine b_let (f := iv .i64) (t := 10) rfl fun i44 => ?_
            refine l_nil ?_
            exact goB () (weak [0, 1] ⟨rfl, rfl, rfl, rfl, rfl, rfl, rfl, trivial⟩ ⟨rfl, rfl, trivial⟩)
          refine s_on rfl rfl rfl ?_
          refine mv1 rfl rfl ?_
          refine s_on rfl rfl rfl ?_
          refine mv1 rfl rfl ?_
          refine s_on rfl rfl rfl ?_
          refine mv1 rfl rfl ?_
          refine s_on rfl rfl rfl ?_
          refine pull fun t42 h_t42 => ?_
          refine s_rd (r_oindex h_t42 Tryd.underlying22 el_3 rfl (j := 1) rfl rfl) rfl ?_
          refine s_on rfl rfl rfl ?_
          refine s_rd (r_oload h_t42 el_3 rfl (j := 1) rfl) rfl ?_
          refine s_on rfl rfl rfl ?_
          refine pull fun t43 h_t43 => ?_
          refine s_st (s_call (ψ := fun (_ : Unit) => bv t43) (args := [.tmp 35, .tmp 39]) Tryd.call44 rfl (net_In_ok h_t43) ⟨arg rfl, arg rfl, trivial⟩ (fun _ _ _ _ h => h)) rfl (fun _ => ?_)
          refine s_rd (r_pickF rfl rfl) rfl ?_
          refine as1 rfl rfl ?_
          refine l_nil (n_block (n_then (ref_region ?_)))
          refine mv1 rfl rfl ?_
          refine s_rd (r_add rfl rfl) rfl ?_
          refine as1 rfl rfl ?_
          refine b_let (f := iv .i64) (t := 10) rfl fun i45 => ?_
          refine l_nil ?_
          exact goB () (weak [0, 1] ⟨rfl, rfl, rfl, rfl, rfl, rfl, rfl, trivial⟩ ⟨rfl, rfl, trivial⟩)
        refine ref_exit (x_then ?_)
        exact brkB () (weak [0, 1] ⟨rfl, rfl, rfl, rfl, rfl, rfl, trivial⟩ ⟨rfl, rfl, trivial⟩)
      refine n_then (ref_seq (ref_region ?_))
      refine mv1 rfl rfl ?_
      refine s_rd (r_not rfl) rfl ?_
      refine mv1 rfl rfl ?_
      refine b_split (t := 44) rfl (fun _ => ?_) (fun _ => ?_)
      · refine s_on rfl rfl rfl ?_
        refine s_rd (r_cloadS Tryd.isAgg27 Tryd.sizeOf27 rfl (j := 0) rfl rfl rfl) rfl ?_
        refine s_on rfl rfl rfl ?_
        refine mv1 rfl rfl ?_
        refine s_on rfl rfl rfl ?_
        refine pull fun t48 h_t48 => ?_
        refine s_st (s_callB (ψ := fun (_ : Unit) => bv t48) (args := [.tmp 45, .tmp 46]) Tryd.call69 rfl (net_Admissible_ok h_t48) ⟨argB rfl, argO rfl (j := 1) rfl, trivial⟩ (fun _ _ _ _ _ h => h)) rfl (fun _ => ?_)
        refine s_rd (r_pickT rfl rfl) rfl ?_
        refine l_nil (n_then ?_)
        refine ref_cond rfl (fun hb49 => ?_) (fun hb49 => ?_)
        · refine ref_seq (ref_region ?_)
          refine as1 rfl rfl ?_
          refine l_nil (n_then (ref_ret (r_block (r_then ?_))))
          refine retX ?_
          refine r_block (r_then ?_)
          exact fin1 (.inl rfl) () [] rfl trivial rfl (rv_tmp rfl)
        refine ref_skip (n_block (n_then (ref_region ?_)))
        refine mv1 rfl rfl ?_
        refine s_rd (r_add rfl rfl) rfl ?_
        refine as1 rfl rfl ?_
        refine b_let (f := iv .u64) (t := 7) rfl fun bits51 => ?_
        refine l_nil ?_
        exact goX () (weak [0] ⟨rfl, rfl, rfl, rfl, trivial⟩ ⟨rfl, trivial⟩)
      refine s_off rfl rfl rfl rfl rfl ?_
      refine s_off rfl rfl rfl rfl rfl ?_
      refine s_off rfl rfl rfl rfl rfl ?_
      refine s_rd (r_pickF rfl rfl) rfl ?_
      refine l_nil (n_then ?_)
      refine ref_condF rfl rfl ?_
      refine ref_skip (n_block (n_then (ref_region ?_)))
      refine mv1 rfl rfl ?_
      refine s_rd (r_add rfl rfl) rfl ?_
      refine as1 rfl rfl ?_
      refine b_let (f := iv .u64) (t := 7) rfl fun bits52 => ?_
      refine l_nil ?_
      exact goX () (weak [0] ⟨rfl, rfl, rfl, rfl, trivial⟩ ⟨rfl, trivial⟩)
    refine ref_exit (x_then ?_)
    exact brkX () (weak [] trivial trivial)
  refine n_then (ref_seq (ref_region ?_))
  refine as1 rfl rfl ?_
  refine l_nil (n_then (ref_ret ?_))
  exact fin1 (.inl rfl) () [] rfl trivial rfl (rv_tmp rfl)

/-! deliberation/deliberationnet.Stable -/
noncomputable def net_Stable_l1 (g_0 : T_api_Graph) (s_1 : (List Int)) (s8 : Int) : Option (Sum ((Sum (Bool) (Unit))) (Int)) :=
  bif decide (s8 < g_0.N) then
    Option.bind (net_In_m s_1 s8) fun t11 =>
    bif !t11 then
      Option.bind (net_Attacked_m g_0 s_1 s8) fun t12 =>
      bif !t12 then
        some (Sum.inl (Sum.inl false))
      else
        some (Sum.inr (iadd .i64 s8 1))
    else
      some (Sum.inr (iadd .i64 s8 1))
  else
    some (Sum.inl (Sum.inr ()))

noncomputable def net_Stable_m (g_0 : T_api_Graph) (s_1 : (List Int)) : Option (Bool) :=
  Option.bind (loopC (net_Stable_l1 g_0 s_1) 0) (sumK (fun a : Bool => some a) fun q14 : Unit =>
    Option.bind (net_Free_m g_0 s_1) fun t16 =>
    some t16)

theorem net_Stable_ok {g_0 : T_api_Graph} {s_1 : (List Int)} {r : Bool} (hm : net_Stable_m g_0 s_1 = some r) :
    FnOk prog 47 [ag [iv .i64 g_0.N, slv rT_api_Pair g_0.L], slv (rI .i64) s_1] [] (fun (x : Unit) => [bv r]) (fun (x : Unit) => []) := by
  refine fn_ok (fn := Tryd.f47) (N := 26) (res := fun r x => [bv r]) (Ω1 := fun r x => []) Tryd.func47 rfl rfl hm rfl (fun E hM => ?_)
  unfold net_Stable_m
  refine ref_seq (ref_region ?_)
  refine s_st (s_box (part_agO (ψs := [iv .i64 g_0.N, slv rT_api_Pair g_0.L]) rfl ⟨.inl iv_at, .inl slv_at, trivial⟩)) rfl (fun b1 => ?_)
  refine as1 rfl rfl ?_
  refine l_nil (n_then (ref_seq (ref_seq (ref_region ?_))))
  refine as1 rfl rfl ?_
  refine l_nil (n_then ?_)
  refine ref_loopX (f := (net_Stable_l1 g_0 s_1)) (Γl := (fun (s8 : Int) (x9 : Unit) => [(1, slv (rI .i64) s_1), (2, pv (ptr b1 0)), (5, iv .i64 s8)])) (Ωl := (fun (s8 : Int) (x9 : Unit) => [oc b1 [iv .i64 g_0.N, slv rT_api_Pair g_0.L]])) (Γb := (fun (q14 : Unit) (y15 : Unit) => [(1, slv (rI .i64) s_1), (2, pv (ptr b1 0))])) (Ωb := (fun (q14 : Unit) (y15 : Unit) => [oc b1 [iv .i64 g_0.N, slv rT_api_Pair g_0.L]])) (kr := (fun a : Bool => some a)) 0 () (weak [0] ⟨rfl, rfl, rfl, trivial⟩ ⟨rfl, trivial⟩) (fun s8 x9 => ?_) (fun q14 y15 => ?_)
  · unfold net_Stable_l1
    refine ref_seq (ref_seq (ref_region ?_))
    refine mv1 rfl rfl ?_
    refine s_rd (r_faddr (fo := 0) Tryd.underlying27 rfl rfl Tryd.sizeOf3 rfl) rfl ?_
    refine s_rd (r_cload Tryd.isAgg3 rfl (j := 0) rfl rfl) rfl ?_
    refine s_rd (r_lss rfl rfl) rfl ?_
    refine l_nil (n_then ?_)
    refine ref_cond rfl (fun hb10 => ?_) (fun hb10 => ?_)
    · refine ref_skip (n_then (ref_seq (ref_block (ref_seq (ref_region ?_)))))
      refine mv1 rfl rfl ?_
      refine mv1 rfl rfl ?_
      refine pull fun t11 h_t11 => ?_
      refine s_st (s_call (ψ := fun (_ : Unit) => bv t11) (args := [.tmp 12, .tmp 13]) Tryd.call44 rfl (net_In_ok h_t11) ⟨arg rfl, arg rfl, trivial⟩ (fun _ _ _ _ h => h)) rfl (fun _ => ?_)
      refine s_rd (r_not rfl) rfl ?_
      refine mv1 rfl rfl ?_
      refine b_split (t := 16) rfl (fun _ => ?_) (fun _ => ?_)
      · refine s_on rfl rfl rfl ?_
        refine s_rd (r_cloadS Tryd.isAgg27 Tryd.sizeOf27 rfl (j := 0) rfl rfl rfl) rfl ?_
        refine s_on rfl rfl rfl ?_
        refine mv1 rfl rfl ?_
        refine s_on rfl rfl rfl ?_
        refine mv1 rfl rfl ?_
        refine s_on rfl rfl rfl ?_
        refine pull fun t12 h_t12 => ?_
        refine s_st (s_call (ψ := fun (_ : Unit) => bv t12) (args := [.tmp 17, .tmp 18, .tmp 19]) Tryd.call68 rfl (net_Attacked_ok h_t12) ⟨arg rfl, arg rfl, arg rfl, trivial⟩ (fun _ _ _ _ h => h)) rfl (fun _ => ?_)
        refine s_on rfl rfl rfl ?_
        refine s_rd (r_not rfl) rfl ?_
        refine s_rd (r_pickT rfl rfl) rfl ?_
        refine l_nil (n_then ?_)
        refine ref_cond rfl (fun hb13 => ?_) (fun hb13 => ?_)
        · refine ref_seq (ref_region ?_)
          refine as1 rfl rfl ?_
          refine l_nil (n_then (ref_ret (r_block (r_then ?_))))
          refine retX ?_
          refine r_block (r_then ?_)
          exact fin1 (.inl rfl) () [] rfl trivial rfl (rv_tmp rfl)
        refine ref_skip (n_block (n_then (ref_region ?_)))
        refine mv1 rfl rfl ?_
        refine s_rd (r_add rfl rfl) rfl ?_
        refine as1 rfl rfl ?_
        refine l_nil ?_
        exact goX () (weak [0] ⟨rfl, rfl, rfl, trivial⟩ ⟨rfl, trivial⟩)
      refine s_off rfl rfl rfl rfl rfl ?_
      refine s_off rfl rfl rfl rfl rfl ?_
      refine s_off rfl rfl rfl rfl rfl ?_
      refine s_off rfl rfl rfl rfl rfl ?_
      refine s_off rfl rfl rfl rfl rfl ?_
      refine s_rd (r_pickF rfl rfl) rfl ?_
      refine l_nil (n_then ?_)
      refine ref_condF rfl rfl ?_
      refine ref_skip (n_block (n_then (ref_region ?_)))
      refine mv1 rfl rfl ?_
      refine s_rd (r_add rfl rfl) rfl ?_
      refine as1 rfl rfl ?_
      refine l_nil ?_
      exact goX () (weak [0] ⟨rfl, rfl, rfl, trivial⟩ ⟨rfl, trivial⟩)
    refine ref_exit (x_then ?_)
    exact brkX () (weak [0] ⟨rfl, rfl, trivial⟩ ⟨rfl, trivial⟩)
  refine n_then (ref_seq (ref_region ?_))
  refine s_rd (r_cloadS Tryd.isAgg27 Tryd.sizeOf27 rfl (j := 0) rfl rfl rfl) rfl ?_
  refine mv1 rfl rfl ?_
  refine pull fun t16 h_t16 => ?_
  refine s_st (s_call (ψ := fun (_ : Unit) => bv t16) (args := [.tmp 23, .tmp 24]) Tryd.call70 rfl (net_Free_ok h_t16) ⟨arg rfl, arg rfl, trivial⟩ (fun _ _ _ _ h => h)) rfl (fun _ => ?_)
  refine as1 rfl rfl ?_
  refine l_nil (n_then (ref_ret ?_))
  exact fin1 (.inl rfl) () [] rfl trivial rfl (rv_tmp rfl)

/-! deliberation/deliberationref23.Accepted -/
noncomputable def ref23_Accepted_l1 (g_0 : T_api_Graph) (a__2 : Int) (t2 : T_api_Graph) (s24 : Bool × Bool × Int) : Option (Sum (Bool × Bool) (Bool × Bool × Int)) :=
  Option.bind (ishlM .u64 1 (IntKind.wrap .u64 g_0.N)) fun t26 =>
  bif decide (s24.2.2 < t26) then
    Option.bind (net_Members_m s24.2.2) fun s28 =>
    Option.bind (net_Stable_m t2 s28) fun t30 =>
    bif !t30 then
      letM (iadd .u64 s24.2.2 1) fun bits34 =>
      some (Sum.inr (s24.1, s24.2.1, bits34))
    else
      Option.bind (net_In_m s28 a__2) fun t32 =>
      bif t32 then
        letM (iadd .u64 s24.2.2 1) fun bits35 =>
        some (Sum.inr (true, s24.2.1, bits35))
      else
        letM (iadd .u64 s24.2.2 1) fun bits36 =>
        some (Sum.inr (s24.1, false, bits36))
  else
    some (Sum.inl (s24.1, s24.2.1))

noncomputable def ref23_Accepted_m (g_0 : T_api_Graph) (gone_1 : (List Int)) (a__2 : Int) (question_3 : Int) : Option (Bool) :=
  Option.bind (net_Without_m g_0 gone_1) fun t2 =>
  Option.bind (net_In_m gone_1 a__2) fun t4 =>
  bif t4 then
    some false
  else
    Option.bind (net_Grounded_m t2) fun t6 =>
    letM (question_3 == 4) fun t8 =>
    bif t8 then
      Option.bind (idxM t6.1 a__2) fun t10 =>
      some (t10 == 1)
    else
      letM (question_3 == 1) fun t11 =>
      bif t11 then
        Option.bind (net_SomeAdmissible_m t2 a__2 gone_1) fun t13 =>
        some t13
      else
        Option.bind (loopC (ref23_Accepted_l1 g_0 a__2 t2) (false, true, 0)) fun q37 : Bool × Bool =>
        bif question_3 == 2 then
          some q37.1
        else
          some q37.2

theorem ref23_Accepted_ok {g_0 : T_api_Graph} {gone_1 : (List Int)} {a__2 : Int} {question_3 : Int} {r : Bool} (hm : ref23_Accepted_m g_0 gone_1 a__2 question_3 = some r) :
    FnOk prog 21 [ag [iv .i64 g_0.N, slv rT_api_Pair g_0.L], slv (rI .i64) gone_1, iv .i64 a__2, iv .i64 question_3] [] (fun (x : Unit) => [bv r]) (fun (x : Unit) => []) := by
  refine fn_ok (fn := Tryd.f21) (N := 62) (res := fun r x => [bv r]) (Ω1 := fun r x => []) Tryd.func21 rfl rfl hm rfl (fun E hM => ?_)
  unfold ref23_Accepted_m
  refine ref_seq (ref_region ?_)
  refine s_st (s_box (part_agO (ψs := [iv .i64 g_0.N, slv rT_api_Pair g_0.L]) rfl ⟨.inl iv_at, .inl slv_at, trivial⟩)) rfl (fun b1 => ?_)
  refine as1 rfl rfl ?_
  refine l_nil (n_then (ref_seq (ref_region ?_)))
  refine s_rd (r_cloadS Tryd.isAgg27 Tryd.sizeOf27 rfl (j := 0) rfl rfl rfl) rfl ?_
  refine mv1 rfl rfl ?_
  refine pull fun t2 h_t2 => ?_
  refine s_st (s_call (ψ := fun (_ : Unit) => ag [iv .i64 t2.N, slv rT_api_Pair t2.L]) (args := [.tmp 16, .tmp 17]) Tryd.call43 rfl (net_Without_ok h_t2) ⟨arg rfl, arg rfl, trivial⟩ (fun _ _ _ _ h => h)) rfl (fun _ => ?_)
  refine s_st (s_alloc zt_27) rfl (fun b3 => ?_)
  refine s_st0 (s_cstore (out := [iv .i64 t2.N, slv rT_api_Pair t2.L]) Tryd.sizeOf27 rfl (j := 1) rfl (part_agO (ψs := [iv .i64 t2.N, slv rT_api_Pair t2.L]) rfl ⟨.inl iv_at, .inl slv_at, trivial⟩) rfl rfl rfl) (fun _ => ?_)
  refine l_nil ?_
  refine b_of (nrm [oc b1 [iv .i64 g_0.N, slv rT_api_Pair g_0.L], oc b3 [iv .i64 t2.N, slv rT_api_Pair t2.L]] rfl) ?_
  refine n_then (ref_seq (ref_seq (ref_region ?_)))
  refine mv1 rfl rfl ?_
  refine mv1 rfl rfl ?_
  refine pull fun t4 h_t4 => ?_
  refine s_st (s_call (ψ := fun (_ : Unit) => bv t4) (args := [.tmp 19, .tmp 20]) Tryd.call44 rfl (net_In_ok h_t4) ⟨arg rfl, arg rfl, trivial⟩ (fun _ _ _ _ h => h)) rfl (fun _ => ?_)
  refine l_nil (n_then ?_)
  refine ref_cond rfl (fun hb5 => ?_) (fun hb5 => ?_)
  · refine ref_seq (ref_region ?_)
    refine as1 rfl rfl ?_
    refine l_nil (n_then (ref_ret (r_then ?_)))
    exact fin1 (.inl rfl) () [] rfl trivial rfl (rv_tmp rfl)
  refine ref_skip (n_then (ref_seq (ref_region ?_)))
  refine s_rd (r_cloadS Tryd.isAgg27 Tryd.sizeOf27 rfl (j := 1) rfl rfl rfl) rfl ?_
  refine pull fun t6 h_t6 => ?_
  refine s_st (s_call (ψ := fun (x7 : (Value × List Nat) × (Value × List Nat)) => tup [pv x7.1.1, pv x7.2.1]) (args := [.tmp 23]) Tryd.call45 rfl (net_Grounded_ok h_t6) ⟨arg rfl, trivial⟩ (fun _ _ _ _ h => h)) rfl (fun x7 => ?_)
  refine mv1 rfl rfl ?_
  refine s_rd (r_extract rfl rfl) rfl ?_
  refine s_rd (r_extract rfl rfl) rfl ?_
  refine as1 rfl rfl ?_
  refine as1 rfl rfl ?_
  refine l_nil (n_then (ref_seq (ref_seq (ref_region ?_))))
  refine mv1 rfl rfl ?_
  refine l_nil (n_then (ref_block (ref_seq (ref_region ?_))))
  refine s_rd (r_eql rfl rfl) rfl ?_
  refine as1 rfl rfl ?_
  refine b_let (f := bv) (t := 28) rfl fun t8 => ?_
  refine l_nil (n_then ?_)
  refine ref_cond rfl (fun hb9 => ?_) (fun hb9 => ?_)
  · refine ref_seq (ref_region ?_)
    refine mv1 rfl rfl ?_
    refine mv1 rfl rfl ?_
    refine pull fun t10 h_t10 => ?_
    refine s_rd (r_oindex h_t10 Tryd.underlying22 el_3 rfl (j := 2) rfl rfl) rfl ?_
    refine s_rd (r_oload h_t10 el_3 rfl (j := 2) rfl) rfl ?_
    refine s_rd (r_eql rfl rfl) rfl ?_
    refine as1 rfl rfl ?_
    refine l_nil (n_then (ref_ret (r_block (r_then ?_))))
    exact fin1 (.inl rfl) () [] rfl trivial rfl (rv_tmp rfl)
  refine ref_seq (ref_region ?_)
  refine s_rd (r_eql rfl rfl) rfl ?_
  refine as1 rfl rfl ?_
  refine b_let (f := bv) (t := 35) rfl fun t11 => ?_
  refine l_nil (n_then ?_)
  refine ref_cond rfl (fun hb12 => ?_) (fun hb12 => ?_)
  · refine ref_seq (ref_region ?_)
    refine s_rd (r_cloadS Tryd.isAgg27 Tryd.sizeOf27 rfl (j := 1) rfl rfl rfl) rfl ?_
    refine mv1 rfl rfl ?_
    refine mv1 rfl rfl ?_
    refine pull fun t13 h_t13 => ?_
    refine s_st (s_call (ψ := fun (_ : Unit) => bv t13) (args := [.tmp 37, .tmp 38, .tmp 39]) Tryd.call46 rfl (net_SomeAdmissible_ok h_t13) ⟨arg rfl, arg rfl, arg rfl, trivial⟩ (fun _ _ _ _ h => h)) rfl (fun _ => ?_)
    refine as1 rfl rfl ?_
    refine l_nil (n_then (ref_ret (r_block (r_then ?_))))
    exact fin1 (.inl rfl) () [] rfl trivial rfl (rv_tmp rfl)
  refine ref_skip (n_block (n_then (ref_seq (ref_region ?_))))
  refine as1 rfl rfl ?_
  refine as1 rfl rfl ?_
  refine l_nil (n_then (ref_seq (ref_seq (ref_region ?_))))
  refine as1 rfl rfl ?_
  refine l_nil (n_then ?_)
  refine ref_loopB (f := (ref23_Accepted_l1 g_0 a__2 t2)) (Γl := (fun (s24 : Bool × Bool × Int) (x25 : Unit) => [(2, iv .i64 a__2), (3, iv .i64 question_3), (4, pv (ptr b1 0)), (9, pv (ptr b3 0)), (12, bv s24.1), (13, bv s24.2.1), (14, iv .u64 s24.2.2)])) (Ωl := (fun (s24 : Bool × Bool × Int) (x25 : Unit) => [oc b1 [iv .i64 g_0.N, slv rT_api_Pair g_0.L], oc b3 [iv .i64 t2.N, slv rT_api_Pair t2.L]])) (Γb := (fun (q37 : Bool × Bool) (y38 : Unit) => [(3, iv .i64 question_3), (12, bv q37.1), (13, bv q37.2)])) (Ωb := (fun (q37 : Bool × Bool) (y38 : Unit) => [])) (false, true, 0) () (weak [0, 1] ⟨rfl, rfl, rfl, rfl, rfl, rfl, rfl, trivial⟩ ⟨rfl, rfl, trivial⟩) (fun s24 x25 => ?_) (fun q37 y38 => ?_)
  · unfold ref23_Accepted_l1
    refine ref_seq (ref_seq (ref_region ?_))
    refine mv1 rfl rfl ?_
    refine s_rd (r_faddr (fo := 0) Tryd.underlying27 rfl rfl Tryd.sizeOf3 rfl) rfl ?_
    refine s_rd (r_cload Tryd.isAgg3 rfl (j := 0) rfl rfl) rfl ?_
    refine s_rd (r_conv (k' := .u64) rfl rfl rfl) rfl ?_
    refine pull fun t26 h_t26 => ?_
    refine s_rd (r_shlM h_t26 rfl rfl) rfl ?_
    refine s_rd (r_lss rfl rfl) rfl ?_
    refine l_nil (n_then ?_)
    refine ref_cond rfl (fun hb27 => ?_) (fun hb27 => ?_)
    · refine ref_skip (n_then (ref_seq (ref_block (ref_seq (ref_region ?_)))))
      refine mv1 rfl rfl ?_
      refine pull fun s28 h_s28 => ?_
      refine s_st (s_call (ψ := fun (x29 : (Value × List Nat)) => pv x29.1) (args := [.tmp 49]) Tryd.call17 rfl (net_Members_ok h_s28) ⟨arg rfl, trivial⟩ (fun _ _ _ _ h => h)) rfl (fun x29 => ?_)
      refine as1 rfl rfl ?_
      refine l_nil (n_then (ref_seq (ref_seq (ref_region ?_))))
      refine s_rd (r_cloadS Tryd.isAgg27 Tryd.sizeOf27 rfl (j := 1) rfl rfl rfl) rfl ?_
      refine mv1 rfl rfl ?_
      refine pull fun t30 h_t30 => ?_
      refine s_st (s_callB (ψ := fun (_ : Unit) => bv t30) (args := [.tmp 51, .tmp 52]) Tryd.call47 rfl (net_Stable_ok h_t30) ⟨argB rfl, argO rfl (j := 2) rfl, trivial⟩ (fun _ _ _ _ _ h => h)) rfl (fun _ => ?_)
      refine s_rd (r_not rfl) rfl ?_
      refine l_nil ?_
      refine b_of (nrm [oc b1 [iv .i64 g_0.N, slv rT_api_Pair g_0.L], oc b3 [iv .i64 t2.N, slv rT_api_Pair t2.L], oa (rI .i64) x29.1 x29.2 s28] rfl) ?_
      refine n_then ?_
      refine ref_cond rfl (fun hb31 => ?_) (fun hb31 => ?_)
      · refine ref_exit (x_then (x_eq (n_then (ref_region ?_))))
        refine mv1 rfl rfl ?_
        refine s_rd (r_add rfl rfl) rfl ?_
        refine as1 rfl rfl ?_
        refine b_let (f := iv .u64) (t := 14) rfl fun bits34 => ?_
        refine l_nil ?_
        exact goB () (weak [0, 1] ⟨rfl, rfl, rfl, rfl, rfl, rfl, rfl, trivial⟩ ⟨rfl, rfl, trivial⟩)
      refine ref_skip (n_then (ref_seq (ref_region ?_)))
      refine mv1 rfl rfl ?_
      refine mv1 rfl rfl ?_
      refine pull fun t32 h_t32 => ?_
      refine s_st (s_callB (ψ := fun (_ : Unit) => bv t32) (args := [.tmp 55, .tmp 56]) Tryd.call44 rfl (net_In_ok h_t32) ⟨argO rfl (j := 2) rfl, argB rfl, trivial⟩ (fun _ _ _ _ _ h => h)) rfl (fun _ => ?_)
      refine l_nil (n_then ?_)
      refine ref_cond rfl (fun hb33 => ?_) (fun hb33 => ?_)
      · refine ref_region ?_
        refine as1 rfl rfl ?_
        refine l_nil (n_block (n_then (ref_region ?_)))
        refine mv1 rfl rfl ?_
        refine s_rd (r_add rfl rfl) rfl ?_
        refine as1 rfl rfl ?_
        refine b_let (f := iv .u64) (t := 14) rfl fun bits35 => ?_
        refine l_nil ?_
        exact goB () (weak [0, 1] ⟨rfl, rfl, rfl, rfl, rfl, rfl, rfl, trivial⟩ ⟨rfl, rfl, trivial⟩)
      refine ref_region ?_
      refine as1 rfl rfl ?_
      refine l_nil (n_block (n_then (ref_region ?_)))
      refine mv1 rfl rfl ?_
      refine s_rd (r_add rfl rfl) rfl ?_
      refine as1 rfl rfl ?_
      refine b_let (f := iv .u64) (t := 14) rfl fun bits36 => ?_
      refine l_nil ?_
      exact goB () (weak [0, 1] ⟨rfl, rfl, rfl, rfl, rfl, rfl, rfl, trivial⟩ ⟨rfl, rfl, trivial⟩)
    refine ref_exit (x_then ?_)
    exact brkB () (weak [] ⟨rfl, rfl, rfl, trivial⟩ trivial)
  refine n_then (ref_seq (ref_seq (ref_region ?_)))
  refine mv1 rfl rfl ?_
  refine s_rd (r_eql rfl rfl) rfl ?_
  refine l_nil (n_then ?_)
  refine ref_cond rfl (fun hb39 => ?_) (fun hb39 => ?_)
  · refine ref_seq (ref_region ?_)
    refine mv1 rfl rfl ?_
    refine as1 rfl rfl ?_
    refine l_nil (n_then (ref_ret (r_then ?_)))
    exact fin1 (.inl rfl) () [] rfl trivial rfl (rv_tmp rfl)
  refine ref_skip (n_then (ref_seq (ref_region ?_)))
  refine mv1 rfl rfl ?_
  refine as1 rfl rfl ?_
  refine l_nil (n_then (ref_ret ?_))
  exact fin1 (.inl rfl) () [] rfl trivial rfl (rv_tmp rfl)

/-! deliberation/chance.Given -/
noncomputable def chance_Given_l1 (g_0 : T_api_Graph) (o_1 : T_api_Odds) (a__2 : (List Int)) (b_3 : (List Int)) (question_4 : Int) (s10 : Int) : Option (Sum ((Sum (T_api_Fraction × Int) (Unit))) (Int)) :=
  bif decide (s10 < ([a__2, b_3].length : Int)) then
    Option.bind (idxM [a__2, b_3] s10) fun l13 =>
    Option.bind (chance_arguments_m g_0 o_1 l13 question_4) fun e14 =>
    bif e14 != 0 then
      some (Sum.inl (Sum.inl ((T_api_Fraction.mk 0 0), e14)))
    else
      some (Sum.inr (iadd .i64 s10 1))
  else
    some (Sum.inl (Sum.inr ()))

noncomputable def chance_Given_m (g_0 : T_api_Graph) (o_1 : T_api_Odds) (a__2 : (List Int)) (b_3 : (List Int)) (question_4 : Int) : Option (T_api_Fraction × Int) :=
  Option.bind (loopC (chance_Given_l1 g_0 o_1 a__2 b_3 question_4) 0) (sumK (fun a : T_api_Fraction × Int => some a) fun q16 : Unit =>
    Option.bind (network_Of_m b_3) fun t18 =>
    Option.bind (chance_joint_m g_0 o_1 t18 question_4) fun t19 =>
    bif t19.1 == 0 then
      some ((T_api_Fraction.mk 0 0), 9)
    else
      Option.bind (network_Of_m a__2) fun t21 =>
      Option.bind (network_Of_m b_3) fun t22 =>
      Option.bind (chance_joint_m g_0 o_1 (ior .u64 t21 t22) question_4) fun t23 =>
      Option.bind (chance_reduced_m t23.1 t19.1) fun t24 =>
      some (t24, 0))

theorem chance_Given_ok {g_0 : T_api_Graph} {o_1 : T_api_Odds} {a__2 : (List Int)} {b_3 : (List Int)} {question_4 : Int} {r : T_api_Fraction × Int} (hm : chance_Given_m g_0 o_1 a__2 b_3 question_4 = some r) :
    FnOk prog 13 [ag [iv .i64 g_0.N, slv rT_api_Pair g_0.L], ag [slv rT_api_Fraction o_1.Nodes, slv rT_api_Fraction o_1.Attacks], slv (rI .i64) a__2, slv (rI .i64) b_3, iv .i64 question_4] [tbO (rI .u8) 0 tab_0] (fun (x : Unit) => [ag [iv .i64 r.1.Num, iv .i64 r.1.Den], iv .i64 r.2]) (fun (x : Unit) => [tbO (rI .u8) 0 tab_0]) := by
  refine fn_ok (fn := Tryd.f13) (N := 64) (res := fun r x => [ag [iv .i64 r.1.Num, iv .i64 r.1.Den], iv .i64 r.2]) (Ω1 := fun r x => [tbO (rI .u8) 0 tab_0]) Tryd.func13 rfl rfl hm rfl (fun E hM => ?_)
  unfold chance_Given_m
  refine ref_seq (ref_region ?_)
  refine s_st (s_box (part_agO (ψs := [iv .i64 g_0.N, slv rT_api_Pair g_0.L]) rfl ⟨.inl iv_at, .inl slv_at, trivial⟩)) rfl (fun b1 => ?_)
  refine s_st (s_box (part_agO (ψs := [slv rT_api_Fraction o_1.Nodes, slv rT_api_Fraction o_1.Attacks]) rfl ⟨.inl slv_at, .inl slv_at, trivial⟩)) rfl (fun b2 => ?_)
  refine s_st (s_alloc zt_36) rfl (fun b3 => ?_)
  refine as1 rfl rfl ?_
  refine l_nil (n_then (ref_seq (ref_seq (ref_region ?_))))
  refine mv1 rfl rfl ?_
  refine mv1 rfl rfl ?_
  refine s_st (s_bslice (xs := [.tmp 19, .tmp 20]) (ds := [a__2, b_3]) Tryd.underlying69 el_22 rfl (Nat.le_of_ble_eq_true rfl) ⟨(part_at rfl slv_at), ⟨(part_at rfl slv_at), trivial⟩⟩) rfl (fun _ => ?_)
  refine s_rd (r_len Tryd.underlying69 rfl) rfl ?_
  refine mv1 rfl rfl ?_
  refine l_nil ?_
  refine b_of (nrm [tbO (rI .u8) 0 tab_0, oc b1 [iv .i64 g_0.N, slv rT_api_Pair g_0.L], oc b2 [slv rT_api_Fraction o_1.Nodes, slv rT_api_Fraction o_1.Attacks], oc b3 [iv .i64 0, iv .i64 0]] rfl) ?_
  refine n_then ?_
  refine ref_loopX (f := (chance_Given_l1 g_0 o_1 a__2 b_3 question_4)) (Γl := (fun (s10 : Int) (x11 : Unit) => [(2, slv (rI .i64) a__2), (3, slv (rI .i64) b_3), (4, iv .i64 question_4), (5, pv (ptr b1 0)), (6, pv (ptr b2 0)), (10, pv (ptr b3 0)), (21, slv (rSl (rI .i64)) [a__2, b_3]), (22, iv .i64 ([a__2, b_3].length : Int)), (23, iv .i64 s10)])) (Ωl := (fun (s10 : Int) (x11 : Unit) => [tbO (rI .u8) 0 tab_0, oc b1 [iv .i64 g_0.N, slv rT_api_Pair g_0.L], oc b2 [slv rT_api_Fraction o_1.Nodes, slv rT_api_Fraction o_1.Attacks], oc b3 [iv .i64 0, iv .i64 0]])) (Γb := (fun (q16 : Unit) (y17 : Unit) => [(2, slv (rI .i64) a__2), (3, slv (rI .i64) b_3), (4, iv .i64 question_4), (5, pv (ptr b1 0)), (6, pv (ptr b2 0)), (10, pv (ptr b3 0))])) (Ωb := (fun (q16 : Unit) (y17 : Unit) => [oc b1 [iv .i64 g_0.N, slv rT_api_Pair g_0.L], oc b2 [slv rT_api_Fraction o_1.Nodes, slv rT_api_Fraction o_1.Attacks], oc b3 [iv .i64 0, iv .i64 0], tbO (rI .u8) 0 tab_0])) (kr := (fun a : T_api_Fraction × Int => some a)) 0 () (weak [0, 1, 2, 3] ⟨rfl, rfl, rfl, rfl, rfl, rfl, rfl, rfl, rfl, trivial⟩ ⟨rfl, rfl, rfl, rfl, trivial⟩) (fun s10 x11 => ?_) (fun q16 y17 => ?_)
  · unfold chance_Given_l1
    refine ref_seq (ref_region ?_)
    refine s_rd (r_lss rfl rfl) rfl ?_
    refine l_nil (n_then (ref_seq ?_))
    refine ref_cond rfl (fun hb12 => ?_) (fun hb12 => ?_)
    · refine ref_skip (n_then (ref_seq (ref_block (ref_seq (ref_region ?_)))))
      refine pull fun l13 h_l13 => ?_
      refine s_rd (r_index h_l13 Tryd.underlying69 el_22 rfl rfl) rfl ?_
      refine s_rd (r_load el_22 rfl) rfl ?_
      refine as1 rfl rfl ?_
      refine l_nil (n_then (ref_seq (ref_region ?_)))
      refine s_rd (r_cloadS Tryd.isAgg27 Tryd.sizeOf27 rfl (j := 1) rfl rfl rfl) rfl ?_
      refine s_rd (r_cloadS Tryd.isAgg31 Tryd.sizeOf31 rfl (j := 2) rfl rfl rfl) rfl ?_
      refine mv1 rfl rfl ?_
      refine mv1 rfl rfl ?_
      refine pull fun e14 h_e14 => ?_
      refine s_st (s_call (ψ := fun (_ : Unit) => iv .i64 e14) (args := [.tmp 27, .tmp 28, .tmp 29, .tmp 30]) Tryd.call30 rfl (chance_arguments_ok h_e14) ⟨arg rfl, arg rfl, arg rfl, arg rfl, trivial⟩ (fun _ _ _ _ h => h)) rfl (fun _ => ?_)
      refine as1 rfl rfl ?_
      refine l_nil (n_then (ref_seq (ref_region ?_)))
      refine mv1 rfl rfl ?_
      refine s_rd (r_neq rfl rfl) rfl ?_
      refine l_nil (n_then ?_)
      refine ref_cond rfl (fun hb15 => ?_) (fun hb15 => ?_)
      · refine ref_seq (ref_region ?_)
        refine s_rd (r_build (ps := []) (rs := []) st_36 zs_36 trivial rfl rfl) rfl ?_
        refine mv1 rfl rfl ?_
        refine s_st0 (s_cstore (out := [iv .i64 0, iv .i64 0]) Tryd.sizeOf36 rfl (j := 3) rfl (part_agO (ψs := [iv .i64 0, iv .i64 0]) rfl ⟨.inl iv_at, .inl iv_at, trivial⟩) rfl rfl rfl) (fun _ => ?_)
        refine as1 rfl rfl ?_
        refine l_nil (n_then (ref_ret (r_block (r_then ?_))))
        refine retX ?_
        refine r_block (r_then ?_)
        exact fin2 (.inl rfl) () [0] rfl ⟨rfl, trivial⟩ rfl (rv_cell rfl (j := 3) rfl Tryd.isAgg36 Tryd.sizeOf36 rfl rfl) (rv_tmp rfl)
      refine ref_skip (n_block (n_then (ref_region ?_)))
      refine s_rd (r_add rfl rfl) rfl ?_
      refine mv1 rfl rfl ?_
      refine l_nil ?_
      exact goX () (weak [0, 1, 2, 3] ⟨rfl, rfl, rfl, rfl, rfl, rfl, rfl, rfl, rfl, trivial⟩ ⟨rfl, rfl, rfl, rfl, trivial⟩)
    refine ref_exit (x_then ?_)
    exact brkX () (weak [1, 2, 3, 0] ⟨rfl, rfl, rfl, rfl, rfl, rfl, trivial⟩ ⟨rfl, rfl, rfl, rfl, trivial⟩)
  refine n_then (ref_seq ?_)
  refine ref_draw [0, 1, 2, 4, 6, 7, 8] rfl (by kernel_rfl) (fun hok => ?_)
  refine a_rd (i := 0) hok rfl (by kernel_rfl) rfl (r_cloadS Tryd.isAgg27 Tryd.sizeOf27 rfl (j := 0) rfl rfl rfl) rfl ?_
  refine a_rd (i := 1) hok rfl (by kernel_rfl) rfl (r_cloadS Tryd.isAgg31 Tryd.sizeOf31 rfl (j := 1) rfl rfl rfl) rfl ?_
  refine a_rd (i := 2) hok rfl (by kernel_rfl) rfl (r_move rfl) rfl ?_
  refine a_rd (i := 4) hok rfl (by kernel_rfl) rfl (r_move rfl) rfl ?_
  refine pull fun t18 h_t18 => ?_
  refine a_next hok 3 [] (by kernel_rfl) ?_ trivial
  refine a_st (i := 3) hok rfl rfl (s_call (ψ := fun (_ : Unit) => iv .u64 t18) (args := [.tmp 40]) Tryd.call33 rfl (network_Of_ok h_t18) ⟨arg rfl, trivial⟩ (fun _ _ _ _ h => h)) (by intro _ h; cases h; rfl) (fun _ => ⟨trivial, ⟨trivial, ⟨⟨⟨rfl, rfl⟩, trivial⟩, ⟨⟨⟨rfl, rfl⟩, trivial⟩, trivial⟩⟩⟩⟩) (fun _ => ?_)
  refine pull fun t19 h_t19 => ?_
  refine a_next hok 5 [] (by kernel_rfl) ?_ trivial
  refine a_st (i := 5) hok rfl rfl (s_callC [3] [true] (fun (_ : Unit) => [tbO (rI .u8) 0 tab_0]) (fun (_ : Unit) => []) (fun (_ : Unit) => tup [iv .i64 t19.1, iv .i64 t19.2]) (args := [.tmp 38, .tmp 39, .tmp 41, .tmp 42]) (caps := []) Tryd.call32 rfl (chance_joint_ok h_t19) ⟨rfl, rfl, trivial⟩ (fun _ => rfl) (fun _ => trivial) (fun _ => rfl) ⟨arg rfl, arg rfl, arg rfl, arg rfl, trivial⟩ (fun _ _ _ _ h => h)) (by intro _ h; cases h; rfl) (fun _ => ⟨trivial, ⟨trivial, ⟨trivial, ⟨trivial, trivial⟩⟩⟩⟩) (fun _ => ?_)
  refine a_rd (i := 6) hok rfl (by kernel_rfl) rfl (r_move rfl) rfl ?_
  refine a_rd (i := 7) hok rfl (by kernel_rfl) rfl (r_extract rfl rfl) rfl ?_
  refine a_rd (i := 8) hok rfl (by kernel_rfl) rfl (r_extract rfl rfl) rfl ?_
  refine a_next hok 9 [] (by kernel_rfl) ?_ trivial
  refine a_st (i := 9) hok rfl rfl (St.ofRd (r_assign rfl)) (by intro _ h; cases h; rfl) (fun _ => ⟨trivial, ⟨trivial, ⟨trivial, ⟨trivial, ⟨trivial, ⟨trivial, ⟨trivial, trivial⟩⟩⟩⟩⟩⟩⟩) (fun _ => ?_)
  refine a_next hok 10 [] (by kernel_rfl) ?_ trivial
  refine a_st (i := 10) hok rfl rfl (St.ofRd (r_assign rfl)) (by intro _ h; cases h; rfl) (fun _ => ⟨trivial, ⟨trivial, ⟨trivial, ⟨trivial, ⟨trivial, ⟨trivial, ⟨trivial, trivial⟩⟩⟩⟩⟩⟩⟩) (fun _ => ?_)
  refine a_fin hok (by kernel_rfl) ?_
  refine b_of (nrm [oc b1 [iv .i64 g_0.N, slv rT_api_Pair g_0.L], oc b2 [slv rT_api_Fraction o_1.Nodes, slv rT_api_Fraction o_1.Attacks], oc b3 [iv .i64 0, iv .i64 0], tbO (rI .u8) 0 tab_0] rfl) ?_
  refine n_then (ref_seq (ref_seq (ref_region ?_)))
  refine mv1 rfl rfl ?_
  refine s_rd (r_eql rfl rfl) rfl ?_
  refine l_nil (n_then ?_)
  refine ref_cond rfl (fun hb20 => ?_) (fun hb20 => ?_)
  · refine ref_seq (ref_region ?_)
    refine s_rd (r_build (ps := []) (rs := []) st_36 zs_36 trivial rfl rfl) rfl ?_
    refine s_st0 (s_cstore (out := [iv .i64 0, iv .i64 0]) Tryd.sizeOf36 rfl (j := 2) rfl (part_agO (ψs := [iv .i64 0, iv .i64 0]) rfl ⟨.inl iv_at, .inl iv_at, trivial⟩) rfl rfl rfl) (fun _ => ?_)
    refine as1 rfl rfl ?_
    refine l_nil (n_then (ref_ret (r_then ?_)))
    exact fin2 (.inl rfl) () [3] rfl ⟨rfl, trivial⟩ rfl (rv_cell rfl (j := 2) rfl Tryd.isAgg36 Tryd.sizeOf36 rfl rfl) (rv_tmp rfl)
  refine ref_skip (n_then (ref_seq ?_))
  refine ref_draw [0, 1, 2, 4, 6, 7, 9, 10, 11] rfl (by kernel_rfl) (fun hok => ?_)
  refine a_rd (i := 0) hok rfl (by kernel_rfl) rfl (r_cloadS Tryd.isAgg27 Tryd.sizeOf27 rfl (j := 0) rfl rfl rfl) rfl ?_
  refine a_rd (i := 1) hok rfl (by kernel_rfl) rfl (r_cloadS Tryd.isAgg31 Tryd.sizeOf31 rfl (j := 1) rfl rfl rfl) rfl ?_
  refine a_rd (i := 2) hok rfl (by kernel_rfl) rfl (r_move rfl) rfl ?_
  refine a_rd (i := 4) hok rfl (by kernel_rfl) rfl (r_move rfl) rfl ?_
  refine a_rd (i := 7) hok rfl (by kernel_rfl) rfl (r_move rfl) rfl ?_
  refine pull fun t21 h_t21 => ?_
  refine a_next hok 3 [] (by kernel_rfl) ?_ trivial
  refine a_st (i := 3) hok rfl rfl (s_call (ψ := fun (_ : Unit) => iv .u64 t21) (args := [.tmp 52]) Tryd.call33 rfl (network_Of_ok h_t21) ⟨arg rfl, trivial⟩ (fun _ _ _ _ h => h)) (by intro _ h; cases h; rfl) (fun _ => ⟨trivial, ⟨trivial, ⟨trivial, ⟨⟨⟨rfl, rfl⟩, trivial⟩, ⟨⟨⟨rfl, rfl⟩, trivial⟩, trivial⟩⟩⟩⟩⟩) (fun _ => ?_)
  refine pull fun t22 h_t22 => ?_
  refine a_next hok 5 [] (by kernel_rfl) ?_ trivial
  refine a_st (i := 5) hok rfl rfl (s_call (ψ := fun (_ : Unit) => iv .u64 t22) (args := [.tmp 54]) Tryd.call33 rfl (network_Of_ok h_t22) ⟨arg rfl, trivial⟩ (fun _ _ _ _ h => h)) (by intro _ h; cases h; rfl) (fun _ => ⟨trivial, ⟨trivial, ⟨trivial, ⟨⟨⟨rfl, rfl⟩, trivial⟩, ⟨⟨⟨rfl, rfl⟩, trivial⟩, trivial⟩⟩⟩⟩⟩) (fun _ => ?_)
  refine a_rd (i := 6) hok rfl (by kernel_rfl) rfl (r_or rfl rfl) rfl ?_
  refine pull fun t23 h_t23 => ?_
  refine a_next hok 8 [] (by kernel_rfl) ?_ trivial
  refine a_st (i := 8) hok rfl rfl (s_callC [3] [true] (fun (_ : Unit) => [tbO (rI .u8) 0 tab_0]) (fun (_ : Unit) => []) (fun (_ : Unit) => tup [iv .i64 t23.1, iv .i64 t23.2]) (args := [.tmp 50, .tmp 51, .tmp 56, .tmp 57]) (caps := []) Tryd.call32 rfl (chance_joint_ok h_t23) ⟨rfl, rfl, trivial⟩ (fun _ => rfl) (fun _ => trivial) (fun _ => rfl) ⟨arg rfl, arg rfl, arg rfl, arg rfl, trivial⟩ (fun _ _ _ _ h => h)) (by intro _ h; cases h; rfl) (fun _ => ⟨trivial, ⟨trivial, ⟨trivial, ⟨trivial, ⟨trivial, ⟨trivial, trivial⟩⟩⟩⟩⟩⟩) (fun _ => ?_)
  refine a_rd (i := 9) hok rfl (by kernel_rfl) rfl (r_move rfl) rfl ?_
  refine a_rd (i := 10) hok rfl (by kernel_rfl) rfl (r_extract rfl rfl) rfl ?_
  refine a_rd (i := 11) hok rfl (by kernel_rfl) rfl (r_extract rfl rfl) rfl ?_
  refine a_next hok 12 [] (by kernel_rfl) ?_ trivial
  refine a_st (i := 12) hok rfl rfl (St.ofRd (r_assign rfl)) (by intro _ h; cases h; rfl) (fun _ => ⟨trivial, ⟨trivial, ⟨trivial, ⟨trivial, ⟨trivial, ⟨trivial, ⟨trivial, ⟨trivial, ⟨trivial, trivial⟩⟩⟩⟩⟩⟩⟩⟩⟩) (fun _ => ?_)
  refine a_next hok 13 [] (by kernel_rfl) ?_ trivial
  refine a_st (i := 13) hok rfl rfl (St.ofRd (r_assign rfl)) (by intro _ h; cases h; rfl) (fun _ => ⟨trivial, ⟨trivial, ⟨trivial, ⟨trivial, ⟨trivial, ⟨trivial, ⟨trivial, ⟨trivial, ⟨trivial, trivial⟩⟩⟩⟩⟩⟩⟩⟩⟩) (fun _ => ?_)
  refine a_fin hok (by kernel_rfl) ?_
  refine b_of (nrm [oc b1 [iv .i64 g_0.N, slv rT_api_Pair g_0.L], oc b2 [slv rT_api_Fraction o_1.Nodes, slv rT_api_Fraction o_1.Attacks], oc b3 [iv .i64 0, iv .i64 0], tbO (rI .u8) 0 tab_0] rfl) ?_
  refine n_then (ref_seq (ref_region ?_))
  refine mv1 rfl rfl ?_
  refine mv1 rfl rfl ?_
  refine pull fun t24 h_t24 => ?_
  refine s_st (s_call (ψ := fun (_ : Unit) => ag [iv .i64 t24.Num, iv .i64 t24.Den]) (args := [.tmp 61, .tmp 62]) Tryd.call31 rfl (chance_reduced_ok h_t24) ⟨arg rfl, arg rfl, trivial⟩ (fun _ _ _ _ h => h)) rfl (fun _ => ?_)
  refine s_st0 (s_cstore (out := [iv .i64 t24.Num, iv .i64 t24.Den]) Tryd.sizeOf36 rfl (j := 2) rfl (part_agO (ψs := [iv .i64 t24.Num, iv .i64 t24.Den]) rfl ⟨.inl iv_at, .inl iv_at, trivial⟩) rfl rfl rfl) (fun _ => ?_)
  refine as1 rfl rfl ?_
  refine l_nil (n_then (ref_ret ?_))
  exact fin2 (.inl rfl) () [3] rfl ⟨rfl, trivial⟩ rfl (rv_cell rfl (j := 2) rfl Tryd.isAgg36 Tryd.sizeOf36 rfl rfl) (rv_tmp rfl)

/-! deliberation/deliberationlaw23.awake -/
noncomputable def law23_awake_m  : Option (Bool) :=
  Option.bind (chance_Joint_m (T_api_Graph.mk 2 [(T_api_Pair.mk 0 1)]) (T_api_Odds.mk [(T_api_Fraction.mk 1 2), (T_api_Fraction.mk 1 1)] [(T_api_Fraction.mk 1 1)]) [1] 4) fun t4 =>
  Option.bind (chance_Given_m (T_api_Graph.mk 2 [(T_api_Pair.mk 0 1)]) (T_api_Odds.mk [(T_api_Fraction.mk 1 2), (T_api_Fraction.mk 1 1)] [(T_api_Fraction.mk 1 1)]) [1] [0] 1) fun t6 =>
  bif t4.2 == 0 then
    bif t6.2 == 0 then
      bif decide (t4.1 = (T_api_Fraction.mk 1 2)) then
        letM (decide (t6.1 = (T_api_Fraction.mk 0 1))) fun t8 =>
        some t8
      else
        some false
    else
      some false
  else
    some false

theorem law23_awake_ok  {r : Bool} (hm : law23_awake_m  = some r) :
    FnOk prog 14 [] [tbO (rI .u8) 0 tab_0] (fun (x : Unit) => [bv r]) (fun (x : Unit) => [tbO (rI .u8) 0 tab_0]) := by
  refine fn_ok (fn := Tryd.f14) (N := 49) (res := fun r x => [bv r]) (Ω1 := fun r x => [tbO (rI .u8) 0 tab_0]) Tryd.func14 rfl rfl hm rfl (fun E hM => ?_)
  unfold law23_awake_m
  refine ref_seq (ref_region ?_)
  refine as1 rfl rfl ?_
  refine l_nil (n_then (ref_seq (ref_region ?_)))
  refine s_rd (r_build (ps := [(0, .const (.int .i64 (1))), (1, .const (.int .i64 (1)))]) (rs := [(0, [iv .i64 1]), (1, [iv .i64 1])]) st_36 zs_36 ⟨rfl, (part_at rfl iv_at), ⟨rfl, (part_at rfl iv_at), trivial⟩⟩ rfl rfl) rfl ?_
  refine s_st (s_alloc zt_36) rfl (fun b1 => ?_)
  refine s_st0 (s_cstore (out := [iv .i64 1, iv .i64 1]) Tryd.sizeOf36 rfl (j := 1) rfl (part_agO (ψs := [iv .i64 1, iv .i64 1]) rfl ⟨.inl iv_at, .inl iv_at, trivial⟩) rfl rfl rfl) (fun _ => ?_)
  refine l_nil (n_then (ref_seq (ref_region ?_)))
  refine s_rd (r_build (ps := [(0, .const (.int .i64 (0))), (1, .const (.int .i64 (1)))]) (rs := [(0, [iv .i64 0]), (1, [iv .i64 1])]) st_63 zs_63 ⟨rfl, (part_at rfl iv_at), ⟨rfl, (part_at rfl iv_at), trivial⟩⟩ rfl rfl) rfl ?_
  refine s_st (s_bslice (xs := [.tmp 9]) (ds := [(T_api_Pair.mk 0 1)]) Tryd.underlying25 el_63 rfl (Nat.le_of_ble_eq_true rfl) ⟨(part_agO (ψs := [iv .i64 0, iv .i64 1]) rfl ⟨.inl iv_at, .inl iv_at, trivial⟩), trivial⟩) rfl (fun _ => ?_)
  refine s_rd (r_build (ps := [(0, .const (.int .i64 (2))), (1, .tmp 10)]) (rs := [(0, [iv .i64 2]), (1, [slv rT_api_Pair [(T_api_Pair.mk 0 1)]])]) st_27 zs_27 ⟨rfl, (part_at rfl iv_at), ⟨rfl, (part_at rfl slv_at), trivial⟩⟩ rfl rfl) rfl ?_
  refine s_st (s_alloc zt_27) rfl (fun b2 => ?_)
  refine s_st0 (s_cstore (out := [iv .i64 2, slv rT_api_Pair [(T_api_Pair.mk 0 1)]]) Tryd.sizeOf27 rfl (j := 2) rfl (part_agO (ψs := [iv .i64 2, slv rT_api_Pair [(T_api_Pair.mk 0 1)]]) rfl ⟨.inl iv_at, .inl slv_at, trivial⟩) rfl rfl rfl) (fun _ => ?_)
  refine l_nil ?_
  refine b_of (nrm [tbO (rI .u8) 0 tab_0, oc b1 [iv .i64 1, iv .i64 1], oc b2 [iv .i64 2, slv rT_api_Pair [(T_api_Pair.mk 0 1)]]] rfl) ?_
  refine n_then (ref_seq (ref_region ?_))
  refine s_rd (r_build (ps := [(0, .const (.int .i64 (1))), (1, .const (.int .i64 (2)))]) (rs := [(0, [iv .i64 1]), (1, [iv .i64 2])]) st_36 zs_36 ⟨rfl, (part_at rfl iv_at), ⟨rfl, (part_at rfl iv_at), trivial⟩⟩ rfl rfl) rfl ?_
  refine s_rd (r_cloadS Tryd.isAgg36 Tryd.sizeOf36 rfl (j := 1) rfl rfl rfl) rfl ?_
  refine s_st (s_bslice (xs := [.tmp 12, .tmp 13]) (ds := [(T_api_Fraction.mk 1 2), (T_api_Fraction.mk 1 1)]) Tryd.underlying29 el_36 rfl (Nat.le_of_ble_eq_true rfl) ⟨(part_agO (ψs := [iv .i64 1, iv .i64 2]) rfl ⟨.inl iv_at, .inl iv_at, trivial⟩), ⟨(part_agO (ψs := [iv .i64 1, iv .i64 1]) rfl ⟨.inl iv_at, .inl iv_at, trivial⟩), trivial⟩⟩) rfl (fun _ => ?_)
  refine s_rd (r_cloadS Tryd.isAgg36 Tryd.sizeOf36 rfl (j := 1) rfl rfl rfl) rfl ?_
  refine s_st (s_bslice (xs := [.tmp 15]) (ds := [(T_api_Fraction.mk 1 1)]) Tryd.underlying29 el_36 rfl (Nat.le_of_ble_eq_true rfl) ⟨(part_agO (ψs := [iv .i64 1, iv .i64 1]) rfl ⟨.inl iv_at, .inl iv_at, trivial⟩), trivial⟩) rfl (fun _ => ?_)
  refine s_rd (r_build (ps := [(0, .tmp 14), (1, .tmp 16)]) (rs := [(0, [slv rT_api_Fraction [(T_api_Fraction.mk 1 2), (T_api_Fraction.mk 1 1)]]), (1, [slv rT_api_Fraction [(T_api_Fraction.mk 1 1)]])]) st_31 zs_31 ⟨rfl, (part_at rfl slv_at), ⟨rfl, (part_at rfl slv_at), trivial⟩⟩ rfl rfl) rfl ?_
  refine s_st (s_alloc zt_31) rfl (fun b3 => ?_)
  refine s_st0 (s_cstore (out := [slv rT_api_Fraction [(T_api_Fraction.mk 1 2), (T_api_Fraction.mk 1 1)], slv rT_api_Fraction [(T_api_Fraction.mk 1 1)]]) Tryd.sizeOf31 rfl (j := 3) rfl (part_agO (ψs := [slv rT_api_Fraction [(T_api_Fraction.mk 1 2), (T_api_Fraction.mk 1 1)], slv rT_api_Fraction [(T_api_Fraction.mk 1 1)]]) rfl ⟨.inl slv_at, .inl slv_at, trivial⟩) rfl rfl rfl) (fun _ => ?_)
  refine l_nil ?_
  refine b_of (nrm [tbO (rI .u8) 0 tab_0, oc b1 [iv .i64 1, iv .i64 1], oc b2 [iv .i64 2, slv rT_api_Pair [(T_api_Pair.mk 0 1)]], oc b3 [slv rT_api_Fraction [(T_api_Fraction.mk 1 2), (T_api_Fraction.mk 1 1)], slv rT_api_Fraction [(T_api_Fraction.mk 1 1)]]] rfl) ?_
  refine n_then (ref_seq (ref_region ?_))
  refine s_rd (r_cloadS Tryd.isAgg27 Tryd.sizeOf27 rfl (j := 2) rfl rfl rfl) rfl ?_
  refine s_rd (r_cloadS Tryd.isAgg31 Tryd.sizeOf31 rfl (j := 3) rfl rfl rfl) rfl ?_
  refine s_st (s_bslice (xs := [.const (.int .i64 (1))]) (ds := [1]) Tryd.underlying22 el_3 rfl (Nat.le_of_ble_eq_true rfl) ⟨(part_at rfl iv_at), trivial⟩) rfl (fun _ => ?_)
  refine pull fun t4 h_t4 => ?_
  refine s_st (s_callC [0] [true] (fun (_ : Unit) => [tbO (rI .u8) 0 tab_0]) (fun (_ : Unit) => []) (fun (_ : Unit) => tup [ag [iv .i64 t4.1.Num, iv .i64 t4.1.Den], iv .i64 t4.2]) (args := [.tmp 19, .tmp 20, .tmp 21, .const (.int .i64 (4))]) (caps := []) Tryd.call12 rfl (chance_Joint_ok h_t4) ⟨rfl, rfl, trivial⟩ (fun _ => rfl) (fun _ => trivial) (fun _ => rfl) ⟨arg rfl, arg rfl, arg rfl, arg rfl, trivial⟩ (fun _ _ _ _ h => h)) rfl (fun _ => ?_)
  refine mv1 rfl rfl ?_
  refine s_rd (r_extract rfl rfl) rfl ?_
  refine s_rd (r_extract rfl rfl) rfl ?_
  refine s_st (s_alloc zt_36) rfl (fun b5 => ?_)
  refine s_st0 (s_cstore (out := [iv .i64 t4.1.Num, iv .i64 t4.1.Den]) Tryd.sizeOf36 rfl (j := 4) rfl (part_agO (ψs := [iv .i64 t4.1.Num, iv .i64 t4.1.Den]) rfl ⟨.inl iv_at, .inl iv_at, trivial⟩) rfl rfl rfl) (fun _ => ?_)
  refine as1 rfl rfl ?_
  refine l_nil ?_
  refine b_of (nrm [tbO (rI .u8) 0 tab_0, oc b1 [iv .i64 1, iv .i64 1], oc b2 [iv .i64 2, slv rT_api_Pair [(T_api_Pair.mk 0 1)]], oc b3 [slv rT_api_Fraction [(T_api_Fraction.mk 1 2), (T_api_Fraction.mk 1 1)], slv rT_api_Fraction [(T_api_Fraction.mk 1 1)]], oc b5 [iv .i64 t4.1.Num, iv .i64 t4.1.Den]] rfl) ?_
  refine n_then (ref_seq (ref_region ?_))
  refine s_rd (r_cloadS Tryd.isAgg27 Tryd.sizeOf27 rfl (j := 2) rfl rfl rfl) rfl ?_
  refine s_rd (r_cloadS Tryd.isAgg31 Tryd.sizeOf31 rfl (j := 3) rfl rfl rfl) rfl ?_
  refine s_st (s_bslice (xs := [.const (.int .i64 (1))]) (ds := [1]) Tryd.underlying22 el_3 rfl (Nat.le_of_ble_eq_true rfl) ⟨(part_at rfl iv_at), trivial⟩) rfl (fun _ => ?_)
  refine s_st (s_bslice (xs := [.const (.int .i64 (0))]) (ds := [0]) Tryd.underlying22 el_3 rfl (Nat.le_of_ble_eq_true rfl) ⟨(part_at rfl iv_at), trivial⟩) rfl (fun _ => ?_)
  refine pull fun t6 h_t6 => ?_
  refine s_st (s_callC [0] [true] (fun (_ : Unit) => [tbO (rI .u8) 0 tab_0]) (fun (_ : Unit) => []) (fun (_ : Unit) => tup [ag [iv .i64 t6.1.Num, iv .i64 t6.1.Den], iv .i64 t6.2]) (args := [.tmp 26, .tmp 27, .tmp 28, .tmp 29, .const (.int .i64 (1))]) (caps := []) Tryd.call13 rfl (chance_Given_ok h_t6) ⟨rfl, rfl, trivial⟩ (fun _ => rfl) (fun _ => trivial) (fun _ => rfl) ⟨arg rfl, arg rfl, arg rfl, arg rfl, arg rfl, trivial⟩ (fun _ _ _ _ h => h)) rfl (fun _ => ?_)
  refine mv1 rfl rfl ?_
  refine s_rd (r_extract rfl rfl) rfl ?_
  refine s_rd (r_extract rfl rfl) rfl ?_
  refine s_st (s_alloc zt_36) rfl (fun b7 => ?_)
  refine s_st0 (s_cstore (out := [iv .i64 t6.1.Num, iv .i64 t6.1.Den]) Tryd.sizeOf36 rfl (j := 5) rfl (part_agO (ψs := [iv .i64 t6.1.Num, iv .i64 t6.1.Den]) rfl ⟨.inl iv_at, .inl iv_at, trivial⟩) rfl rfl rfl) (fun _ => ?_)
  refine as1 rfl rfl ?_
  refine l_nil ?_
  refine b_of (nrm [tbO (rI .u8) 0 tab_0, oc b1 [iv .i64 1, iv .i64 1], oc b2 [iv .i64 2, slv rT_api_Pair [(T_api_Pair.mk 0 1)]], oc b3 [slv rT_api_Fraction [(T_api_Fraction.mk 1 2), (T_api_Fraction.mk 1 1)], slv rT_api_Fraction [(T_api_Fraction.mk 1 1)]], oc b5 [iv .i64 t4.1.Num, iv .i64 t4.1.Den], oc b7 [iv .i64 t6.1.Num, iv .i64 t6.1.Den]] rfl) ?_
  refine n_then (ref_seq (ref_region ?_))
  refine mv1 rfl rfl ?_
  refine s_rd (r_eql rfl rfl) rfl ?_
  refine mv1 rfl rfl ?_
  refine b_split (t := 35) rfl (fun _ => ?_) (fun _ => ?_)
  · refine s_on rfl rfl rfl ?_
    refine mv1 rfl rfl ?_
    refine s_on rfl rfl rfl ?_
    refine s_rd (r_eql rfl rfl) rfl ?_
    refine s_rd (r_pickT rfl rfl) rfl ?_
    refine mv1 rfl rfl ?_
    refine b_split (t := 39) rfl (fun _ => ?_) (fun _ => ?_)
    · refine s_on rfl rfl rfl ?_
      refine s_rd (r_cloadS Tryd.isAgg36 Tryd.sizeOf36 rfl (j := 4) rfl rfl rfl) rfl ?_
      refine s_on rfl rfl rfl ?_
      refine s_rd (r_build (ps := [(0, .const (.int .i64 (1))), (1, .const (.int .i64 (2)))]) (rs := [(0, [iv .i64 1]), (1, [iv .i64 2])]) st_36 zs_36 ⟨rfl, (part_at rfl iv_at), ⟨rfl, (part_at rfl iv_at), trivial⟩⟩ rfl rfl) rfl ?_
      refine s_on rfl rfl rfl ?_
      refine s_rd (r_steql (u := t4.1) (v := (T_api_Fraction.mk 1 2)) eq_36 rfl rfl rfl rfl) rfl ?_
      refine s_rd (r_pickT rfl rfl) rfl ?_
      refine mv1 rfl rfl ?_
      refine b_split (t := 44) rfl (fun _ => ?_) (fun _ => ?_)
      · refine s_on rfl rfl rfl ?_
        refine s_rd (r_cloadS Tryd.isAgg36 Tryd.sizeOf36 rfl (j := 5) rfl rfl rfl) rfl ?_
        refine s_on rfl rfl rfl ?_
        refine s_rd (r_build (ps := [(0, .const (.int .i64 (0))), (1, .const (.int .i64 (1)))]) (rs := [(0, [iv .i64 0]), (1, [iv .i64 1])]) st_36 zs_36 ⟨rfl, (part_at rfl iv_at), ⟨rfl, (part_at rfl iv_at), trivial⟩⟩ rfl rfl) rfl ?_
        refine s_on rfl rfl rfl ?_
        refine s_rd (r_steql (u := t6.1) (v := (T_api_Fraction.mk 0 1)) eq_36 rfl rfl rfl rfl) rfl ?_
        refine s_rd (r_pickT rfl rfl) rfl ?_
        refine as1 rfl rfl ?_
        refine b_let (f := bv) (t := 0) rfl fun t8 => ?_
        refine l_nil (n_then (ref_ret ?_))
        exact fin1 (.inl rfl) () [0] rfl ⟨rfl, trivial⟩ rfl (rv_tmp rfl)
      refine s_off rfl rfl rfl rfl rfl ?_
      refine s_off rfl rfl rfl rfl rfl ?_
      refine s_off rfl rfl rfl rfl rfl ?_
      refine s_rd (r_pickF rfl rfl) rfl ?_
      refine as1 rfl rfl ?_
      refine l_nil (n_then (ref_ret ?_))
      exact fin1 (.inl rfl) () [0] rfl ⟨rfl, trivial⟩ rfl (rv_tmp rfl)
    refine s_off rfl rfl rfl rfl rfl ?_
    refine s_off rfl rfl rfl rfl rfl ?_
    refine s_off rfl rfl rfl rfl rfl ?_
    refine s_rd (r_pickF rfl rfl) rfl ?_
    refine mv1 rfl rfl ?_
    refine s_off rfl rfl rfl rfl rfl ?_
    refine s_off rfl rfl rfl rfl rfl ?_
    refine s_off rfl rfl rfl rfl rfl ?_
    refine s_rd (r_pickF rfl rfl) rfl ?_
    refine as1 rfl rfl ?_
    refine l_nil (n_then (ref_ret ?_))
    exact fin1 (.inl rfl) () [0] rfl ⟨rfl, trivial⟩ rfl (rv_tmp rfl)
  refine s_off rfl rfl rfl rfl rfl ?_
  refine s_off rfl rfl rfl rfl rfl ?_
  refine s_rd (r_pickF rfl rfl) rfl ?_
  refine mv1 rfl rfl ?_
  refine s_off rfl rfl rfl rfl rfl ?_
  refine s_off rfl rfl rfl rfl rfl ?_
  refine s_off rfl rfl rfl rfl rfl ?_
  refine s_rd (r_pickF rfl rfl) rfl ?_
  refine mv1 rfl rfl ?_
  refine s_off rfl rfl rfl rfl rfl ?_
  refine s_off rfl rfl rfl rfl rfl ?_
  refine s_off rfl rfl rfl rfl rfl ?_
  refine s_rd (r_pickF rfl rfl) rfl ?_
  refine as1 rfl rfl ?_
  refine l_nil (n_then (ref_ret ?_))
  exact fin1 (.inl rfl) () [0] rfl ⟨rfl, trivial⟩ rfl (rv_tmp rfl)

end Go.Dc
