/- Part LAW23P.A1 of a proof: lemmas. -/
import Derived.Test.YtkcaadcoagimdaaDoorLAW23PA0
import Derived.Test.YtkcaadcoagimdaaDoorProg
set_option linter.unusedVariables false
set_option maxRecDepth 100000
set_option maxHeartbeats 4000000
namespace Go.Dc
open Go.Proofs
open Go.Proofs.Tryd (prog)

/-! deliberation/network.subsets -/
noncomputable def network_subsets_l1 (s_0 : Int) (e_0 : Int) (e_1 : T_network_Net) (e_2 : Int) (e_3 : Bool) (s11 : Int × Bool) : Option (Sum (Bool) (Int × Bool)) :=
  Option.bind (network_Net_Answer_1_m s11.1 e_0 e_1 e_2 e_3 s11.2) fun t13 =>
  bif !t13.1 then
    some (Sum.inl t13.2)
  else
    bif s11.1 == 0 then
      some (Sum.inl t13.2)
    else
      letM (iand .u64 (isub .u64 s11.1 1) s_0) fun x15 =>
      some (Sum.inr (x15, t13.2))

noncomputable def network_subsets_m (s_0 : Int) (e_0 : Int) (e_1 : T_network_Net) (e_2 : Int) (e_3 : Bool) (e_4 : Bool) : Option (Bool) :=
  Option.bind (loopC (network_subsets_l1 s_0 e_0 e_1 e_2 e_3) (s_0, e_4)) (fun a : Bool => some a)

theorem network_subsets_ok {s_0 : Int} {e_0 : Int} {e_1 : T_network_Net} {e_2 : Int} {e_3 : Bool} {e_4 : Bool} {be_0 : Nat} {be_1 : Nat} {be_2 : Nat} {be_3 : Nat} {be_4 : Nat} {r : Bool} (hm : network_subsets_m s_0 e_0 e_1 e_2 e_3 e_4 = some r) :
    FnOk prog 77 [iv .u64 s_0, pv (.func (.func 78) #[] #[(ptr be_0 0), (ptr be_1 0), (ptr be_2 0), (ptr be_3 0), (ptr be_4 0)])] [oc be_0 [iv .i64 e_0], oc be_1 [iv .u64 e_1.All, slv (rI .u64) e_1.By, slv (rI .u64) e_1.Out], oc be_2 [iv .i64 e_2], oc be_3 [bv e_3], oc be_4 [bv e_4], tbO (rI .u8) 0 tab_0] (fun (x : Unit) => []) (fun (x : Unit) => [oc be_0 [iv .i64 e_0], oc be_1 [iv .u64 e_1.All, slv (rI .u64) e_1.By, slv (rI .u64) e_1.Out], oc be_2 [iv .i64 e_2], oc be_3 [bv e_3], oc be_4 [bv r], tbO (rI .u8) 0 tab_0]) := by
  refine fn_ok (fn := Tryd.f77) (N := 18) (res := fun r x => []) (Ω1 := fun r x => [oc be_0 [iv .i64 e_0], oc be_1 [iv .u64 e_1.All, slv (rI .u64) e_1.By, slv (rI .u64) e_1.Out], oc be_2 [iv .i64 e_2], oc be_3 [bv e_3], oc be_4 [bv r], tbO (rI .u8) 0 tab_0]) Tryd.func77 rfl rfl hm rfl (fun E hM => ?_)
  unfold network_subsets_m
  refine ref_seq (ref_region ?_)
  refine mv1 rfl rfl ?_
  refine as1 rfl rfl ?_
  refine l_nil (n_then ?_)
  refine ref_block (ref_loop (f := (network_subsets_l1 s_0 e_0 e_1 e_2 e_3)) (Γl := (fun (s11 : Int × Bool) (x12 : Unit) => [(0, iv .u64 s_0), (1, pv (.func (.func 78) #[] #[(ptr be_0 0), (ptr be_1 0), (ptr be_2 0), (ptr be_3 0), (ptr be_4 0)])), (4, iv .u64 s11.1)])) (Ωl := (fun (s11 : Int × Bool) (x12 : Unit) => [tbO (rI .u8) 0 tab_0, oc be_0 [iv .i64 e_0], oc be_1 [iv .u64 e_1.All, slv (rI .u64) e_1.By, slv (rI .u64) e_1.Out], oc be_2 [iv .i64 e_2], oc be_3 [bv e_3], oc be_4 [bv s11.2]])) (k := (fun a : Bool => some a)) (s_0, e_4) () (weak [5, 0, 1, 2, 3, 4] ⟨rfl, rfl, rfl, trivial⟩ ⟨rfl, rfl, rfl, rfl, rfl, rfl, trivial⟩) (fun s11 x12 => ?_))
  · unfold network_subsets_l1
    refine ref_seq (ref_block (ref_seq (ref_region ?_)))
    refine mv1 rfl rfl ?_
    refine mv1 rfl rfl ?_
    refine pull fun t13 h_t13 => ?_
    refine s_st (s_callC [1, 2, 3, 4, 5, 0] [true, true, true, true, true, true] (fun (_ : Unit) => [oc be_0 [iv .i64 e_0], oc be_1 [iv .u64 e_1.All, slv (rI .u64) e_1.By, slv (rI .u64) e_1.Out], oc be_2 [iv .i64 e_2], oc be_3 [bv e_3], oc be_4 [bv t13.2], tbO (rI .u8) 0 tab_0]) (fun (_ : Unit) => []) (fun (_ : Unit) => bv t13.1) (args := [.tmp 11]) (caps := [(ptr be_0 0), (ptr be_1 0), (ptr be_2 0), (ptr be_3 0), (ptr be_4 0)]) Tryd.call78 rfl (network_Net_Answer_1_ok h_t13) ⟨rfl, rfl, ⟨rfl, rfl, ⟨rfl, rfl, ⟨rfl, rfl, ⟨rfl, rfl, ⟨rfl, rfl, trivial⟩⟩⟩⟩⟩⟩ (fun _ => rfl) (fun _ => trivial) (fun _ => rfl) ⟨arg rfl, arg rfl, arg rfl, arg rfl, arg rfl, arg rfl, trivial⟩ (fun _ _ _ _ h => h)) rfl (fun _ => ?_)
    refine s_rd (r_not rfl) rfl ?_
    refine mv1 rfl rfl ?_
    refine b_split (t := 14) rfl (fun _ => ?_) (fun _ => ?_)
    · refine s_off rfl rfl rfl rfl rfl ?_
      refine s_off rfl rfl rfl rfl rfl ?_
      refine s_rd (r_pickT rfl rfl) rfl ?_
      refine l_nil ?_
      refine b_of (nrm [tbO (rI .u8) 0 tab_0, oc be_0 [iv .i64 e_0], oc be_1 [iv .u64 e_1.All, slv (rI .u64) e_1.By, slv (rI .u64) e_1.Out], oc be_2 [iv .i64 e_2], oc be_3 [bv e_3], oc be_4 [bv t13.2]] rfl) ?_
      refine n_then ?_
      refine ref_condT rfl rfl ?_
      refine ref_ret (r_block (r_then ?_))
      refine r_loop ?_
      refine r_block ?_
      exact fin0 (.inl rfl) () [1, 2, 3, 4, 5, 0] rfl ⟨rfl, rfl, rfl, rfl, rfl, rfl, trivial⟩ rfl 
    refine s_on rfl rfl rfl ?_
    refine mv1 rfl rfl ?_
    refine s_on rfl rfl rfl ?_
    refine s_rd (r_eql rfl rfl) rfl ?_
    refine s_rd (r_pickF rfl rfl) rfl ?_
    refine l_nil ?_
    refine b_of (nrm [tbO (rI .u8) 0 tab_0, oc be_0 [iv .i64 e_0], oc be_1 [iv .u64 e_1.All, slv (rI .u64) e_1.By, slv (rI .u64) e_1.Out], oc be_2 [iv .i64 e_2], oc be_3 [bv e_3], oc be_4 [bv t13.2]] rfl) ?_
    refine n_then ?_
    refine ref_cond rfl (fun hb14 => ?_) (fun hb14 => ?_)
    · refine ref_ret (r_block (r_then ?_))
      refine r_loop ?_
      refine r_block ?_
      exact fin0 (.inl rfl) () [1, 2, 3, 4, 5, 0] rfl ⟨rfl, rfl, rfl, rfl, rfl, rfl, trivial⟩ rfl 
    refine ref_skip (n_block (n_then (ref_region ?_)))
    refine mv1 rfl rfl ?_
    refine s_rd (r_sub rfl rfl) rfl ?_
    refine mv1 rfl rfl ?_
    refine s_rd (r_and rfl rfl) rfl ?_
    refine as1 rfl rfl ?_
    refine b_let (f := iv .u64) (t := 4) rfl fun x15 => ?_
    refine l_nil ?_
    exact n_loop () (weak [0, 1, 2, 3, 4, 5] ⟨rfl, rfl, rfl, trivial⟩ ⟨rfl, rfl, rfl, rfl, rfl, rfl, trivial⟩)

/-! (deliberation/network.Net).Answer -/
noncomputable def network_Net_Answer_m (n_0 : T_network_Net) (question_1 : Int) (node_2 : Int) : Option (Bool) :=
  bif question_1 == 4 then
    Option.bind (network_Net_In_m n_0) fun t5 =>
    Option.bind (network_Set_Has_m t5 node_2) fun t6 =>
    some t6
  else
    Option.bind (network_subsets_m n_0.All question_1 n_0 node_2 (question_1 == 3) (question_1 == 3)) fun t9 =>
    some t9

theorem network_Net_Answer_ok {n_0 : T_network_Net} {question_1 : Int} {node_2 : Int} {r : Bool} (hm : network_Net_Answer_m n_0 question_1 node_2 = some r) :
    FnOk prog 60 [ag [iv .u64 n_0.All, slv (rI .u64) n_0.By, slv (rI .u64) n_0.Out], iv .i64 question_1, iv .i64 node_2] [tbO (rI .u8) 0 tab_0] (fun (x : Unit) => [bv r]) (fun (x : Unit) => [tbO (rI .u8) 0 tab_0]) := by
  refine fn_ok (fn := Tryd.f60) (N := 23) (res := fun r x => [bv r]) (Ω1 := fun r x => [tbO (rI .u8) 0 tab_0]) Tryd.func60 rfl rfl hm rfl (fun E hM => ?_)
  unfold network_Net_Answer_m
  refine ref_seq (ref_region ?_)
  refine s_st (s_box (part_agO (ψs := [iv .u64 n_0.All, slv (rI .u64) n_0.By, slv (rI .u64) n_0.Out]) rfl ⟨.inl iv_at, .inl slv_at, .inl slv_at, trivial⟩)) rfl (fun b1 => ?_)
  refine s_st (s_box (part_at rfl iv_at)) rfl (fun b2 => ?_)
  refine s_st (s_box (part_at rfl iv_at)) rfl (fun b3 => ?_)
  refine as1 rfl rfl ?_
  refine l_nil (n_then (ref_seq (ref_seq (ref_region ?_))))
  refine s_rd (r_cload Tryd.isAgg3 rfl (j := 2) rfl rfl) rfl ?_
  refine s_rd (r_eql rfl rfl) rfl ?_
  refine l_nil (n_then ?_)
  refine ref_cond rfl (fun hb4 => ?_) (fun hb4 => ?_)
  · refine ref_seq ?_
    refine ref_draw [0, 2] rfl (by kernel_rfl) (fun hok => ?_)
    refine a_rd (i := 0) hok rfl (by kernel_rfl) rfl (r_cloadS Tryd.isAgg74 Tryd.sizeOf74 rfl (j := 1) rfl rfl rfl) rfl ?_
    refine a_rd (i := 2) hok rfl (by kernel_rfl) rfl (r_cload Tryd.isAgg3 rfl (j := 3) rfl rfl) rfl ?_
    refine pull fun t5 h_t5 => ?_
    refine a_next hok 1 [] (by kernel_rfl) ?_ trivial
    refine a_st (i := 1) hok rfl rfl (s_callC [0] [true] (fun (_ : Unit) => [tbO (rI .u8) 0 tab_0]) (fun (_ : Unit) => []) (fun (_ : Unit) => iv .u64 t5) (args := [.tmp 11]) (caps := []) Tryd.call39 rfl (network_Net_In_ok h_t5) ⟨rfl, rfl, trivial⟩ (fun _ => rfl) (fun _ => trivial) (fun _ => rfl) ⟨arg rfl, trivial⟩ (fun _ _ _ _ h => h)) (by intro _ h; cases h; rfl) (fun _ => ⟨⟨⟨rfl, rfl⟩, trivial⟩, ⟨trivial, trivial⟩⟩) (fun _ => ?_)
    refine pull fun t6 h_t6 => ?_
    refine a_next hok 3 [] (by kernel_rfl) ?_ trivial
    refine a_st (i := 3) hok rfl rfl (s_call (ψ := fun (_ : Unit) => bv t6) (args := [.tmp 12, .tmp 13]) Tryd.call76 rfl (network_Set_Has_ok h_t6) ⟨arg rfl, arg rfl, trivial⟩ (fun _ _ _ _ h => h)) (by intro _ h; cases h; rfl) (fun _ => ⟨trivial, ⟨⟨⟨rfl, rfl⟩, trivial⟩, trivial⟩⟩) (fun _ => ?_)
    refine a_next hok 4 [] (by kernel_rfl) ?_ trivial
    refine a_st (i := 4) hok rfl rfl (St.ofRd (r_assign rfl)) (by intro _ h; cases h; rfl) (fun _ => ⟨trivial, ⟨trivial, trivial⟩⟩) (fun _ => ?_)
    refine a_fin hok (by kernel_rfl) ?_
    refine b_of (nrm [tbO (rI .u8) 0 tab_0, oc b1 [iv .u64 n_0.All, slv (rI .u64) n_0.By, slv (rI .u64) n_0.Out], oc b2 [iv .i64 question_1], oc b3 [iv .i64 node_2]] rfl) ?_
    refine n_then (ref_ret (r_then ?_))
    exact fin1 (.inl rfl) () [0] rfl ⟨rfl, trivial⟩ rfl (rv_tmp rfl)
  refine ref_skip (n_then (ref_seq (ref_region ?_)))
  refine s_rd (r_cload Tryd.isAgg3 rfl (j := 2) rfl rfl) rfl ?_
  refine s_rd (r_eql rfl rfl) rfl ?_
  refine s_st (s_alloc zt_4) rfl (fun b7 => ?_)
  refine s_st0 (s_cstore (out := [bv (question_1 == 3)]) Tryd.sizeOf4 rfl (j := 4) rfl (part_at rfl bv_at) rfl rfl rfl) (fun _ => ?_)
  refine l_nil ?_
  refine b_of (nrm [tbO (rI .u8) 0 tab_0, oc b1 [iv .u64 n_0.All, slv (rI .u64) n_0.By, slv (rI .u64) n_0.Out], oc b2 [iv .i64 question_1], oc b3 [iv .i64 node_2], oc b7 [bv (question_1 == 3)]] rfl) ?_
  refine n_then (ref_seq (ref_region ?_))
  refine s_rd (r_cload Tryd.isAgg4 rfl (j := 4) rfl rfl) rfl ?_
  refine s_st (s_alloc zt_4) rfl (fun b8 => ?_)
  refine s_st0 (s_cstore (out := [bv (question_1 == 3)]) Tryd.sizeOf4 rfl (j := 5) rfl (part_at rfl bv_at) rfl rfl rfl) (fun _ => ?_)
  refine l_nil (n_then (ref_seq (ref_region ?_)))
  refine s_rd (r_faddr (fo := 0) Tryd.underlying74 rfl rfl Tryd.sizeOf67 rfl) rfl ?_
  refine s_rd (r_cload Tryd.isAgg67 rfl (j := 1) rfl rfl) rfl ?_
  refine s_rd (r_mkfn (xs := [.tmp 4, .tmp 3, .tmp 5, .tmp 7, .tmp 8]) (vs := [(ptr b2 0), (ptr b1 0), (ptr b3 0), (ptr b7 0), (ptr b8 0)]) ⟨rfl, rfl, rfl, rfl, rfl, trivial⟩) rfl ?_
  refine pull fun t9 h_t9 => ?_
  refine s_st (s_callC [2, 1, 3, 4, 5, 0] [true, true, true, true, true, true] (fun (_ : Unit) => [oc b2 [iv .i64 question_1], oc b1 [iv .u64 n_0.All, slv (rI .u64) n_0.By, slv (rI .u64) n_0.Out], oc b3 [iv .i64 node_2], oc b7 [bv (question_1 == 3)], oc b8 [bv t9], tbO (rI .u8) 0 tab_0]) (fun (_ : Unit) => []) (fun (_ : Unit) => tup []) (args := [.tmp 19, .tmp 20]) (caps := []) Tryd.call77 rfl (network_subsets_ok h_t9) ⟨rfl, rfl, ⟨rfl, rfl, ⟨rfl, rfl, ⟨rfl, rfl, ⟨rfl, rfl, ⟨rfl, rfl, trivial⟩⟩⟩⟩⟩⟩ (fun _ => rfl) (fun _ => trivial) (fun _ => rfl) ⟨arg rfl, arg rfl, trivial⟩ (fun _ _ _ _ h => h)) rfl (fun _ => ?_)
  refine l_nil ?_
  refine b_of (nrm [tbO (rI .u8) 0 tab_0, oc b1 [iv .u64 n_0.All, slv (rI .u64) n_0.By, slv (rI .u64) n_0.Out], oc b2 [iv .i64 question_1], oc b3 [iv .i64 node_2], oc b7 [bv (question_1 == 3)], oc b8 [bv t9]] rfl) ?_
  refine n_then (ref_seq (ref_region ?_))
  refine s_rd (r_cload Tryd.isAgg4 rfl (j := 5) rfl rfl) rfl ?_
  refine as1 rfl rfl ?_
  refine l_nil (n_then (ref_ret ?_))
  exact fin1 (.inl rfl) () [0] rfl ⟨rfl, trivial⟩ rfl (rv_tmp rfl)

/-! deliberation/chance.joint$1 -/
noncomputable def chance_joint_1_l1 (n_0 : T_network_Net) (p_3 : Int) (p_4 : Int) (t3 : List Int) (s11 : Int) : Option (Sum ((Sum (Int) (Unit))) (Int)) :=
  bif decide (s11 < (t3.length : Int)) then
    Option.bind (idxM t3 s11) fun x14 =>
    Option.bind (network_Net_Answer_m n_0 p_3 x14) fun t15 =>
    bif !t15 then
      some (Sum.inl (Sum.inl p_4))
    else
      some (Sum.inr (iadd .i64 s11 1))
  else
    some (Sum.inl (Sum.inr ()))

noncomputable def chance_joint_1_m (n_0 : T_network_Net) (weight_1 : Int) (p_2 : Int) (p_3 : Int) (p_4 : Int) : Option (Int) :=
  bif (iandn .u64 p_2 n_0.All) != 0 then
    some p_4
  else
    Option.bind (network_Set_List_m p_2) fun t3 =>
    Option.bind (loopC (chance_joint_1_l1 n_0 p_3 p_4 t3) 0) (sumK (fun a : Int => some a) fun q17 : Unit =>
      some (iadd .i64 p_4 weight_1))

theorem chance_joint_1_ok {n_0 : T_network_Net} {weight_1 : Int} {p_2 : Int} {p_3 : Int} {p_4 : Int} {b_2 : Nat} {b_3 : Nat} {b_4 : Nat} {r : Int} (hm : chance_joint_1_m n_0 weight_1 p_2 p_3 p_4 = some r) :
    FnOk prog 58 [ag [iv .u64 n_0.All, slv (rI .u64) n_0.By, slv (rI .u64) n_0.Out], iv .i64 weight_1, pv (ptr b_2 0), pv (ptr b_3 0), pv (ptr b_4 0)] [oc b_2 [iv .u64 p_2], oc b_3 [iv .i64 p_3], oc b_4 [iv .i64 p_4], tbO (rI .u8) 0 tab_0] (fun (x : Unit) => []) (fun (x : Unit) => [oc b_2 [iv .u64 p_2], oc b_3 [iv .i64 p_3], oc b_4 [iv .i64 r], tbO (rI .u8) 0 tab_0]) := by
  refine fn_ok (fn := Tryd.f58) (N := 30) (res := fun r x => []) (Ω1 := fun r x => [oc b_2 [iv .u64 p_2], oc b_3 [iv .i64 p_3], oc b_4 [iv .i64 r], tbO (rI .u8) 0 tab_0]) Tryd.func58 rfl rfl hm rfl (fun E hM => ?_)
  unfold chance_joint_1_m
  refine ref_seq (ref_region ?_)
  refine s_st (s_box (part_agO (ψs := [iv .u64 n_0.All, slv (rI .u64) n_0.By, slv (rI .u64) n_0.Out]) rfl ⟨.inl iv_at, .inl slv_at, .inl slv_at, trivial⟩)) rfl (fun b1 => ?_)
  refine l_nil (n_then (ref_seq (ref_seq (ref_region ?_))))
  refine s_rd (r_cload Tryd.isAgg67 rfl (j := 0) rfl rfl) rfl ?_
  refine s_rd (r_faddr (fo := 0) Tryd.underlying74 rfl rfl Tryd.sizeOf67 rfl) rfl ?_
  refine s_rd (r_cload Tryd.isAgg67 rfl (j := 4) rfl rfl) rfl ?_
  refine s_rd (r_andn rfl rfl) rfl ?_
  refine s_rd (r_neq rfl rfl) rfl ?_
  refine l_nil (n_then ?_)
  refine ref_cond rfl (fun hb2 => ?_) (fun hb2 => ?_)
  · refine ref_ret (r_then ?_)
    exact fin0 (.inl rfl) () [0, 1, 2, 3] rfl ⟨rfl, rfl, rfl, rfl, trivial⟩ rfl 
  refine ref_skip (n_then (ref_seq (ref_seq (ref_region ?_))))
  refine s_rd (r_cload Tryd.isAgg67 rfl (j := 0) rfl rfl) rfl ?_
  refine pull fun t3 h_t3 => ?_
  refine s_st (s_callC [3] [true] (fun (x4 : (Value × List Nat)) => [tbO (rI .u8) 0 tab_0]) (fun (x4 : (Value × List Nat)) => [oa (rI .i64) x4.1 x4.2 t3]) (fun (x4 : (Value × List Nat)) => pv x4.1) (args := [.tmp 14]) (caps := []) Tryd.call59 rfl (network_Set_List_ok h_t3) ⟨rfl, rfl, trivial⟩ (fun _ => rfl) (fun _ => trivial) (fun _ => rfl) ⟨arg rfl, trivial⟩ (fun _ _ _ _ h => h)) rfl (fun x4 => ?_)
  refine s_rd (r_olen Tryd.underlying22 rfl (j := 5) rfl) rfl ?_
  refine mv1 rfl rfl ?_
  refine l_nil (n_then ?_)
  refine ref_loopX (f := (chance_joint_1_l1 n_0 p_3 p_4 t3)) (Γl := (fun (s11 : Int) (x12 : Unit) => [(1, iv .i64 weight_1), (2, pv (ptr b_2 0)), (3, pv (ptr b_3 0)), (4, pv (ptr b_4 0)), (5, pv (ptr b1 0)), (15, pv x4.1), (16, iv .i64 (t3.length : Int)), (17, iv .i64 s11)])) (Ωl := (fun (s11 : Int) (x12 : Unit) => [tbO (rI .u8) 0 tab_0, oc b_2 [iv .u64 p_2], oc b_3 [iv .i64 p_3], oc b_4 [iv .i64 p_4], oc b1 [iv .u64 n_0.All, slv (rI .u64) n_0.By, slv (rI .u64) n_0.Out], oa (rI .i64) x4.1 x4.2 t3])) (Γb := (fun (q17 : Unit) (y18 : Unit) => [(1, iv .i64 weight_1), (2, pv (ptr b_2 0)), (3, pv (ptr b_3 0)), (4, pv (ptr b_4 0))])) (Ωb := (fun (q17 : Unit) (y18 : Unit) => [oc b_2 [iv .u64 p_2], oc b_3 [iv .i64 p_3], oc b_4 [iv .i64 p_4], tbO (rI .u8) 0 tab_0])) (kr := (fun a : Int => some a)) 0 () (weak [3, 0, 1, 2, 4, 5] ⟨rfl, rfl, rfl, rfl, rfl, rfl, rfl, rfl, trivial⟩ ⟨rfl, rfl, rfl, rfl, rfl, rfl, trivial⟩) (fun s11 x12 => ?_) (fun q17 y18 => ?_)
  · unfold chance_joint_1_l1
    refine ref_seq (ref_region ?_)
    refine s_rd (r_lss rfl rfl) rfl ?_
    refine l_nil (n_then (ref_seq ?_))
    refine ref_cond rfl (fun hb13 => ?_) (fun hb13 => ?_)
    · refine ref_skip (n_then (ref_seq (ref_block (ref_seq (ref_region ?_)))))
      refine pull fun x14 h_x14 => ?_
      refine s_rd (r_oindex h_x14 Tryd.underlying22 el_3 rfl (j := 5) rfl rfl) rfl ?_
      refine s_rd (r_oload h_x14 el_3 rfl (j := 5) rfl) rfl ?_
      refine as1 rfl rfl ?_
      refine l_nil (n_then (ref_seq (ref_region ?_)))
      refine s_rd (r_cloadS Tryd.isAgg74 Tryd.sizeOf74 rfl (j := 4) rfl rfl rfl) rfl ?_
      refine s_rd (r_cload Tryd.isAgg3 rfl (j := 2) rfl rfl) rfl ?_
      refine mv1 rfl rfl ?_
      refine pull fun t15 h_t15 => ?_
      refine s_st (s_callC [0] [true] (fun (_ : Unit) => [tbO (rI .u8) 0 tab_0]) (fun (_ : Unit) => []) (fun (_ : Unit) => bv t15) (args := [.tmp 21, .tmp 22, .tmp 23]) (caps := []) Tryd.call60 rfl (network_Net_Answer_ok h_t15) ⟨rfl, rfl, trivial⟩ (fun _ => rfl) (fun _ => trivial) (fun _ => rfl) ⟨arg rfl, arg rfl, arg rfl, trivial⟩ (fun _ _ _ _ h => h)) rfl (fun _ => ?_)
      refine s_rd (r_not rfl) rfl ?_
      refine l_nil (n_then ?_)
      refine ref_cond rfl (fun hb16 => ?_) (fun hb16 => ?_)
      · refine ref_ret (r_block (r_then ?_))
        refine retX ?_
        refine r_block (r_then ?_)
        exact fin0 (.inl rfl) () [1, 2, 3, 0] rfl ⟨rfl, rfl, rfl, rfl, trivial⟩ rfl 
      refine ref_skip (n_block (n_then (ref_region ?_)))
      refine s_rd (r_add rfl rfl) rfl ?_
      refine mv1 rfl rfl ?_
      refine l_nil ?_
      exact goX () (weak [0, 1, 2, 3, 4, 5] ⟨rfl, rfl, rfl, rfl, rfl, rfl, rfl, rfl, trivial⟩ ⟨rfl, rfl, rfl, rfl, rfl, rfl, trivial⟩)
    refine ref_exit (x_then ?_)
    exact brkX () (weak [1, 2, 3, 0] ⟨rfl, rfl, rfl, rfl, trivial⟩ ⟨rfl, rfl, rfl, rfl, trivial⟩)
  refine n_then (ref_region ?_)
  refine s_rd (r_cload Tryd.isAgg3 rfl (j := 2) rfl rfl) rfl ?_
  refine mv1 rfl rfl ?_
  refine s_rd (r_add rfl rfl) rfl ?_
  refine s_st0 (s_cstore (out := [iv .i64 (iadd .i64 p_4 weight_1)]) Tryd.sizeOf3 rfl (j := 2) rfl (part_at rfl iv_at) rfl rfl rfl) (fun _ => ?_)
  refine l_nil ?_
  exact fin0 (.inr rfl) () [0, 1, 2, 3] rfl ⟨rfl, rfl, rfl, rfl, trivial⟩ rfl 

/-! deliberation/chance.worlds$1 -/
noncomputable def chance_worlds_1_b (rec_ : Int → Int → (List T_api_Fraction) → Int → Int → Int → T_api_Graph → (List Bool) → Option (Int × (List Bool))) (i_0 : Int) (weight_1 : Int) (p_2 : (List T_api_Fraction)) (e_3 : Int) (e_4 : Int) (e_5 : Int) (p_4 : T_api_Graph) (p_5 : (List Bool)) : Option (Int × (List Bool)) :=
  bif i_0 == (p_2.length : Int) then
    Option.bind (chance_world_m p_4 p_5) fun t2 =>
    Option.bind (chance_joint_1_m t2 weight_1 e_3 e_4 e_5) fun t3 =>
    some (t3, p_5)
  else
    Option.bind (idxM p_2 i_0) fun t4 =>
    Option.bind (chance_certain_m t4) fun t6 =>
    bif t6 then
      Option.bind (idxM p_5 i_0) fun t8 =>
      Option.bind (rec_ (iadd .i64 i_0 1) weight_1 p_2 e_3 e_4 e_5 p_4 (p_5.set (Int.toNat i_0) (t4.Num != 0))) fun t9 =>
      some (t9.1, t9.2)
    else
      Option.bind (idxM p_5 i_0) fun t10 =>
      Option.bind (rec_ (iadd .i64 i_0 1) (imul .i64 weight_1 t4.Num) p_2 e_3 e_4 e_5 p_4 (p_5.set (Int.toNat i_0) true)) fun t11 =>
      Option.bind (idxM t11.2 i_0) fun t12 =>
      Option.bind (rec_ (iadd .i64 i_0 1) (imul .i64 weight_1 (isub .i64 t4.Den t4.Num)) p_2 e_3 e_4 t11.1 p_4 (t11.2.set (Int.toNat i_0) false)) fun t13 =>
      some (t13.1, t13.2)

noncomputable def chance_worlds_1_n : Nat → Int → Int → (List T_api_Fraction) → Int → Int → Int → T_api_Graph → (List Bool) → Option (Int × (List Bool))
  | 0 => fun _ _ _ _ _ _ _ _ => none
  | n_ + 1 => chance_worlds_1_b (chance_worlds_1_n n_)

noncomputable def chance_worlds_1_m (i_0 : Int) (weight_1 : Int) (p_2 : (List T_api_Fraction)) (e_3 : Int) (e_4 : Int) (e_5 : Int) (p_4 : T_api_Graph) (p_5 : (List Bool)) : Option (Int × (List Bool)) := recC fun n_ => chance_worlds_1_n n_ i_0 weight_1 p_2 e_3 e_4 e_5 p_4 p_5

theorem chance_worlds_1_step (rec_ : Int → Int → (List T_api_Fraction) → Int → Int → Int → T_api_Graph → (List Bool) → Option (Int × (List Bool))) (ih : ∀ {i_0 : Int} {weight_1 : Int} {p_2 : (List T_api_Fraction)} {e_3 : Int} {e_4 : Int} {e_5 : Int} {p_4 : T_api_Graph} {p_5 : (List Bool)} {b_2 : Nat} {h_1 : Value × List Nat} {b_3 : Nat} {be_3 : Nat} {be_4 : Nat} {be_5 : Nat} {b_4 : Nat} {b_5 : Nat} {h_8 : Value × List Nat} {b_6 : Nat} {r : Int × (List Bool)}, rec_ i_0 weight_1 p_2 e_3 e_4 e_5 p_4 p_5 = some r →
    FnOk prog 62 [iv .i64 i_0, iv .i64 weight_1, pv (ptr b_2 0), pv (ptr b_3 0), pv (ptr b_4 0), pv (ptr b_5 0), pv (ptr b_6 0)] [oc b_2 [pv h_1.1], oa rT_api_Fraction h_1.1 h_1.2 p_2, oc b_3 [pv (.func (.func 58) #[] #[(ptr be_3 0), (ptr be_4 0), (ptr be_5 0)])], oc be_3 [iv .u64 e_3], oc be_4 [iv .i64 e_4], oc be_5 [iv .i64 e_5], oc b_4 [iv .i64 p_4.N, slv rT_api_Pair p_4.L], oc b_5 [pv h_8.1], oa rB h_8.1 h_8.2 p_5, oc b_6 [pv (.func (.func 62) #[] #[(ptr b_2 0), (ptr b_3 0), (ptr b_4 0), (ptr b_5 0), (ptr b_6 0)])], tbO (rI .u8) 0 tab_0] (fun (x : Unit) => []) (fun (x : Unit) => [oc b_2 [pv h_1.1], oa rT_api_Fraction h_1.1 h_1.2 p_2, oc b_3 [pv (.func (.func 58) #[] #[(ptr be_3 0), (ptr be_4 0), (ptr be_5 0)])], oc be_3 [iv .u64 e_3], oc be_4 [iv .i64 e_4], oc be_5 [iv .i64 r.1], oc b_4 [iv .i64 p_4.N, slv rT_api_Pair p_4.L], oc b_5 [pv h_8.1], oa rB h_8.1 h_8.2 r.2, oc b_6 [pv (.func (.func 62) #[] #[(ptr b_2 0), (ptr b_3 0), (ptr b_4 0), (ptr b_5 0), (ptr b_6 0)])], tbO (rI .u8) 0 tab_0])) {i_0 : Int} {weight_1 : Int} {p_2 : (List T_api_Fraction)} {e_3 : Int} {e_4 : Int} {e_5 : Int} {p_4 : T_api_Graph} {p_5 : (List Bool)} {b_2 : Nat} {h_1 : Value × List Nat} {b_3 : Nat} {be_3 : Nat} {be_4 : Nat} {be_5 : Nat} {b_4 : Nat} {b_5 : Nat} {h_8 : Value × List Nat} {b_6 : Nat} {r : Int × (List Bool)} (hm : chance_worlds_1_b rec_ i_0 weight_1 p_2 e_3 e_4 e_5 p_4 p_5 = some r) :
    FnOk prog 62 [iv .i64 i_0, iv .i64 weight_1, pv (ptr b_2 0), pv (ptr b_3 0), pv (ptr b_4 0), pv (ptr b_5 0), pv (ptr b_6 0)] [oc b_2 [pv h_1.1], oa rT_api_Fraction h_1.1 h_1.2 p_2, oc b_3 [pv (.func (.func 58) #[] #[(ptr be_3 0), (ptr be_4 0), (ptr be_5 0)])], oc be_3 [iv .u64 e_3], oc be_4 [iv .i64 e_4], oc be_5 [iv .i64 e_5], oc b_4 [iv .i64 p_4.N, slv rT_api_Pair p_4.L], oc b_5 [pv h_8.1], oa rB h_8.1 h_8.2 p_5, oc b_6 [pv (.func (.func 62) #[] #[(ptr b_2 0), (ptr b_3 0), (ptr b_4 0), (ptr b_5 0), (ptr b_6 0)])], tbO (rI .u8) 0 tab_0] (fun (x : Unit) => []) (fun (x : Unit) => [oc b_2 [pv h_1.1], oa rT_api_Fraction h_1.1 h_1.2 p_2, oc b_3 [pv (.func (.func 58) #[] #[(ptr be_3 0), (ptr be_4 0), (ptr be_5 0)])], oc be_3 [iv .u64 e_3], oc be_4 [iv .i64 e_4], oc be_5 [iv .i64 r.1], oc b_4 [iv .i64 p_4.N, slv rT_api_Pair p_4.L], oc b_5 [pv h_8.1], oa rB h_8.1 h_8.2 r.2, oc b_6 [pv (.func (.func 62) #[] #[(ptr b_2 0), (ptr b_3 0), (ptr b_4 0), (ptr b_5 0), (ptr b_6 0)])], tbO (rI .u8) 0 tab_0]) := by
  refine fn_ok (fn := Tryd.f62) (N := 62) (res := fun r x => []) (Ω1 := fun r x => [oc b_2 [pv h_1.1], oa rT_api_Fraction h_1.1 h_1.2 p_2, oc b_3 [pv (.func (.func 58) #[] #[(ptr be_3 0), (ptr be_4 0), (ptr be_5 0)])], oc be_3 [iv .u64 e_3], oc be_4 [iv .i64 e_4], oc be_5 [iv .i64 r.1], oc b_4 [iv .i64 p_4.N, slv rT_api_Pair p_4.L], oc b_5 [pv h_8.1], oa rB h_8.1 h_8.2 r.2, oc b_6 [pv (.func (.func 62) #[] #[(ptr b_2 0), (ptr b_3 0), (ptr b_4 0), (ptr b_5 0), (ptr b_6 0)])], tbO (rI .u8) 0 tab_0]) Tryd.func62 rfl rfl hm rfl (fun E hM => ?_)
  unfold chance_worlds_1_b
  refine ref_seq (ref_seq (ref_region ?_))
  refine mv1 rfl rfl ?_
  refine s_rd (r_cload Tryd.isAgg29 rfl (j := 0) rfl rfl) rfl ?_
  refine s_rd (r_olen Tryd.underlying29 rfl (j := 1) rfl) rfl ?_
  refine s_rd (r_eql rfl rfl) rfl ?_
  refine l_nil (n_then ?_)
  refine ref_cond rfl (fun hb1 => ?_) (fun hb1 => ?_)
  · refine ref_seq ?_
    refine ref_draw [0, 1, 2, 4] rfl (by kernel_rfl) (fun hok => ?_)
    refine a_rd (i := 0) hok rfl (by kernel_rfl) rfl (r_cload Tryd.isAgg76 rfl (j := 2) rfl rfl) rfl ?_
    refine a_rd (i := 1) hok rfl (by kernel_rfl) rfl (r_cloadS Tryd.isAgg27 Tryd.sizeOf27 rfl (j := 6) rfl rfl rfl) rfl ?_
    refine a_rd (i := 2) hok rfl (by kernel_rfl) rfl (r_cload Tryd.isAgg97 rfl (j := 7) rfl rfl) rfl ?_
    refine a_rd (i := 4) hok rfl (by kernel_rfl) rfl (r_move rfl) rfl ?_
    refine pull fun t2 h_t2 => ?_
    refine a_next hok 3 [] (by kernel_rfl) ?_ trivial
    refine a_st (i := 3) hok rfl rfl (s_callC [8] [true] (fun (_ : Unit) => [oa rB h_8.1 h_8.2 p_5]) (fun (_ : Unit) => []) (fun (_ : Unit) => ag [iv .u64 t2.All, slv (rI .u64) t2.By, slv (rI .u64) t2.Out]) (args := [.tmp 15, .tmp 16]) (caps := []) Tryd.call63 rfl (chance_world_ok h_t2) ⟨rfl, rfl, trivial⟩ (fun _ => rfl) (fun _ => trivial) (fun _ => rfl) ⟨arg rfl, arg rfl, trivial⟩ (fun _ _ _ _ h => h)) (by intro _ h; cases h; rfl) (fun _ => ⟨trivial, ⟨trivial, ⟨trivial, ⟨⟨⟨rfl, rfl⟩, trivial⟩, trivial⟩⟩⟩⟩) (fun _ => ?_)
    refine pull fun t3 h_t3 => ?_
    refine a_next hok 5 [] (by kernel_rfl) ?_ trivial
    refine a_st (i := 5) hok rfl rfl (s_callC [3, 4, 5, 10] [true, true, true, true] (fun (_ : Unit) => [oc be_3 [iv .u64 e_3], oc be_4 [iv .i64 e_4], oc be_5 [iv .i64 t3], tbO (rI .u8) 0 tab_0]) (fun (_ : Unit) => []) (fun (_ : Unit) => tup []) (args := [.tmp 17, .tmp 18]) (caps := [(ptr be_3 0), (ptr be_4 0), (ptr be_5 0)]) Tryd.call58 rfl (chance_joint_1_ok h_t3) ⟨rfl, rfl, ⟨rfl, rfl, ⟨rfl, rfl, ⟨rfl, rfl, trivial⟩⟩⟩⟩ (fun _ => rfl) (fun _ => trivial) (fun _ => rfl) ⟨arg rfl, arg rfl, arg rfl, arg rfl, arg rfl, trivial⟩ (fun _ _ _ _ h => h)) (by intro _ h; cases h; rfl) (fun _ => ⟨trivial, ⟨⟨⟨rfl, rfl⟩, trivial⟩, ⟨⟨⟨rfl, rfl⟩, trivial⟩, ⟨trivial, trivial⟩⟩⟩⟩) (fun _ => ?_)
    refine a_fin hok (by kernel_rfl) ?_
    refine b_of (nrm [oc b_2 [pv h_1.1], oa rT_api_Fraction h_1.1 h_1.2 p_2, oc b_3 [pv (.func (.func 58) #[] #[(ptr be_3 0), (ptr be_4 0), (ptr be_5 0)])], oc be_3 [iv .u64 e_3], oc be_4 [iv .i64 e_4], oc be_5 [iv .i64 t3], oc b_4 [iv .i64 p_4.N, slv rT_api_Pair p_4.L], oc b_5 [pv h_8.1], oa rB h_8.1 h_8.2 p_5, oc b_6 [pv (.func (.func 62) #[] #[(ptr b_2 0), (ptr b_3 0), (ptr b_4 0), (ptr b_5 0), (ptr b_6 0)])], tbO (rI .u8) 0 tab_0] rfl) ?_
    refine n_then (ref_ret (r_then ?_))
    exact fin0 (.inl rfl) () [0, 1, 2, 3, 4, 5, 6, 7, 8, 9, 10] rfl ⟨rfl, rfl, rfl, rfl, rfl, rfl, rfl, rfl, rfl, rfl, rfl, trivial⟩ rfl 
  refine ref_skip (n_then (ref_seq (ref_region ?_)))
  refine s_rd (r_cload Tryd.isAgg29 rfl (j := 0) rfl rfl) rfl ?_
  refine mv1 rfl rfl ?_
  refine pull fun t4 h_t4 => ?_
  refine s_rd (r_oindex h_t4 Tryd.underlying29 el_36 rfl (j := 1) rfl rfl) rfl ?_
  refine s_rd (r_oload h_t4 el_36 rfl (j := 1) rfl) rfl ?_
  refine s_st (s_alloc zt_36) rfl (fun b5 => ?_)
  refine s_st0 (s_cstore (out := [iv .i64 t4.Num, iv .i64 t4.Den]) Tryd.sizeOf36 rfl (j := 11) rfl (part_agO (ψs := [iv .i64 t4.Num, iv .i64 t4.Den]) rfl ⟨.inl iv_at, .inl iv_at, trivial⟩) rfl rfl rfl) (fun _ => ?_)
  refine l_nil (n_then (ref_seq (ref_seq (ref_region ?_))))
  refine s_rd (r_cloadS Tryd.isAgg36 Tryd.sizeOf36 rfl (j := 11) rfl rfl rfl) rfl ?_
  refine pull fun t6 h_t6 => ?_
  refine s_st (s_call (ψ := fun (_ : Unit) => bv t6) (args := [.tmp 24]) Tryd.call57 rfl (chance_certain_ok h_t6) ⟨arg rfl, trivial⟩ (fun _ _ _ _ h => h)) rfl (fun _ => ?_)
  refine l_nil (n_then ?_)
  refine ref_cond rfl (fun hb7 => ?_) (fun hb7 => ?_)
  · refine ref_seq (ref_region ?_)
    refine s_rd (r_cload Tryd.isAgg97 rfl (j := 7) rfl rfl) rfl ?_
    refine mv1 rfl rfl ?_
    refine s_rd (r_faddr (fo := 0) Tryd.underlying36 rfl rfl Tryd.sizeOf3 rfl) rfl ?_
    refine s_rd (r_cload Tryd.isAgg3 rfl (j := 11) rfl rfl) rfl ?_
    refine s_rd (r_neq rfl rfl) rfl ?_
    refine pull fun t8 h_t8 => ?_
    refine s_rd (r_oindex h_t8 Tryd.underlying97 el_4 rfl (j := 8) rfl rfl) rfl ?_
    refine s_st0 (s_ostore (u := t4.Num != 0) h_t8 el_4 rfl (j := 8) rfl (part_at rfl bv_at)) (fun _ => ?_)
    refine l_nil ?_
    refine b_of (nrm [oc b_2 [pv h_1.1], oa rT_api_Fraction h_1.1 h_1.2 p_2, oc b_3 [pv (.func (.func 58) #[] #[(ptr be_3 0), (ptr be_4 0), (ptr be_5 0)])], oc be_3 [iv .u64 e_3], oc be_4 [iv .i64 e_4], oc be_5 [iv .i64 e_5], oc b_4 [iv .i64 p_4.N, slv rT_api_Pair p_4.L], oc b_5 [pv h_8.1], oa rB h_8.1 h_8.2 (p_5.set (Int.toNat i_0) (t4.Num != 0)), oc b_6 [pv (.func (.func 62) #[] #[(ptr b_2 0), (ptr b_3 0), (ptr b_4 0), (ptr b_5 0), (ptr b_6 0)])], tbO (rI .u8) 0 tab_0, oc b5 [iv .i64 t4.Num, iv .i64 t4.Den]] rfl) ?_
    refine n_then (ref_seq (ref_region ?_))
    refine s_rd (r_cload Tryd.isAgg98 rfl (j := 9) rfl rfl) rfl ?_
    refine mv1 rfl rfl ?_
    refine s_rd (r_add rfl rfl) rfl ?_
    refine mv1 rfl rfl ?_
    refine pull fun t9 h_t9 => ?_
    refine s_st (s_callC [0, 1, 2, 3, 4, 5, 6, 7, 8, 9, 10] [true, true, true, true, true, true, true, true, true, true, true] (fun (_ : Unit) => [oc b_2 [pv h_1.1], oa rT_api_Fraction h_1.1 h_1.2 p_2, oc b_3 [pv (.func (.func 58) #[] #[(ptr be_3 0), (ptr be_4 0), (ptr be_5 0)])], oc be_3 [iv .u64 e_3], oc be_4 [iv .i64 e_4], oc be_5 [iv .i64 t9.1], oc b_4 [iv .i64 p_4.N, slv rT_api_Pair p_4.L], oc b_5 [pv h_8.1], oa rB h_8.1 h_8.2 t9.2, oc b_6 [pv (.func (.func 62) #[] #[(ptr b_2 0), (ptr b_3 0), (ptr b_4 0), (ptr b_5 0), (ptr b_6 0)])], tbO (rI .u8) 0 tab_0]) (fun (_ : Unit) => []) (fun (_ : Unit) => tup []) (args := [.tmp 34, .tmp 35]) (caps := [(ptr b_2 0), (ptr b_3 0), (ptr b_4 0), (ptr b_5 0), (ptr b_6 0)]) Tryd.call62 rfl (ih h_t9) ⟨rfl, rfl, ⟨rfl, rfl, ⟨rfl, rfl, ⟨rfl, rfl, ⟨rfl, rfl, ⟨rfl, rfl, ⟨rfl, rfl, ⟨rfl, rfl, ⟨rfl, rfl, ⟨rfl, rfl, ⟨rfl, rfl, trivial⟩⟩⟩⟩⟩⟩⟩⟩⟩⟩⟩ (fun _ => rfl) (fun _ => trivial) (fun _ => rfl) ⟨arg rfl, arg rfl, arg rfl, arg rfl, arg rfl, arg rfl, arg rfl, trivial⟩ (fun _ _ _ _ h => h)) rfl (fun _ => ?_)
    refine l_nil ?_
    refine b_of (nrm [oc b_2 [pv h_1.1], oa rT_api_Fraction h_1.1 h_1.2 p_2, oc b_3 [pv (.func (.func 58) #[] #[(ptr be_3 0), (ptr be_4 0), (ptr be_5 0)])], oc be_3 [iv .u64 e_3], oc be_4 [iv .i64 e_4], oc be_5 [iv .i64 t9.1], oc b_4 [iv .i64 p_4.N, slv rT_api_Pair p_4.L], oc b_5 [pv h_8.1], oa rB h_8.1 h_8.2 t9.2, oc b_6 [pv (.func (.func 62) #[] #[(ptr b_2 0), (ptr b_3 0), (ptr b_4 0), (ptr b_5 0), (ptr b_6 0)])], tbO (rI .u8) 0 tab_0, oc b5 [iv .i64 t4.Num, iv .i64 t4.Den]] rfl) ?_
    refine n_then (ref_ret (r_then ?_))
    exact fin0 (.inl rfl) () [0, 1, 2, 3, 4, 5, 6, 7, 8, 9, 10] rfl ⟨rfl, rfl, rfl, rfl, rfl, rfl, rfl, rfl, rfl, rfl, rfl, trivial⟩ rfl 
  refine ref_skip (n_then (ref_seq (ref_region ?_)))
  refine s_rd (r_cload Tryd.isAgg97 rfl (j := 7) rfl rfl) rfl ?_
  refine mv1 rfl rfl ?_
  refine pull fun t10 h_t10 => ?_
  refine s_rd (r_oindex h_t10 Tryd.underlying97 el_4 rfl (j := 8) rfl rfl) rfl ?_
  refine s_st0 (s_ostore (u := true) h_t10 el_4 rfl (j := 8) rfl (part_at rfl bv_at)) (fun _ => ?_)
  refine l_nil ?_
  refine b_of (nrm [oc b_2 [pv h_1.1], oa rT_api_Fraction h_1.1 h_1.2 p_2, oc b_3 [pv (.func (.func 58) #[] #[(ptr be_3 0), (ptr be_4 0), (ptr be_5 0)])], oc be_3 [iv .u64 e_3], oc be_4 [iv .i64 e_4], oc be_5 [iv .i64 e_5], oc b_4 [iv .i64 p_4.N, slv rT_api_Pair p_4.L], oc b_5 [pv h_8.1], oa rB h_8.1 h_8.2 (p_5.set (Int.toNat i_0) true), oc b_6 [pv (.func (.func 62) #[] #[(ptr b_2 0), (ptr b_3 0), (ptr b_4 0), (ptr b_5 0), (ptr b_6 0)])], tbO (rI .u8) 0 tab_0, oc b5 [iv .i64 t4.Num, iv .i64 t4.Den]] rfl) ?_
  refine n_then (ref_seq (ref_region ?_))
  refine s_rd (r_cload Tryd.isAgg98 rfl (j := 9) rfl rfl) rfl ?_
  refine mv1 rfl rfl ?_
  refine s_rd (r_add rfl rfl) rfl ?_
  refine mv1 rfl rfl ?_
  refine s_rd (r_faddr (fo := 0) Tryd.underlying36 rfl rfl Tryd.sizeOf3 rfl) rfl ?_
  refine s_rd (r_cload Tryd.isAgg3 rfl (j := 11) rfl rfl) rfl ?_
  refine s_rd (r_mul rfl rfl) rfl ?_
  refine pull fun t11 h_t11 => ?_
  refine s_st (s_callC [0, 1, 2, 3, 4, 5, 6, 7, 8, 9, 10] [true, true, true, true, true, true, true, true, true, true, true] (fun (_ : Unit) => [oc b_2 [pv h_1.1], oa rT_api_Fraction h_1.1 h_1.2 p_2, oc b_3 [pv (.func (.func 58) #[] #[(ptr be_3 0), (ptr be_4 0), (ptr be_5 0)])], oc be_3 [iv .u64 e_3], oc be_4 [iv .i64 e_4], oc be_5 [iv .i64 t11.1], oc b_4 [iv .i64 p_4.N, slv rT_api_Pair p_4.L], oc b_5 [pv h_8.1], oa rB h_8.1 h_8.2 t11.2, oc b_6 [pv (.func (.func 62) #[] #[(ptr b_2 0), (ptr b_3 0), (ptr b_4 0), (ptr b_5 0), (ptr b_6 0)])], tbO (rI .u8) 0 tab_0]) (fun (_ : Unit) => []) (fun (_ : Unit) => tup []) (args := [.tmp 42, .tmp 46]) (caps := [(ptr b_2 0), (ptr b_3 0), (ptr b_4 0), (ptr b_5 0), (ptr b_6 0)]) Tryd.call62 rfl (ih h_t11) ⟨rfl, rfl, ⟨rfl, rfl, ⟨rfl, rfl, ⟨rfl, rfl, ⟨rfl, rfl, ⟨rfl, rfl, ⟨rfl, rfl, ⟨rfl, rfl, ⟨rfl, rfl, ⟨rfl, rfl, ⟨rfl, rfl, trivial⟩⟩⟩⟩⟩⟩⟩⟩⟩⟩⟩ (fun _ => rfl) (fun _ => trivial) (fun _ => rfl) ⟨arg rfl, arg rfl, arg rfl, arg rfl, arg rfl, arg rfl, arg rfl, trivial⟩ (fun _ _ _ _ h => h)) rfl (fun _ => ?_)
  refine l_nil ?_
  refine b_of (nrm [oc b_2 [pv h_1.1], oa rT_api_Fraction h_1.1 h_1.2 p_2, oc b_3 [pv (.func (.func 58) #[] #[(ptr be_3 0), (ptr be_4 0), (ptr be_5 0)])], oc be_3 [iv .u64 e_3], oc be_4 [iv .i64 e_4], oc be_5 [iv .i64 t11.1], oc b_4 [iv .i64 p_4.N, slv rT_api_Pair p_4.L], oc b_5 [pv h_8.1], oa rB h_8.1 h_8.2 t11.2, oc b_6 [pv (.func (.func 62) #[] #[(ptr b_2 0), (ptr b_3 0), (ptr b_4 0), (ptr b_5 0), (ptr b_6 0)])], tbO (rI .u8) 0 tab_0, oc b5 [iv .i64 t4.Num, iv .i64 t4.Den]] rfl) ?_
  refine n_then (ref_seq (ref_region ?_))
  refine s_rd (r_cload Tryd.isAgg97 rfl (j := 7) rfl rfl) rfl ?_
  refine mv1 rfl rfl ?_
  refine pull fun t12 h_t12 => ?_
  refine s_rd (r_oindex h_t12 Tryd.underlying97 el_4 rfl (j := 8) rfl rfl) rfl ?_
  refine s_st0 (s_ostore (u := false) h_t12 el_4 rfl (j := 8) rfl (part_at rfl bv_at)) (fun _ => ?_)
  refine l_nil (n_then (ref_region ?_))
  refine s_rd (r_cload Tryd.isAgg98 rfl (j := 9) rfl rfl) rfl ?_
  refine mv1 rfl rfl ?_
  refine s_rd (r_add rfl rfl) rfl ?_
  refine mv1 rfl rfl ?_
  refine s_rd (r_faddr (fo := 1) Tryd.underlying36 rfl rfl Tryd.sizeOf3 rfl) rfl ?_
  refine s_rd (r_cload Tryd.isAgg3 rfl (j := 11) rfl rfl) rfl ?_
  refine s_rd (r_faddr (fo := 0) Tryd.underlying36 rfl rfl Tryd.sizeOf3 rfl) rfl ?_
  refine s_rd (r_cload Tryd.isAgg3 rfl (j := 11) rfl rfl) rfl ?_
  refine s_rd (r_sub rfl rfl) rfl ?_
  refine s_rd (r_mul rfl rfl) rfl ?_
  refine pull fun t13 h_t13 => ?_
  refine s_st (s_callC [0, 1, 2, 3, 4, 5, 6, 7, 8, 9, 10] [true, true, true, true, true, true, true, true, true, true, true] (fun (_ : Unit) => [oc b_2 [pv h_1.1], oa rT_api_Fraction h_1.1 h_1.2 p_2, oc b_3 [pv (.func (.func 58) #[] #[(ptr be_3 0), (ptr be_4 0), (ptr be_5 0)])], oc be_3 [iv .u64 e_3], oc be_4 [iv .i64 e_4], oc be_5 [iv .i64 t13.1], oc b_4 [iv .i64 p_4.N, slv rT_api_Pair p_4.L], oc b_5 [pv h_8.1], oa rB h_8.1 h_8.2 t13.2, oc b_6 [pv (.func (.func 62) #[] #[(ptr b_2 0), (ptr b_3 0), (ptr b_4 0), (ptr b_5 0), (ptr b_6 0)])], tbO (rI .u8) 0 tab_0]) (fun (_ : Unit) => []) (fun (_ : Unit) => tup []) (args := [.tmp 53, .tmp 60]) (caps := [(ptr b_2 0), (ptr b_3 0), (ptr b_4 0), (ptr b_5 0), (ptr b_6 0)]) Tryd.call62 rfl (ih h_t13) ⟨rfl, rfl, ⟨rfl, rfl, ⟨rfl, rfl, ⟨rfl, rfl, ⟨rfl, rfl, ⟨rfl, rfl, ⟨rfl, rfl, ⟨rfl, rfl, ⟨rfl, rfl, ⟨rfl, rfl, ⟨rfl, rfl, trivial⟩⟩⟩⟩⟩⟩⟩⟩⟩⟩⟩ (fun _ => rfl) (fun _ => trivial) (fun _ => rfl) ⟨arg rfl, arg rfl, arg rfl, arg rfl, arg rfl, arg rfl, arg rfl, trivial⟩ (fun _ _ _ _ h => h)) rfl (fun _ => ?_)
  refine l_nil ?_
  refine b_of (nrm [oc b_2 [pv h_1.1], oa rT_api_Fraction h_1.1 h_1.2 p_2, oc b_3 [pv (.func (.func 58) #[] #[(ptr be_3 0), (ptr be_4 0), (ptr be_5 0)])], oc be_3 [iv .u64 e_3], oc be_4 [iv .i64 e_4], oc be_5 [iv .i64 t13.1], oc b_4 [iv .i64 p_4.N, slv rT_api_Pair p_4.L], oc b_5 [pv h_8.1], oa rB h_8.1 h_8.2 t13.2, oc b_6 [pv (.func (.func 62) #[] #[(ptr b_2 0), (ptr b_3 0), (ptr b_4 0), (ptr b_5 0), (ptr b_6 0)])], tbO (rI .u8) 0 tab_0, oc b5 [iv .i64 t4.Num, iv .i64 t4.Den]] rfl) ?_
  exact fin0 (.inr rfl) () [0, 1, 2, 3, 4, 5, 6, 7, 8, 9, 10] rfl ⟨rfl, rfl, rfl, rfl, rfl, rfl, rfl, rfl, rfl, rfl, rfl, trivial⟩ rfl 

theorem chance_worlds_1_n_ok : ∀ (n_ : Nat) {i_0 : Int} {weight_1 : Int} {p_2 : (List T_api_Fraction)} {e_3 : Int} {e_4 : Int} {e_5 : Int} {p_4 : T_api_Graph} {p_5 : (List Bool)} {b_2 : Nat} {h_1 : Value × List Nat} {b_3 : Nat} {be_3 : Nat} {be_4 : Nat} {be_5 : Nat} {b_4 : Nat} {b_5 : Nat} {h_8 : Value × List Nat} {b_6 : Nat} {r : Int × (List Bool)}, chance_worlds_1_n n_ i_0 weight_1 p_2 e_3 e_4 e_5 p_4 p_5 = some r →
    FnOk prog 62 [iv .i64 i_0, iv .i64 weight_1, pv (ptr b_2 0), pv (ptr b_3 0), pv (ptr b_4 0), pv (ptr b_5 0), pv (ptr b_6 0)] [oc b_2 [pv h_1.1], oa rT_api_Fraction h_1.1 h_1.2 p_2, oc b_3 [pv (.func (.func 58) #[] #[(ptr be_3 0), (ptr be_4 0), (ptr be_5 0)])], oc be_3 [iv .u64 e_3], oc be_4 [iv .i64 e_4], oc be_5 [iv .i64 e_5], oc b_4 [iv .i64 p_4.N, slv rT_api_Pair p_4.L], oc b_5 [pv h_8.1], oa rB h_8.1 h_8.2 p_5, oc b_6 [pv (.func (.func 62) #[] #[(ptr b_2 0), (ptr b_3 0), (ptr b_4 0), (ptr b_5 0), (ptr b_6 0)])], tbO (rI .u8) 0 tab_0] (fun (x : Unit) => []) (fun (x : Unit) => [oc b_2 [pv h_1.1], oa rT_api_Fraction h_1.1 h_1.2 p_2, oc b_3 [pv (.func (.func 58) #[] #[(ptr be_3 0), (ptr be_4 0), (ptr be_5 0)])], oc be_3 [iv .u64 e_3], oc be_4 [iv .i64 e_4], oc be_5 [iv .i64 r.1], oc b_4 [iv .i64 p_4.N, slv rT_api_Pair p_4.L], oc b_5 [pv h_8.1], oa rB h_8.1 h_8.2 r.2, oc b_6 [pv (.func (.func 62) #[] #[(ptr b_2 0), (ptr b_3 0), (ptr b_4 0), (ptr b_5 0), (ptr b_6 0)])], tbO (rI .u8) 0 tab_0]) := by
  intro n_
  induction n_ with
  | zero => intros; rename_i h; cases h
  | succ n_ ih => intros; rename_i h; exact chance_worlds_1_step _ @ih h

theorem chance_worlds_1_ok {i_0 : Int} {weight_1 : Int} {p_2 : (List T_api_Fraction)} {e_3 : Int} {e_4 : Int} {e_5 : Int} {p_4 : T_api_Graph} {p_5 : (List Bool)} {b_2 : Nat} {h_1 : Value × List Nat} {b_3 : Nat} {be_3 : Nat} {be_4 : Nat} {be_5 : Nat} {b_4 : Nat} {b_5 : Nat} {h_8 : Value × List Nat} {b_6 : Nat} {r : Int × (List Bool)} (hm : chance_worlds_1_m i_0 weight_1 p_2 e_3 e_4 e_5 p_4 p_5 = some r) :
    FnOk prog 62 [iv .i64 i_0, iv .i64 weight_1, pv (ptr b_2 0), pv (ptr b_3 0), pv (ptr b_4 0), pv (ptr b_5 0), pv (ptr b_6 0)] [oc b_2 [pv h_1.1], oa rT_api_Fraction h_1.1 h_1.2 p_2, oc b_3 [pv (.func (.func 58) #[] #[(ptr be_3 0), (ptr be_4 0), (ptr be_5 0)])], oc be_3 [iv .u64 e_3], oc be_4 [iv .i64 e_4], oc be_5 [iv .i64 e_5], oc b_4 [iv .i64 p_4.N, slv rT_api_Pair p_4.L], oc b_5 [pv h_8.1], oa rB h_8.1 h_8.2 p_5, oc b_6 [pv (.func (.func 62) #[] #[(ptr b_2 0), (ptr b_3 0), (ptr b_4 0), (ptr b_5 0), (ptr b_6 0)])], tbO (rI .u8) 0 tab_0] (fun (x : Unit) => []) (fun (x : Unit) => [oc b_2 [pv h_1.1], oa rT_api_Fraction h_1.1 h_1.2 p_2, oc b_3 [pv (.func (.func 58) #[] #[(ptr be_3 0), (ptr be_4 0), (ptr be_5 0)])], oc be_3 [iv .u64 e_3], oc be_4 [iv .i64 e_4], oc be_5 [iv .i64 r.1], oc b_4 [iv .i64 p_4.N, slv rT_api_Pair p_4.L], oc b_5 [pv h_8.1], oa rB h_8.1 h_8.2 r.2, oc b_6 [pv (.func (.func 62) #[] #[(ptr b_2 0), (ptr b_3 0), (ptr b_4 0), (ptr b_5 0), (ptr b_6 0)])], tbO (rI .u8) 0 tab_0]) := by
  obtain ⟨n_, h⟩ := recC_some hm
  exact chance_worlds_1_n_ok n_ h

theorem chance_worlds_1_b_le {rec_ rec_' : Int → Int → (List T_api_Fraction) → Int → Int → Int → T_api_Graph → (List Bool) → Option (Int × (List Bool))} (h : ∀ i_0 weight_1 p_2 e_3 e_4 e_5 p_4 p_5, Le (rec_ i_0 weight_1 p_2 e_3 e_4 e_5 p_4 p_5) (rec_' i_0 weight_1 p_2 e_3 e_4 e_5 p_4 p_5)) {i_0 : Int} {weight_1 : Int} {p_2 : (List T_api_Fraction)} {e_3 : Int} {e_4 : Int} {e_5 : Int} {p_4 : T_api_Graph} {p_5 : (List Bool)} : Le (chance_worlds_1_b rec_ i_0 weight_1 p_2 e_3 e_4 e_5 p_4 p_5) (chance_worlds_1_b rec_' i_0 weight_1 p_2 e_3 e_4 e_5 p_4 p_5) := by
  unfold chance_worlds_1_b
  repeat' with_reducible (first | exact Le.refl _ | exact h _ _ _ _ _ _ _ _ | refine Le.bind ?_ (Le.sumK fun _ => ?_) | refine Le.bind ?_ (fun _ => ?_) | refine Le.cond ?_ ?_ | refine Le.letM (fun _ => ?_) | refine Le.join (fun _ => ?_) (fun _ _ hj => ?_) | exact hj _)

theorem chance_worlds_1_n_le : ∀ (n_ : Nat) (i_0 : Int) (weight_1 : Int) (p_2 : (List T_api_Fraction)) (e_3 : Int) (e_4 : Int) (e_5 : Int) (p_4 : T_api_Graph) (p_5 : (List Bool)), Le (chance_worlds_1_n n_ i_0 weight_1 p_2 e_3 e_4 e_5 p_4 p_5) (chance_worlds_1_n (n_ + 1) i_0 weight_1 p_2 e_3 e_4 e_5 p_4 p_5)
  | 0, _, _, _, _, _, _, _, _ => fun _ h => by cases h
  | n_ + 1, _, _, _, _, _, _, _, _ => chance_worlds_1_b_le (chance_worlds_1_n_le n_)

/-! deliberation/chance.worlds -/
noncomputable def chance_worlds_l1 (t4 : List T_api_Fraction) (s14 : Int × Int) : Option (Sum (Int) (Int × Int)) :=
  bif decide (s14.2 < (t4.length : Int)) then
    Option.bind (idxM t4 s14.2) fun t17 =>
    Option.bind (chance_certain_m t17) fun t19 =>
    bif !t19 then
      letM (imul .i64 s14.1 t17.Den) fun total21 =>
      some (Sum.inr (total21, iadd .i64 s14.2 1))
    else
      some (Sum.inr (s14.1, iadd .i64 s14.2 1))
  else
    some (Sum.inl s14.1)

noncomputable def chance_worlds_m (g_0 : T_api_Graph) (o_1 : T_api_Odds) (e_0 : Int) (e_1 : Int) (e_2 : Int) : Option (Int × Int) :=
  Option.bind (slices_Concat_api_Fraction_api_Fraction_m [o_1.Nodes, o_1.Attacks]) fun t4 =>
  Option.bind (loopC (chance_worlds_l1 t4) (1, 0)) fun q22 : Int =>
  Option.bind (slices_Concat_api_Fraction_api_Fraction_m [o_1.Nodes, o_1.Attacks]) fun t24 =>
  Option.bind (mkM 1 false (t24.length : Int)) fun t27 =>
  Option.bind (chance_worlds_1_m 0 1 t24 e_0 e_1 e_2 g_0 t27) fun t31 =>
  some (q22, t31.1)

theorem chance_worlds_ok {g_0 : T_api_Graph} {o_1 : T_api_Odds} {e_0 : Int} {e_1 : Int} {e_2 : Int} {be_0 : Nat} {be_1 : Nat} {be_2 : Nat} {r : Int × Int} (hm : chance_worlds_m g_0 o_1 e_0 e_1 e_2 = some r) :
    FnOk prog 37 [ag [iv .i64 g_0.N, slv rT_api_Pair g_0.L], ag [slv rT_api_Fraction o_1.Nodes, slv rT_api_Fraction o_1.Attacks], pv (.func (.func 58) #[] #[(ptr be_0 0), (ptr be_1 0), (ptr be_2 0)])] [oc be_0 [iv .u64 e_0], oc be_1 [iv .i64 e_1], oc be_2 [iv .i64 e_2], tbO (rI .u8) 0 tab_0] (fun (x : Unit) => [iv .i64 r.1]) (fun (x : Unit) => [oc be_0 [iv .u64 e_0], oc be_1 [iv .i64 e_1], oc be_2 [iv .i64 r.2], tbO (rI .u8) 0 tab_0]) := by
  refine fn_ok (fn := Tryd.f37) (N := 45) (res := fun r x => [iv .i64 r.1]) (Ω1 := fun r x => [oc be_0 [iv .u64 e_0], oc be_1 [iv .i64 e_1], oc be_2 [iv .i64 r.2], tbO (rI .u8) 0 tab_0]) Tryd.func37 rfl rfl hm rfl (fun E hM => ?_)
  unfold chance_worlds_m
  refine ref_seq (ref_region ?_)
  refine s_st (s_box (part_agO (ψs := [iv .i64 g_0.N, slv rT_api_Pair g_0.L]) rfl ⟨.inl iv_at, .inl slv_at, trivial⟩)) rfl (fun b1 => ?_)
  refine s_st (s_box (part_agO (ψs := [slv rT_api_Fraction o_1.Nodes, slv rT_api_Fraction o_1.Attacks]) rfl ⟨.inl slv_at, .inl slv_at, trivial⟩)) rfl (fun b2 => ?_)
  refine s_st (s_box (part_at (φ := pv (.func (.func 58) #[] #[(ptr be_0 0), (ptr be_1 0), (ptr be_2 0)])) rfl (pv_at rfl))) rfl (fun b3 => ?_)
  refine as1 rfl rfl ?_
  refine l_nil (n_then (ref_seq (ref_region ?_)))
  refine as1 rfl rfl ?_
  refine l_nil (n_then (ref_seq (ref_seq (ref_region ?_))))
  refine s_rd (r_faddr (fo := 0) Tryd.underlying31 rfl rfl Tryd.sizeOf29 rfl) rfl ?_
  refine s_rd (r_cload Tryd.isAgg29 rfl (j := 5) rfl rfl) rfl ?_
  refine s_rd (r_faddr (fo := 1) Tryd.underlying31 rfl rfl Tryd.sizeOf29 rfl) rfl ?_
  refine s_rd (r_cload Tryd.isAgg29 rfl (j := 5) rfl rfl) rfl ?_
  refine s_st (s_bslice (xs := [.tmp 14, .tmp 16]) (ds := [o_1.Nodes, o_1.Attacks]) Tryd.underlying106 el_29 rfl (Nat.le_of_ble_eq_true rfl) ⟨(part_at rfl slv_at), ⟨(part_at rfl slv_at), trivial⟩⟩) rfl (fun _ => ?_)
  refine pull fun t4 h_t4 => ?_
  refine s_st (s_call (ψ := fun (x5 : (Value × List Nat)) => pv x5.1) (args := [.tmp 17]) Tryd.call56 rfl (slices_Concat_api_Fraction_api_Fraction_ok h_t4) ⟨arg rfl, trivial⟩ (fun _ _ _ _ h => h)) rfl (fun x5 => ?_)
  refine s_rd (r_olen Tryd.underlying29 rfl (j := 7) rfl) rfl ?_
  refine mv1 rfl rfl ?_
  refine l_nil ?_
  refine b_of (nrm [oc be_0 [iv .u64 e_0], oc be_1 [iv .i64 e_1], oc be_2 [iv .i64 e_2], tbO (rI .u8) 0 tab_0, oc b1 [iv .i64 g_0.N, slv rT_api_Pair g_0.L], oc b2 [slv rT_api_Fraction o_1.Nodes, slv rT_api_Fraction o_1.Attacks], oc b3 [pv (.func (.func 58) #[] #[(ptr be_0 0), (ptr be_1 0), (ptr be_2 0)])], oa rT_api_Fraction x5.1 x5.2 t4] rfl) ?_
  refine n_then ?_
  refine ref_loopB (f := (chance_worlds_l1 t4)) (Γl := (fun (s14 : Int × Int) (x15 : Unit) => [(2, pv (.func (.func 58) #[] #[(ptr be_0 0), (ptr be_1 0), (ptr be_2 0)])), (3, pv (ptr b1 0)), (4, pv (ptr b2 0)), (5, pv (ptr b3 0)), (7, iv .i64 s14.1), (18, pv x5.1), (19, iv .i64 (t4.length : Int)), (20, iv .i64 s14.2)])) (Ωl := (fun (s14 : Int × Int) (x15 : Unit) => [tbO (rI .u8) 0 tab_0, oc be_0 [iv .u64 e_0], oc be_1 [iv .i64 e_1], oc be_2 [iv .i64 e_2], oc b1 [iv .i64 g_0.N, slv rT_api_Pair g_0.L], oc b2 [slv rT_api_Fraction o_1.Nodes, slv rT_api_Fraction o_1.Attacks], oc b3 [pv (.func (.func 58) #[] #[(ptr be_0 0), (ptr be_1 0), (ptr be_2 0)])], oa rT_api_Fraction x5.1 x5.2 t4])) (Γb := (fun (q22 : Int) (y23 : Unit) => [(2, pv (.func (.func 58) #[] #[(ptr be_0 0), (ptr be_1 0), (ptr be_2 0)])), (3, pv (ptr b1 0)), (4, pv (ptr b2 0)), (5, pv (ptr b3 0)), (7, iv .i64 q22)])) (Ωb := (fun (q22 : Int) (y23 : Unit) => [oc be_0 [iv .u64 e_0], oc be_1 [iv .i64 e_1], oc be_2 [iv .i64 e_2], oc b1 [iv .i64 g_0.N, slv rT_api_Pair g_0.L], oc b2 [slv rT_api_Fraction o_1.Nodes, slv rT_api_Fraction o_1.Attacks], oc b3 [pv (.func (.func 58) #[] #[(ptr be_0 0), (ptr be_1 0), (ptr be_2 0)])], tbO (rI .u8) 0 tab_0])) (1, 0) () (weak [3, 0, 1, 2, 4, 5, 6, 7] ⟨rfl, rfl, rfl, rfl, rfl, rfl, rfl, rfl, trivial⟩ ⟨rfl, rfl, rfl, rfl, rfl, rfl, rfl, rfl, trivial⟩) (fun s14 x15 => ?_) (fun q22 y23 => ?_)
  · unfold chance_worlds_l1
    refine ref_seq (ref_region ?_)
    refine s_rd (r_lss rfl rfl) rfl ?_
    refine l_nil (n_then (ref_seq ?_))
    refine ref_cond rfl (fun hb16 => ?_) (fun hb16 => ?_)
    · refine ref_skip (n_then (ref_seq (ref_block (ref_seq (ref_region ?_)))))
      refine pull fun t17 h_t17 => ?_
      refine s_rd (r_oindex h_t17 Tryd.underlying29 el_36 rfl (j := 7) rfl rfl) rfl ?_
      refine s_rd (r_oload h_t17 el_36 rfl (j := 7) rfl) rfl ?_
      refine s_st (s_alloc zt_36) rfl (fun b18 => ?_)
      refine s_st0 (s_cstore (out := [iv .i64 t17.Num, iv .i64 t17.Den]) Tryd.sizeOf36 rfl (j := 8) rfl (part_agO (ψs := [iv .i64 t17.Num, iv .i64 t17.Den]) rfl ⟨.inl iv_at, .inl iv_at, trivial⟩) rfl rfl rfl) (fun _ => ?_)
      refine l_nil (n_then (ref_seq (ref_region ?_)))
      refine s_rd (r_cloadS Tryd.isAgg36 Tryd.sizeOf36 rfl (j := 8) rfl rfl rfl) rfl ?_
      refine pull fun t19 h_t19 => ?_
      refine s_st (s_call (ψ := fun (_ : Unit) => bv t19) (args := [.tmp 24]) Tryd.call57 rfl (chance_certain_ok h_t19) ⟨arg rfl, trivial⟩ (fun _ _ _ _ h => h)) rfl (fun _ => ?_)
      refine s_rd (r_not rfl) rfl ?_
      refine l_nil (n_then ?_)
      refine ref_cond rfl (fun hb20 => ?_) (fun hb20 => ?_)
      · refine ref_region ?_
        refine mv1 rfl rfl ?_
        refine s_rd (r_faddr (fo := 1) Tryd.underlying36 rfl rfl Tryd.sizeOf3 rfl) rfl ?_
        refine s_rd (r_cload Tryd.isAgg3 rfl (j := 8) rfl rfl) rfl ?_
        refine s_rd (r_mul rfl rfl) rfl ?_
        refine as1 rfl rfl ?_
        refine b_let (f := iv .i64) (t := 7) rfl fun total21 => ?_
        refine l_nil (n_block (n_then (ref_region ?_)))
        refine s_rd (r_add rfl rfl) rfl ?_
        refine mv1 rfl rfl ?_
        refine l_nil ?_
        exact goB () (weak [0, 1, 2, 3, 4, 5, 6, 7] ⟨rfl, rfl, rfl, rfl, rfl, rfl, rfl, rfl, trivial⟩ ⟨rfl, rfl, rfl, rfl, rfl, rfl, rfl, rfl, trivial⟩)
      refine ref_skip (n_block (n_then (ref_region ?_)))
      refine s_rd (r_add rfl rfl) rfl ?_
      refine mv1 rfl rfl ?_
      refine l_nil ?_
      exact goB () (weak [0, 1, 2, 3, 4, 5, 6, 7] ⟨rfl, rfl, rfl, rfl, rfl, rfl, rfl, rfl, trivial⟩ ⟨rfl, rfl, rfl, rfl, rfl, rfl, rfl, rfl, trivial⟩)
    refine ref_exit (x_then ?_)
    exact brkB () (weak [1, 2, 3, 4, 5, 6, 0] ⟨rfl, rfl, rfl, rfl, rfl, trivial⟩ ⟨rfl, rfl, rfl, rfl, rfl, rfl, rfl, trivial⟩)
  refine n_then (ref_seq (ref_region ?_))
  refine s_rd (r_faddr (fo := 0) Tryd.underlying31 rfl rfl Tryd.sizeOf29 rfl) rfl ?_
  refine s_rd (r_cload Tryd.isAgg29 rfl (j := 4) rfl rfl) rfl ?_
  refine s_rd (r_faddr (fo := 1) Tryd.underlying31 rfl rfl Tryd.sizeOf29 rfl) rfl ?_
  refine s_rd (r_cload Tryd.isAgg29 rfl (j := 4) rfl rfl) rfl ?_
  refine s_st (s_bslice (xs := [.tmp 33, .tmp 35]) (ds := [o_1.Nodes, o_1.Attacks]) Tryd.underlying106 el_29 rfl (Nat.le_of_ble_eq_true rfl) ⟨(part_at rfl slv_at), ⟨(part_at rfl slv_at), trivial⟩⟩) rfl (fun _ => ?_)
  refine pull fun t24 h_t24 => ?_
  refine s_st (s_call (ψ := fun (x25 : (Value × List Nat)) => pv x25.1) (args := [.tmp 36]) Tryd.call56 rfl (slices_Concat_api_Fraction_api_Fraction_ok h_t24) ⟨arg rfl, trivial⟩ (fun _ _ _ _ h => h)) rfl (fun x25 => ?_)
  refine s_st (s_alloc zt_29) rfl (fun b26 => ?_)
  refine s_st0 (s_cstore (out := [pv x25.1]) Tryd.sizeOf29 rfl (j := 8) rfl (part_own rfl (j := 7) rfl) rfl rfl rfl) (fun _ => ?_)
  refine l_nil ?_
  refine b_of (nrm [oc be_0 [iv .u64 e_0], oc be_1 [iv .i64 e_1], oc be_2 [iv .i64 e_2], oc b1 [iv .i64 g_0.N, slv rT_api_Pair g_0.L], oc b2 [slv rT_api_Fraction o_1.Nodes, slv rT_api_Fraction o_1.Attacks], oc b3 [pv (.func (.func 58) #[] #[(ptr be_0 0), (ptr be_1 0), (ptr be_2 0)])], tbO (rI .u8) 0 tab_0, oa rT_api_Fraction x25.1 x25.2 t24, oc b26 [pv x25.1]] rfl) ?_
  refine n_then (ref_seq (ref_region ?_))
  refine s_rd (r_cload Tryd.isAgg29 rfl (j := 8) rfl rfl) rfl ?_
  refine s_rd (r_olen Tryd.underlying29 rfl (j := 7) rfl) rfl ?_
  refine pull fun t27 h_t27 => ?_
  refine s_st (s_make h_t27 Tryd.underlying97 el_4 ze_4 rfl rfl) rfl (fun o28 => ?_)
  refine s_st (s_alloc zt_97) rfl (fun b29 => ?_)
  refine s_st0 (s_cstore (out := [pv o28.1]) Tryd.sizeOf97 rfl (j := 10) rfl (part_own rfl (j := 9) rfl) rfl rfl rfl) (fun _ => ?_)
  refine l_nil (n_then (ref_seq (ref_region ?_)))
  refine s_st (s_alloc zt_98) rfl (fun b30 => ?_)
  refine l_nil ?_
  refine b_of (nrm [oc be_0 [iv .u64 e_0], oc be_1 [iv .i64 e_1], oc be_2 [iv .i64 e_2], oc b1 [iv .i64 g_0.N, slv rT_api_Pair g_0.L], oc b2 [slv rT_api_Fraction o_1.Nodes, slv rT_api_Fraction o_1.Attacks], oc b3 [pv (.func (.func 58) #[] #[(ptr be_0 0), (ptr be_1 0), (ptr be_2 0)])], tbO (rI .u8) 0 tab_0, oa rT_api_Fraction x25.1 x25.2 t24, oc b26 [pv x25.1], oa rB o28.1 o28.2 t27, oc b29 [pv o28.1], oc b30 [pv .nilFunc]] rfl) ?_
  refine n_then (ref_seq (ref_region ?_))
  refine s_rd (r_mkfn (xs := [.tmp 10, .tmp 5, .tmp 3, .tmp 11, .tmp 12]) (vs := [(ptr b26 0), (ptr b3 0), (ptr b1 0), (ptr b29 0), (ptr b30 0)]) ⟨rfl, rfl, rfl, rfl, rfl, trivial⟩) rfl ?_
  refine s_st0 (s_cstore (out := [pv (.func (.func 62) #[] #[(ptr b26 0), (ptr b3 0), (ptr b1 0), (ptr b29 0), (ptr b30 0)])]) Tryd.sizeOf98 rfl (j := 11) rfl (part_at (φ := pv (.func (.func 62) #[] #[(ptr b26 0), (ptr b3 0), (ptr b1 0), (ptr b29 0), (ptr b30 0)])) rfl (pv_at rfl)) rfl rfl rfl) (fun _ => ?_)
  refine l_nil (n_then (ref_seq (ref_region ?_)))
  refine s_rd (r_cload Tryd.isAgg98 rfl (j := 11) rfl rfl) rfl ?_
  refine pull fun t31 h_t31 => ?_
  refine s_st (s_callC [8, 7, 5, 0, 1, 2, 3, 10, 9, 11, 6] [true, true, true, true, true, true, true, true, true, true, true] (fun (_ : Unit) => [oc b26 [pv x25.1], oa rT_api_Fraction x25.1 x25.2 t24, oc b3 [pv (.func (.func 58) #[] #[(ptr be_0 0), (ptr be_1 0), (ptr be_2 0)])], oc be_0 [iv .u64 e_0], oc be_1 [iv .i64 e_1], oc be_2 [iv .i64 t31.1], oc b1 [iv .i64 g_0.N, slv rT_api_Pair g_0.L], oc b29 [pv o28.1], oa rB o28.1 o28.2 t31.2, oc b30 [pv (.func (.func 62) #[] #[(ptr b26 0), (ptr b3 0), (ptr b1 0), (ptr b29 0), (ptr b30 0)])], tbO (rI .u8) 0 tab_0]) (fun (_ : Unit) => []) (fun (_ : Unit) => tup []) (args := [.const (.int .i64 (0)), .const (.int .i64 (1))]) (caps := [(ptr b26 0), (ptr b3 0), (ptr b1 0), (ptr b29 0), (ptr b30 0)]) Tryd.call62 rfl (chance_worlds_1_ok h_t31) ⟨rfl, rfl, ⟨rfl, rfl, ⟨rfl, rfl, ⟨rfl, rfl, ⟨rfl, rfl, ⟨rfl, rfl, ⟨rfl, rfl, ⟨rfl, rfl, ⟨rfl, rfl, ⟨rfl, rfl, ⟨rfl, rfl, trivial⟩⟩⟩⟩⟩⟩⟩⟩⟩⟩⟩ (fun _ => rfl) (fun _ => trivial) (fun _ => rfl) ⟨arg rfl, arg rfl, arg rfl, arg rfl, arg rfl, arg rfl, arg rfl, trivial⟩ (fun _ _ _ _ h => h)) rfl (fun _ => ?_)
  refine l_nil ?_
  refine b_of (nrm [oc be_0 [iv .u64 e_0], oc be_1 [iv .i64 e_1], oc be_2 [iv .i64 t31.1], oc b1 [iv .i64 g_0.N, slv rT_api_Pair g_0.L], oc b2 [slv rT_api_Fraction o_1.Nodes, slv rT_api_Fraction o_1.Attacks], oc b3 [pv (.func (.func 58) #[] #[(ptr be_0 0), (ptr be_1 0), (ptr be_2 0)])], tbO (rI .u8) 0 tab_0, oa rT_api_Fraction x25.1 x25.2 t24, oc b26 [pv x25.1], oa rB o28.1 o28.2 t31.2, oc b29 [pv o28.1], oc b30 [pv (.func (.func 62) #[] #[(ptr b26 0), (ptr b3 0), (ptr b1 0), (ptr b29 0), (ptr b30 0)])]] rfl) ?_
  refine n_then (ref_seq (ref_region ?_))
  refine mv1 rfl rfl ?_
  refine as1 rfl rfl ?_
  refine l_nil (n_then (ref_ret ?_))
  exact fin1 (.inl rfl) () [0, 1, 2, 6] rfl ⟨rfl, rfl, rfl, rfl, trivial⟩ rfl (rv_tmp rfl)

/-! deliberation/chance.joint -/
noncomputable def chance_joint_m (g_0 : T_api_Graph) (o_1 : T_api_Odds) (set__2 : Int) (question_3 : Int) : Option (Int × Int) :=
  Option.bind (chance_worlds_m g_0 o_1 set__2 question_3 0) fun total6 =>
  some (total6.2, total6.1)

theorem chance_joint_ok {g_0 : T_api_Graph} {o_1 : T_api_Odds} {set__2 : Int} {question_3 : Int} {r : Int × Int} (hm : chance_joint_m g_0 o_1 set__2 question_3 = some r) :
    FnOk prog 32 [ag [iv .i64 g_0.N, slv rT_api_Pair g_0.L], ag [slv rT_api_Fraction o_1.Nodes, slv rT_api_Fraction o_1.Attacks], iv .u64 set__2, iv .i64 question_3] [tbO (rI .u8) 0 tab_0] (fun (x : Unit) => [iv .i64 r.1, iv .i64 r.2]) (fun (x : Unit) => [tbO (rI .u8) 0 tab_0]) := by
  refine fn_ok (fn := Tryd.f32) (N := 18) (res := fun r x => [iv .i64 r.1, iv .i64 r.2]) (Ω1 := fun r x => [tbO (rI .u8) 0 tab_0]) Tryd.func32 rfl rfl hm rfl (fun E hM => ?_)
  unfold chance_joint_m
  refine ref_seq (ref_region ?_)
  refine s_st (s_box (part_agO (ψs := [iv .i64 g_0.N, slv rT_api_Pair g_0.L]) rfl ⟨.inl iv_at, .inl slv_at, trivial⟩)) rfl (fun b1 => ?_)
  refine s_st (s_box (part_agO (ψs := [slv rT_api_Fraction o_1.Nodes, slv rT_api_Fraction o_1.Attacks]) rfl ⟨.inl slv_at, .inl slv_at, trivial⟩)) rfl (fun b2 => ?_)
  refine s_st (s_box (part_at rfl iv_at)) rfl (fun b3 => ?_)
  refine s_st (s_box (part_at rfl iv_at)) rfl (fun b4 => ?_)
  refine as1 rfl rfl ?_
  refine as1 rfl rfl ?_
  refine l_nil ?_
  refine b_of (nrm [tbO (rI .u8) 0 tab_0, oc b1 [iv .i64 g_0.N, slv rT_api_Pair g_0.L], oc b2 [slv rT_api_Fraction o_1.Nodes, slv rT_api_Fraction o_1.Attacks], oc b3 [iv .u64 set__2], oc b4 [iv .i64 question_3]] rfl) ?_
  refine n_then (ref_seq (ref_region ?_))
  refine s_st (s_alloc zt_3) rfl (fun b5 => ?_)
  refine s_st0 (s_cstore (out := [iv .i64 0]) Tryd.sizeOf3 rfl (j := 5) rfl (part_at rfl iv_at) rfl rfl rfl) (fun _ => ?_)
  refine l_nil (n_then (ref_seq (ref_region ?_)))
  refine s_rd (r_cloadS Tryd.isAgg27 Tryd.sizeOf27 rfl (j := 1) rfl rfl rfl) rfl ?_
  refine s_rd (r_cloadS Tryd.isAgg31 Tryd.sizeOf31 rfl (j := 2) rfl rfl rfl) rfl ?_
  refine s_rd (r_mkfn (xs := [.tmp 6, .tmp 7, .tmp 10]) (vs := [(ptr b3 0), (ptr b4 0), (ptr b5 0)]) ⟨rfl, rfl, rfl, trivial⟩) rfl ?_
  refine pull fun total6 h_total6 => ?_
  refine s_st (s_callC [3, 4, 5, 0] [true, true, true, true] (fun (_ : Unit) => [oc b3 [iv .u64 set__2], oc b4 [iv .i64 question_3], oc b5 [iv .i64 total6.2], tbO (rI .u8) 0 tab_0]) (fun (_ : Unit) => []) (fun (_ : Unit) => iv .i64 total6.1) (args := [.tmp 12, .tmp 13, .tmp 14]) (caps := []) Tryd.call37 rfl (chance_worlds_ok h_total6) ⟨rfl, rfl, ⟨rfl, rfl, ⟨rfl, rfl, ⟨rfl, rfl, trivial⟩⟩⟩⟩ (fun _ => rfl) (fun _ => trivial) (fun _ => rfl) ⟨arg rfl, arg rfl, arg rfl, trivial⟩ (fun _ _ _ _ h => h)) rfl (fun _ => ?_)
  refine as1 rfl rfl ?_
  refine l_nil ?_
  refine b_of (nrm [tbO (rI .u8) 0 tab_0, oc b1 [iv .i64 g_0.N, slv rT_api_Pair g_0.L], oc b2 [slv rT_api_Fraction o_1.Nodes, slv rT_api_Fraction o_1.Attacks], oc b3 [iv .u64 set__2], oc b4 [iv .i64 question_3], oc b5 [iv .i64 total6.2]] rfl) ?_
  refine n_then (ref_seq (ref_region ?_))
  refine s_rd (r_cload Tryd.isAgg3 rfl (j := 5) rfl rfl) rfl ?_
  refine mv1 rfl rfl ?_
  refine as1 rfl rfl ?_
  refine as1 rfl rfl ?_
  refine l_nil (n_then (ref_ret ?_))
  exact fin2 (.inl rfl) () [0] rfl ⟨rfl, trivial⟩ rfl (rv_tmp rfl) (rv_tmp rfl)

/-! deliberation/chance.reduced -/
noncomputable def chance_reduced_l1  (s6 : Int × Int) : Option (Sum (Int) (Int × Int)) :=
  bif s6.2 != 0 then
    Option.bind (iremM .i64 s6.1 s6.2) fun b9 =>
    some (Sum.inr (s6.2, b9))
  else
    some (Sum.inl s6.1)

noncomputable def chance_reduced_m (num_0 : Int) (den_1 : Int) : Option (T_api_Fraction) :=
  Option.bind (loopC (chance_reduced_l1) (num_0, den_1)) fun q10 : Int =>
  Option.bind (iquoM .i64 num_0 q10) fun t12 =>
  Option.bind (iquoM .i64 den_1 q10) fun t13 =>
  some (T_api_Fraction.mk t12 t13)

theorem chance_reduced_ok {num_0 : Int} {den_1 : Int} {r : T_api_Fraction} (hm : chance_reduced_m num_0 den_1 = some r) :
    FnOk prog 31 [iv .i64 num_0, iv .i64 den_1] [] (fun (x : Unit) => [ag [iv .i64 r.Num, iv .i64 r.Den]]) (fun (x : Unit) => []) := by
  refine fn_ok (fn := Tryd.f31) (N := 22) (res := fun r x => [ag [iv .i64 r.Num, iv .i64 r.Den]]) (Ω1 := fun r x => []) Tryd.func31 rfl rfl hm rfl (fun E hM => ?_)
  unfold chance_reduced_m
  refine ref_seq (ref_region ?_)
  refine s_st (s_alloc zt_36) rfl (fun b1 => ?_)
  refine l_nil (n_then (ref_seq (ref_region ?_)))
  refine mv1 rfl rfl ?_
  refine mv1 rfl rfl ?_
  refine as1 rfl rfl ?_
  refine as1 rfl rfl ?_
  refine l_nil (n_then (ref_seq ?_))
  refine ref_loopB (f := (chance_reduced_l1)) (Γl := (fun (s6 : Int × Int) (x7 : Unit) => [(0, iv .i64 num_0), (1, iv .i64 den_1), (4, pv (ptr b1 0)), (5, iv .i64 s6.1), (6, iv .i64 s6.2)])) (Ωl := (fun (s6 : Int × Int) (x7 : Unit) => [oc b1 [iv .i64 0, iv .i64 0]])) (Γb := (fun (q10 : Int) (y11 : Unit) => [(0, iv .i64 num_0), (1, iv .i64 den_1), (4, pv (ptr b1 0)), (5, iv .i64 q10)])) (Ωb := (fun (q10 : Int) (y11 : Unit) => [oc b1 [iv .i64 0, iv .i64 0]])) (num_0, den_1) () (weak [0] ⟨rfl, rfl, rfl, rfl, rfl, trivial⟩ ⟨rfl, trivial⟩) (fun s6 x7 => ?_) (fun q10 y11 => ?_)
  · unfold chance_reduced_l1
    refine ref_seq (ref_seq (ref_region ?_))
    refine mv1 rfl rfl ?_
    refine s_rd (r_neq rfl rfl) rfl ?_
    refine l_nil (n_then ?_)
    refine ref_cond rfl (fun hb8 => ?_) (fun hb8 => ?_)
    · refine ref_skip (n_then (ref_block ?_))
      refine ref_draw [0, 1, 2, 3] rfl (by kernel_rfl) (fun hok => ?_)
      refine a_rd (i := 0) hok rfl (by kernel_rfl) rfl (r_move rfl) rfl ?_
      refine a_rd (i := 1) hok rfl (by kernel_rfl) rfl (r_move rfl) rfl ?_
      refine a_rd (i := 2) hok rfl (by kernel_rfl) rfl (r_move rfl) rfl ?_
      refine pull fun b9 h_b9 => ?_
      refine a_rd (i := 3) hok rfl (by kernel_rfl) rfl (r_remM h_b9 rfl rfl) rfl ?_
      refine a_next hok 4 [] (by kernel_rfl) ?_ trivial
      refine a_st (i := 4) hok rfl rfl (St.ofRd (r_assign rfl)) (by intro _ h; cases h; rfl) (fun _ => ⟨trivial, ⟨trivial, ⟨trivial, ⟨trivial, trivial⟩⟩⟩⟩) (fun _ => ?_)
      refine a_next hok 5 [] (by kernel_rfl) ?_ trivial
      refine a_st (i := 5) hok rfl rfl (St.ofRd (r_assign rfl)) (by intro _ h; cases h; rfl) (fun _ => ⟨trivial, ⟨trivial, ⟨trivial, ⟨trivial, trivial⟩⟩⟩⟩) (fun _ => ?_)
      refine a_fin hok (by kernel_rfl) ?_
      refine n_block ?_
      exact goB () (weak [0] ⟨rfl, rfl, rfl, rfl, rfl, trivial⟩ ⟨rfl, trivial⟩)
    refine ref_exit (x_then ?_)
    exact brkB () (weak [0] ⟨rfl, rfl, rfl, rfl, trivial⟩ ⟨rfl, trivial⟩)
  refine n_then (ref_seq ?_)
  refine ref_draw [0, 1, 2, 3, 4, 5, 6] rfl (by kernel_rfl) (fun hok => ?_)
  refine a_rd (i := 0) hok rfl (by kernel_rfl) rfl (r_move rfl) rfl ?_
  refine a_rd (i := 1) hok rfl (by kernel_rfl) rfl (r_move rfl) rfl ?_
  refine pull fun t12 h_t12 => ?_
  refine a_rd (i := 2) hok rfl (by kernel_rfl) rfl (r_quoM h_t12 rfl rfl) rfl ?_
  refine a_rd (i := 3) hok rfl (by kernel_rfl) rfl (r_move rfl) rfl ?_
  refine a_rd (i := 4) hok rfl (by kernel_rfl) rfl (r_move rfl) rfl ?_
  refine pull fun t13 h_t13 => ?_
  refine a_rd (i := 5) hok rfl (by kernel_rfl) rfl (r_quoM h_t13 rfl rfl) rfl ?_
  refine a_rd (i := 6) hok rfl (by kernel_rfl) rfl (r_build (ps := [(0, .tmp 17), (1, .tmp 20)]) (rs := [(0, [iv .i64 t12]), (1, [iv .i64 t13])]) st_36 zs_36 ⟨rfl, (part_at rfl iv_at), ⟨rfl, (part_at rfl iv_at), trivial⟩⟩ rfl rfl) rfl ?_
  refine a_next hok 7 [] (by kernel_rfl) ?_ trivial
  refine a_st (i := 7) hok rfl rfl (s_cstore (out := [iv .i64 t12, iv .i64 t13]) Tryd.sizeOf36 rfl (j := 0) rfl (part_agO (ψs := [iv .i64 t12, iv .i64 t13]) rfl ⟨.inl iv_at, .inl iv_at, trivial⟩) rfl rfl rfl) (by intro _ h; cases h) (fun _ => ⟨trivial, ⟨trivial, ⟨trivial, ⟨trivial, ⟨trivial, ⟨trivial, ⟨trivial, trivial⟩⟩⟩⟩⟩⟩⟩) (fun _ => ?_)
  refine a_fin hok (by kernel_rfl) ?_
  refine n_then (ref_ret ?_)
  exact fin1 (.inl rfl) () [] rfl trivial rfl (rv_cell rfl (j := 0) rfl Tryd.isAgg36 Tryd.sizeOf36 rfl rfl)

/-! deliberation/chance.Joint -/
noncomputable def chance_Joint_m (g_0 : T_api_Graph) (o_1 : T_api_Odds) (set__2 : (List Int)) (question_3 : Int) : Option (T_api_Fraction × Int) :=
  Option.bind (chance_arguments_m g_0 o_1 set__2 question_3) fun e4 =>
  bif e4 != 0 then
    some ((T_api_Fraction.mk 0 0), e4)
  else
    Option.bind (network_Of_m set__2) fun t6 =>
    Option.bind (chance_joint_m g_0 o_1 t6 question_3) fun t7 =>
    Option.bind (chance_reduced_m t7.1 t7.2) fun t8 =>
    some (t8, 0)

theorem chance_Joint_ok {g_0 : T_api_Graph} {o_1 : T_api_Odds} {set__2 : (List Int)} {question_3 : Int} {r : T_api_Fraction × Int} (hm : chance_Joint_m g_0 o_1 set__2 question_3 = some r) :
    FnOk prog 12 [ag [iv .i64 g_0.N, slv rT_api_Pair g_0.L], ag [slv rT_api_Fraction o_1.Nodes, slv rT_api_Fraction o_1.Attacks], slv (rI .i64) set__2, iv .i64 question_3] [tbO (rI .u8) 0 tab_0] (fun (x : Unit) => [ag [iv .i64 r.1.Num, iv .i64 r.1.Den], iv .i64 r.2]) (fun (x : Unit) => [tbO (rI .u8) 0 tab_0]) := by
  refine fn_ok (fn := Tryd.f12) (N := 29) (res := fun r x => [ag [iv .i64 r.1.Num, iv .i64 r.1.Den], iv .i64 r.2]) (Ω1 := fun r x => [tbO (rI .u8) 0 tab_0]) Tryd.func12 rfl rfl hm rfl (fun E hM => ?_)
  unfold chance_Joint_m
  refine ref_seq (ref_region ?_)
  refine s_st (s_box (part_agO (ψs := [iv .i64 g_0.N, slv rT_api_Pair g_0.L]) rfl ⟨.inl iv_at, .inl slv_at, trivial⟩)) rfl (fun b1 => ?_)
  refine s_st (s_box (part_agO (ψs := [slv rT_api_Fraction o_1.Nodes, slv rT_api_Fraction o_1.Attacks]) rfl ⟨.inl slv_at, .inl slv_at, trivial⟩)) rfl (fun b2 => ?_)
  refine s_st (s_alloc zt_36) rfl (fun b3 => ?_)
  refine as1 rfl rfl ?_
  refine l_nil (n_then (ref_seq (ref_seq (ref_region ?_))))
  refine s_rd (r_cloadS Tryd.isAgg27 Tryd.sizeOf27 rfl (j := 1) rfl rfl rfl) rfl ?_
  refine s_rd (r_cloadS Tryd.isAgg31 Tryd.sizeOf31 rfl (j := 2) rfl rfl rfl) rfl ?_
  refine mv1 rfl rfl ?_
  refine mv1 rfl rfl ?_
  refine pull fun e4 h_e4 => ?_
  refine s_st (s_call (ψ := fun (_ : Unit) => iv .i64 e4) (args := [.tmp 11, .tmp 12, .tmp 13, .tmp 14]) Tryd.call30 rfl (chance_arguments_ok h_e4) ⟨arg rfl, arg rfl, arg rfl, arg rfl, trivial⟩ (fun _ _ _ _ h => h)) rfl (fun _ => ?_)
  refine as1 rfl rfl ?_
  refine l_nil ?_
  refine b_of (nrm [tbO (rI .u8) 0 tab_0, oc b1 [iv .i64 g_0.N, slv rT_api_Pair g_0.L], oc b2 [slv rT_api_Fraction o_1.Nodes, slv rT_api_Fraction o_1.Attacks], oc b3 [iv .i64 0, iv .i64 0]] rfl) ?_
  refine n_then (ref_seq (ref_region ?_))
  refine mv1 rfl rfl ?_
  refine s_rd (r_neq rfl rfl) rfl ?_
  refine l_nil (n_then ?_)
  refine ref_cond rfl (fun hb5 => ?_) (fun hb5 => ?_)
  · refine ref_seq (ref_region ?_)
    refine s_rd (r_build (ps := []) (rs := []) st_36 zs_36 trivial rfl rfl) rfl ?_
    refine mv1 rfl rfl ?_
    refine s_st0 (s_cstore (out := [iv .i64 0, iv .i64 0]) Tryd.sizeOf36 rfl (j := 3) rfl (part_agO (ψs := [iv .i64 0, iv .i64 0]) rfl ⟨.inl iv_at, .inl iv_at, trivial⟩) rfl rfl rfl) (fun _ => ?_)
    refine as1 rfl rfl ?_
    refine l_nil (n_then (ref_ret (r_then ?_)))
    exact fin2 (.inl rfl) () [0] rfl ⟨rfl, trivial⟩ rfl (rv_cell rfl (j := 3) rfl Tryd.isAgg36 Tryd.sizeOf36 rfl rfl) (rv_tmp rfl)
  refine ref_skip (n_then (ref_seq ?_))
  refine ref_draw [0, 1, 2, 4, 6, 7] rfl (by kernel_rfl) (fun hok => ?_)
  refine a_rd (i := 0) hok rfl (by kernel_rfl) rfl (r_cloadS Tryd.isAgg27 Tryd.sizeOf27 rfl (j := 1) rfl rfl rfl) rfl ?_
  refine a_rd (i := 1) hok rfl (by kernel_rfl) rfl (r_cloadS Tryd.isAgg31 Tryd.sizeOf31 rfl (j := 2) rfl rfl rfl) rfl ?_
  refine a_rd (i := 2) hok rfl (by kernel_rfl) rfl (r_move rfl) rfl ?_
  refine a_rd (i := 4) hok rfl (by kernel_rfl) rfl (r_move rfl) rfl ?_
  refine pull fun t6 h_t6 => ?_
  refine a_next hok 3 [] (by kernel_rfl) ?_ trivial
  refine a_st (i := 3) hok rfl rfl (s_call (ψ := fun (_ : Unit) => iv .u64 t6) (args := [.tmp 22]) Tryd.call33 rfl (network_Of_ok h_t6) ⟨arg rfl, trivial⟩ (fun _ _ _ _ h => h)) (by intro _ h; cases h; rfl) (fun _ => ⟨trivial, ⟨trivial, ⟨⟨⟨rfl, rfl⟩, trivial⟩, ⟨⟨⟨rfl, rfl⟩, trivial⟩, trivial⟩⟩⟩⟩) (fun _ => ?_)
  refine pull fun t7 h_t7 => ?_
  refine a_next hok 5 [] (by kernel_rfl) ?_ trivial
  refine a_st (i := 5) hok rfl rfl (s_callC [0] [true] (fun (_ : Unit) => [tbO (rI .u8) 0 tab_0]) (fun (_ : Unit) => []) (fun (_ : Unit) => tup [iv .i64 t7.1, iv .i64 t7.2]) (args := [.tmp 20, .tmp 21, .tmp 23, .tmp 24]) (caps := []) Tryd.call32 rfl (chance_joint_ok h_t7) ⟨rfl, rfl, trivial⟩ (fun _ => rfl) (fun _ => trivial) (fun _ => rfl) ⟨arg rfl, arg rfl, arg rfl, arg rfl, trivial⟩ (fun _ _ _ _ h => h)) (by intro _ h; cases h; rfl) (fun _ => ⟨trivial, ⟨trivial, ⟨trivial, ⟨trivial, trivial⟩⟩⟩⟩) (fun _ => ?_)
  refine a_rd (i := 6) hok rfl (by kernel_rfl) rfl (r_extract rfl rfl) rfl ?_
  refine a_rd (i := 7) hok rfl (by kernel_rfl) rfl (r_extract rfl rfl) rfl ?_
  refine pull fun t8 h_t8 => ?_
  refine a_next hok 8 [] (by kernel_rfl) ?_ trivial
  refine a_st (i := 8) hok rfl rfl (s_call (ψ := fun (_ : Unit) => ag [iv .i64 t8.Num, iv .i64 t8.Den]) (args := [.tmp 26, .tmp 27]) Tryd.call31 rfl (chance_reduced_ok h_t8) ⟨arg rfl, arg rfl, trivial⟩ (fun _ _ _ _ h => h)) (by intro _ h; cases h; rfl) (fun _ => ⟨trivial, ⟨trivial, ⟨trivial, ⟨trivial, ⟨⟨⟨rfl, rfl⟩, trivial⟩, ⟨⟨⟨rfl, rfl⟩, trivial⟩, trivial⟩⟩⟩⟩⟩⟩) (fun _ => ?_)
  refine a_next hok 9 [] (by kernel_rfl) ?_ trivial
  refine a_st (i := 9) hok rfl rfl (s_cstore (out := [iv .i64 t8.Num, iv .i64 t8.Den]) Tryd.sizeOf36 rfl (j := 3) rfl (part_agO (ψs := [iv .i64 t8.Num, iv .i64 t8.Den]) rfl ⟨.inl iv_at, .inl iv_at, trivial⟩) rfl rfl rfl) (by intro _ h; cases h) (fun _ => ⟨trivial, ⟨trivial, ⟨trivial, ⟨trivial, ⟨trivial, ⟨trivial, trivial⟩⟩⟩⟩⟩⟩) (fun _ => ?_)
  refine a_next hok 10 [] (by kernel_rfl) ?_ trivial
  refine a_st (i := 10) hok rfl rfl (St.ofRd (r_assign rfl)) (by intro _ h; cases h; rfl) (fun _ => ⟨trivial, ⟨trivial, ⟨trivial, ⟨trivial, ⟨trivial, ⟨trivial, trivial⟩⟩⟩⟩⟩⟩) (fun _ => ?_)
  refine a_fin hok (by kernel_rfl) ?_
  refine b_of (nrm [tbO (rI .u8) 0 tab_0, oc b1 [iv .i64 g_0.N, slv rT_api_Pair g_0.L], oc b2 [slv rT_api_Fraction o_1.Nodes, slv rT_api_Fraction o_1.Attacks], oc b3 [iv .i64 t8.Num, iv .i64 t8.Den]] rfl) ?_
  refine n_then (ref_ret ?_)
  exact fin2 (.inl rfl) () [0] rfl ⟨rfl, trivial⟩ rfl (rv_cell rfl (j := 3) rfl Tryd.isAgg36 Tryd.sizeOf36 rfl rfl) (rv_tmp rfl)

/-! deliberation/chance.Given -/
noncomputable def chance_Given_l1 (g_0 : T_api_Graph) (o_1 : T_api_Odds) (a__2 : (List Int)) (b_3 : (List Int)) (question_4 : Int) (s10 : Int) : Option (Sum ((Sum (T_api_Fraction × Int) (Unit))) (Int)) :=
  bif decide (s10 < ([a__2, b_3].length : Int)) then
    Option.bind (idxM [a__2, b_3] s10) fun l13 =>
    Option.bind (chance_arguments_m g_0 o_1 l13 question_4) fun e14 =>
    bif e14 != 0 then
      some (Sum.inl (Sum.inl ((T_api_Fraction.mk 0 0), e14)))
    else
      some (Sum.inr (iadd .i64 s10 1))
  else
    some (Sum.inl (Sum.inr ()))

noncomputable def chance_Given_m (g_0 : T_api_Graph) (o_1 : T_api_Odds) (a__2 : (List Int)) (b_3 : (List Int)) (question_4 : Int) : Option (T_api_Fraction × Int) :=
  Option.bind (loopC (chance_Given_l1 g_0 o_1 a__2 b_3 question_4) 0) (sumK (fun a : T_api_Fraction × Int => some a) fun q16 : Unit =>
    Option.bind (network_Of_m b_3) fun t18 =>
    Option.bind (chance_joint_m g_0 o_1 t18 question_4) fun t19 =>
    bif t19.1 == 0 then
      some ((T_api_Fraction.mk 0 0), 9)
    else
      Option.bind (network_Of_m a__2) fun t21 =>
      Option.bind (network_Of_m b_3) fun t22 =>
      Option.bind (chance_joint_m g_0 o_1 (ior .u64 t21 t22) question_4) fun t23 =>
      Option.bind (chance_reduced_m t23.1 t19.1) fun t24 =>
      some (t24, 0))

theorem chance_Given_ok {g_0 : T_api_Graph} {o_1 : T_api_Odds} {a__2 : (List Int)} {b_3 : (List Int)} {question_4 : Int} {r : T_api_Fraction × Int} (hm : chance_Given_m g_0 o_1 a__2 b_3 question_4 = some r) :
    FnOk prog 13 [ag [iv .i64 g_0.N, slv rT_api_Pair g_0.L], ag [slv rT_api_Fraction o_1.Nodes, slv rT_api_Fraction o_1.Attacks], slv (rI .i64) a__2, slv (rI .i64) b_3, iv .i64 question_4] [tbO (rI .u8) 0 tab_0] (fun (x : Unit) => [ag [iv .i64 r.1.Num, iv .i64 r.1.Den], iv .i64 r.2]) (fun (x : Unit) => [tbO (rI .u8) 0 tab_0]) := by
  refine fn_ok (fn := Tryd.f13) (N := 64) (res := fun r x => [ag [iv .i64 r.1.Num, iv .i64 r.1.Den], iv .i64 r.2]) (Ω1 := fun r x => [tbO (rI .u8) 0 tab_0]) Tryd.func13 rfl rfl hm rfl (fun E hM => ?_)
  unfold chance_Given_m
  refine ref_seq (ref_region ?_)
  refine s_st (s_box (part_agO (ψs := [iv .i64 g_0.N, slv rT_api_Pair g_0.L]) rfl ⟨.inl iv_at, .inl slv_at, trivial⟩)) rfl (fun b1 => ?_)
  refine s_st (s_box (part_agO (ψs := [slv rT_api_Fraction o_1.Nodes, slv rT_api_Fraction o_1.Attacks]) rfl ⟨.inl slv_at, .inl slv_at, trivial⟩)) rfl (fun b2 => ?_)
  refine s_st (s_alloc zt_36) rfl (fun b3 => ?_)
  refine as1 rfl rfl ?_
  refine l_nil (n_then (ref_seq (ref_seq (ref_region ?_))))
  refine mv1 rfl rfl ?_
  refine mv1 rfl rfl ?_
  refine s_st (s_bslice (xs := [.tmp 19, .tmp 20]) (ds := [a__2, b_3]) Tryd.underlying69 el_22 rfl (Nat.le_of_ble_eq_true rfl) ⟨(part_at rfl slv_at), ⟨(part_at rfl slv_at), trivial⟩⟩) rfl (fun _ => ?_)
  refine s_rd (r_len Tryd.underlying69 rfl) rfl ?_
  refine mv1 rfl rfl ?_
  refine l_nil ?_
  refine b_of (nrm [tbO (rI .u8) 0 tab_0, oc b1 [iv .i64 g_0.N, slv rT_api_Pair g_0.L], oc b2 [slv rT_api_Fraction o_1.Nodes, slv rT_api_Fraction o_1.Attacks], oc b3 [iv .i64 0, iv .i64 0]] rfl) ?_
  refine n_then ?_
  refine ref_loopX (f := (chance_Given_l1 g_0 o_1 a__2 b_3 question_4)) (Γl := (fun (s10 : Int) (x11 : Unit) => [(2, slv (rI .i64) a__2), (3, slv (rI .i64) b_3), (4, iv .i64 question_4), (5, pv (ptr b1 0)), (6, pv (ptr b2 0)), (10, pv (ptr b3 0)), (21, slv (rSl (rI .i64)) [a__2, b_3]), (22, iv .i64 ([a__2, b_3].length : Int)), (23, iv .i64 s10)])) (Ωl := (fun (s10 : Int) (x11 : Unit) => [tbO (rI .u8) 0 tab_0, oc b1 [iv .i64 g_0.N, slv rT_api_Pair g_0.L], oc b2 [slv rT_api_Fraction o_1.Nodes, slv rT_api_Fraction o_1.Attacks], oc b3 [iv .i64 0, iv .i64 0]])) (Γb := (fun (q16 : Unit) (y17 : Unit) => [(2, slv (rI .i64) a__2), (3, slv (rI .i64) b_3), (4, iv .i64 question_4), (5, pv (ptr b1 0)), (6, pv (ptr b2 0)), (10, pv (ptr b3 0))])) (Ωb := (fun (q16 : Unit) (y17 : Unit) => [oc b1 [iv .i64 g_0.N, slv rT_api_Pair g_0.L], oc b2 [slv rT_api_Fraction o_1.Nodes, slv rT_api_Fraction o_1.Attacks], oc b3 [iv .i64 0, iv .i64 0], tbO (rI .u8) 0 tab_0])) (kr := (fun a : T_api_Fraction × Int => some a)) 0 () (weak [0, 1, 2, 3] ⟨rfl, rfl, rfl, rfl, rfl, rfl, rfl, rfl, rfl, trivial⟩ ⟨rfl, rfl, rfl, rfl, trivial⟩) (fun s10 x11 => ?_) (fun q16 y17 => ?_)
  · unfold chance_Given_l1
    refine ref_seq (ref_region ?_)
    refine s_rd (r_lss rfl rfl) rfl ?_
    refine l_nil (n_then (ref_seq ?_))
    refine ref_cond rfl (fun hb12 => ?_) (fun hb12 => ?_)
    · refine ref_skip (n_then (ref_seq (ref_block (ref_seq (ref_region ?_)))))
      refine pull fun l13 h_l13 => ?_
      refine s_rd (r_index h_l13 Tryd.underlying69 el_22 rfl rfl) rfl ?_
      refine s_rd (r_load el_22 rfl) rfl ?_
      refine as1 rfl rfl ?_
      refine l_nil (n_then (ref_seq (ref_region ?_)))
      refine s_rd (r_cloadS Tryd.isAgg27 Tryd.sizeOf27 rfl (j := 1) rfl rfl rfl) rfl ?_
      refine s_rd (r_cloadS Tryd.isAgg31 Tryd.sizeOf31 rfl (j := 2) rfl rfl rfl) rfl ?_
      refine mv1 rfl rfl ?_
      refine mv1 rfl rfl ?_
      refine pull fun e14 h_e14 => ?_
      refine s_st (s_call (ψ := fun (_ : Unit) => iv .i64 e14) (args := [.tmp 27, .tmp 28, .tmp 29, .tmp 30]) Tryd.call30 rfl (chance_arguments_ok h_e14) ⟨arg rfl, arg rfl, arg rfl, arg rfl, trivial⟩ (fun _ _ _ _ h => h)) rfl (fun _ => ?_)
      refine as1 rfl rfl ?_
      refine l_nil (n_then (ref_seq (ref_region ?_)))
      refine mv1 rfl rfl ?_
      refine s_rd (r_neq rfl rfl) rfl ?_
      refine l_nil (n_then ?_)
      refine ref_cond rfl (fun hb15 => ?_) (fun hb15 => ?_)
      · refine ref_seq (ref_region ?_)
        refine s_rd (r_build (ps := []) (rs := []) st_36 zs_36 trivial rfl rfl) rfl ?_
        refine mv1 rfl rfl ?_
        refine s_st0 (s_cstore (out := [iv .i64 0, iv .i64 0]) Tryd.sizeOf36 rfl (j := 3) rfl (part_agO (ψs := [iv .i64 0, iv .i64 0]) rfl ⟨.inl iv_at, .inl iv_at, trivial⟩) rfl rfl rfl) (fun _ => ?_)
        refine as1 rfl rfl ?_
        refine l_nil (n_then (ref_ret (r_block (r_then ?_))))
        refine retX ?_
        refine r_block (r_then ?_)
        exact fin2 (.inl rfl) () [0] rfl ⟨rfl, trivial⟩ rfl (rv_cell rfl (j := 3) rfl Tryd.isAgg36 Tryd.sizeOf36 rfl rfl) (rv_tmp rfl)
      refine ref_skip (n_block (n_then (ref_region ?_)))
      refine s_rd (r_add rfl rfl) rfl ?_
      refine mv1 rfl rfl ?_
      refine l_nil ?_
      exact goX () (weak [0, 1, 2, 3] ⟨rfl, rfl, rfl, rfl, rfl, rfl, rfl, rfl, rfl, trivial⟩ ⟨rfl, rfl, rfl, rfl, trivial⟩)
    refine ref_exit (x_then ?_)
    exact brkX () (weak [1, 2, 3, 0] ⟨rfl, rfl, rfl, rfl, rfl, rfl, trivial⟩ ⟨rfl, rfl, rfl, rfl, trivial⟩)
  refine n_then (ref_seq ?_)
  refine ref_draw [0, 1, 2, 4, 6, 7, 8] rfl (by kernel_rfl) (fun hok => ?_)
  refine a_rd (i := 0) hok rfl (by kernel_rfl) rfl (r_cloadS Tryd.isAgg27 Tryd.sizeOf27 rfl (j := 0) rfl rfl rfl) rfl ?_
  refine a_rd (i := 1) hok rfl (by kernel_rfl) rfl (r_cloadS Tryd.isAgg31 Tryd.sizeOf31 rfl (j := 1) rfl rfl rfl) rfl ?_
  refine a_rd (i := 2) hok rfl (by kernel_rfl) rfl (r_move rfl) rfl ?_
  refine a_rd (i := 4) hok rfl (by kernel_rfl) rfl (r_move rfl) rfl ?_
  refine pull fun t18 h_t18 => ?_
  refine a_next hok 3 [] (by kernel_rfl) ?_ trivial
  refine a_st (i := 3) hok rfl rfl (s_call (ψ := fun (_ : Unit) => iv .u64 t18) (args := [.tmp 40]) Tryd.call33 rfl (network_Of_ok h_t18) ⟨arg rfl, trivial⟩ (fun _ _ _ _ h => h)) (by intro _ h; cases h; rfl) (fun _ => ⟨trivial, ⟨trivial, ⟨⟨⟨rfl, rfl⟩, trivial⟩, ⟨⟨⟨rfl, rfl⟩, trivial⟩, trivial⟩⟩⟩⟩) (fun _ => ?_)
  refine pull fun t19 h_t19 => ?_
  refine a_next hok 5 [] (by kernel_rfl) ?_ trivial
  refine a_st (i := 5) hok rfl rfl (s_callC [3] [true] (fun (_ : Unit) => [tbO (rI .u8) 0 tab_0]) (fun (_ : Unit) => []) (fun (_ : Unit) => tup [iv .i64 t19.1, iv .i64 t19.2]) (args := [.tmp 38, .tmp 39, .tmp 41, .tmp 42]) (caps := []) Tryd.call32 rfl (chance_joint_ok h_t19) ⟨rfl, rfl, trivial⟩ (fun _ => rfl) (fun _ => trivial) (fun _ => rfl) ⟨arg rfl, arg rfl, arg rfl, arg rfl, trivial⟩ (fun _ _ _ _ h => h)) (by intro _ h; cases h; rfl) (fun _ => ⟨trivial, ⟨trivial, ⟨trivial, ⟨trivial, trivial⟩⟩⟩⟩) (fun _ => ?_)
  refine a_rd (i := 6) hok rfl (by kernel_rfl) rfl (r_move rfl) rfl ?_
  refine a_rd (i := 7) hok rfl (by kernel_rfl) rfl (r_extract rfl rfl) rfl ?_
  refine a_rd (i := 8) hok rfl (by kernel_rfl) rfl (r_extract rfl rfl) rfl ?_
  refine a_next hok 9 [] (by kernel_rfl) ?_ trivial
  refine a_st (i := 9) hok rfl rfl (St.ofRd (r_assign rfl)) (by intro _ h; cases h; rfl) (fun _ => ⟨trivial, ⟨trivial, ⟨trivial, ⟨trivial, ⟨trivial, ⟨trivial, ⟨trivial, trivial⟩⟩⟩⟩⟩⟩⟩) (fun _ => ?_)
  refine a_next hok 10 [] (by kernel_rfl) ?_ trivial
  refine a_st (i := 10) hok rfl rfl (St.ofRd (r_assign rfl)) (by intro _ h; cases h; rfl) (fun _ => ⟨trivial, ⟨trivial, ⟨trivial, ⟨trivial, ⟨trivial, ⟨trivial, ⟨trivial, trivial⟩⟩⟩⟩⟩⟩⟩) (fun _ => ?_)
  refine a_fin hok (by kernel_rfl) ?_
  refine b_of (nrm [oc b1 [iv .i64 g_0.N, slv rT_api_Pair g_0.L], oc b2 [slv rT_api_Fraction o_1.Nodes, slv rT_api_Fraction o_1.Attacks], oc b3 [iv .i64 0, iv .i64 0], tbO (rI .u8) 0 tab_0] rfl) ?_
  refine n_then (ref_seq (ref_seq (ref_region ?_)))
  refine mv1 rfl rfl ?_
  refine s_rd (r_eql rfl rfl) rfl ?_
  refine l_nil (n_then ?_)
  refine ref_cond rfl (fun hb20 => ?_) (fun hb20 => ?_)
  · refine ref_seq (ref_region ?_)
    refine s_rd (r_build (ps := []) (rs := []) st_36 zs_36 trivial rfl rfl) rfl ?_
    refine s_st0 (s_cstore (out := [iv .i64 0, iv .i64 0]) Tryd.sizeOf36 rfl (j := 2) rfl (part_agO (ψs := [iv .i64 0, iv .i64 0]) rfl ⟨.inl iv_at, .inl iv_at, trivial⟩) rfl rfl rfl) (fun _ => ?_)
    refine as1 rfl rfl ?_
    refine l_nil (n_then (ref_ret (r_then ?_)))
    exact fin2 (.inl rfl) () [3] rfl ⟨rfl, trivial⟩ rfl (rv_cell rfl (j := 2) rfl Tryd.isAgg36 Tryd.sizeOf36 rfl rfl) (rv_tmp rfl)
  refine ref_skip (n_then (ref_seq ?_))
  refine ref_draw [0, 1, 2, 4, 6, 7, 9, 10, 11] rfl (by kernel_rfl) (fun hok => ?_)
  refine a_rd (i := 0) hok rfl (by kernel_rfl) rfl (r_cloadS Tryd.isAgg27 Tryd.sizeOf27 rfl (j := 0) rfl rfl rfl) rfl ?_
  refine a_rd (i := 1) hok rfl (by kernel_rfl) rfl (r_cloadS Tryd.isAgg31 Tryd.sizeOf31 rfl (j := 1) rfl rfl rfl) rfl ?_
  refine a_rd (i := 2) hok rfl (by kernel_rfl) rfl (r_move rfl) rfl ?_
  refine a_rd (i := 4) hok rfl (by kernel_rfl) rfl (r_move rfl) rfl ?_
  refine a_rd (i := 7) hok rfl (by kernel_rfl) rfl (r_move rfl) rfl ?_
  refine pull fun t21 h_t21 => ?_
  refine a_next hok 3 [] (by kernel_rfl) ?_ trivial
  refine a_st (i := 3) hok rfl rfl (s_call (ψ := fun (_ : Unit) => iv .u64 t21) (args := [.tmp 52]) Tryd.call33 rfl (network_Of_ok h_t21) ⟨arg rfl, trivial⟩ (fun _ _ _ _ h => h)) (by intro _ h; cases h; rfl) (fun _ => ⟨trivial, ⟨trivial, ⟨trivial, ⟨⟨⟨rfl, rfl⟩, trivial⟩, ⟨⟨⟨rfl, rfl⟩, trivial⟩, trivial⟩⟩⟩⟩⟩) (fun _ => ?_)
  refine pull fun t22 h_t22 => ?_
  refine a_next hok 5 [] (by kernel_rfl) ?_ trivial
  refine a_st (i := 5) hok rfl rfl (s_call (ψ := fun (_ : Unit) => iv .u64 t22) (args := [.tmp 54]) Tryd.call33 rfl (network_Of_ok h_t22) ⟨arg rfl, trivial⟩ (fun _ _ _ _ h => h)) (by intro _ h; cases h; rfl) (fun _ => ⟨trivial, ⟨trivial, ⟨trivial, ⟨⟨⟨rfl, rfl⟩, trivial⟩, ⟨⟨⟨rfl, rfl⟩, trivial⟩, trivial⟩⟩⟩⟩⟩) (fun _ => ?_)
  refine a_rd (i := 6) hok rfl (by kernel_rfl) rfl (r_or rfl rfl) rfl ?_
  refine pull fun t23 h_t23 => ?_
  refine a_next hok 8 [] (by kernel_rfl) ?_ trivial
  refine a_st (i := 8) hok rfl rfl (s_callC [3] [true] (fun (_ : Unit) => [tbO (rI .u8) 0 tab_0]) (fun (_ : Unit) => []) (fun (_ : Unit) => tup [iv .i64 t23.1, iv .i64 t23.2]) (args := [.tmp 50, .tmp 51, .tmp 56, .tmp 57]) (caps := []) Tryd.call32 rfl (chance_joint_ok h_t23) ⟨rfl, rfl, trivial⟩ (fun _ => rfl) (fun _ => trivial) (fun _ => rfl) ⟨arg rfl, arg rfl, arg rfl, arg rfl, trivial⟩ (fun _ _ _ _ h => h)) (by intro _ h; cases h; rfl) (fun _ => ⟨trivial, ⟨trivial, ⟨trivial, ⟨trivial, ⟨trivial, ⟨trivial, trivial⟩⟩⟩⟩⟩⟩) (fun _ => ?_)
  refine a_rd (i := 9) hok rfl (by kernel_rfl) rfl (r_move rfl) rfl ?_
  refine a_rd (i := 10) hok rfl (by kernel_rfl) rfl (r_extract rfl rfl) rfl ?_
  refine a_rd (i := 11) hok rfl (by kernel_rfl) rfl (r_extract rfl rfl) rfl ?_
  refine a_next hok 12 [] (by kernel_rfl) ?_ trivial
  refine a_st (i := 12) hok rfl rfl (St.ofRd (r_assign rfl)) (by intro _ h; cases h; rfl) (fun _ => ⟨trivial, ⟨trivial, ⟨trivial, ⟨trivial, ⟨trivial, ⟨trivial, ⟨trivial, ⟨trivial, ⟨trivial, trivial⟩⟩⟩⟩⟩⟩⟩⟩⟩) (fun _ => ?_)
  refine a_next hok 13 [] (by kernel_rfl) ?_ trivial
  refine a_st (i := 13) hok rfl rfl (St.ofRd (r_assign rfl)) (by intro _ h; cases h; rfl) (fun _ => ⟨trivial, ⟨trivial, ⟨trivial, ⟨trivial, ⟨trivial, ⟨trivial, ⟨trivial, ⟨trivial, ⟨trivial, trivial⟩⟩⟩⟩⟩⟩⟩⟩⟩) (fun _ => ?_)
  refine a_fin hok (by kernel_rfl) ?_
  refine b_of (nrm [oc b1 [iv .i64 g_0.N, slv rT_api_Pair g_0.L], oc b2 [slv rT_api_Fraction o_1.Nodes, slv rT_api_Fraction o_1.Attacks], oc b3 [iv .i64 0, iv .i64 0], tbO (rI .u8) 0 tab_0] rfl) ?_
  refine n_then (ref_seq (ref_region ?_))
  refine mv1 rfl rfl ?_
  refine mv1 rfl rfl ?_
  refine pull fun t24 h_t24 => ?_
  refine s_st (s_call (ψ := fun (_ : Unit) => ag [iv .i64 t24.Num, iv .i64 t24.Den]) (args := [.tmp 61, .tmp 62]) Tryd.call31 rfl (chance_reduced_ok h_t24) ⟨arg rfl, arg rfl, trivial⟩ (fun _ _ _ _ h => h)) rfl (fun _ => ?_)
  refine s_st0 (s_cstore (out := [iv .i64 t24.Num, iv .i64 t24.Den]) Tryd.sizeOf36 rfl (j := 2) rfl (part_agO (ψs := [iv .i64 t24.Num, iv .i64 t24.Den]) rfl ⟨.inl iv_at, .inl iv_at, trivial⟩) rfl rfl rfl) (fun _ => ?_)
  refine as1 rfl rfl ?_
  refine l_nil (n_then (ref_ret ?_))
  exact fin2 (.inl rfl) () [3] rfl ⟨rfl, trivial⟩ rfl (rv_cell rfl (j := 2) rfl Tryd.isAgg36 Tryd.sizeOf36 rfl rfl) (rv_tmp rfl)

/-! deliberation/deliberationlaw23.awake -/
noncomputable def law23_awake_m  : Option (Bool) :=
  Option.bind (chance_Joint_m (T_api_Graph.mk 2 [(T_api_Pair.mk 0 1)]) (T_api_Odds.mk [(T_api_Fraction.mk 1 2), (T_api_Fraction.mk 1 1)] [(T_api_Fraction.mk 1 1)]) [1] 4) fun t4 =>
  Option.bind (chance_Given_m (T_api_Graph.mk 2 [(T_api_Pair.mk 0 1)]) (T_api_Odds.mk [(T_api_Fraction.mk 1 2), (T_api_Fraction.mk 1 1)] [(T_api_Fraction.mk 1 1)]) [1] [0] 1) fun t6 =>
  bif t4.2 == 0 then
    bif t6.2 == 0 then
      bif decide (t4.1 = (T_api_Fraction.mk 1 2)) then
        letM (decide (t6.1 = (T_api_Fraction.mk 0 1))) fun t8 =>
        some t8
      else
        some false
    else
      some false
  else
    some false

theorem law23_awake_ok  {r : Bool} (hm : law23_awake_m  = some r) :
    FnOk prog 14 [] [tbO (rI .u8) 0 tab_0] (fun (x : Unit) => [bv r]) (fun (x : Unit) => [tbO (rI .u8) 0 tab_0]) := by
  refine fn_ok (fn := Tryd.f14) (N := 49) (res := fun r x => [bv r]) (Ω1 := fun r x => [tbO (rI .u8) 0 tab_0]) Tryd.func14 rfl rfl hm rfl (fun E hM => ?_)
  unfold law23_awake_m
  refine ref_seq (ref_region ?_)
  refine as1 rfl rfl ?_
  refine l_nil (n_then (ref_seq (ref_region ?_)))
  refine s_rd (r_build (ps := [(0, .const (.int .i64 (1))), (1, .const (.int .i64 (1)))]) (rs := [(0, [iv .i64 1]), (1, [iv .i64 1])]) st_36 zs_36 ⟨rfl, (part_at rfl iv_at), ⟨rfl, (part_at rfl iv_at), trivial⟩⟩ rfl rfl) rfl ?_
  refine s_st (s_alloc zt_36) rfl (fun b1 => ?_)
  refine s_st0 (s_cstore (out := [iv .i64 1, iv .i64 1]) Tryd.sizeOf36 rfl (j := 1) rfl (part_agO (ψs := [iv .i64 1, iv .i64 1]) rfl ⟨.inl iv_at, .inl iv_at, trivial⟩) rfl rfl rfl) (fun _ => ?_)
  refine l_nil (n_then (ref_seq (ref_region ?_)))
  refine s_rd (r_build (ps := [(0, .const (.int .i64 (0))), (1, .const (.int .i64 (1)))]) (rs := [(0, [iv .i64 0]), (1, [iv .i64 1])]) st_63 zs_63 ⟨rfl, (part_at rfl iv_at), ⟨rfl, (part_at rfl iv_at), trivial⟩⟩ rfl rfl) rfl ?_
  refine s_st (s_bslice (xs := [.tmp 9]) (ds := [(T_api_Pair.mk 0 1)]) Tryd.underlying25 el_63 rfl (Nat.le_of_ble_eq_true rfl) ⟨(part_agO (ψs := [iv .i64 0, iv .i64 1]) rfl ⟨.inl iv_at, .inl iv_at, trivial⟩), trivial⟩) rfl (fun _ => ?_)
  refine s_rd (r_build (ps := [(0, .const (.int .i64 (2))), (1, .tmp 10)]) (rs := [(0, [iv .i64 2]), (1, [slv rT_api_Pair [(T_api_Pair.mk 0 1)]])]) st_27 zs_27 ⟨rfl, (part_at rfl iv_at), ⟨rfl, (part_at rfl slv_at), trivial⟩⟩ rfl rfl) rfl ?_
  refine s_st (s_alloc zt_27) rfl (fun b2 => ?_)
  refine s_st0 (s_cstore (out := [iv .i64 2, slv rT_api_Pair [(T_api_Pair.mk 0 1)]]) Tryd.sizeOf27 rfl (j := 2) rfl (part_agO (ψs := [iv .i64 2, slv rT_api_Pair [(T_api_Pair.mk 0 1)]]) rfl ⟨.inl iv_at, .inl slv_at, trivial⟩) rfl rfl rfl) (fun _ => ?_)
  refine l_nil ?_
  refine b_of (nrm [tbO (rI .u8) 0 tab_0, oc b1 [iv .i64 1, iv .i64 1], oc b2 [iv .i64 2, slv rT_api_Pair [(T_api_Pair.mk 0 1)]]] rfl) ?_
  refine n_then (ref_seq (ref_region ?_))
  refine s_rd (r_build (ps := [(0, .const (.int .i64 (1))), (1, .const (.int .i64 (2)))]) (rs := [(0, [iv .i64 1]), (1, [iv .i64 2])]) st_36 zs_36 ⟨rfl, (part_at rfl iv_at), ⟨rfl, (part_at rfl iv_at), trivial⟩⟩ rfl rfl) rfl ?_
  refine s_rd (r_cloadS Tryd.isAgg36 Tryd.sizeOf36 rfl (j := 1) rfl rfl rfl) rfl ?_
  refine s_st (s_bslice (xs := [.tmp 12, .tmp 13]) (ds := [(T_api_Fraction.mk 1 2), (T_api_Fraction.mk 1 1)]) Tryd.underlying29 el_36 rfl (Nat.le_of_ble_eq_true rfl) ⟨(part_agO (ψs := [iv .i64 1, iv .i64 2]) rfl ⟨.inl iv_at, .inl iv_at, trivial⟩), ⟨(part_agO (ψs := [iv .i64 1, iv .i64 1]) rfl ⟨.inl iv_at, .inl iv_at, trivial⟩), trivial⟩⟩) rfl (fun _ => ?_)
  refine s_rd (r_cloadS Tryd.isAgg36 Tryd.sizeOf36 rfl (j := 1) rfl rfl rfl) rfl ?_
  refine s_st (s_bslice (xs := [.tmp 15]) (ds := [(T_api_Fraction.mk 1 1)]) Tryd.underlying29 el_36 rfl (Nat.le_of_ble_eq_true rfl) ⟨(part_agO (ψs := [iv .i64 1, iv .i64 1]) rfl ⟨.inl iv_at, .inl iv_at, trivial⟩), trivial⟩) rfl (fun _ => ?_)
  refine s_rd (r_build (ps := [(0, .tmp 14), (1, .tmp 16)]) (rs := [(0, [slv rT_api_Fraction [(T_api_Fraction.mk 1 2), (T_api_Fraction.mk 1 1)]]), (1, [slv rT_api_Fraction [(T_api_Fraction.mk 1 1)]])]) st_31 zs_31 ⟨rfl, (part_at rfl slv_at), ⟨rfl, (part_at rfl slv_at), trivial⟩⟩ rfl rfl) rfl ?_
  refine s_st (s_alloc zt_31) rfl (fun b3 => ?_)
  refine s_st0 (s_cstore (out := [slv rT_api_Fraction [(T_api_Fraction.mk 1 2), (T_api_Fraction.mk 1 1)], slv rT_api_Fraction [(T_api_Fraction.mk 1 1)]]) Tryd.sizeOf31 rfl (j := 3) rfl (part_agO (ψs := [slv rT_api_Fraction [(T_api_Fraction.mk 1 2), (T_api_Fraction.mk 1 1)], slv rT_api_Fraction [(T_api_Fraction.mk 1 1)]]) rfl ⟨.inl slv_at, .inl slv_at, trivial⟩) rfl rfl rfl) (fun _ => ?_)
  refine l_nil ?_
  refine b_of (nrm [tbO (rI .u8) 0 tab_0, oc b1 [iv .i64 1, iv .i64 1], oc b2 [iv .i64 2, slv rT_api_Pair [(T_api_Pair.mk 0 1)]], oc b3 [slv rT_api_Fraction [(T_api_Fraction.mk 1 2), (T_api_Fraction.mk 1 1)], slv rT_api_Fraction [(T_api_Fraction.mk 1 1)]]] rfl) ?_
  refine n_then (ref_seq (ref_region ?_))
  refine s_rd (r_cloadS Tryd.isAgg27 Tryd.sizeOf27 rfl (j := 2) rfl rfl rfl) rfl ?_
  refine s_rd (r_cloadS Tryd.isAgg31 Tryd.sizeOf31 rfl (j := 3) rfl rfl rfl) rfl ?_
  refine s_st (s_bslice (xs := [.const (.int .i64 (1))]) (ds := [1]) Tryd.underlying22 el_3 rfl (Nat.le_of_ble_eq_true rfl) ⟨(part_at rfl iv_at), trivial⟩) rfl (fun _ => ?_)
  refine pull fun t4 h_t4 => ?_
  refine s_st (s_callC [0] [true] (fun (_ : Unit) => [tbO (rI .u8) 0 tab_0]) (fun (_ : Unit) => []) (fun (_ : Unit) => tup [ag [iv .i64 t4.1.Num, iv .i64 t4.1.Den], iv .i64 t4.2]) (args := [.tmp 19, .tmp 20, .tmp 21, .const (.int .i64 (4))]) (caps := []) Tryd.call12 rfl (chance_Joint_ok h_t4) ⟨rfl, rfl, trivial⟩ (fun _ => rfl) (fun _ => trivial) (fun _ => rfl) ⟨arg rfl, arg rfl, arg rfl, arg rfl, trivial⟩ (fun _ _ _ _ h => h)) rfl (fun _ => ?_)
  refine mv1 rfl rfl ?_
  refine s_rd (r_extract rfl rfl) rfl ?_
  refine s_rd (r_extract rfl rfl) rfl ?_
  refine s_st (s_alloc zt_36) rfl (fun b5 => ?_)
  refine s_st0 (s_cstore (out := [iv .i64 t4.1.Num, iv .i64 t4.1.Den]) Tryd.sizeOf36 rfl (j := 4) rfl (part_agO (ψs := [iv .i64 t4.1.Num, iv .i64 t4.1.Den]) rfl ⟨.inl iv_at, .inl iv_at, trivial⟩) rfl rfl rfl) (fun _ => ?_)
  refine as1 rfl rfl ?_
  refine l_nil ?_
  refine b_of (nrm [tbO (rI .u8) 0 tab_0, oc b1 [iv .i64 1, iv .i64 1], oc b2 [iv .i64 2, slv rT_api_Pair [(T_api_Pair.mk 0 1)]], oc b3 [slv rT_api_Fraction [(T_api_Fraction.mk 1 2), (T_api_Fraction.mk 1 1)], slv rT_api_Fraction [(T_api_Fraction.mk 1 1)]], oc b5 [iv .i64 t4.1.Num, iv .i64 t4.1.Den]] rfl) ?_
  refine n_then (ref_seq (ref_region ?_))
  refine s_rd (r_cloadS Tryd.isAgg27 Tryd.sizeOf27 rfl (j := 2) rfl rfl rfl) rfl ?_
  refine s_rd (r_cloadS Tryd.isAgg31 Tryd.sizeOf31 rfl (j := 3) rfl rfl rfl) rfl ?_
  refine s_st (s_bslice (xs := [.const (.int .i64 (1))]) (ds := [1]) Tryd.underlying22 el_3 rfl (Nat.le_of_ble_eq_true rfl) ⟨(part_at rfl iv_at), trivial⟩) rfl (fun _ => ?_)
  refine s_st (s_bslice (xs := [.const (.int .i64 (0))]) (ds := [0]) Tryd.underlying22 el_3 rfl (Nat.le_of_ble_eq_true rfl) ⟨(part_at rfl iv_at), trivial⟩) rfl (fun _ => ?_)
  refine pull fun t6 h_t6 => ?_
  refine s_st (s_callC [0] [true] (fun (_ : Unit) => [tbO (rI .u8) 0 tab_0]) (fun (_ : Unit) => []) (fun (_ : Unit) => tup [ag [iv .i64 t6.1.Num, iv .i64 t6.1.Den], iv .i64 t6.2]) (args := [.tmp 26, .tmp 27, .tmp 28, .tmp 29, .const (.int .i64 (1))]) (caps := []) Tryd.call13 rfl (chance_Given_ok h_t6) ⟨rfl, rfl, trivial⟩ (fun _ => rfl) (fun _ => trivial) (fun _ => rfl) ⟨arg rfl, arg rfl, arg rfl, arg rfl, arg rfl, trivial⟩ (fun _ _ _ _ h => h)) rfl (fun _ => ?_)
  refine mv1 rfl rfl ?_
  refine s_rd (r_extract rfl rfl) rfl ?_
  refine s_rd (r_extract rfl rfl) rfl ?_
  refine s_st (s_alloc zt_36) rfl (fun b7 => ?_)
  refine s_st0 (s_cstore (out := [iv .i64 t6.1.Num, iv .i64 t6.1.Den]) Tryd.sizeOf36 rfl (j := 5) rfl (part_agO (ψs := [iv .i64 t6.1.Num, iv .i64 t6.1.Den]) rfl ⟨.inl iv_at, .inl iv_at, trivial⟩) rfl rfl rfl) (fun _ => ?_)
  refine as1 rfl rfl ?_
  refine l_nil ?_
  refine b_of (nrm [tbO (rI .u8) 0 tab_0, oc b1 [iv .i64 1, iv .i64 1], oc b2 [iv .i64 2, slv rT_api_Pair [(T_api_Pair.mk 0 1)]], oc b3 [slv rT_api_Fraction [(T_api_Fraction.mk 1 2), (T_api_Fraction.mk 1 1)], slv rT_api_Fraction [(T_api_Fraction.mk 1 1)]], oc b5 [iv .i64 t4.1.Num, iv .i64 t4.1.Den], oc b7 [iv .i64 t6.1.Num, iv .i64 t6.1.Den]] rfl) ?_
  refine n_then (ref_seq (ref_region ?_))
  refine mv1 rfl rfl ?_
  refine s_rd (r_eql rfl rfl) rfl ?_
  refine mv1 rfl rfl ?_
  refine b_split (t := 35) rfl (fun _ => ?_) (fun _ => ?_)
  · refine s_on rfl rfl rfl ?_
    refine mv1 rfl rfl ?_
    refine s_on rfl rfl rfl ?_
    refine s_rd (r_eql rfl rfl) rfl ?_
    refine s_rd (r_pickT rfl rfl) rfl ?_
    refine mv1 rfl rfl ?_
    refine b_split (t := 39) rfl (fun _ => ?_) (fun _ => ?_)
    · refine s_on rfl rfl rfl ?_
      refine s_rd (r_cloadS Tryd.isAgg36 Tryd.sizeOf36 rfl (j := 4) rfl rfl rfl) rfl ?_
      refine s_on rfl rfl rfl ?_
      refine s_rd (r_build (ps := [(0, .const (.int .i64 (1))), (1, .const (.int .i64 (2)))]) (rs := [(0, [iv .i64 1]), (1, [iv .i64 2])]) st_36 zs_36 ⟨rfl, (part_at rfl iv_at), ⟨rfl, (part_at rfl iv_at), trivial⟩⟩ rfl rfl) rfl ?_
      refine s_on rfl rfl rfl ?_
      refine s_rd (r_steql (u := t4.1) (v := (T_api_Fraction.mk 1 2)) eq_36 rfl rfl rfl rfl) rfl ?_
      refine s_rd (r_pickT rfl rfl) rfl ?_
      refine mv1 rfl rfl ?_
      refine b_split (t := 44) rfl (fun _ => ?_) (fun _ => ?_)
      · refine s_on rfl rfl rfl ?_
        refine s_rd (r_cloadS Tryd.isAgg36 Tryd.sizeOf36 rfl (j := 5) rfl rfl rfl) rfl ?_
        refine s_on rfl rfl rfl ?_
        refine s_rd (r_build (ps := [(0, .const (.int .i64 (0))), (1, .const (.int .i64 (1)))]) (rs := [(0, [iv .i64 0]), (1, [iv .i64 1])]) st_36 zs_36 ⟨rfl, (part_at rfl iv_at), ⟨rfl, (part_at rfl iv_at), trivial⟩⟩ rfl rfl) rfl ?_
        refine s_on rfl rfl rfl ?_
        refine s_rd (r_steql (u := t6.1) (v := (T_api_Fraction.mk 0 1)) eq_36 rfl rfl rfl rfl) rfl ?_
        refine s_rd (r_pickT rfl rfl) rfl ?_
        refine as1 rfl rfl ?_
        refine b_let (f := bv) (t := 0) rfl fun t8 => ?_
        refine l_nil (n_then (ref_ret ?_))
        exact fin1 (.inl rfl) () [0] rfl ⟨rfl, trivial⟩ rfl (rv_tmp rfl)
      refine s_off rfl rfl rfl rfl rfl ?_
      refine s_off rfl rfl rfl rfl rfl ?_
      refine s_off rfl rfl rfl rfl rfl ?_
      refine s_rd (r_pickF rfl rfl) rfl ?_
      refine as1 rfl rfl ?_
      refine l_nil (n_then (ref_ret ?_))
      exact fin1 (.inl rfl) () [0] rfl ⟨rfl, trivial⟩ rfl (rv_tmp rfl)
    refine s_off rfl rfl rfl rfl rfl ?_
    refine s_off rfl rfl rfl rfl rfl ?_
    refine s_off rfl rfl rfl rfl rfl ?_
    refine s_rd (r_pickF rfl rfl) rfl ?_
    refine mv1 rfl rfl ?_
    refine s_off rfl rfl rfl rfl rfl ?_
    refine s_off rfl rfl rfl rfl rfl ?_
    refine s_off rfl rfl rfl rfl rfl ?_
    refine s_rd (r_pickF rfl rfl) rfl ?_
    refine as1 rfl rfl ?_
    refine l_nil (n_then (ref_ret ?_))
    exact fin1 (.inl rfl) () [0] rfl ⟨rfl, trivial⟩ rfl (rv_tmp rfl)
  refine s_off rfl rfl rfl rfl rfl ?_
  refine s_off rfl rfl rfl rfl rfl ?_
  refine s_rd (r_pickF rfl rfl) rfl ?_
  refine mv1 rfl rfl ?_
  refine s_off rfl rfl rfl rfl rfl ?_
  refine s_off rfl rfl rfl rfl rfl ?_
  refine s_off rfl rfl rfl rfl rfl ?_
  refine s_rd (r_pickF rfl rfl) rfl ?_
  refine mv1 rfl rfl ?_
  refine s_off rfl rfl rfl rfl rfl ?_
  refine s_off rfl rfl rfl rfl rfl ?_
  refine s_off rfl rfl rfl rfl rfl ?_
  refine s_rd (r_pickF rfl rfl) rfl ?_
  refine as1 rfl rfl ?_
  refine l_nil (n_then (ref_ret ?_))
  exact fin1 (.inl rfl) () [0] rfl ⟨rfl, trivial⟩ rfl (rv_tmp rfl)

/-! deliberation/deliberationref22.gcd -/
noncomputable def ref22_gcd_l1  (s5 : Int × Int) : Option (Sum (Int) (Int × Int)) :=
  bif s5.2 != 0 then
    Option.bind (iremM .i64 s5.1 s5.2) fun b8 =>
    some (Sum.inr (s5.2, b8))
  else
    some (Sum.inl s5.1)

noncomputable def ref22_gcd_m (a__0 : Int) (b_1 : Int) : Option (Int) :=
  Option.bind (loopC (ref22_gcd_l1) (a__0, b_1)) fun q9 : Int =>
  some q9

theorem ref22_gcd_ok {a__0 : Int} {b_1 : Int} {r : Int} (hm : ref22_gcd_m a__0 b_1 = some r) :
    FnOk prog 34 [iv .i64 a__0, iv .i64 b_1] [] (fun (x : Unit) => [iv .i64 r]) (fun (x : Unit) => []) := by
  refine fn_ok (fn := Tryd.f34) (N := 12) (res := fun r x => [iv .i64 r]) (Ω1 := fun r x => []) Tryd.func34 rfl rfl hm rfl (fun E hM => ?_)
  unfold ref22_gcd_m
  refine ref_seq (ref_region ?_)
  refine as1 rfl rfl ?_
  refine l_nil (n_then (ref_seq ?_))
  refine ref_loopB (f := (ref22_gcd_l1)) (Γl := (fun (s5 : Int × Int) (x6 : Unit) => [(0, iv .i64 s5.1), (1, iv .i64 s5.2)])) (Ωl := (fun (s5 : Int × Int) (x6 : Unit) => [])) (Γb := (fun (q9 : Int) (y10 : Unit) => [(0, iv .i64 q9)])) (Ωb := (fun (q9 : Int) (y10 : Unit) => [])) (a__0, b_1) () (weak [] ⟨rfl, rfl, trivial⟩ trivial) (fun s5 x6 => ?_) (fun q9 y10 => ?_)
  · unfold ref22_gcd_l1
    refine ref_seq (ref_seq (ref_region ?_))
    refine mv1 rfl rfl ?_
    refine s_rd (r_neq rfl rfl) rfl ?_
    refine l_nil (n_then ?_)
    refine ref_cond rfl (fun hb7 => ?_) (fun hb7 => ?_)
    · refine ref_skip (n_then (ref_block ?_))
      refine ref_draw [0, 1, 2, 3] rfl (by kernel_rfl) (fun hok => ?_)
      refine a_rd (i := 0) hok rfl (by kernel_rfl) rfl (r_move rfl) rfl ?_
      refine a_rd (i := 1) hok rfl (by kernel_rfl) rfl (r_move rfl) rfl ?_
      refine a_rd (i := 2) hok rfl (by kernel_rfl) rfl (r_move rfl) rfl ?_
      refine pull fun b8 h_b8 => ?_
      refine a_rd (i := 3) hok rfl (by kernel_rfl) rfl (r_remM h_b8 rfl rfl) rfl ?_
      refine a_next hok 4 [] (by kernel_rfl) ?_ trivial
      refine a_st (i := 4) hok rfl rfl (St.ofRd (r_assign rfl)) (by intro _ h; cases h; rfl) (fun _ => ⟨trivial, ⟨trivial, ⟨trivial, ⟨trivial, trivial⟩⟩⟩⟩) (fun _ => ?_)
      refine a_next hok 5 [] (by kernel_rfl) ?_ trivial
      refine a_st (i := 5) hok rfl rfl (St.ofRd (r_assign rfl)) (by intro _ h; cases h; rfl) (fun _ => ⟨trivial, ⟨trivial, ⟨trivial, ⟨trivial, trivial⟩⟩⟩⟩) (fun _ => ?_)
      refine a_fin hok (by kernel_rfl) ?_
      refine n_block ?_
      exact goB () (weak [] ⟨rfl, rfl, trivial⟩ trivial)
    refine ref_exit (x_then ?_)
    exact brkB () (weak [] ⟨rfl, trivial⟩ trivial)
  refine n_then (ref_seq (ref_region ?_))
  refine mv1 rfl rfl ?_
  refine as1 rfl rfl ?_
  refine l_nil (n_then (ref_ret ?_))
  exact fin1 (.inl rfl) () [] rfl trivial rfl (rv_tmp rfl)

/-! deliberation/deliberationref22.Reduced -/
noncomputable def ref22_Reduced_m (n_0 : Int) (d_1 : Int) : Option (T_api_Fraction) :=
  Option.bind (ref22_gcd_m n_0 d_1) fun k2 =>
  Option.bind (iquoM .i64 n_0 k2) fun t3 =>
  Option.bind (iquoM .i64 d_1 k2) fun t4 =>
  some (T_api_Fraction.mk t3 t4)

theorem ref22_Reduced_ok {n_0 : Int} {d_1 : Int} {r : T_api_Fraction} (hm : ref22_Reduced_m n_0 d_1 = some r) :
    FnOk prog 15 [iv .i64 n_0, iv .i64 d_1] [] (fun (x : Unit) => [ag [iv .i64 r.Num, iv .i64 r.Den]]) (fun (x : Unit) => []) := by
  refine fn_ok (fn := Tryd.f15) (N := 16) (res := fun r x => [ag [iv .i64 r.Num, iv .i64 r.Den]]) (Ω1 := fun r x => []) Tryd.func15 rfl rfl hm rfl (fun E hM => ?_)
  unfold ref22_Reduced_m
  refine ref_seq (ref_region ?_)
  refine s_st (s_alloc zt_36) rfl (fun b1 => ?_)
  refine l_nil (n_then (ref_seq (ref_region ?_)))
  refine mv1 rfl rfl ?_
  refine mv1 rfl rfl ?_
  refine pull fun k2 h_k2 => ?_
  refine s_st (s_call (ψ := fun (_ : Unit) => iv .i64 k2) (args := [.tmp 6, .tmp 7]) Tryd.call34 rfl (ref22_gcd_ok h_k2) ⟨arg rfl, arg rfl, trivial⟩ (fun _ _ _ _ h => h)) rfl (fun _ => ?_)
  refine as1 rfl rfl ?_
  refine l_nil (n_then (ref_seq ?_))
  refine ref_draw [0, 1, 2, 3, 4, 5, 6] rfl (by kernel_rfl) (fun hok => ?_)
  refine a_rd (i := 0) hok rfl (by kernel_rfl) rfl (r_move rfl) rfl ?_
  refine a_rd (i := 1) hok rfl (by kernel_rfl) rfl (r_move rfl) rfl ?_
  refine pull fun t3 h_t3 => ?_
  refine a_rd (i := 2) hok rfl (by kernel_rfl) rfl (r_quoM h_t3 rfl rfl) rfl ?_
  refine a_rd (i := 3) hok rfl (by kernel_rfl) rfl (r_move rfl) rfl ?_
  refine a_rd (i := 4) hok rfl (by kernel_rfl) rfl (r_move rfl) rfl ?_
  refine pull fun t4 h_t4 => ?_
  refine a_rd (i := 5) hok rfl (by kernel_rfl) rfl (r_quoM h_t4 rfl rfl) rfl ?_
  refine a_rd (i := 6) hok rfl (by kernel_rfl) rfl (r_build (ps := [(0, .tmp 11), (1, .tmp 14)]) (rs := [(0, [iv .i64 t3]), (1, [iv .i64 t4])]) st_36 zs_36 ⟨rfl, (part_at rfl iv_at), ⟨rfl, (part_at rfl iv_at), trivial⟩⟩ rfl rfl) rfl ?_
  refine a_next hok 7 [] (by kernel_rfl) ?_ trivial
  refine a_st (i := 7) hok rfl rfl (s_cstore (out := [iv .i64 t3, iv .i64 t4]) Tryd.sizeOf36 rfl (j := 0) rfl (part_agO (ψs := [iv .i64 t3, iv .i64 t4]) rfl ⟨.inl iv_at, .inl iv_at, trivial⟩) rfl rfl rfl) (by intro _ h; cases h) (fun _ => ⟨trivial, ⟨trivial, ⟨trivial, ⟨trivial, ⟨trivial, ⟨trivial, ⟨trivial, trivial⟩⟩⟩⟩⟩⟩⟩) (fun _ => ?_)
  refine a_fin hok (by kernel_rfl) ?_
  refine n_then (ref_ret ?_)
  exact fin1 (.inl rfl) () [] rfl trivial rfl (rv_cell rfl (j := 0) rfl Tryd.isAgg36 Tryd.sizeOf36 rfl rfl)

/-! deliberation/deliberationlaw23.ChanceProduct -/
noncomputable def law23_ChanceProduct_l1 (t3 : T_api_Graph × T_deliberationkeep_Src) (a_7 : List Int × T_deliberationkeep_Src) (b9 : List Int × T_deliberationkeep_Src) (s35 : Int × (List Int)) : Option (Sum ((List Int)) (Int × (List Int))) :=
  bif decide (s35.1 < t3.1.N) then
    joinM (fun j40 : Bool =>
        bif j40 then
          Option.bind (appM 8 s35.2 [s35.1]) fun both44 =>
          letM (iadd .i64 s35.1 1) fun i46 =>
          some (Sum.inr (i46, both44))
        else
          letM (iadd .i64 s35.1 1) fun i47 =>
          some (Sum.inr (i47, s35.2))) fun k42 =>
    Option.bind (keep_In_m a_7.1 s35.1) fun t38 =>
    bif t38 then
      k42 true
    else
      Option.bind (keep_In_m b9.1 s35.1) fun t39 =>
      k42 t39
  else
    some (Sum.inl s35.2)

noncomputable def law23_ChanceProduct_l2 (t3 : T_api_Graph × T_deliberationkeep_Src) (t5 : T_api_Odds × T_deliberationkeep_Src) (a_7 : List Int × T_deliberationkeep_Src) (b9 : List Int × T_deliberationkeep_Src) (q48 : (List Int)) (s70 : Int) : Option (Sum ((Sum (Bool) (Unit))) (Int)) :=
  bif decide (s70 < ([1, 4, 2].length : Int)) then
    Option.bind (idxM [1, 4, 2] s70) fun q73 =>
    Option.bind (chance_Joint_m t3.1 t5.1 q48 q73) fun t74 =>
    Option.bind (chance_Joint_m t3.1 t5.1 b9.1 q73) fun t76 =>
    Option.bind (chance_Given_m t3.1 t5.1 a_7.1 b9.1 q73) fun t78 =>
    bif t74.2 != 0 then
      some (Sum.inl (Sum.inl false))
    else
      bif t76.2 != 0 then
        some (Sum.inl (Sum.inl false))
      else
        bif decide (t74.1.Den < 1) then
          some (Sum.inl (Sum.inl false))
        else
          bif decide (t76.1.Den < 1) then
            some (Sum.inl (Sum.inl false))
          else
            bif decide ((imul .i64 t74.1.Num t76.1.Den) > (imul .i64 t76.1.Num t74.1.Den)) then
              some (Sum.inl (Sum.inl false))
            else
              bif t76.1.Num == 0 then
                bif t78.2 != 9 then
                  some (Sum.inl (Sum.inl false))
                else
                  some (Sum.inr (iadd .i64 s70 1))
              else
                joinM (fun j83 : Bool =>
                    bif j83 then
                      bif t78.2 == 0 then
                        bif decide (t78.1.Den ≥ 1) then
                          Option.bind (law23_awake_m ) fun t87 =>
                          some (Sum.inl (Sum.inl t87))
                        else
                          some (Sum.inl (Sum.inl false))
                      else
                        some (Sum.inl (Sum.inl false))
                    else
                      Option.bind (ref22_Reduced_m (imul .i64 t78.1.Num t76.1.Num) (imul .i64 t78.1.Den t76.1.Den)) fun t88 =>
                      bif !decide (t88 = t74.1) then
                        some (Sum.inl (Sum.inl false))
                      else
                        some (Sum.inr (iadd .i64 s70 1))) fun k85 =>
                bif t78.2 != 0 then
                  k85 true
                else
                  bif decide (t78.1.Den < 1) then
                    k85 true
                  else
                    bif decide (t78.1.Den > 1048576) then
                      k85 true
                    else
                      bif decide (t76.1.Num > 1048576) then
                        k85 true
                      else
                        k85 (decide (t76.1.Den > 1048576))
  else
    some (Sum.inl (Sum.inr ()))

noncomputable def law23_ChanceProduct_l3 (t3 : T_api_Graph × T_deliberationkeep_Src) (t5 : T_api_Odds × T_deliberationkeep_Src) (s100 : Int) : Option (Sum ((Sum (Bool) (Unit))) (Int)) :=
  bif decide (s100 < t3.1.N) then
    Option.bind (chance_Joint_m t3.1 t5.1 [s100] 4) fun t103 =>
    Option.bind (chance_Joint_m t3.1 t5.1 [s100] 1) fun t105 =>
    bif t103.2 != 0 then
      some (Sum.inl (Sum.inl false))
    else
      bif t105.2 != 0 then
        some (Sum.inl (Sum.inl false))
      else
        bif decide ((imul .i64 t103.1.Num t105.1.Den) > (imul .i64 t105.1.Num t103.1.Den)) then
          some (Sum.inl (Sum.inl false))
        else
          letM (iadd .i64 s100 1) fun i108 =>
          some (Sum.inr i108)
  else
    some (Sum.inl (Sum.inr ()))

noncomputable def law23_ChanceProduct_m (l_0 : (List Int)) : Option (Bool) :=
  Option.bind (keep_New_m l_0) fun s1 =>
  Option.bind (net_Graph_m s1 5) fun t3 =>
  Option.bind (law23_odds_m t3.2 t3.1 5) fun t5 =>
  Option.bind (net_Some_m t5.2 t3.1.N) fun a_7 =>
  Option.bind (net_Some_m a_7.2 t3.1.N) fun b9 =>
  Option.bind (loopC (law23_ChanceProduct_l1 t3 a_7 b9) (0, [])) fun q48 : (List Int) =>
  Option.bind (loopC (law23_ChanceProduct_l2 t3 t5 a_7 b9 q48) 0) (sumK (fun a : Bool => some a) fun q90 : Unit =>
    Option.bind (loopC (law23_ChanceProduct_l3 t3 t5) 0) (sumK (fun a : Bool => some a) fun q109 : Unit =>
      Option.bind (law23_awake_m ) fun t111 =>
      some t111))

theorem law23_ChanceProduct_ok {l_0 : (List Int)} {r : Bool} (hm : law23_ChanceProduct_m l_0 = some r) :
    FnOk prog 3 [slv (rI .i64) l_0] [tbO (rI .u8) 0 tab_0] (fun (x : Unit) => [bv r]) (fun (x : Unit) => [tbO (rI .u8) 0 tab_0]) := by
  refine fn_ok (fn := Tryd.f3) (N := 209) (res := fun r x => [bv r]) (Ω1 := fun r x => [tbO (rI .u8) 0 tab_0]) Tryd.func3 rfl rfl hm rfl (fun E hM => ?_)
  unfold law23_ChanceProduct_m
  refine ref_seq (ref_region ?_)
  refine as1 rfl rfl ?_
  refine l_nil (n_then (ref_seq (ref_region ?_)))
  refine mv1 rfl rfl ?_
  refine pull fun s1 h_s1 => ?_
  refine s_st (s_call (ψ := fun (x2 : Nat) => pv (ptr x2 0)) (args := [.tmp 23]) Tryd.call7 rfl (keep_New_ok h_s1) ⟨arg rfl, trivial⟩ (fun _ _ _ _ h => h)) rfl (fun x2 => ?_)
  refine as1 rfl rfl ?_
  refine l_nil (n_then (ref_seq (ref_region ?_)))
  refine mv1 rfl rfl ?_
  refine pull fun t3 h_t3 => ?_
  refine s_st (s_callC [1] [true] (fun (_ : Unit) => [oc x2 [slv (rI .i64) t3.2.L, iv .i64 t3.2.At]]) (fun (_ : Unit) => []) (fun (_ : Unit) => ag [iv .i64 t3.1.N, slv rT_api_Pair t3.1.L]) (args := [.tmp 25, .const (.int .i64 (5))]) (caps := []) Tryd.call8 rfl (net_Graph_ok h_t3) ⟨rfl, rfl, trivial⟩ (fun _ => rfl) (fun _ => trivial) (fun _ => rfl) ⟨arg rfl, arg rfl, trivial⟩ (fun _ _ _ _ h => h)) rfl (fun _ => ?_)
  refine s_st (s_alloc zt_27) rfl (fun b4 => ?_)
  refine s_st0 (s_cstore (out := [iv .i64 t3.1.N, slv rT_api_Pair t3.1.L]) Tryd.sizeOf27 rfl (j := 2) rfl (part_agO (ψs := [iv .i64 t3.1.N, slv rT_api_Pair t3.1.L]) rfl ⟨.inl iv_at, .inl slv_at, trivial⟩) rfl rfl rfl) (fun _ => ?_)
  refine l_nil ?_
  refine b_of (nrm [tbO (rI .u8) 0 tab_0, oc x2 [slv (rI .i64) t3.2.L, iv .i64 t3.2.At], oc b4 [iv .i64 t3.1.N, slv rT_api_Pair t3.1.L]] rfl) ?_
  refine n_then (ref_seq (ref_region ?_))
  refine mv1 rfl rfl ?_
  refine s_rd (r_cloadS Tryd.isAgg27 Tryd.sizeOf27 rfl (j := 2) rfl rfl rfl) rfl ?_
  refine pull fun t5 h_t5 => ?_
  refine s_st (s_callC [1] [true] (fun (_ : Unit) => [oc x2 [slv (rI .i64) t5.2.L, iv .i64 t5.2.At]]) (fun (_ : Unit) => []) (fun (_ : Unit) => ag [slv rT_api_Fraction t5.1.Nodes, slv rT_api_Fraction t5.1.Attacks]) (args := [.tmp 27, .tmp 28, .const (.int .i64 (5))]) (caps := []) Tryd.call9 rfl (law23_odds_ok h_t5) ⟨rfl, rfl, trivial⟩ (fun _ => rfl) (fun _ => trivial) (fun _ => rfl) ⟨arg rfl, arg rfl, arg rfl, trivial⟩ (fun _ _ _ _ h => h)) rfl (fun _ => ?_)
  refine s_st (s_alloc zt_31) rfl (fun b6 => ?_)
  refine s_st0 (s_cstore (out := [slv rT_api_Fraction t5.1.Nodes, slv rT_api_Fraction t5.1.Attacks]) Tryd.sizeOf31 rfl (j := 3) rfl (part_agO (ψs := [slv rT_api_Fraction t5.1.Nodes, slv rT_api_Fraction t5.1.Attacks]) rfl ⟨.inl slv_at, .inl slv_at, trivial⟩) rfl rfl rfl) (fun _ => ?_)
  refine l_nil (n_then (ref_seq ?_))
  refine ref_draw [0, 1, 2, 4, 5, 6] rfl (by kernel_rfl) (fun hok => ?_)
  refine a_rd (i := 0) hok rfl (by kernel_rfl) rfl (r_move rfl) rfl ?_
  refine a_rd (i := 1) hok rfl (by kernel_rfl) rfl (r_faddr (fo := 0) Tryd.underlying27 rfl rfl Tryd.sizeOf3 rfl) rfl ?_
  refine a_rd (i := 2) hok rfl (by kernel_rfl) rfl (r_cload Tryd.isAgg3 rfl (j := 2) rfl rfl) rfl ?_
  refine a_rd (i := 4) hok rfl (by kernel_rfl) rfl (r_move rfl) rfl ?_
  refine a_rd (i := 5) hok rfl (by kernel_rfl) rfl (r_faddr (fo := 0) Tryd.underlying27 rfl rfl Tryd.sizeOf3 rfl) rfl ?_
  refine a_rd (i := 6) hok rfl (by kernel_rfl) rfl (r_cload Tryd.isAgg3 rfl (j := 2) rfl rfl) rfl ?_
  refine pull fun a_7 h_a_7 => ?_
  refine a_next hok 3 [] (by kernel_rfl) ?_ trivial
  refine a_st (i := 3) hok rfl rfl (s_callC [1] [true] (fun (x8 : (Value × List Nat)) => [oc x2 [slv (rI .i64) a_7.2.L, iv .i64 a_7.2.At]]) (fun (x8 : (Value × List Nat)) => [oa (rI .i64) x8.1 x8.2 a_7.1]) (fun (x8 : (Value × List Nat)) => pv x8.1) (args := [.tmp 30, .tmp 32]) (caps := []) Tryd.call10 rfl (net_Some_ok h_a_7) ⟨rfl, rfl, trivial⟩ (fun _ => rfl) (fun _ => trivial) (fun _ => rfl) ⟨arg rfl, arg rfl, trivial⟩ (fun _ _ _ _ h => h)) (by intro _ h; cases h; rfl) (fun _ => ⟨⟨⟨rfl, rfl⟩, trivial⟩, ⟨trivial, ⟨trivial, ⟨trivial, ⟨trivial, ⟨trivial, trivial⟩⟩⟩⟩⟩⟩) (fun x8 => ?_)
  refine pull fun b9 h_b9 => ?_
  refine a_next hok 7 [] (by kernel_rfl) ?_ trivial
  refine a_st (i := 7) hok rfl rfl (s_callC [1] [true] (fun (x10 : (Value × List Nat)) => [oc x2 [slv (rI .i64) b9.2.L, iv .i64 b9.2.At]]) (fun (x10 : (Value × List Nat)) => [oa (rI .i64) x10.1 x10.2 b9.1]) (fun (x10 : (Value × List Nat)) => pv x10.1) (args := [.tmp 34, .tmp 36]) (caps := []) Tryd.call10 rfl (net_Some_ok h_b9) ⟨rfl, rfl, trivial⟩ (fun _ => rfl) (fun _ => trivial) (fun _ => rfl) ⟨arg rfl, arg rfl, trivial⟩ (fun _ _ _ _ h => h)) (by intro _ h; cases h; rfl) (fun _ => ⟨trivial, ⟨trivial, ⟨trivial, ⟨⟨⟨rfl, rfl⟩, trivial⟩, ⟨trivial, ⟨trivial, trivial⟩⟩⟩⟩⟩⟩) (fun x10 => ?_)
  refine a_next hok 8 [] (by kernel_rfl) ?_ trivial
  refine a_st (i := 8) hok rfl rfl (St.ofRd (r_assign rfl)) (by intro _ h; cases h; rfl) (fun _ => ⟨⟨⟨rfl, rfl⟩, trivial⟩, ⟨trivial, ⟨trivial, ⟨trivial, ⟨trivial, ⟨trivial, trivial⟩⟩⟩⟩⟩⟩) (fun _ => ?_)
  refine a_next hok 9 [] (by kernel_rfl) ?_ trivial
  refine a_st (i := 9) hok rfl rfl (St.ofRd (r_assign rfl)) (by intro _ h; cases h; rfl) (fun _ => ⟨trivial, ⟨trivial, ⟨trivial, ⟨trivial, ⟨trivial, ⟨trivial, trivial⟩⟩⟩⟩⟩⟩) (fun _ => ?_)
  refine a_fin hok (by kernel_rfl) ?_
  refine b_of (nrm [tbO (rI .u8) 0 tab_0, oc x2 [slv (rI .i64) b9.2.L, iv .i64 b9.2.At], oc b4 [iv .i64 t3.1.N, slv rT_api_Pair t3.1.L], oc b6 [slv rT_api_Fraction t5.1.Nodes, slv rT_api_Fraction t5.1.Attacks], oa (rI .i64) x8.1 x8.2 a_7.1, oa (rI .i64) x10.1 x10.2 b9.1] rfl) ?_
  refine n_then (ref_seq (ref_region ?_))
  refine as1 rfl rfl ?_
  refine l_nil (n_then (ref_seq (ref_seq (ref_region ?_))))
  refine as1 rfl rfl ?_
  refine l_nil (n_then ?_)
  refine b_of (own_nil (rI .i64)) ?_
  refine ref_loopB (f := (law23_ChanceProduct_l1 t3 a_7 b9)) (Γl := (fun (s35 : Int × (List Int)) (x36 : (Value × List Nat)) => [(4, pv (ptr b4 0)), (5, pv (ptr b6 0)), (6, pv x8.1), (7, pv x10.1), (8, pv x36.1), (9, iv .i64 s35.1)])) (Ωl := (fun (s35 : Int × (List Int)) (x36 : (Value × List Nat)) => [tbO (rI .u8) 0 tab_0, oc b4 [iv .i64 t3.1.N, slv rT_api_Pair t3.1.L], oc b6 [slv rT_api_Fraction t5.1.Nodes, slv rT_api_Fraction t5.1.Attacks], oa (rI .i64) x8.1 x8.2 a_7.1, oa (rI .i64) x10.1 x10.2 b9.1, oa (rI .i64) x36.1 x36.2 s35.2])) (Γb := (fun (q48 : (List Int)) (y49 : (Value × List Nat)) => [(4, pv (ptr b4 0)), (5, pv (ptr b6 0)), (6, pv x8.1), (7, pv x10.1), (8, pv y49.1)])) (Ωb := (fun (q48 : (List Int)) (y49 : (Value × List Nat)) => [oc b4 [iv .i64 t3.1.N, slv rT_api_Pair t3.1.L], oc b6 [slv rT_api_Fraction t5.1.Nodes, slv rT_api_Fraction t5.1.Attacks], oa (rI .i64) x8.1 x8.2 a_7.1, oa (rI .i64) x10.1 x10.2 b9.1, oa (rI .i64) y49.1 y49.2 q48, tbO (rI .u8) 0 tab_0])) (0, []) ((.slice none 0 0), []) (weak [0, 2, 3, 4, 5, 6] ⟨rfl, rfl, rfl, rfl, rfl, rfl, trivial⟩ ⟨rfl, rfl, rfl, rfl, rfl, rfl, trivial⟩) (fun s35 x36 => ?_) (fun q48 y49 => ?_)
  · unfold law23_ChanceProduct_l1
    refine ref_seq (ref_seq (ref_region ?_))
    refine mv1 rfl rfl ?_
    refine s_rd (r_faddr (fo := 0) Tryd.underlying27 rfl rfl Tryd.sizeOf3 rfl) rfl ?_
    refine s_rd (r_cload Tryd.isAgg3 rfl (j := 1) rfl rfl) rfl ?_
    refine s_rd (r_lss rfl rfl) rfl ?_
    refine l_nil (n_then ?_)
    refine ref_cond rfl (fun hb37 => ?_) (fun hb37 => ?_)
    · refine ref_skip (n_then (ref_seq (ref_block (ref_seq ?_))))
      refine ref_join (fun (j40 : Bool) (x41 : Unit) => [(4, pv (ptr b4 0)), (5, pv (ptr b6 0)), (6, pv x8.1), (7, pv x10.1), (8, pv x36.1), (9, iv .i64 s35.1), (51, bv j40)]) (fun (j40 : Bool) (x41 : Unit) => [oc b4 [iv .i64 t3.1.N, slv rT_api_Pair t3.1.L], oc b6 [slv rT_api_Fraction t5.1.Nodes, slv rT_api_Fraction t5.1.Attacks], oa (rI .i64) x8.1 x8.2 a_7.1, oa (rI .i64) x10.1 x10.2 b9.1, oa (rI .i64) x36.1 x36.2 s35.2, tbO (rI .u8) 0 tab_0]) (fun k42 hk42 => ?_) (fun j40 x41 => ?_)
      · refine ref_region ?_
        refine mv1 rfl rfl ?_
        refine mv1 rfl rfl ?_
        refine pull fun t38 h_t38 => ?_
        refine s_st (s_callB (ψ := fun (_ : Unit) => bv t38) (args := [.tmp 44, .tmp 45]) Tryd.call11 rfl (keep_In_ok h_t38) ⟨argO rfl (j := 3) rfl, argB rfl, trivial⟩ (fun _ _ _ _ _ h => h)) rfl (fun _ => ?_)
        refine mv1 rfl rfl ?_
        refine b_split (t := 47) rfl (fun _ => ?_) (fun _ => ?_)
        · refine s_off rfl rfl rfl rfl rfl ?_
          refine s_off rfl rfl rfl rfl rfl ?_
          refine s_off rfl rfl rfl rfl rfl ?_
          refine s_rd (r_pickT rfl rfl) rfl ?_
          refine l_nil ?_
          exact b_to (hk42 true ()) (weak [1, 2, 3, 4, 5, 0] ⟨rfl, rfl, rfl, rfl, rfl, rfl, rfl, trivial⟩ ⟨rfl, rfl, rfl, rfl, rfl, rfl, trivial⟩)
        refine s_on rfl rfl rfl ?_
        refine mv1 rfl rfl ?_
        refine s_on rfl rfl rfl ?_
        refine mv1 rfl rfl ?_
        refine s_on rfl rfl rfl ?_
        refine pull fun t39 h_t39 => ?_
        refine s_st (s_callB (ψ := fun (_ : Unit) => bv t39) (args := [.tmp 48, .tmp 49]) Tryd.call11 rfl (keep_In_ok h_t39) ⟨argO rfl (j := 4) rfl, argB rfl, trivial⟩ (fun _ _ _ _ _ h => h)) rfl (fun _ => ?_)
        refine s_rd (r_pickF rfl rfl) rfl ?_
        refine l_nil ?_
        exact b_to (hk42 t39 ()) (weak [1, 2, 3, 4, 5, 0] ⟨rfl, rfl, rfl, rfl, rfl, rfl, rfl, trivial⟩ ⟨rfl, rfl, rfl, rfl, rfl, rfl, trivial⟩)
      refine n_then ?_
      refine ref_cond rfl (fun hb43 => ?_) (fun hb43 => ?_)
      · refine ref_region ?_
        refine mv1 rfl rfl ?_
        refine mv1 rfl rfl ?_
        refine s_st (s_bslice (xs := [.tmp 53]) (ds := [s35.1]) Tryd.underlying22 el_3 rfl (Nat.le_of_ble_eq_true rfl) ⟨(part_at rfl iv_at), trivial⟩) rfl (fun _ => ?_)
        refine pull fun both44 h_both44 => ?_
        refine s_st (s_append h_both44 Tryd.underlying22 el_3 rfl (j := 4) rfl rfl) rfl (fun o45 => ?_)
        refine as1 rfl rfl ?_
        refine l_nil (n_block (n_then (ref_region ?_)))
        refine mv1 rfl rfl ?_
        refine s_rd (r_add rfl rfl) rfl ?_
        refine as1 rfl rfl ?_
        refine b_let (f := iv .i64) (t := 9) rfl fun i46 => ?_
        refine l_nil ?_
        exact goB o45 (weak [5, 0, 1, 2, 3, 4] ⟨rfl, rfl, rfl, rfl, rfl, rfl, trivial⟩ ⟨rfl, rfl, rfl, rfl, rfl, rfl, trivial⟩)
      refine ref_skip (n_block (n_then (ref_region ?_)))
      refine mv1 rfl rfl ?_
      refine s_rd (r_add rfl rfl) rfl ?_
      refine as1 rfl rfl ?_
      refine b_let (f := iv .i64) (t := 9) rfl fun i47 => ?_
      refine l_nil ?_
      exact goB x36 (weak [5, 0, 1, 2, 3, 4] ⟨rfl, rfl, rfl, rfl, rfl, rfl, trivial⟩ ⟨rfl, rfl, rfl, rfl, rfl, rfl, trivial⟩)
    refine ref_exit (x_then ?_)
    exact brkB x36 (weak [1, 2, 3, 4, 5, 0] ⟨rfl, rfl, rfl, rfl, rfl, trivial⟩ ⟨rfl, rfl, rfl, rfl, rfl, rfl, trivial⟩)
  refine n_then (ref_seq (ref_seq (ref_region ?_)))
  refine s_st (s_bslice (xs := [.const (.int .i64 (1)), .const (.int .i64 (4)), .const (.int .i64 (2))]) (ds := [1, 4, 2]) Tryd.underlying22 el_3 rfl (Nat.le_of_ble_eq_true rfl) ⟨(part_at rfl iv_at), ⟨(part_at rfl iv_at), ⟨(part_at rfl iv_at), trivial⟩⟩⟩) rfl (fun _ => ?_)
  refine s_rd (r_len Tryd.underlying22 rfl) rfl ?_
  refine mv1 rfl rfl ?_
  refine l_nil (n_then ?_)
  refine b_of (frzL [6] (j := 2) rfl ⟨rfl, trivial⟩) ?_
  refine b_of (frzL [7] (j := 3) rfl ⟨rfl, trivial⟩) ?_
  refine b_of (frzL [8] (j := 4) rfl ⟨rfl, trivial⟩) ?_
  refine ref_loopX (f := (law23_ChanceProduct_l2 t3 t5 a_7 b9 q48)) (Γl := (fun (s70 : Int) (x71 : Unit) => [(4, pv (ptr b4 0)), (5, pv (ptr b6 0)), (6, slv (rI .i64) a_7.1), (7, slv (rI .i64) b9.1), (8, slv (rI .i64) q48), (56, slv (rI .i64) [1, 4, 2]), (57, iv .i64 ([1, 4, 2].length : Int)), (58, iv .i64 s70)])) (Ωl := (fun (s70 : Int) (x71 : Unit) => [tbO (rI .u8) 0 tab_0, oc b4 [iv .i64 t3.1.N, slv rT_api_Pair t3.1.L], oc b6 [slv rT_api_Fraction t5.1.Nodes, slv rT_api_Fraction t5.1.Attacks]])) (Γb := (fun (q90 : Unit) (y91 : Unit) => [(4, pv (ptr b4 0)), (5, pv (ptr b6 0))])) (Ωb := (fun (q90 : Unit) (y91 : Unit) => [oc b4 [iv .i64 t3.1.N, slv rT_api_Pair t3.1.L], oc b6 [slv rT_api_Fraction t5.1.Nodes, slv rT_api_Fraction t5.1.Attacks], tbO (rI .u8) 0 tab_0])) (kr := (fun a : Bool => some a)) 0 () (weak [5, 0, 1] ⟨rfl, rfl, rfl, rfl, rfl, rfl, rfl, rfl, trivial⟩ ⟨rfl, rfl, rfl, trivial⟩) (fun s70 x71 => ?_) (fun q90 y91 => ?_)
  · unfold law23_ChanceProduct_l2
    refine ref_seq (ref_region ?_)
    refine s_rd (r_lss rfl rfl) rfl ?_
    refine l_nil (n_then (ref_seq ?_))
    refine ref_cond rfl (fun hb72 => ?_) (fun hb72 => ?_)
    · refine ref_skip (n_then (ref_seq (ref_block (ref_seq (ref_region ?_)))))
      refine pull fun q73 h_q73 => ?_
      refine s_rd (r_index h_q73 Tryd.underlying22 el_3 rfl rfl) rfl ?_
      refine s_rd (r_load el_3 rfl) rfl ?_
      refine as1 rfl rfl ?_
      refine l_nil (n_then (ref_seq (ref_region ?_)))
      refine s_rd (r_cloadS Tryd.isAgg27 Tryd.sizeOf27 rfl (j := 1) rfl rfl rfl) rfl ?_
      refine s_rd (r_cloadS Tryd.isAgg31 Tryd.sizeOf31 rfl (j := 2) rfl rfl rfl) rfl ?_
      refine mv1 rfl rfl ?_
      refine mv1 rfl rfl ?_
      refine pull fun t74 h_t74 => ?_
      refine s_st (s_callC [0] [true] (fun (_ : Unit) => [tbO (rI .u8) 0 tab_0]) (fun (_ : Unit) => []) (fun (_ : Unit) => tup [ag [iv .i64 t74.1.Num, iv .i64 t74.1.Den], iv .i64 t74.2]) (args := [.tmp 63, .tmp 64, .tmp 65, .tmp 66]) (caps := []) Tryd.call12 rfl (chance_Joint_ok h_t74) ⟨rfl, rfl, trivial⟩ (fun _ => rfl) (fun _ => trivial) (fun _ => rfl) ⟨arg rfl, arg rfl, arg rfl, arg rfl, trivial⟩ (fun _ _ _ _ h => h)) rfl (fun _ => ?_)
      refine mv1 rfl rfl ?_
      refine s_rd (r_extract rfl rfl) rfl ?_
      refine s_rd (r_extract rfl rfl) rfl ?_
      refine s_st (s_alloc zt_36) rfl (fun b75 => ?_)
      refine s_st0 (s_cstore (out := [iv .i64 t74.1.Num, iv .i64 t74.1.Den]) Tryd.sizeOf36 rfl (j := 3) rfl (part_agO (ψs := [iv .i64 t74.1.Num, iv .i64 t74.1.Den]) rfl ⟨.inl iv_at, .inl iv_at, trivial⟩) rfl rfl rfl) (fun _ => ?_)
      refine as1 rfl rfl ?_
      refine l_nil ?_
      refine b_of (nrm [tbO (rI .u8) 0 tab_0, oc b4 [iv .i64 t3.1.N, slv rT_api_Pair t3.1.L], oc b6 [slv rT_api_Fraction t5.1.Nodes, slv rT_api_Fraction t5.1.Attacks], oc b75 [iv .i64 t74.1.Num, iv .i64 t74.1.Den]] rfl) ?_
      refine n_then (ref_seq (ref_region ?_))
      refine s_rd (r_cloadS Tryd.isAgg27 Tryd.sizeOf27 rfl (j := 1) rfl rfl rfl) rfl ?_
      refine s_rd (r_cloadS Tryd.isAgg31 Tryd.sizeOf31 rfl (j := 2) rfl rfl rfl) rfl ?_
      refine mv1 rfl rfl ?_
      refine mv1 rfl rfl ?_
      refine pull fun t76 h_t76 => ?_
      refine s_st (s_callC [0] [true] (fun (_ : Unit) => [tbO (rI .u8) 0 tab_0]) (fun (_ : Unit) => []) (fun (_ : Unit) => tup [ag [iv .i64 t76.1.Num, iv .i64 t76.1.Den], iv .i64 t76.2]) (args := [.tmp 71, .tmp 72, .tmp 73, .tmp 74]) (caps := []) Tryd.call12 rfl (chance_Joint_ok h_t76) ⟨rfl, rfl, trivial⟩ (fun _ => rfl) (fun _ => trivial) (fun _ => rfl) ⟨arg rfl, arg rfl, arg rfl, arg rfl, trivial⟩ (fun _ _ _ _ h => h)) rfl (fun _ => ?_)
      refine mv1 rfl rfl ?_
      refine s_rd (r_extract rfl rfl) rfl ?_
      refine s_rd (r_extract rfl rfl) rfl ?_
      refine s_st (s_alloc zt_36) rfl (fun b77 => ?_)
      refine s_st0 (s_cstore (out := [iv .i64 t76.1.Num, iv .i64 t76.1.Den]) Tryd.sizeOf36 rfl (j := 4) rfl (part_agO (ψs := [iv .i64 t76.1.Num, iv .i64 t76.1.Den]) rfl ⟨.inl iv_at, .inl iv_at, trivial⟩) rfl rfl rfl) (fun _ => ?_)
      refine as1 rfl rfl ?_
      refine l_nil (n_then (ref_seq (ref_region ?_)))
      refine s_rd (r_cloadS Tryd.isAgg27 Tryd.sizeOf27 rfl (j := 1) rfl rfl rfl) rfl ?_
      refine s_rd (r_cloadS Tryd.isAgg31 Tryd.sizeOf31 rfl (j := 2) rfl rfl rfl) rfl ?_
      refine mv1 rfl rfl ?_
      refine mv1 rfl rfl ?_
      refine mv1 rfl rfl ?_
      refine pull fun t78 h_t78 => ?_
      refine s_st (s_callC [0] [true] (fun (_ : Unit) => [tbO (rI .u8) 0 tab_0]) (fun (_ : Unit) => []) (fun (_ : Unit) => tup [ag [iv .i64 t78.1.Num, iv .i64 t78.1.Den], iv .i64 t78.2]) (args := [.tmp 79, .tmp 80, .tmp 81, .tmp 82, .tmp 83]) (caps := []) Tryd.call13 rfl (chance_Given_ok h_t78) ⟨rfl, rfl, trivial⟩ (fun _ => rfl) (fun _ => trivial) (fun _ => rfl) ⟨arg rfl, arg rfl, arg rfl, arg rfl, arg rfl, trivial⟩ (fun _ _ _ _ h => h)) rfl (fun _ => ?_)
      refine mv1 rfl rfl ?_
      refine s_rd (r_extract rfl rfl) rfl ?_
      refine s_rd (r_extract rfl rfl) rfl ?_
      refine s_st (s_alloc zt_36) rfl (fun b79 => ?_)
      refine s_st0 (s_cstore (out := [iv .i64 t78.1.Num, iv .i64 t78.1.Den]) Tryd.sizeOf36 rfl (j := 5) rfl (part_agO (ψs := [iv .i64 t78.1.Num, iv .i64 t78.1.Den]) rfl ⟨.inl iv_at, .inl iv_at, trivial⟩) rfl rfl rfl) (fun _ => ?_)
      refine as1 rfl rfl ?_
      refine l_nil ?_
      refine b_of (nrm [tbO (rI .u8) 0 tab_0, oc b4 [iv .i64 t3.1.N, slv rT_api_Pair t3.1.L], oc b6 [slv rT_api_Fraction t5.1.Nodes, slv rT_api_Fraction t5.1.Attacks], oc b75 [iv .i64 t74.1.Num, iv .i64 t74.1.Den], oc b77 [iv .i64 t76.1.Num, iv .i64 t76.1.Den], oc b79 [iv .i64 t78.1.Num, iv .i64 t78.1.Den]] rfl) ?_
      refine n_then (ref_seq (ref_seq (ref_region ?_)))
      refine mv1 rfl rfl ?_
      refine s_rd (r_neq rfl rfl) rfl ?_
      refine mv1 rfl rfl ?_
      refine b_split (t := 89) rfl (fun _ => ?_) (fun _ => ?_)
      · refine s_off rfl rfl rfl rfl rfl ?_
        refine s_off rfl rfl rfl rfl rfl ?_
        refine s_rd (r_pickT rfl rfl) rfl ?_
        refine mv1 rfl rfl ?_
        refine s_off rfl rfl rfl rfl rfl ?_
        refine s_off rfl rfl rfl rfl rfl ?_
        refine s_off rfl rfl rfl rfl rfl ?_
        refine s_rd (r_pickT rfl rfl) rfl ?_
        refine mv1 rfl rfl ?_
        refine s_off rfl rfl rfl rfl rfl ?_
        refine s_off rfl rfl rfl rfl rfl ?_
        refine s_off rfl rfl rfl rfl rfl ?_
        refine s_rd (r_pickT rfl rfl) rfl ?_
        refine mv1 rfl rfl ?_
        refine s_off rfl rfl rfl rfl rfl ?_
        refine s_off rfl rfl rfl rfl rfl ?_
        refine s_off rfl rfl rfl rfl rfl ?_
        refine s_off rfl rfl rfl rfl rfl ?_
        refine s_off rfl rfl rfl rfl rfl ?_
        refine s_off rfl rfl rfl rfl rfl ?_
        refine s_off rfl rfl rfl rfl rfl ?_
        refine s_off rfl rfl rfl rfl rfl ?_
        refine s_off rfl rfl rfl rfl rfl ?_
        refine s_off rfl rfl rfl rfl rfl ?_
        refine s_off rfl rfl rfl rfl rfl ?_
        refine s_rd (r_pickT rfl rfl) rfl ?_
        refine l_nil (n_then ?_)
        refine ref_condT rfl rfl ?_
        refine ref_seq (ref_region ?_)
        refine as1 rfl rfl ?_
        refine l_nil (n_then (ref_ret (r_then (r_block (r_then ?_)))))
        refine retX ?_
        refine r_block (r_then ?_)
        exact fin1 (.inl rfl) () [0] rfl ⟨rfl, trivial⟩ rfl (rv_tmp rfl)
      refine s_on rfl rfl rfl ?_
      refine mv1 rfl rfl ?_
      refine s_on rfl rfl rfl ?_
      refine s_rd (r_neq rfl rfl) rfl ?_
      refine s_rd (r_pickF rfl rfl) rfl ?_
      refine mv1 rfl rfl ?_
      refine b_split (t := 93) rfl (fun _ => ?_) (fun _ => ?_)
      · refine s_off rfl rfl rfl rfl rfl ?_
        refine s_off rfl rfl rfl rfl rfl ?_
        refine s_off rfl rfl rfl rfl rfl ?_
        refine s_rd (r_pickT rfl rfl) rfl ?_
        refine mv1 rfl rfl ?_
        refine s_off rfl rfl rfl rfl rfl ?_
        refine s_off rfl rfl rfl rfl rfl ?_
        refine s_off rfl rfl rfl rfl rfl ?_
        refine s_rd (r_pickT rfl rfl) rfl ?_
        refine mv1 rfl rfl ?_
        refine s_off rfl rfl rfl rfl rfl ?_
        refine s_off rfl rfl rfl rfl rfl ?_
        refine s_off rfl rfl rfl rfl rfl ?_
        refine s_off rfl rfl rfl rfl rfl ?_
        refine s_off rfl rfl rfl rfl rfl ?_
        refine s_off rfl rfl rfl rfl rfl ?_
        refine s_off rfl rfl rfl rfl rfl ?_
        refine s_off rfl rfl rfl rfl rfl ?_
        refine s_off rfl rfl rfl rfl rfl ?_
        refine s_off rfl rfl rfl rfl rfl ?_
        refine s_off rfl rfl rfl rfl rfl ?_
        refine s_rd (r_pickT rfl rfl) rfl ?_
        refine l_nil (n_then ?_)
        refine ref_condT rfl rfl ?_
        refine ref_seq (ref_region ?_)
        refine as1 rfl rfl ?_
        refine l_nil (n_then (ref_ret (r_then (r_block (r_then ?_)))))
        refine retX ?_
        refine r_block (r_then ?_)
        exact fin1 (.inl rfl) () [0] rfl ⟨rfl, trivial⟩ rfl (rv_tmp rfl)
      refine s_on rfl rfl rfl ?_
      refine s_rd (r_faddr (fo := 1) Tryd.underlying36 rfl rfl Tryd.sizeOf3 rfl) rfl ?_
      refine s_on rfl rfl rfl ?_
      refine s_rd (r_cload Tryd.isAgg3 rfl (j := 3) rfl rfl) rfl ?_
      refine s_on rfl rfl rfl ?_
      refine s_rd (r_lss rfl rfl) rfl ?_
      refine s_rd (r_pickF rfl rfl) rfl ?_
      refine mv1 rfl rfl ?_
      refine b_split (t := 98) rfl (fun _ => ?_) (fun _ => ?_)
      · refine s_off rfl rfl rfl rfl rfl ?_
        refine s_off rfl rfl rfl rfl rfl ?_
        refine s_off rfl rfl rfl rfl rfl ?_
        refine s_rd (r_pickT rfl rfl) rfl ?_
        refine mv1 rfl rfl ?_
        refine s_off rfl rfl rfl rfl rfl ?_
        refine s_off rfl rfl rfl rfl rfl ?_
        refine s_off rfl rfl rfl rfl rfl ?_
        refine s_off rfl rfl rfl rfl rfl ?_
        refine s_off rfl rfl rfl rfl rfl ?_
        refine s_off rfl rfl rfl rfl rfl ?_
        refine s_off rfl rfl rfl rfl rfl ?_
        refine s_off rfl rfl rfl rfl rfl ?_
        refine s_off rfl rfl rfl rfl rfl ?_
        refine s_off rfl rfl rfl rfl rfl ?_
        refine s_off rfl rfl rfl rfl rfl ?_
        refine s_rd (r_pickT rfl rfl) rfl ?_
        refine l_nil (n_then ?_)
        refine ref_condT rfl rfl ?_
        refine ref_seq (ref_region ?_)
        refine as1 rfl rfl ?_
        refine l_nil (n_then (ref_ret (r_then (r_block (r_then ?_)))))
        refine retX ?_
        refine r_block (r_then ?_)
        exact fin1 (.inl rfl) () [0] rfl ⟨rfl, trivial⟩ rfl (rv_tmp rfl)
      refine s_on rfl rfl rfl ?_
      refine s_rd (r_faddr (fo := 1) Tryd.underlying36 rfl rfl Tryd.sizeOf3 rfl) rfl ?_
      refine s_on rfl rfl rfl ?_
      refine s_rd (r_cload Tryd.isAgg3 rfl (j := 4) rfl rfl) rfl ?_
      refine s_on rfl rfl rfl ?_
      refine s_rd (r_lss rfl rfl) rfl ?_
      refine s_rd (r_pickF rfl rfl) rfl ?_
      refine mv1 rfl rfl ?_
      refine b_split (t := 103) rfl (fun _ => ?_) (fun _ => ?_)
      · refine s_off rfl rfl rfl rfl rfl ?_
        refine s_off rfl rfl rfl rfl rfl ?_
        refine s_off rfl rfl rfl rfl rfl ?_
        refine s_off rfl rfl rfl rfl rfl ?_
        refine s_off rfl rfl rfl rfl rfl ?_
        refine s_off rfl rfl rfl rfl rfl ?_
        refine s_off rfl rfl rfl rfl rfl ?_
        refine s_off rfl rfl rfl rfl rfl ?_
        refine s_off rfl rfl rfl rfl rfl ?_
        refine s_off rfl rfl rfl rfl rfl ?_
        refine s_off rfl rfl rfl rfl rfl ?_
        refine s_rd (r_pickT rfl rfl) rfl ?_
        refine l_nil (n_then ?_)
        refine ref_condT rfl rfl ?_
        refine ref_seq (ref_region ?_)
        refine as1 rfl rfl ?_
        refine l_nil (n_then (ref_ret (r_then (r_block (r_then ?_)))))
        refine retX ?_
        refine r_block (r_then ?_)
        exact fin1 (.inl rfl) () [0] rfl ⟨rfl, trivial⟩ rfl (rv_tmp rfl)
      refine s_on rfl rfl rfl ?_
      refine s_rd (r_faddr (fo := 0) Tryd.underlying36 rfl rfl Tryd.sizeOf3 rfl) rfl ?_
      refine s_on rfl rfl rfl ?_
      refine s_rd (r_cload Tryd.isAgg3 rfl (j := 3) rfl rfl) rfl ?_
      refine s_on rfl rfl rfl ?_
      refine s_rd (r_faddr (fo := 1) Tryd.underlying36 rfl rfl Tryd.sizeOf3 rfl) rfl ?_
      refine s_on rfl rfl rfl ?_
      refine s_rd (r_cload Tryd.isAgg3 rfl (j := 4) rfl rfl) rfl ?_
      refine s_on rfl rfl rfl ?_
      refine s_rd (r_mul rfl rfl) rfl ?_
      refine s_on rfl rfl rfl ?_
      refine s_rd (r_faddr (fo := 0) Tryd.underlying36 rfl rfl Tryd.sizeOf3 rfl) rfl ?_
      refine s_on rfl rfl rfl ?_
      refine s_rd (r_cload Tryd.isAgg3 rfl (j := 4) rfl rfl) rfl ?_
      refine s_on rfl rfl rfl ?_
      refine s_rd (r_faddr (fo := 1) Tryd.underlying36 rfl rfl Tryd.sizeOf3 rfl) rfl ?_
      refine s_on rfl rfl rfl ?_
      refine s_rd (r_cload Tryd.isAgg3 rfl (j := 3) rfl rfl) rfl ?_
      refine s_on rfl rfl rfl ?_
      refine s_rd (r_mul rfl rfl) rfl ?_
      refine s_on rfl rfl rfl ?_
      refine s_rd (r_gtr rfl rfl) rfl ?_
      refine s_rd (r_pickF rfl rfl) rfl ?_
      refine l_nil (n_then ?_)
      refine ref_cond rfl (fun hb80 => ?_) (fun hb80 => ?_)
      · refine ref_seq (ref_region ?_)
        refine as1 rfl rfl ?_
        refine l_nil (n_then (ref_ret (r_then (r_block (r_then ?_)))))
        refine retX ?_
        refine r_block (r_then ?_)
        exact fin1 (.inl rfl) () [0] rfl ⟨rfl, trivial⟩ rfl (rv_tmp rfl)
      refine ref_skip (n_then (ref_seq (ref_seq (ref_region ?_))))
      refine s_rd (r_faddr (fo := 0) Tryd.underlying36 rfl rfl Tryd.sizeOf3 rfl) rfl ?_
      refine s_rd (r_cload Tryd.isAgg3 rfl (j := 4) rfl rfl) rfl ?_
      refine s_rd (r_eql rfl rfl) rfl ?_
      refine l_nil (n_then ?_)
      refine ref_cond rfl (fun hb81 => ?_) (fun hb81 => ?_)
      · refine ref_seq (ref_seq (ref_region ?_))
        refine mv1 rfl rfl ?_
        refine s_rd (r_neq rfl rfl) rfl ?_
        refine l_nil (n_then ?_)
        refine ref_cond rfl (fun hb82 => ?_) (fun hb82 => ?_)
        · refine ref_seq (ref_region ?_)
          refine as1 rfl rfl ?_
          refine l_nil (n_then (ref_ret (r_then (r_then (r_block (r_then ?_))))))
          refine retX ?_
          refine r_block (r_then ?_)
          exact fin1 (.inl rfl) () [0] rfl ⟨rfl, trivial⟩ rfl (rv_tmp rfl)
        refine ref_skip (n_then (ref_exit (x_then (x_eq (n_then (ref_region ?_))))))
        refine s_rd (r_add rfl rfl) rfl ?_
        refine mv1 rfl rfl ?_
        refine l_nil ?_
        exact goX () (weak [0, 1, 2] ⟨rfl, rfl, rfl, rfl, rfl, rfl, rfl, rfl, trivial⟩ ⟨rfl, rfl, rfl, trivial⟩)
      refine ref_skip (n_then (ref_seq (ref_seq ?_)))
      refine ref_join (fun (j83 : Bool) (x84 : Unit) => [(4, pv (ptr b4 0)), (5, pv (ptr b6 0)), (6, slv (rI .i64) a_7.1), (7, slv (rI .i64) b9.1), (8, slv (rI .i64) q48), (12, pv (ptr b75 0)), (14, pv (ptr b77 0)), (16, pv (ptr b79 0)), (17, iv .i64 t78.2), (56, slv (rI .i64) [1, 4, 2]), (57, iv .i64 ([1, 4, 2].length : Int)), (58, iv .i64 s70), (90, iv .i64 t76.2), (91, bv (t76.2 != 0)), (94, pv (ptr b75 1)), (95, iv .i64 t74.1.Den), (96, bv (decide (t74.1.Den < 1))), (99, pv (ptr b77 1)), (100, iv .i64 t76.1.Den), (101, bv (decide (t76.1.Den < 1))), (104, pv (ptr b75 0)), (105, iv .i64 t74.1.Num), (106, pv (ptr b77 1)), (107, iv .i64 t76.1.Den), (108, iv .i64 (imul .i64 t74.1.Num t76.1.Den)), (109, pv (ptr b77 0)), (110, iv .i64 t76.1.Num), (111, pv (ptr b75 1)), (112, iv .i64 t74.1.Den), (113, iv .i64 (imul .i64 t76.1.Num t74.1.Den)), (114, bv (decide ((imul .i64 t74.1.Num t76.1.Den) > (imul .i64 t76.1.Num t74.1.Den)))), (142, bv j83)]) (fun (j83 : Bool) (x84 : Unit) => [oc b4 [iv .i64 t3.1.N, slv rT_api_Pair t3.1.L], oc b6 [slv rT_api_Fraction t5.1.Nodes, slv rT_api_Fraction t5.1.Attacks], oc b75 [iv .i64 t74.1.Num, iv .i64 t74.1.Den], oc b77 [iv .i64 t76.1.Num, iv .i64 t76.1.Den], oc b79 [iv .i64 t78.1.Num, iv .i64 t78.1.Den], tbO (rI .u8) 0 tab_0]) (fun k85 hk85 => ?_) (fun j83 x84 => ?_)
      · refine ref_region ?_
        refine mv1 rfl rfl ?_
        refine s_rd (r_neq rfl rfl) rfl ?_
        refine mv1 rfl rfl ?_
        refine b_split (t := 123) rfl (fun _ => ?_) (fun _ => ?_)
        · refine s_off rfl rfl rfl rfl rfl ?_
          refine s_off rfl rfl rfl rfl rfl ?_
          refine s_off rfl rfl rfl rfl rfl ?_
          refine s_rd (r_pickT rfl rfl) rfl ?_
          refine mv1 rfl rfl ?_
          refine s_off rfl rfl rfl rfl rfl ?_
          refine s_off rfl rfl rfl rfl rfl ?_
          refine s_off rfl rfl rfl rfl rfl ?_
          refine s_rd (r_pickT rfl rfl) rfl ?_
          refine mv1 rfl rfl ?_
          refine s_off rfl rfl rfl rfl rfl ?_
          refine s_off rfl rfl rfl rfl rfl ?_
          refine s_off rfl rfl rfl rfl rfl ?_
          refine s_rd (r_pickT rfl rfl) rfl ?_
          refine mv1 rfl rfl ?_
          refine s_off rfl rfl rfl rfl rfl ?_
          refine s_off rfl rfl rfl rfl rfl ?_
          refine s_off rfl rfl rfl rfl rfl ?_
          refine s_rd (r_pickT rfl rfl) rfl ?_
          refine l_nil ?_
          exact b_to (hk85 true ()) (weak [1, 2, 3, 4, 5, 0] ⟨rfl, rfl, rfl, rfl, rfl, rfl, rfl, rfl, rfl, rfl, rfl, rfl, rfl, rfl, rfl, rfl, rfl, rfl, rfl, rfl, rfl, rfl, rfl, rfl, rfl, rfl, rfl, rfl, rfl, rfl, rfl, rfl, trivial⟩ ⟨rfl, rfl, rfl, rfl, rfl, rfl, trivial⟩)
        refine s_on rfl rfl rfl ?_
        refine s_rd (r_faddr (fo := 1) Tryd.underlying36 rfl rfl Tryd.sizeOf3 rfl) rfl ?_
        refine s_on rfl rfl rfl ?_
        refine s_rd (r_cload Tryd.isAgg3 rfl (j := 5) rfl rfl) rfl ?_
        refine s_on rfl rfl rfl ?_
        refine s_rd (r_lss rfl rfl) rfl ?_
        refine s_rd (r_pickF rfl rfl) rfl ?_
        refine mv1 rfl rfl ?_
        refine b_split (t := 128) rfl (fun _ => ?_) (fun _ => ?_)
        · refine s_off rfl rfl rfl rfl rfl ?_
          refine s_off rfl rfl rfl rfl rfl ?_
          refine s_off rfl rfl rfl rfl rfl ?_
          refine s_rd (r_pickT rfl rfl) rfl ?_
          refine mv1 rfl rfl ?_
          refine s_off rfl rfl rfl rfl rfl ?_
          refine s_off rfl rfl rfl rfl rfl ?_
          refine s_off rfl rfl rfl rfl rfl ?_
          refine s_rd (r_pickT rfl rfl) rfl ?_
          refine mv1 rfl rfl ?_
          refine s_off rfl rfl rfl rfl rfl ?_
          refine s_off rfl rfl rfl rfl rfl ?_
          refine s_off rfl rfl rfl rfl rfl ?_
          refine s_rd (r_pickT rfl rfl) rfl ?_
          refine l_nil ?_
          exact b_to (hk85 true ()) (weak [1, 2, 3, 4, 5, 0] ⟨rfl, rfl, rfl, rfl, rfl, rfl, rfl, rfl, rfl, rfl, rfl, rfl, rfl, rfl, rfl, rfl, rfl, rfl, rfl, rfl, rfl, rfl, rfl, rfl, rfl, rfl, rfl, rfl, rfl, rfl, rfl, rfl, trivial⟩ ⟨rfl, rfl, rfl, rfl, rfl, rfl, trivial⟩)
        refine s_on rfl rfl rfl ?_
        refine s_rd (r_faddr (fo := 1) Tryd.underlying36 rfl rfl Tryd.sizeOf3 rfl) rfl ?_
        refine s_on rfl rfl rfl ?_
        refine s_rd (r_cload Tryd.isAgg3 rfl (j := 5) rfl rfl) rfl ?_
        refine s_on rfl rfl rfl ?_
        refine s_rd (r_gtr rfl rfl) rfl ?_
        refine s_rd (r_pickF rfl rfl) rfl ?_
        refine mv1 rfl rfl ?_
        refine b_split (t := 133) rfl (fun _ => ?_) (fun _ => ?_)
        · refine s_off rfl rfl rfl rfl rfl ?_
          refine s_off rfl rfl rfl rfl rfl ?_
          refine s_off rfl rfl rfl rfl rfl ?_
          refine s_rd (r_pickT rfl rfl) rfl ?_
          refine mv1 rfl rfl ?_
          refine s_off rfl rfl rfl rfl rfl ?_
          refine s_off rfl rfl rfl rfl rfl ?_
          refine s_off rfl rfl rfl rfl rfl ?_
          refine s_rd (r_pickT rfl rfl) rfl ?_
          refine l_nil ?_
          exact b_to (hk85 true ()) (weak [1, 2, 3, 4, 5, 0] ⟨rfl, rfl, rfl, rfl, rfl, rfl, rfl, rfl, rfl, rfl, rfl, rfl, rfl, rfl, rfl, rfl, rfl, rfl, rfl, rfl, rfl, rfl, rfl, rfl, rfl, rfl, rfl, rfl, rfl, rfl, rfl, rfl, trivial⟩ ⟨rfl, rfl, rfl, rfl, rfl, rfl, trivial⟩)
        refine s_on rfl rfl rfl ?_
        refine s_rd (r_faddr (fo := 0) Tryd.underlying36 rfl rfl Tryd.sizeOf3 rfl) rfl ?_
        refine s_on rfl rfl rfl ?_
        refine s_rd (r_cload Tryd.isAgg3 rfl (j := 4) rfl rfl) rfl ?_
        refine s_on rfl rfl rfl ?_
        refine s_rd (r_gtr rfl rfl) rfl ?_
        refine s_rd (r_pickF rfl rfl) rfl ?_
        refine mv1 rfl rfl ?_
        refine b_split (t := 138) rfl (fun _ => ?_) (fun _ => ?_)
        · refine s_off rfl rfl rfl rfl rfl ?_
          refine s_off rfl rfl rfl rfl rfl ?_
          refine s_off rfl rfl rfl rfl rfl ?_
          refine s_rd (r_pickT rfl rfl) rfl ?_
          refine l_nil ?_
          exact b_to (hk85 true ()) (weak [1, 2, 3, 4, 5, 0] ⟨rfl, rfl, rfl, rfl, rfl, rfl, rfl, rfl, rfl, rfl, rfl, rfl, rfl, rfl, rfl, rfl, rfl, rfl, rfl, rfl, rfl, rfl, rfl, rfl, rfl, rfl, rfl, rfl, rfl, rfl, rfl, rfl, trivial⟩ ⟨rfl, rfl, rfl, rfl, rfl, rfl, trivial⟩)
        refine s_on rfl rfl rfl ?_
        refine s_rd (r_faddr (fo := 1) Tryd.underlying36 rfl rfl Tryd.sizeOf3 rfl) rfl ?_
        refine s_on rfl rfl rfl ?_
        refine s_rd (r_cload Tryd.isAgg3 rfl (j := 4) rfl rfl) rfl ?_
        refine s_on rfl rfl rfl ?_
        refine s_rd (r_gtr rfl rfl) rfl ?_
        refine s_rd (r_pickF rfl rfl) rfl ?_
        refine l_nil ?_
        exact b_to (hk85 (decide (t76.1.Den > 1048576)) ()) (weak [1, 2, 3, 4, 5, 0] ⟨rfl, rfl, rfl, rfl, rfl, rfl, rfl, rfl, rfl, rfl, rfl, rfl, rfl, rfl, rfl, rfl, rfl, rfl, rfl, rfl, rfl, rfl, rfl, rfl, rfl, rfl, rfl, rfl, rfl, rfl, rfl, rfl, trivial⟩ ⟨rfl, rfl, rfl, rfl, rfl, rfl, trivial⟩)
      refine n_then ?_
      refine ref_cond rfl (fun hb86 => ?_) (fun hb86 => ?_)
      · refine ref_seq (ref_region ?_)
        refine mv1 rfl rfl ?_
        refine s_rd (r_eql rfl rfl) rfl ?_
        refine mv1 rfl rfl ?_
        refine b_split (t := 145) rfl (fun _ => ?_) (fun _ => ?_)
        · refine s_on rfl rfl rfl ?_
          refine s_rd (r_faddr (fo := 1) Tryd.underlying36 rfl rfl Tryd.sizeOf3 rfl) rfl ?_
          refine s_on rfl rfl rfl ?_
          refine s_rd (r_cload Tryd.isAgg3 rfl (j := 4) rfl rfl) rfl ?_
          refine s_on rfl rfl rfl ?_
          refine s_rd (r_geq rfl rfl) rfl ?_
          refine s_rd (r_pickT rfl rfl) rfl ?_
          refine mv1 rfl rfl ?_
          refine b_split (t := 150) rfl (fun _ => ?_) (fun _ => ?_)
          · refine s_on rfl rfl rfl ?_
            refine pull fun t87 h_t87 => ?_
            refine s_st (s_callC [5] [true] (fun (_ : Unit) => [tbO (rI .u8) 0 tab_0]) (fun (_ : Unit) => []) (fun (_ : Unit) => bv t87) (args := []) (caps := []) Tryd.call14 rfl (law23_awake_ok h_t87) ⟨rfl, rfl, trivial⟩ (fun _ => rfl) (fun _ => trivial) (fun _ => rfl) trivial (fun _ _ _ _ h => h)) rfl (fun _ => ?_)
            refine s_rd (r_pickT rfl rfl) rfl ?_
            refine as1 rfl rfl ?_
            refine l_nil (n_then (ref_ret (r_then (r_block (r_then ?_)))))
            refine retX ?_
            refine r_block (r_then ?_)
            exact fin1 (.inl rfl) () [5] rfl ⟨rfl, trivial⟩ rfl (rv_tmp rfl)
          refine s_off rfl rfl rfl rfl rfl ?_
          refine s_rd (r_pickF rfl rfl) rfl ?_
          refine as1 rfl rfl ?_
          refine l_nil (n_then (ref_ret (r_then (r_block (r_then ?_)))))
          refine retX ?_
          refine r_block (r_then ?_)
          exact fin1 (.inl rfl) () [5] rfl ⟨rfl, trivial⟩ rfl (rv_tmp rfl)
        refine s_off rfl rfl rfl rfl rfl ?_
        refine s_off rfl rfl rfl rfl rfl ?_
        refine s_off rfl rfl rfl rfl rfl ?_
        refine s_rd (r_pickF rfl rfl) rfl ?_
        refine mv1 rfl rfl ?_
        refine s_off rfl rfl rfl rfl rfl ?_
        refine s_rd (r_pickF rfl rfl) rfl ?_
        refine as1 rfl rfl ?_
        refine l_nil (n_then (ref_ret (r_then (r_block (r_then ?_)))))
        refine retX ?_
        refine r_block (r_then ?_)
        exact fin1 (.inl rfl) () [5] rfl ⟨rfl, trivial⟩ rfl (rv_tmp rfl)
      refine ref_skip (n_then (ref_seq ?_))
      refine ref_draw [0, 1, 2, 3, 4, 5, 6, 7, 8, 9, 11, 12] rfl (by kernel_rfl) (fun hok => ?_)
      refine a_rd (i := 0) hok rfl (by kernel_rfl) rfl (r_faddr (fo := 0) Tryd.underlying36 rfl rfl Tryd.sizeOf3 rfl) rfl ?_
      refine a_rd (i := 1) hok rfl (by kernel_rfl) rfl (r_cload Tryd.isAgg3 rfl (j := 4) rfl rfl) rfl ?_
      refine a_rd (i := 2) hok rfl (by kernel_rfl) rfl (r_faddr (fo := 0) Tryd.underlying36 rfl rfl Tryd.sizeOf3 rfl) rfl ?_
      refine a_rd (i := 3) hok rfl (by kernel_rfl) rfl (r_cload Tryd.isAgg3 rfl (j := 3) rfl rfl) rfl ?_
      refine a_rd (i := 4) hok rfl (by kernel_rfl) rfl (r_mul rfl rfl) rfl ?_
      refine a_rd (i := 5) hok rfl (by kernel_rfl) rfl (r_faddr (fo := 1) Tryd.underlying36 rfl rfl Tryd.sizeOf3 rfl) rfl ?_
      refine a_rd (i := 6) hok rfl (by kernel_rfl) rfl (r_cload Tryd.isAgg3 rfl (j := 4) rfl rfl) rfl ?_
      refine a_rd (i := 7) hok rfl (by kernel_rfl) rfl (r_faddr (fo := 1) Tryd.underlying36 rfl rfl Tryd.sizeOf3 rfl) rfl ?_
      refine a_rd (i := 8) hok rfl (by kernel_rfl) rfl (r_cload Tryd.isAgg3 rfl (j := 3) rfl rfl) rfl ?_
      refine a_rd (i := 9) hok rfl (by kernel_rfl) rfl (r_mul rfl rfl) rfl ?_
      refine a_rd (i := 11) hok rfl (by kernel_rfl) rfl (r_cloadS Tryd.isAgg36 Tryd.sizeOf36 rfl (j := 2) rfl rfl rfl) rfl ?_
      refine pull fun t88 h_t88 => ?_
      refine a_next hok 10 [] (by kernel_rfl) ?_ trivial
      refine a_st (i := 10) hok rfl rfl (s_call (ψ := fun (_ : Unit) => ag [iv .i64 t88.Num, iv .i64 t88.Den]) (args := [.tmp 157, .tmp 162]) Tryd.call15 rfl (ref22_Reduced_ok h_t88) ⟨arg rfl, arg rfl, trivial⟩ (fun _ _ _ _ h => h)) (by intro _ h; cases h; rfl) (fun _ => ⟨⟨⟨rfl, rfl⟩, trivial⟩, ⟨trivial, ⟨⟨⟨rfl, rfl⟩, trivial⟩, ⟨trivial, ⟨⟨⟨rfl, rfl⟩, trivial⟩, ⟨trivial, ⟨trivial, ⟨⟨⟨rfl, rfl⟩, trivial⟩, ⟨trivial, ⟨⟨⟨rfl, rfl⟩, trivial⟩, ⟨trivial, trivial⟩⟩⟩⟩⟩⟩⟩⟩⟩⟩⟩) (fun _ => ?_)
      refine a_rd (i := 12) hok rfl (by kernel_rfl) rfl (r_stneq (u := t88) (v := t74.1) eq_36 rfl rfl rfl rfl) rfl ?_
      refine a_fin hok (by kernel_rfl) ?_
      refine n_then ?_
      refine ref_cond rfl (fun hb89 => ?_) (fun hb89 => ?_)
      · refine ref_seq (ref_region ?_)
        refine as1 rfl rfl ?_
        refine l_nil (n_then (ref_ret (r_block (r_then ?_))))
        refine retX ?_
        refine r_block (r_then ?_)
        exact fin1 (.inl rfl) () [5] rfl ⟨rfl, trivial⟩ rfl (rv_tmp rfl)
      refine ref_skip (n_block (n_then (ref_region ?_)))
      refine s_rd (r_add rfl rfl) rfl ?_
      refine mv1 rfl rfl ?_
      refine l_nil ?_
      exact goX () (weak [5, 0, 1] ⟨rfl, rfl, rfl, rfl, rfl, rfl, rfl, rfl, trivial⟩ ⟨rfl, rfl, rfl, trivial⟩)
    refine ref_exit (x_then ?_)
    exact brkX () (weak [1, 2, 0] ⟨rfl, rfl, trivial⟩ ⟨rfl, rfl, rfl, trivial⟩)
  refine n_then (ref_seq (ref_seq (ref_region ?_)))
  refine as1 rfl rfl ?_
  refine l_nil (n_then ?_)
  refine ref_loopX (f := (law23_ChanceProduct_l3 t3 t5)) (Γl := (fun (s100 : Int) (x101 : Unit) => [(4, pv (ptr b4 0)), (5, pv (ptr b6 0)), (18, iv .i64 s100)])) (Ωl := (fun (s100 : Int) (x101 : Unit) => [tbO (rI .u8) 0 tab_0, oc b4 [iv .i64 t3.1.N, slv rT_api_Pair t3.1.L], oc b6 [slv rT_api_Fraction t5.1.Nodes, slv rT_api_Fraction t5.1.Attacks]])) (Γb := (fun (q109 : Unit) (y110 : Unit) => [])) (Ωb := (fun (q109 : Unit) (y110 : Unit) => [tbO (rI .u8) 0 tab_0])) (kr := (fun a : Bool => some a)) 0 () (weak [2, 0, 1] ⟨rfl, rfl, rfl, trivial⟩ ⟨rfl, rfl, rfl, trivial⟩) (fun s100 x101 => ?_) (fun q109 y110 => ?_)
  · unfold law23_ChanceProduct_l3
    refine ref_seq (ref_seq (ref_region ?_))
    refine mv1 rfl rfl ?_
    refine s_rd (r_faddr (fo := 0) Tryd.underlying27 rfl rfl Tryd.sizeOf3 rfl) rfl ?_
    refine s_rd (r_cload Tryd.isAgg3 rfl (j := 1) rfl rfl) rfl ?_
    refine s_rd (r_lss rfl rfl) rfl ?_
    refine l_nil (n_then ?_)
    refine ref_cond rfl (fun hb102 => ?_) (fun hb102 => ?_)
    · refine ref_skip (n_then (ref_seq (ref_block (ref_seq (ref_region ?_)))))
      refine s_rd (r_cloadS Tryd.isAgg27 Tryd.sizeOf27 rfl (j := 1) rfl rfl rfl) rfl ?_
      refine s_rd (r_cloadS Tryd.isAgg31 Tryd.sizeOf31 rfl (j := 2) rfl rfl rfl) rfl ?_
      refine mv1 rfl rfl ?_
      refine s_st (s_bslice (xs := [.tmp 176]) (ds := [s100]) Tryd.underlying22 el_3 rfl (Nat.le_of_ble_eq_true rfl) ⟨(part_at rfl iv_at), trivial⟩) rfl (fun _ => ?_)
      refine pull fun t103 h_t103 => ?_
      refine s_st (s_callC [0] [true] (fun (_ : Unit) => [tbO (rI .u8) 0 tab_0]) (fun (_ : Unit) => []) (fun (_ : Unit) => tup [ag [iv .i64 t103.1.Num, iv .i64 t103.1.Den], iv .i64 t103.2]) (args := [.tmp 174, .tmp 175, .tmp 177, .const (.int .i64 (4))]) (caps := []) Tryd.call12 rfl (chance_Joint_ok h_t103) ⟨rfl, rfl, trivial⟩ (fun _ => rfl) (fun _ => trivial) (fun _ => rfl) ⟨arg rfl, arg rfl, arg rfl, arg rfl, trivial⟩ (fun _ _ _ _ h => h)) rfl (fun _ => ?_)
      refine mv1 rfl rfl ?_
      refine s_rd (r_extract rfl rfl) rfl ?_
      refine s_rd (r_extract rfl rfl) rfl ?_
      refine s_st (s_alloc zt_36) rfl (fun b104 => ?_)
      refine s_st0 (s_cstore (out := [iv .i64 t103.1.Num, iv .i64 t103.1.Den]) Tryd.sizeOf36 rfl (j := 3) rfl (part_agO (ψs := [iv .i64 t103.1.Num, iv .i64 t103.1.Den]) rfl ⟨.inl iv_at, .inl iv_at, trivial⟩) rfl rfl rfl) (fun _ => ?_)
      refine as1 rfl rfl ?_
      refine l_nil ?_
      refine b_of (nrm [tbO (rI .u8) 0 tab_0, oc b4 [iv .i64 t3.1.N, slv rT_api_Pair t3.1.L], oc b6 [slv rT_api_Fraction t5.1.Nodes, slv rT_api_Fraction t5.1.Attacks], oc b104 [iv .i64 t103.1.Num, iv .i64 t103.1.Den]] rfl) ?_
      refine n_then (ref_seq (ref_region ?_))
      refine s_rd (r_cloadS Tryd.isAgg27 Tryd.sizeOf27 rfl (j := 1) rfl rfl rfl) rfl ?_
      refine s_rd (r_cloadS Tryd.isAgg31 Tryd.sizeOf31 rfl (j := 2) rfl rfl rfl) rfl ?_
      refine mv1 rfl rfl ?_
      refine s_st (s_bslice (xs := [.tmp 184]) (ds := [s100]) Tryd.underlying22 el_3 rfl (Nat.le_of_ble_eq_true rfl) ⟨(part_at rfl iv_at), trivial⟩) rfl (fun _ => ?_)
      refine pull fun t105 h_t105 => ?_
      refine s_st (s_callC [0] [true] (fun (_ : Unit) => [tbO (rI .u8) 0 tab_0]) (fun (_ : Unit) => []) (fun (_ : Unit) => tup [ag [iv .i64 t105.1.Num, iv .i64 t105.1.Den], iv .i64 t105.2]) (args := [.tmp 182, .tmp 183, .tmp 185, .const (.int .i64 (1))]) (caps := []) Tryd.call12 rfl (chance_Joint_ok h_t105) ⟨rfl, rfl, trivial⟩ (fun _ => rfl) (fun _ => trivial) (fun _ => rfl) ⟨arg rfl, arg rfl, arg rfl, arg rfl, trivial⟩ (fun _ _ _ _ h => h)) rfl (fun _ => ?_)
      refine mv1 rfl rfl ?_
      refine s_rd (r_extract rfl rfl) rfl ?_
      refine s_rd (r_extract rfl rfl) rfl ?_
      refine s_st (s_alloc zt_36) rfl (fun b106 => ?_)
      refine s_st0 (s_cstore (out := [iv .i64 t105.1.Num, iv .i64 t105.1.Den]) Tryd.sizeOf36 rfl (j := 4) rfl (part_agO (ψs := [iv .i64 t105.1.Num, iv .i64 t105.1.Den]) rfl ⟨.inl iv_at, .inl iv_at, trivial⟩) rfl rfl rfl) (fun _ => ?_)
      refine as1 rfl rfl ?_
      refine l_nil ?_
      refine b_of (nrm [tbO (rI .u8) 0 tab_0, oc b4 [iv .i64 t3.1.N, slv rT_api_Pair t3.1.L], oc b6 [slv rT_api_Fraction t5.1.Nodes, slv rT_api_Fraction t5.1.Attacks], oc b104 [iv .i64 t103.1.Num, iv .i64 t103.1.Den], oc b106 [iv .i64 t105.1.Num, iv .i64 t105.1.Den]] rfl) ?_
      refine n_then (ref_seq (ref_region ?_))
      refine mv1 rfl rfl ?_
      refine s_rd (r_neq rfl rfl) rfl ?_
      refine mv1 rfl rfl ?_
      refine b_split (t := 191) rfl (fun _ => ?_) (fun _ => ?_)
      · refine s_off rfl rfl rfl rfl rfl ?_
        refine s_off rfl rfl rfl rfl rfl ?_
        refine s_rd (r_pickT rfl rfl) rfl ?_
        refine mv1 rfl rfl ?_
        refine s_off rfl rfl rfl rfl rfl ?_
        refine s_off rfl rfl rfl rfl rfl ?_
        refine s_off rfl rfl rfl rfl rfl ?_
        refine s_off rfl rfl rfl rfl rfl ?_
        refine s_off rfl rfl rfl rfl rfl ?_
        refine s_off rfl rfl rfl rfl rfl ?_
        refine s_off rfl rfl rfl rfl rfl ?_
        refine s_off rfl rfl rfl rfl rfl ?_
        refine s_off rfl rfl rfl rfl rfl ?_
        refine s_off rfl rfl rfl rfl rfl ?_
        refine s_off rfl rfl rfl rfl rfl ?_
        refine s_rd (r_pickT rfl rfl) rfl ?_
        refine l_nil (n_then ?_)
        refine ref_condT rfl rfl ?_
        refine ref_seq (ref_region ?_)
        refine as1 rfl rfl ?_
        refine l_nil (n_then (ref_ret (r_block (r_then ?_))))
        refine retX ?_
        refine r_block (r_then ?_)
        exact fin1 (.inl rfl) () [0] rfl ⟨rfl, trivial⟩ rfl (rv_tmp rfl)
      refine s_on rfl rfl rfl ?_
      refine mv1 rfl rfl ?_
      refine s_on rfl rfl rfl ?_
      refine s_rd (r_neq rfl rfl) rfl ?_
      refine s_rd (r_pickF rfl rfl) rfl ?_
      refine mv1 rfl rfl ?_
      refine b_split (t := 195) rfl (fun _ => ?_) (fun _ => ?_)
      · refine s_off rfl rfl rfl rfl rfl ?_
        refine s_off rfl rfl rfl rfl rfl ?_
        refine s_off rfl rfl rfl rfl rfl ?_
        refine s_off rfl rfl rfl rfl rfl ?_
        refine s_off rfl rfl rfl rfl rfl ?_
        refine s_off rfl rfl rfl rfl rfl ?_
        refine s_off rfl rfl rfl rfl rfl ?_
        refine s_off rfl rfl rfl rfl rfl ?_
        refine s_off rfl rfl rfl rfl rfl ?_
        refine s_off rfl rfl rfl rfl rfl ?_
        refine s_off rfl rfl rfl rfl rfl ?_
        refine s_rd (r_pickT rfl rfl) rfl ?_
        refine l_nil (n_then ?_)
        refine ref_condT rfl rfl ?_
        refine ref_seq (ref_region ?_)
        refine as1 rfl rfl ?_
        refine l_nil (n_then (ref_ret (r_block (r_then ?_))))
        refine retX ?_
        refine r_block (r_then ?_)
        exact fin1 (.inl rfl) () [0] rfl ⟨rfl, trivial⟩ rfl (rv_tmp rfl)
      refine s_on rfl rfl rfl ?_
      refine s_rd (r_faddr (fo := 0) Tryd.underlying36 rfl rfl Tryd.sizeOf3 rfl) rfl ?_
      refine s_on rfl rfl rfl ?_
      refine s_rd (r_cload Tryd.isAgg3 rfl (j := 3) rfl rfl) rfl ?_
      refine s_on rfl rfl rfl ?_
      refine s_rd (r_faddr (fo := 1) Tryd.underlying36 rfl rfl Tryd.sizeOf3 rfl) rfl ?_
      refine s_on rfl rfl rfl ?_
      refine s_rd (r_cload Tryd.isAgg3 rfl (j := 4) rfl rfl) rfl ?_
      refine s_on rfl rfl rfl ?_
      refine s_rd (r_mul rfl rfl) rfl ?_
      refine s_on rfl rfl rfl ?_
      refine s_rd (r_faddr (fo := 0) Tryd.underlying36 rfl rfl Tryd.sizeOf3 rfl) rfl ?_
      refine s_on rfl rfl rfl ?_
      refine s_rd (r_cload Tryd.isAgg3 rfl (j := 4) rfl rfl) rfl ?_
      refine s_on rfl rfl rfl ?_
      refine s_rd (r_faddr (fo := 1) Tryd.underlying36 rfl rfl Tryd.sizeOf3 rfl) rfl ?_
      refine s_on rfl rfl rfl ?_
      refine s_rd (r_cload Tryd.isAgg3 rfl (j := 3) rfl rfl) rfl ?_
      refine s_on rfl rfl rfl ?_
      refine s_rd (r_mul rfl rfl) rfl ?_
      refine s_on rfl rfl rfl ?_
      refine s_rd (r_gtr rfl rfl) rfl ?_
      refine s_rd (r_pickF rfl rfl) rfl ?_
      refine l_nil (n_then ?_)
      refine ref_cond rfl (fun hb107 => ?_) (fun hb107 => ?_)
      · refine ref_seq (ref_region ?_)
        refine as1 rfl rfl ?_
        refine l_nil (n_then (ref_ret (r_block (r_then ?_))))
        refine retX ?_
        refine r_block (r_then ?_)
        exact fin1 (.inl rfl) () [0] rfl ⟨rfl, trivial⟩ rfl (rv_tmp rfl)
      refine ref_skip (n_block (n_then (ref_region ?_)))
      refine mv1 rfl rfl ?_
      refine s_rd (r_add rfl rfl) rfl ?_
      refine as1 rfl rfl ?_
      refine b_let (f := iv .i64) (t := 18) rfl fun i108 => ?_
      refine l_nil ?_
      exact goX () (weak [0, 1, 2] ⟨rfl, rfl, rfl, trivial⟩ ⟨rfl, rfl, rfl, trivial⟩)
    refine ref_exit (x_then ?_)
    exact brkX () (weak [0] trivial ⟨rfl, trivial⟩)
  refine n_then (ref_seq (ref_region ?_))
  refine pull fun t111 h_t111 => ?_
  refine s_st (s_callC [0] [true] (fun (_ : Unit) => [tbO (rI .u8) 0 tab_0]) (fun (_ : Unit) => []) (fun (_ : Unit) => bv t111) (args := []) (caps := []) Tryd.call14 rfl (law23_awake_ok h_t111) ⟨rfl, rfl, trivial⟩ (fun _ => rfl) (fun _ => trivial) (fun _ => rfl) trivial (fun _ _ _ _ h => h)) rfl (fun _ => ?_)
  refine as1 rfl rfl ?_
  refine l_nil (n_then (ref_ret ?_))
  exact fin1 (.inl rfl) () [0] rfl ⟨rfl, trivial⟩ rfl (rv_tmp rfl)

/-! deliberation/deliberationnet.Members -/
noncomputable def net_Members_l1 (bits_0 : Int) (s15 : Int × (List Int)) : Option (Sum ((List Int)) (Int × (List Int))) :=
  bif decide (s15.1 < 64) then
    Option.bind (ishrM .u64 bits_0 (IntKind.wrap .u64 s15.1)) fun t18 =>
    bif (iand .u64 t18 1) == 1 then
      Option.bind (appM 8 s15.2 [s15.1]) fun out20 =>
      letM (iadd .i64 s15.1 1) fun i22 =>
      some (Sum.inr (i22, out20))
    else
      letM (iadd .i64 s15.1 1) fun i23 =>
      some (Sum.inr (i23, s15.2))
  else
    some (Sum.inl s15.2)

noncomputable def net_Members_m (bits_0 : Int) : Option (List Int) :=
  Option.bind (loopC (net_Members_l1 bits_0) (0, [])) fun q24 : (List Int) =>
  some q24

theorem net_Members_ok {bits_0 : Int} {r : List Int} (hm : net_Members_m bits_0 = some r) :
    FnOk prog 17 [iv .u64 bits_0] [] (fun (x : (Value × List Nat)) => [pv x.1]) (fun (x : (Value × List Nat)) => [oa (rI .i64) x.1 x.2 r]) := by
  refine fn_ok (X := (Value × List Nat)) (fn := Tryd.f17) (N := 20) (res := fun r x => [pv x.1]) (Ω1 := fun r x => [oa (rI .i64) x.1 x.2 r]) Tryd.func17 rfl rfl hm rfl (fun E hM => ?_)
  unfold net_Members_m
  refine ref_seq (ref_region ?_)
  refine as1 rfl rfl ?_
  refine l_nil (n_then (ref_seq (ref_region ?_)))
  refine as1 rfl rfl ?_
  refine l_nil (n_then (ref_seq (ref_seq (ref_region ?_))))
  refine as1 rfl rfl ?_
  refine l_nil (n_then ?_)
  refine b_of (own_nil (rI .i64)) ?_
  refine ref_loopB (f := (net_Members_l1 bits_0)) (Γl := (fun (s15 : Int × (List Int)) (x16 : (Value × List Nat)) => [(0, iv .u64 bits_0), (3, pv x16.1), (4, iv .i64 s15.1)])) (Ωl := (fun (s15 : Int × (List Int)) (x16 : (Value × List Nat)) => [oa (rI .i64) x16.1 x16.2 s15.2])) (Γb := (fun (q24 : (List Int)) (y25 : (Value × List Nat)) => [(3, pv y25.1)])) (Ωb := (fun (q24 : (List Int)) (y25 : (Value × List Nat)) => [oa (rI .i64) y25.1 y25.2 q24])) (0, []) ((.slice none 0 0), []) (weak [0] ⟨rfl, rfl, rfl, trivial⟩ ⟨rfl, trivial⟩) (fun s15 x16 => ?_) (fun q24 y25 => ?_)
  · unfold net_Members_l1
    refine ref_seq (ref_seq (ref_region ?_))
    refine mv1 rfl rfl ?_
    refine s_rd (r_lss rfl rfl) rfl ?_
    refine l_nil (n_then ?_)
    refine ref_cond rfl (fun hb17 => ?_) (fun hb17 => ?_)
    · refine ref_skip (n_then (ref_seq (ref_block (ref_seq (ref_region ?_)))))
      refine mv1 rfl rfl ?_
      refine mv1 rfl rfl ?_
      refine s_rd (r_conv (k' := .u64) rfl rfl rfl) rfl ?_
      refine pull fun t18 h_t18 => ?_
      refine s_rd (r_shrM h_t18 rfl rfl) rfl ?_
      refine s_rd (r_and rfl rfl) rfl ?_
      refine s_rd (r_eql rfl rfl) rfl ?_
      refine l_nil (n_then ?_)
      refine ref_cond rfl (fun hb19 => ?_) (fun hb19 => ?_)
      · refine ref_region ?_
        refine mv1 rfl rfl ?_
        refine mv1 rfl rfl ?_
        refine s_st (s_bslice (xs := [.tmp 16]) (ds := [s15.1]) Tryd.underlying22 el_3 rfl (Nat.le_of_ble_eq_true rfl) ⟨(part_at rfl iv_at), trivial⟩) rfl (fun _ => ?_)
        refine pull fun out20 h_out20 => ?_
        refine s_st (s_append h_out20 Tryd.underlying22 el_3 rfl (j := 0) rfl rfl) rfl (fun o21 => ?_)
        refine as1 rfl rfl ?_
        refine l_nil (n_block (n_then (ref_region ?_)))
        refine mv1 rfl rfl ?_
        refine s_rd (r_add rfl rfl) rfl ?_
        refine as1 rfl rfl ?_
        refine b_let (f := iv .i64) (t := 4) rfl fun i22 => ?_
        refine l_nil ?_
        exact goB o21 (weak [0] ⟨rfl, rfl, rfl, trivial⟩ ⟨rfl, trivial⟩)
      refine ref_skip (n_block (n_then (ref_region ?_)))
      refine mv1 rfl rfl ?_
      refine s_rd (r_add rfl rfl) rfl ?_
      refine as1 rfl rfl ?_
      refine b_let (f := iv .i64) (t := 4) rfl fun i23 => ?_
      refine l_nil ?_
      exact goB x16 (weak [0] ⟨rfl, rfl, rfl, trivial⟩ ⟨rfl, trivial⟩)
    refine ref_exit (x_then ?_)
    exact brkB x16 (weak [0] ⟨rfl, trivial⟩ ⟨rfl, trivial⟩)
  refine n_then (ref_seq (ref_region ?_))
  refine mv1 rfl rfl ?_
  refine as1 rfl rfl ?_
  refine l_nil (n_then (ref_ret ?_))
  exact fin1 (.inl rfl) y25 [0] rfl ⟨rfl, trivial⟩ rfl (rv_tmp rfl)

/-! deliberation/chance.Extension$1 -/
noncomputable def chance_Extension_1_m (n_0 : T_network_Net) (weight_1 : Int) (p_2 : (List Int)) (p_3 : Int) : Option (Int) :=
  Option.bind (network_Net_In_m n_0) fun t2 =>
  Option.bind (network_Of_m p_2) fun t3 =>
  bif t2 == t3 then
    some (iadd .i64 p_3 weight_1)
  else
    some p_3

theorem chance_Extension_1_ok {n_0 : T_network_Net} {weight_1 : Int} {p_2 : (List Int)} {p_3 : Int} {b_2 : Nat} {b_3 : Nat} {r : Int} (hm : chance_Extension_1_m n_0 weight_1 p_2 p_3 = some r) :
    FnOk prog 38 [ag [iv .u64 n_0.All, slv (rI .u64) n_0.By, slv (rI .u64) n_0.Out], iv .i64 weight_1, pv (ptr b_2 0), pv (ptr b_3 0)] [oc b_2 [slv (rI .i64) p_2], oc b_3 [iv .i64 p_3], tbO (rI .u8) 0 tab_0] (fun (x : Unit) => []) (fun (x : Unit) => [oc b_2 [slv (rI .i64) p_2], oc b_3 [iv .i64 r], tbO (rI .u8) 0 tab_0]) := by
  refine fn_ok (fn := Tryd.f38) (N := 14) (res := fun r x => []) (Ω1 := fun r x => [oc b_2 [slv (rI .i64) p_2], oc b_3 [iv .i64 r], tbO (rI .u8) 0 tab_0]) Tryd.func38 rfl rfl hm rfl (fun E hM => ?_)
  unfold chance_Extension_1_m
  refine ref_seq (ref_region ?_)
  refine s_st (s_box (part_agO (ψs := [iv .u64 n_0.All, slv (rI .u64) n_0.By, slv (rI .u64) n_0.Out]) rfl ⟨.inl iv_at, .inl slv_at, .inl slv_at, trivial⟩)) rfl (fun b1 => ?_)
  refine l_nil (n_then (ref_seq ?_))
  refine ref_draw [0, 2, 4] rfl (by kernel_rfl) (fun hok => ?_)
  refine a_rd (i := 0) hok rfl (by kernel_rfl) rfl (r_cloadS Tryd.isAgg74 Tryd.sizeOf74 rfl (j := 3) rfl rfl rfl) rfl ?_
  refine a_rd (i := 2) hok rfl (by kernel_rfl) rfl (r_cload Tryd.isAgg22 rfl (j := 0) rfl rfl) rfl ?_
  refine pull fun t2 h_t2 => ?_
  refine a_next hok 1 [] (by kernel_rfl) ?_ trivial
  refine a_st (i := 1) hok rfl rfl (s_callC [2] [true] (fun (_ : Unit) => [tbO (rI .u8) 0 tab_0]) (fun (_ : Unit) => []) (fun (_ : Unit) => iv .u64 t2) (args := [.tmp 6]) (caps := []) Tryd.call39 rfl (network_Net_In_ok h_t2) ⟨rfl, rfl, trivial⟩ (fun _ => rfl) (fun _ => trivial) (fun _ => rfl) ⟨arg rfl, trivial⟩ (fun _ _ _ _ h => h)) (by intro _ h; cases h; rfl) (fun _ => ⟨⟨⟨rfl, rfl⟩, trivial⟩, ⟨trivial, trivial⟩⟩) (fun _ => ?_)
  refine pull fun t3 h_t3 => ?_
  refine a_next hok 3 [] (by kernel_rfl) ?_ trivial
  refine a_st (i := 3) hok rfl rfl (s_call (ψ := fun (_ : Unit) => iv .u64 t3) (args := [.tmp 8]) Tryd.call33 rfl (network_Of_ok h_t3) ⟨arg rfl, trivial⟩ (fun _ _ _ _ h => h)) (by intro _ h; cases h; rfl) (fun _ => ⟨trivial, ⟨⟨⟨rfl, rfl⟩, trivial⟩, trivial⟩⟩) (fun _ => ?_)
  refine a_rd (i := 4) hok rfl (by kernel_rfl) rfl (r_eql rfl rfl) rfl ?_
  refine a_fin hok (by kernel_rfl) ?_
  refine n_then ?_
  refine ref_cond rfl (fun hb4 => ?_) (fun hb4 => ?_)
  · refine ref_region ?_
    refine s_rd (r_cload Tryd.isAgg3 rfl (j := 1) rfl rfl) rfl ?_
    refine mv1 rfl rfl ?_
    refine s_rd (r_add rfl rfl) rfl ?_
    refine s_st0 (s_cstore (out := [iv .i64 (iadd .i64 p_3 weight_1)]) Tryd.sizeOf3 rfl (j := 1) rfl (part_at rfl iv_at) rfl rfl rfl) (fun _ => ?_)
    refine l_nil ?_
    refine b_of (nrm [oc b_2 [slv (rI .i64) p_2], oc b_3 [iv .i64 (iadd .i64 p_3 weight_1)], tbO (rI .u8) 0 tab_0, oc b1 [iv .u64 n_0.All, slv (rI .u64) n_0.By, slv (rI .u64) n_0.Out]] rfl) ?_
    exact fin0 (.inr rfl) () [0, 1, 2] rfl ⟨rfl, rfl, rfl, trivial⟩ rfl 
  refine ref_skip ?_
  exact fin0 (.inr rfl) () [0, 1, 2] rfl ⟨rfl, rfl, rfl, trivial⟩ rfl 

/-! deliberation/chance.worlds$1 -/
noncomputable def chance_worlds_1_1_b (rec_ : Int → Int → (List T_api_Fraction) → (List Int) → Int → T_api_Graph → (List Bool) → Option (Int × (List Bool))) (i_0 : Int) (weight_1 : Int) (p_2 : (List T_api_Fraction)) (e_3 : (List Int)) (e_4 : Int) (p_4 : T_api_Graph) (p_5 : (List Bool)) : Option (Int × (List Bool)) :=
  bif i_0 == (p_2.length : Int) then
    Option.bind (chance_world_m p_4 p_5) fun t2 =>
    Option.bind (chance_Extension_1_m t2 weight_1 e_3 e_4) fun t3 =>
    some (t3, p_5)
  else
    Option.bind (idxM p_2 i_0) fun t4 =>
    Option.bind (chance_certain_m t4) fun t6 =>
    bif t6 then
      Option.bind (idxM p_5 i_0) fun t8 =>
      Option.bind (rec_ (iadd .i64 i_0 1) weight_1 p_2 e_3 e_4 p_4 (p_5.set (Int.toNat i_0) (t4.Num != 0))) fun t9 =>
      some (t9.1, t9.2)
    else
      Option.bind (idxM p_5 i_0) fun t10 =>
      Option.bind (rec_ (iadd .i64 i_0 1) (imul .i64 weight_1 t4.Num) p_2 e_3 e_4 p_4 (p_5.set (Int.toNat i_0) true)) fun t11 =>
      Option.bind (idxM t11.2 i_0) fun t12 =>
      Option.bind (rec_ (iadd .i64 i_0 1) (imul .i64 weight_1 (isub .i64 t4.Den t4.Num)) p_2 e_3 t11.1 p_4 (t11.2.set (Int.toNat i_0) false)) fun t13 =>
      some (t13.1, t13.2)

noncomputable def chance_worlds_1_1_n : Nat → Int → Int → (List T_api_Fraction) → (List Int) → Int → T_api_Graph → (List Bool) → Option (Int × (List Bool))
  | 0 => fun _ _ _ _ _ _ _ => none
  | n_ + 1 => chance_worlds_1_1_b (chance_worlds_1_1_n n_)

noncomputable def chance_worlds_1_1_m (i_0 : Int) (weight_1 : Int) (p_2 : (List T_api_Fraction)) (e_3 : (List Int)) (e_4 : Int) (p_4 : T_api_Graph) (p_5 : (List Bool)) : Option (Int × (List Bool)) := recC fun n_ => chance_worlds_1_1_n n_ i_0 weight_1 p_2 e_3 e_4 p_4 p_5

theorem chance_worlds_1_1_step (rec_ : Int → Int → (List T_api_Fraction) → (List Int) → Int → T_api_Graph → (List Bool) → Option (Int × (List Bool))) (ih : ∀ {i_0 : Int} {weight_1 : Int} {p_2 : (List T_api_Fraction)} {e_3 : (List Int)} {e_4 : Int} {p_4 : T_api_Graph} {p_5 : (List Bool)} {b_2 : Nat} {h_1 : Value × List Nat} {b_3 : Nat} {be_3 : Nat} {be_4 : Nat} {b_4 : Nat} {b_5 : Nat} {h_7 : Value × List Nat} {b_6 : Nat} {r : Int × (List Bool)}, rec_ i_0 weight_1 p_2 e_3 e_4 p_4 p_5 = some r →
    FnOk prog 62 [iv .i64 i_0, iv .i64 weight_1, pv (ptr b_2 0), pv (ptr b_3 0), pv (ptr b_4 0), pv (ptr b_5 0), pv (ptr b_6 0)] [oc b_2 [pv h_1.1], oa rT_api_Fraction h_1.1 h_1.2 p_2, oc b_3 [pv (.func (.func 38) #[] #[(ptr be_3 0), (ptr be_4 0)])], oc be_3 [slv (rI .i64) e_3], oc be_4 [iv .i64 e_4], oc b_4 [iv .i64 p_4.N, slv rT_api_Pair p_4.L], oc b_5 [pv h_7.1], oa rB h_7.1 h_7.2 p_5, oc b_6 [pv (.func (.func 62) #[] #[(ptr b_2 0), (ptr b_3 0), (ptr b_4 0), (ptr b_5 0), (ptr b_6 0)])], tbO (rI .u8) 0 tab_0] (fun (x : Unit) => []) (fun (x : Unit) => [oc b_2 [pv h_1.1], oa rT_api_Fraction h_1.1 h_1.2 p_2, oc b_3 [pv (.func (.func 38) #[] #[(ptr be_3 0), (ptr be_4 0)])], oc be_3 [slv (rI .i64) e_3], oc be_4 [iv .i64 r.1], oc b_4 [iv .i64 p_4.N, slv rT_api_Pair p_4.L], oc b_5 [pv h_7.1], oa rB h_7.1 h_7.2 r.2, oc b_6 [pv (.func (.func 62) #[] #[(ptr b_2 0), (ptr b_3 0), (ptr b_4 0), (ptr b_5 0), (ptr b_6 0)])], tbO (rI .u8) 0 tab_0])) {i_0 : Int} {weight_1 : Int} {p_2 : (List T_api_Fraction)} {e_3 : (List Int)} {e_4 : Int} {p_4 : T_api_Graph} {p_5 : (List Bool)} {b_2 : Nat} {h_1 : Value × List Nat} {b_3 : Nat} {be_3 : Nat} {be_4 : Nat} {b_4 : Nat} {b_5 : Nat} {h_7 : Value × List Nat} {b_6 : Nat} {r : Int × (List Bool)} (hm : chance_worlds_1_1_b rec_ i_0 weight_1 p_2 e_3 e_4 p_4 p_5 = some r) :
    FnOk prog 62 [iv .i64 i_0, iv .i64 weight_1, pv (ptr b_2 0), pv (ptr b_3 0), pv (ptr b_4 0), pv (ptr b_5 0), pv (ptr b_6 0)] [oc b_2 [pv h_1.1], oa rT_api_Fraction h_1.1 h_1.2 p_2, oc b_3 [pv (.func (.func 38) #[] #[(ptr be_3 0), (ptr be_4 0)])], oc be_3 [slv (rI .i64) e_3], oc be_4 [iv .i64 e_4], oc b_4 [iv .i64 p_4.N, slv rT_api_Pair p_4.L], oc b_5 [pv h_7.1], oa rB h_7.1 h_7.2 p_5, oc b_6 [pv (.func (.func 62) #[] #[(ptr b_2 0), (ptr b_3 0), (ptr b_4 0), (ptr b_5 0), (ptr b_6 0)])], tbO (rI .u8) 0 tab_0] (fun (x : Unit) => []) (fun (x : Unit) => [oc b_2 [pv h_1.1], oa rT_api_Fraction h_1.1 h_1.2 p_2, oc b_3 [pv (.func (.func 38) #[] #[(ptr be_3 0), (ptr be_4 0)])], oc be_3 [slv (rI .i64) e_3], oc be_4 [iv .i64 r.1], oc b_4 [iv .i64 p_4.N, slv rT_api_Pair p_4.L], oc b_5 [pv h_7.1], oa rB h_7.1 h_7.2 r.2, oc b_6 [pv (.func (.func 62) #[] #[(ptr b_2 0), (ptr b_3 0), (ptr b_4 0), (ptr b_5 0), (ptr b_6 0)])], tbO (rI .u8) 0 tab_0]) := by
  refine fn_ok (fn := Tryd.f62) (N := 62) (res := fun r x => []) (Ω1 := fun r x => [oc b_2 [pv h_1.1], oa rT_api_Fraction h_1.1 h_1.2 p_2, oc b_3 [pv (.func (.func 38) #[] #[(ptr be_3 0), (ptr be_4 0)])], oc be_3 [slv (rI .i64) e_3], oc be_4 [iv .i64 r.1], oc b_4 [iv .i64 p_4.N, slv rT_api_Pair p_4.L], oc b_5 [pv h_7.1], oa rB h_7.1 h_7.2 r.2, oc b_6 [pv (.func (.func 62) #[] #[(ptr b_2 0), (ptr b_3 0), (ptr b_4 0), (ptr b_5 0), (ptr b_6 0)])], tbO (rI .u8) 0 tab_0]) Tryd.func62 rfl rfl hm rfl (fun E hM => ?_)
  unfold chance_worlds_1_1_b
  refine ref_seq (ref_seq (ref_region ?_))
  refine mv1 rfl rfl ?_
  refine s_rd (r_cload Tryd.isAgg29 rfl (j := 0) rfl rfl) rfl ?_
  refine s_rd (r_olen Tryd.underlying29 rfl (j := 1) rfl) rfl ?_
  refine s_rd (r_eql rfl rfl) rfl ?_
  refine l_nil (n_then ?_)
  refine ref_cond rfl (fun hb1 => ?_) (fun hb1 => ?_)
  · refine ref_seq ?_
    refine ref_draw [0, 1, 2, 4] rfl (by kernel_rfl) (fun hok => ?_)
    refine a_rd (i := 0) hok rfl (by kernel_rfl) rfl (r_cload Tryd.isAgg76 rfl (j := 2) rfl rfl) rfl ?_
    refine a_rd (i := 1) hok rfl (by kernel_rfl) rfl (r_cloadS Tryd.isAgg27 Tryd.sizeOf27 rfl (j := 5) rfl rfl rfl) rfl ?_
    refine a_rd (i := 2) hok rfl (by kernel_rfl) rfl (r_cload Tryd.isAgg97 rfl (j := 6) rfl rfl) rfl ?_
    refine a_rd (i := 4) hok rfl (by kernel_rfl) rfl (r_move rfl) rfl ?_
    refine pull fun t2 h_t2 => ?_
    refine a_next hok 3 [] (by kernel_rfl) ?_ trivial
    refine a_st (i := 3) hok rfl rfl (s_callC [7] [true] (fun (_ : Unit) => [oa rB h_7.1 h_7.2 p_5]) (fun (_ : Unit) => []) (fun (_ : Unit) => ag [iv .u64 t2.All, slv (rI .u64) t2.By, slv (rI .u64) t2.Out]) (args := [.tmp 15, .tmp 16]) (caps := []) Tryd.call63 rfl (chance_world_ok h_t2) ⟨rfl, rfl, trivial⟩ (fun _ => rfl) (fun _ => trivial) (fun _ => rfl) ⟨arg rfl, arg rfl, trivial⟩ (fun _ _ _ _ h => h)) (by intro _ h; cases h; rfl) (fun _ => ⟨trivial, ⟨trivial, ⟨trivial, ⟨⟨⟨rfl, rfl⟩, trivial⟩, trivial⟩⟩⟩⟩) (fun _ => ?_)
    refine pull fun t3 h_t3 => ?_
    refine a_next hok 5 [] (by kernel_rfl) ?_ trivial
    refine a_st (i := 5) hok rfl rfl (s_callC [3, 4, 9] [true, true, true] (fun (_ : Unit) => [oc be_3 [slv (rI .i64) e_3], oc be_4 [iv .i64 t3], tbO (rI .u8) 0 tab_0]) (fun (_ : Unit) => []) (fun (_ : Unit) => tup []) (args := [.tmp 17, .tmp 18]) (caps := [(ptr be_3 0), (ptr be_4 0)]) Tryd.call38 rfl (chance_Extension_1_ok h_t3) ⟨rfl, rfl, ⟨rfl, rfl, ⟨rfl, rfl, trivial⟩⟩⟩ (fun _ => rfl) (fun _ => trivial) (fun _ => rfl) ⟨arg rfl, arg rfl, arg rfl, arg rfl, trivial⟩ (fun _ _ _ _ h => h)) (by intro _ h; cases h; rfl) (fun _ => ⟨trivial, ⟨⟨⟨rfl, rfl⟩, trivial⟩, ⟨⟨⟨rfl, rfl⟩, trivial⟩, ⟨trivial, trivial⟩⟩⟩⟩) (fun _ => ?_)
    refine a_fin hok (by kernel_rfl) ?_
    refine b_of (nrm [oc b_2 [pv h_1.1], oa rT_api_Fraction h_1.1 h_1.2 p_2, oc b_3 [pv (.func (.func 38) #[] #[(ptr be_3 0), (ptr be_4 0)])], oc be_3 [slv (rI .i64) e_3], oc be_4 [iv .i64 t3], oc b_4 [iv .i64 p_4.N, slv rT_api_Pair p_4.L], oc b_5 [pv h_7.1], oa rB h_7.1 h_7.2 p_5, oc b_6 [pv (.func (.func 62) #[] #[(ptr b_2 0), (ptr b_3 0), (ptr b_4 0), (ptr b_5 0), (ptr b_6 0)])], tbO (rI .u8) 0 tab_0] rfl) ?_
    refine n_then (ref_ret (r_then ?_))
    exact fin0 (.inl rfl) () [0, 1, 2, 3, 4, 5, 6, 7, 8, 9] rfl ⟨rfl, rfl, rfl, rfl, rfl, rfl, rfl, rfl, rfl, rfl, trivial⟩ rfl 
  refine ref_skip (n_then (ref_seq (ref_region ?_)))
  refine s_rd (r_cload Tryd.isAgg29 rfl (j := 0) rfl rfl) rfl ?_
  refine mv1 rfl rfl ?_
  refine pull fun t4 h_t4 => ?_
  refine s_rd (r_oindex h_t4 Tryd.underlying29 el_36 rfl (j := 1) rfl rfl) rfl ?_
  refine s_rd (r_oload h_t4 el_36 rfl (j := 1) rfl) rfl ?_
  refine s_st (s_alloc zt_36) rfl (fun b5 => ?_)
  refine s_st0 (s_cstore (out := [iv .i64 t4.Num, iv .i64 t4.Den]) Tryd.sizeOf36 rfl (j := 10) rfl (part_agO (ψs := [iv .i64 t4.Num, iv .i64 t4.Den]) rfl ⟨.inl iv_at, .inl iv_at, trivial⟩) rfl rfl rfl) (fun _ => ?_)
  refine l_nil (n_then (ref_seq (ref_seq (ref_region ?_))))
  refine s_rd (r_cloadS Tryd.isAgg36 Tryd.sizeOf36 rfl (j := 10) rfl rfl rfl) rfl ?_
  refine pull fun t6 h_t6 => ?_
  refine s_st (s_call (ψ := fun (_ : Unit) => bv t6) (args := [.tmp 24]) Tryd.call57 rfl (chance_certain_ok h_t6) ⟨arg rfl, trivial⟩ (fun _ _ _ _ h => h)) rfl (fun _ => ?_)
  refine l_nil (n_then ?_)
  refine ref_cond rfl (fun hb7 => ?_) (fun hb7 => ?_)
  · refine ref_seq (ref_region ?_)
    refine s_rd (r_cload Tryd.isAgg97 rfl (j := 6) rfl rfl) rfl ?_
    refine mv1 rfl rfl ?_
    refine s_rd (r_faddr (fo := 0) Tryd.underlying36 rfl rfl Tryd.sizeOf3 rfl) rfl ?_
    refine s_rd (r_cload Tryd.isAgg3 rfl (j := 10) rfl rfl) rfl ?_
    refine s_rd (r_neq rfl rfl) rfl ?_
    refine pull fun t8 h_t8 => ?_
    refine s_rd (r_oindex h_t8 Tryd.underlying97 el_4 rfl (j := 7) rfl rfl) rfl ?_
    refine s_st0 (s_ostore (u := t4.Num != 0) h_t8 el_4 rfl (j := 7) rfl (part_at rfl bv_at)) (fun _ => ?_)
    refine l_nil ?_
    refine b_of (nrm [oc b_2 [pv h_1.1], oa rT_api_Fraction h_1.1 h_1.2 p_2, oc b_3 [pv (.func (.func 38) #[] #[(ptr be_3 0), (ptr be_4 0)])], oc be_3 [slv (rI .i64) e_3], oc be_4 [iv .i64 e_4], oc b_4 [iv .i64 p_4.N, slv rT_api_Pair p_4.L], oc b_5 [pv h_7.1], oa rB h_7.1 h_7.2 (p_5.set (Int.toNat i_0) (t4.Num != 0)), oc b_6 [pv (.func (.func 62) #[] #[(ptr b_2 0), (ptr b_3 0), (ptr b_4 0), (ptr b_5 0), (ptr b_6 0)])], tbO (rI .u8) 0 tab_0, oc b5 [iv .i64 t4.Num, iv .i64 t4.Den]] rfl) ?_
    refine n_then (ref_seq (ref_region ?_))
    refine s_rd (r_cload Tryd.isAgg98 rfl (j := 8) rfl rfl) rfl ?_
    refine mv1 rfl rfl ?_
    refine s_rd (r_add rfl rfl) rfl ?_
    refine mv1 rfl rfl ?_
    refine pull fun t9 h_t9 => ?_
    refine s_st (s_callC [0, 1, 2, 3, 4, 5, 6, 7, 8, 9] [true, true, true, true, true, true, true, true, true, true] (fun (_ : Unit) => [oc b_2 [pv h_1.1], oa rT_api_Fraction h_1.1 h_1.2 p_2, oc b_3 [pv (.func (.func 38) #[] #[(ptr be_3 0), (ptr be_4 0)])], oc be_3 [slv (rI .i64) e_3], oc be_4 [iv .i64 t9.1], oc b_4 [iv .i64 p_4.N, slv rT_api_Pair p_4.L], oc b_5 [pv h_7.1], oa rB h_7.1 h_7.2 t9.2, oc b_6 [pv (.func (.func 62) #[] #[(ptr b_2 0), (ptr b_3 0), (ptr b_4 0), (ptr b_5 0), (ptr b_6 0)])], tbO (rI .u8) 0 tab_0]) (fun (_ : Unit) => []) (fun (_ : Unit) => tup []) (args := [.tmp 34, .tmp 35]) (caps := [(ptr b_2 0), (ptr b_3 0), (ptr b_4 0), (ptr b_5 0), (ptr b_6 0)]) Tryd.call62 rfl (ih h_t9) ⟨rfl, rfl, ⟨rfl, rfl, ⟨rfl, rfl, ⟨rfl, rfl, ⟨rfl, rfl, ⟨rfl, rfl, ⟨rfl, rfl, ⟨rfl, rfl, ⟨rfl, rfl, ⟨rfl, rfl, trivial⟩⟩⟩⟩⟩⟩⟩⟩⟩⟩ (fun _ => rfl) (fun _ => trivial) (fun _ => rfl) ⟨arg rfl, arg rfl, arg rfl, arg rfl, arg rfl, arg rfl, arg rfl, trivial⟩ (fun _ _ _ _ h => h)) rfl (fun _ => ?_)
    refine l_nil ?_
    refine b_of (nrm [oc b_2 [pv h_1.1], oa rT_api_Fraction h_1.1 h_1.2 p_2, oc b_3 [pv (.func (.func 38) #[] #[(ptr be_3 0), (ptr be_4 0)])], oc be_3 [slv (rI .i64) e_3], oc be_4 [iv .i64 t9.1], oc b_4 [iv .i64 p_4.N, slv rT_api_Pair p_4.L], oc b_5 [pv h_7.1], oa rB h_7.1 h_7.2 t9.2, oc b_6 [pv (.func (.func 62) #[] #[(ptr b_2 0), (ptr b_3 0), (ptr b_4 0), (ptr b_5 0), (ptr b_6 0)])], tbO (rI .u8) 0 tab_0, oc b5 [iv .i64 t4.Num, iv .i64 t4.Den]] rfl) ?_
    refine n_then (ref_ret (r_then ?_))
    exact fin0 (.inl rfl) () [0, 1, 2, 3, 4, 5, 6, 7, 8, 9] rfl ⟨rfl, rfl, rfl, rfl, rfl, rfl, rfl, rfl, rfl, rfl, trivial⟩ rfl 
  refine ref_skip (n_then (ref_seq (ref_region ?_)))
  refine s_rd (r_cload Tryd.isAgg97 rfl (j := 6) rfl rfl) rfl ?_
  refine mv1 rfl rfl ?_
  refine pull fun t10 h_t10 => ?_
  refine s_rd (r_oindex h_t10 Tryd.underlying97 el_4 rfl (j := 7) rfl rfl) rfl ?_
  refine s_st0 (s_ostore (u := true) h_t10 el_4 rfl (j := 7) rfl (part_at rfl bv_at)) (fun _ => ?_)
  refine l_nil ?_
  refine b_of (nrm [oc b_2 [pv h_1.1], oa rT_api_Fraction h_1.1 h_1.2 p_2, oc b_3 [pv (.func (.func 38) #[] #[(ptr be_3 0), (ptr be_4 0)])], oc be_3 [slv (rI .i64) e_3], oc be_4 [iv .i64 e_4], oc b_4 [iv .i64 p_4.N, slv rT_api_Pair p_4.L], oc b_5 [pv h_7.1], oa rB h_7.1 h_7.2 (p_5.set (Int.toNat i_0) true), oc b_6 [pv (.func (.func 62) #[] #[(ptr b_2 0), (ptr b_3 0), (ptr b_4 0), (ptr b_5 0), (ptr b_6 0)])], tbO (rI .u8) 0 tab_0, oc b5 [iv .i64 t4.Num, iv .i64 t4.Den]] rfl) ?_
  refine n_then (ref_seq (ref_region ?_))
  refine s_rd (r_cload Tryd.isAgg98 rfl (j := 8) rfl rfl) rfl ?_
  refine mv1 rfl rfl ?_
  refine s_rd (r_add rfl rfl) rfl ?_
  refine mv1 rfl rfl ?_
  refine s_rd (r_faddr (fo := 0) Tryd.underlying36 rfl rfl Tryd.sizeOf3 rfl) rfl ?_
  refine s_rd (r_cload Tryd.isAgg3 rfl (j := 10) rfl rfl) rfl ?_
  refine s_rd (r_mul rfl rfl) rfl ?_
  refine pull fun t11 h_t11 => ?_
  refine s_st (s_callC [0, 1, 2, 3, 4, 5, 6, 7, 8, 9] [true, true, true, true, true, true, true, true, true, true] (fun (_ : Unit) => [oc b_2 [pv h_1.1], oa rT_api_Fraction h_1.1 h_1.2 p_2, oc b_3 [pv (.func (.func 38) #[] #[(ptr be_3 0), (ptr be_4 0)])], oc be_3 [slv (rI .i64) e_3], oc be_4 [iv .i64 t11.1], oc b_4 [iv .i64 p_4.N, slv rT_api_Pair p_4.L], oc b_5 [pv h_7.1], oa rB h_7.1 h_7.2 t11.2, oc b_6 [pv (.func (.func 62) #[] #[(ptr b_2 0), (ptr b_3 0), (ptr b_4 0), (ptr b_5 0), (ptr b_6 0)])], tbO (rI .u8) 0 tab_0]) (fun (_ : Unit) => []) (fun (_ : Unit) => tup []) (args := [.tmp 42, .tmp 46]) (caps := [(ptr b_2 0), (ptr b_3 0), (ptr b_4 0), (ptr b_5 0), (ptr b_6 0)]) Tryd.call62 rfl (ih h_t11) ⟨rfl, rfl, ⟨rfl, rfl, ⟨rfl, rfl, ⟨rfl, rfl, ⟨rfl, rfl, ⟨rfl, rfl, ⟨rfl, rfl, ⟨rfl, rfl, ⟨rfl, rfl, ⟨rfl, rfl, trivial⟩⟩⟩⟩⟩⟩⟩⟩⟩⟩ (fun _ => rfl) (fun _ => trivial) (fun _ => rfl) ⟨arg rfl, arg rfl, arg rfl, arg rfl, arg rfl, arg rfl, arg rfl, trivial⟩ (fun _ _ _ _ h => h)) rfl (fun _ => ?_)
  refine l_nil ?_
  refine b_of (nrm [oc b_2 [pv h_1.1], oa rT_api_Fraction h_1.1 h_1.2 p_2, oc b_3 [pv (.func (.func 38) #[] #[(ptr be_3 0), (ptr be_4 0)])], oc be_3 [slv (rI .i64) e_3], oc be_4 [iv .i64 t11.1], oc b_4 [iv .i64 p_4.N, slv rT_api_Pair p_4.L], oc b_5 [pv h_7.1], oa rB h_7.1 h_7.2 t11.2, oc b_6 [pv (.func (.func 62) #[] #[(ptr b_2 0), (ptr b_3 0), (ptr b_4 0), (ptr b_5 0), (ptr b_6 0)])], tbO (rI .u8) 0 tab_0, oc b5 [iv .i64 t4.Num, iv .i64 t4.Den]] rfl) ?_
  refine n_then (ref_seq (ref_region ?_))
  refine s_rd (r_cload Tryd.isAgg97 rfl (j := 6) rfl rfl) rfl ?_
  refine mv1 rfl rfl ?_
  refine pull fun t12 h_t12 => ?_
  refine s_rd (r_oindex h_t12 Tryd.underlying97 el_4 rfl (j := 7) rfl rfl) rfl ?_
  refine s_st0 (s_ostore (u := false) h_t12 el_4 rfl (j := 7) rfl (part_at rfl bv_at)) (fun _ => ?_)
  refine l_nil (n_then (ref_region ?_))
  refine s_rd (r_cload Tryd.isAgg98 rfl (j := 8) rfl rfl) rfl ?_
  refine mv1 rfl rfl ?_
  refine s_rd (r_add rfl rfl) rfl ?_
  refine mv1 rfl rfl ?_
  refine s_rd (r_faddr (fo := 1) Tryd.underlying36 rfl rfl Tryd.sizeOf3 rfl) rfl ?_
  refine s_rd (r_cload Tryd.isAgg3 rfl (j := 10) rfl rfl) rfl ?_
  refine s_rd (r_faddr (fo := 0) Tryd.underlying36 rfl rfl Tryd.sizeOf3 rfl) rfl ?_
  refine s_rd (r_cload Tryd.isAgg3 rfl (j := 10) rfl rfl) rfl ?_
  refine s_rd (r_sub rfl rfl) rfl ?_
  refine s_rd (r_mul rfl rfl) rfl ?_
  refine pull fun t13 h_t13 => ?_
  refine s_st (s_callC [0, 1, 2, 3, 4, 5, 6, 7, 8, 9] [true, true, true, true, true, true, true, true, true, true] (fun (_ : Unit) => [oc b_2 [pv h_1.1], oa rT_api_Fraction h_1.1 h_1.2 p_2, oc b_3 [pv (.func (.func 38) #[] #[(ptr be_3 0), (ptr be_4 0)])], oc be_3 [slv (rI .i64) e_3], oc be_4 [iv .i64 t13.1], oc b_4 [iv .i64 p_4.N, slv rT_api_Pair p_4.L], oc b_5 [pv h_7.1], oa rB h_7.1 h_7.2 t13.2, oc b_6 [pv (.func (.func 62) #[] #[(ptr b_2 0), (ptr b_3 0), (ptr b_4 0), (ptr b_5 0), (ptr b_6 0)])], tbO (rI .u8) 0 tab_0]) (fun (_ : Unit) => []) (fun (_ : Unit) => tup []) (args := [.tmp 53, .tmp 60]) (caps := [(ptr b_2 0), (ptr b_3 0), (ptr b_4 0), (ptr b_5 0), (ptr b_6 0)]) Tryd.call62 rfl (ih h_t13) ⟨rfl, rfl, ⟨rfl, rfl, ⟨rfl, rfl, ⟨rfl, rfl, ⟨rfl, rfl, ⟨rfl, rfl, ⟨rfl, rfl, ⟨rfl, rfl, ⟨rfl, rfl, ⟨rfl, rfl, trivial⟩⟩⟩⟩⟩⟩⟩⟩⟩⟩ (fun _ => rfl) (fun _ => trivial) (fun _ => rfl) ⟨arg rfl, arg rfl, arg rfl, arg rfl, arg rfl, arg rfl, arg rfl, trivial⟩ (fun _ _ _ _ h => h)) rfl (fun _ => ?_)
  refine l_nil ?_
  refine b_of (nrm [oc b_2 [pv h_1.1], oa rT_api_Fraction h_1.1 h_1.2 p_2, oc b_3 [pv (.func (.func 38) #[] #[(ptr be_3 0), (ptr be_4 0)])], oc be_3 [slv (rI .i64) e_3], oc be_4 [iv .i64 t13.1], oc b_4 [iv .i64 p_4.N, slv rT_api_Pair p_4.L], oc b_5 [pv h_7.1], oa rB h_7.1 h_7.2 t13.2, oc b_6 [pv (.func (.func 62) #[] #[(ptr b_2 0), (ptr b_3 0), (ptr b_4 0), (ptr b_5 0), (ptr b_6 0)])], tbO (rI .u8) 0 tab_0, oc b5 [iv .i64 t4.Num, iv .i64 t4.Den]] rfl) ?_
  exact fin0 (.inr rfl) () [0, 1, 2, 3, 4, 5, 6, 7, 8, 9] rfl ⟨rfl, rfl, rfl, rfl, rfl, rfl, rfl, rfl, rfl, rfl, trivial⟩ rfl 

theorem chance_worlds_1_1_n_ok : ∀ (n_ : Nat) {i_0 : Int} {weight_1 : Int} {p_2 : (List T_api_Fraction)} {e_3 : (List Int)} {e_4 : Int} {p_4 : T_api_Graph} {p_5 : (List Bool)} {b_2 : Nat} {h_1 : Value × List Nat} {b_3 : Nat} {be_3 : Nat} {be_4 : Nat} {b_4 : Nat} {b_5 : Nat} {h_7 : Value × List Nat} {b_6 : Nat} {r : Int × (List Bool)}, chance_worlds_1_1_n n_ i_0 weight_1 p_2 e_3 e_4 p_4 p_5 = some r →
    FnOk prog 62 [iv .i64 i_0, iv .i64 weight_1, pv (ptr b_2 0), pv (ptr b_3 0), pv (ptr b_4 0), pv (ptr b_5 0), pv (ptr b_6 0)] [oc b_2 [pv h_1.1], oa rT_api_Fraction h_1.1 h_1.2 p_2, oc b_3 [pv (.func (.func 38) #[] #[(ptr be_3 0), (ptr be_4 0)])], oc be_3 [slv (rI .i64) e_3], oc be_4 [iv .i64 e_4], oc b_4 [iv .i64 p_4.N, slv rT_api_Pair p_4.L], oc b_5 [pv h_7.1], oa rB h_7.1 h_7.2 p_5, oc b_6 [pv (.func (.func 62) #[] #[(ptr b_2 0), (ptr b_3 0), (ptr b_4 0), (ptr b_5 0), (ptr b_6 0)])], tbO (rI .u8) 0 tab_0] (fun (x : Unit) => []) (fun (x : Unit) => [oc b_2 [pv h_1.1], oa rT_api_Fraction h_1.1 h_1.2 p_2, oc b_3 [pv (.func (.func 38) #[] #[(ptr be_3 0), (ptr be_4 0)])], oc be_3 [slv (rI .i64) e_3], oc be_4 [iv .i64 r.1], oc b_4 [iv .i64 p_4.N, slv rT_api_Pair p_4.L], oc b_5 [pv h_7.1], oa rB h_7.1 h_7.2 r.2, oc b_6 [pv (.func (.func 62) #[] #[(ptr b_2 0), (ptr b_3 0), (ptr b_4 0), (ptr b_5 0), (ptr b_6 0)])], tbO (rI .u8) 0 tab_0]) := by
  intro n_
  induction n_ with
  | zero => intros; rename_i h; cases h
  | succ n_ ih => intros; rename_i h; exact chance_worlds_1_1_step _ @ih h

theorem chance_worlds_1_1_ok {i_0 : Int} {weight_1 : Int} {p_2 : (List T_api_Fraction)} {e_3 : (List Int)} {e_4 : Int} {p_4 : T_api_Graph} {p_5 : (List Bool)} {b_2 : Nat} {h_1 : Value × List Nat} {b_3 : Nat} {be_3 : Nat} {be_4 : Nat} {b_4 : Nat} {b_5 : Nat} {h_7 : Value × List Nat} {b_6 : Nat} {r : Int × (List Bool)} (hm : chance_worlds_1_1_m i_0 weight_1 p_2 e_3 e_4 p_4 p_5 = some r) :
    FnOk prog 62 [iv .i64 i_0, iv .i64 weight_1, pv (ptr b_2 0), pv (ptr b_3 0), pv (ptr b_4 0), pv (ptr b_5 0), pv (ptr b_6 0)] [oc b_2 [pv h_1.1], oa rT_api_Fraction h_1.1 h_1.2 p_2, oc b_3 [pv (.func (.func 38) #[] #[(ptr be_3 0), (ptr be_4 0)])], oc be_3 [slv (rI .i64) e_3], oc be_4 [iv .i64 e_4], oc b_4 [iv .i64 p_4.N, slv rT_api_Pair p_4.L], oc b_5 [pv h_7.1], oa rB h_7.1 h_7.2 p_5, oc b_6 [pv (.func (.func 62) #[] #[(ptr b_2 0), (ptr b_3 0), (ptr b_4 0), (ptr b_5 0), (ptr b_6 0)])], tbO (rI .u8) 0 tab_0] (fun (x : Unit) => []) (fun (x : Unit) => [oc b_2 [pv h_1.1], oa rT_api_Fraction h_1.1 h_1.2 p_2, oc b_3 [pv (.func (.func 38) #[] #[(ptr be_3 0), (ptr be_4 0)])], oc be_3 [slv (rI .i64) e_3], oc be_4 [iv .i64 r.1], oc b_4 [iv .i64 p_4.N, slv rT_api_Pair p_4.L], oc b_5 [pv h_7.1], oa rB h_7.1 h_7.2 r.2, oc b_6 [pv (.func (.func 62) #[] #[(ptr b_2 0), (ptr b_3 0), (ptr b_4 0), (ptr b_5 0), (ptr b_6 0)])], tbO (rI .u8) 0 tab_0]) := by
  obtain ⟨n_, h⟩ := recC_some hm
  exact chance_worlds_1_1_n_ok n_ h

theorem chance_worlds_1_1_b_le {rec_ rec_' : Int → Int → (List T_api_Fraction) → (List Int) → Int → T_api_Graph → (List Bool) → Option (Int × (List Bool))} (h : ∀ i_0 weight_1 p_2 e_3 e_4 p_4 p_5, Le (rec_ i_0 weight_1 p_2 e_3 e_4 p_4 p_5) (rec_' i_0 weight_1 p_2 e_3 e_4 p_4 p_5)) {i_0 : Int} {weight_1 : Int} {p_2 : (List T_api_Fraction)} {e_3 : (List Int)} {e_4 : Int} {p_4 : T_api_Graph} {p_5 : (List Bool)} : Le (chance_worlds_1_1_b rec_ i_0 weight_1 p_2 e_3 e_4 p_4 p_5) (chance_worlds_1_1_b rec_' i_0 weight_1 p_2 e_3 e_4 p_4 p_5) := by
  unfold chance_worlds_1_1_b
  repeat' with_reducible (first | exact Le.refl _ | exact h _ _ _ _ _ _ _ | refine Le.bind ?_ (Le.sumK fun _ => ?_) | refine Le.bind ?_ (fun _ => ?_) | refine Le.cond ?_ ?_ | refine Le.letM (fun _ => ?_) | refine Le.join (fun _ => ?_) (fun _ _ hj => ?_) | exact hj _)

theorem chance_worlds_1_1_n_le : ∀ (n_ : Nat) (i_0 : Int) (weight_1 : Int) (p_2 : (List T_api_Fraction)) (e_3 : (List Int)) (e_4 : Int) (p_4 : T_api_Graph) (p_5 : (List Bool)), Le (chance_worlds_1_1_n n_ i_0 weight_1 p_2 e_3 e_4 p_4 p_5) (chance_worlds_1_1_n (n_ + 1) i_0 weight_1 p_2 e_3 e_4 p_4 p_5)
  | 0, _, _, _, _, _, _, _ => fun _ h => by cases h
  | n_ + 1, _, _, _, _, _, _, _ => chance_worlds_1_1_b_le (chance_worlds_1_1_n_le n_)

/-! deliberation/chance.worlds -/
noncomputable def chance_worlds_s1_l1 (t4 : List T_api_Fraction) (s14 : Int × Int) : Option (Sum (Int) (Int × Int)) :=
  bif decide (s14.2 < (t4.length : Int)) then
    Option.bind (idxM t4 s14.2) fun t17 =>
    Option.bind (chance_certain_m t17) fun t19 =>
    bif !t19 then
      letM (imul .i64 s14.1 t17.Den) fun total21 =>
      some (Sum.inr (total21, iadd .i64 s14.2 1))
    else
      some (Sum.inr (s14.1, iadd .i64 s14.2 1))
  else
    some (Sum.inl s14.1)

noncomputable def chance_worlds_s1_m (g_0 : T_api_Graph) (o_1 : T_api_Odds) (e_0 : (List Int)) (e_1 : Int) : Option (Int × Int) :=
  Option.bind (slices_Concat_api_Fraction_api_Fraction_m [o_1.Nodes, o_1.Attacks]) fun t4 =>
  Option.bind (loopC (chance_worlds_s1_l1 t4) (1, 0)) fun q22 : Int =>
  Option.bind (slices_Concat_api_Fraction_api_Fraction_m [o_1.Nodes, o_1.Attacks]) fun t24 =>
  Option.bind (mkM 1 false (t24.length : Int)) fun t27 =>
  Option.bind (chance_worlds_1_1_m 0 1 t24 e_0 e_1 g_0 t27) fun t31 =>
  some (q22, t31.1)

theorem chance_worlds_s1_ok {g_0 : T_api_Graph} {o_1 : T_api_Odds} {e_0 : (List Int)} {e_1 : Int} {be_0 : Nat} {be_1 : Nat} {r : Int × Int} (hm : chance_worlds_s1_m g_0 o_1 e_0 e_1 = some r) :
    FnOk prog 37 [ag [iv .i64 g_0.N, slv rT_api_Pair g_0.L], ag [slv rT_api_Fraction o_1.Nodes, slv rT_api_Fraction o_1.Attacks], pv (.func (.func 38) #[] #[(ptr be_0 0), (ptr be_1 0)])] [oc be_0 [slv (rI .i64) e_0], oc be_1 [iv .i64 e_1], tbO (rI .u8) 0 tab_0] (fun (x : Unit) => [iv .i64 r.1]) (fun (x : Unit) => [oc be_0 [slv (rI .i64) e_0], oc be_1 [iv .i64 r.2], tbO (rI .u8) 0 tab_0]) := by
  refine fn_ok (fn := Tryd.f37) (N := 45) (res := fun r x => [iv .i64 r.1]) (Ω1 := fun r x => [oc be_0 [slv (rI .i64) e_0], oc be_1 [iv .i64 r.2], tbO (rI .u8) 0 tab_0]) Tryd.func37 rfl rfl hm rfl (fun E hM => ?_)
  unfold chance_worlds_s1_m
  refine ref_seq (ref_region ?_)
  refine s_st (s_box (part_agO (ψs := [iv .i64 g_0.N, slv rT_api_Pair g_0.L]) rfl ⟨.inl iv_at, .inl slv_at, trivial⟩)) rfl (fun b1 => ?_)
  refine s_st (s_box (part_agO (ψs := [slv rT_api_Fraction o_1.Nodes, slv rT_api_Fraction o_1.Attacks]) rfl ⟨.inl slv_at, .inl slv_at, trivial⟩)) rfl (fun b2 => ?_)
  refine s_st (s_box (part_at (φ := pv (.func (.func 38) #[] #[(ptr be_0 0), (ptr be_1 0)])) rfl (pv_at rfl))) rfl (fun b3 => ?_)
  refine as1 rfl rfl ?_
  refine l_nil (n_then (ref_seq (ref_region ?_)))
  refine as1 rfl rfl ?_
  refine l_nil (n_then (ref_seq (ref_seq (ref_region ?_))))
  refine s_rd (r_faddr (fo := 0) Tryd.underlying31 rfl rfl Tryd.sizeOf29 rfl) rfl ?_
  refine s_rd (r_cload Tryd.isAgg29 rfl (j := 4) rfl rfl) rfl ?_
  refine s_rd (r_faddr (fo := 1) Tryd.underlying31 rfl rfl Tryd.sizeOf29 rfl) rfl ?_
  refine s_rd (r_cload Tryd.isAgg29 rfl (j := 4) rfl rfl) rfl ?_
  refine s_st (s_bslice (xs := [.tmp 14, .tmp 16]) (ds := [o_1.Nodes, o_1.Attacks]) Tryd.underlying106 el_29 rfl (Nat.le_of_ble_eq_true rfl) ⟨(part_at rfl slv_at), ⟨(part_at rfl slv_at), trivial⟩⟩) rfl (fun _ => ?_)
  refine pull fun t4 h_t4 => ?_
  refine s_st (s_call (ψ := fun (x5 : (Value × List Nat)) => pv x5.1) (args := [.tmp 17]) Tryd.call56 rfl (slices_Concat_api_Fraction_api_Fraction_ok h_t4) ⟨arg rfl, trivial⟩ (fun _ _ _ _ h => h)) rfl (fun x5 => ?_)
  refine s_rd (r_olen Tryd.underlying29 rfl (j := 6) rfl) rfl ?_
  refine mv1 rfl rfl ?_
  refine l_nil ?_
  refine b_of (nrm [oc be_0 [slv (rI .i64) e_0], oc be_1 [iv .i64 e_1], tbO (rI .u8) 0 tab_0, oc b1 [iv .i64 g_0.N, slv rT_api_Pair g_0.L], oc b2 [slv rT_api_Fraction o_1.Nodes, slv rT_api_Fraction o_1.Attacks], oc b3 [pv (.func (.func 38) #[] #[(ptr be_0 0), (ptr be_1 0)])], oa rT_api_Fraction x5.1 x5.2 t4] rfl) ?_
  refine n_then ?_
  refine ref_loopB (f := (chance_worlds_s1_l1 t4)) (Γl := (fun (s14 : Int × Int) (x15 : Unit) => [(2, pv (.func (.func 38) #[] #[(ptr be_0 0), (ptr be_1 0)])), (3, pv (ptr b1 0)), (4, pv (ptr b2 0)), (5, pv (ptr b3 0)), (7, iv .i64 s14.1), (18, pv x5.1), (19, iv .i64 (t4.length : Int)), (20, iv .i64 s14.2)])) (Ωl := (fun (s14 : Int × Int) (x15 : Unit) => [tbO (rI .u8) 0 tab_0, oc be_0 [slv (rI .i64) e_0], oc be_1 [iv .i64 e_1], oc b1 [iv .i64 g_0.N, slv rT_api_Pair g_0.L], oc b2 [slv rT_api_Fraction o_1.Nodes, slv rT_api_Fraction o_1.Attacks], oc b3 [pv (.func (.func 38) #[] #[(ptr be_0 0), (ptr be_1 0)])], oa rT_api_Fraction x5.1 x5.2 t4])) (Γb := (fun (q22 : Int) (y23 : Unit) => [(2, pv (.func (.func 38) #[] #[(ptr be_0 0), (ptr be_1 0)])), (3, pv (ptr b1 0)), (4, pv (ptr b2 0)), (5, pv (ptr b3 0)), (7, iv .i64 q22)])) (Ωb := (fun (q22 : Int) (y23 : Unit) => [oc be_0 [slv (rI .i64) e_0], oc be_1 [iv .i64 e_1], oc b1 [iv .i64 g_0.N, slv rT_api_Pair g_0.L], oc b2 [slv rT_api_Fraction o_1.Nodes, slv rT_api_Fraction o_1.Attacks], oc b3 [pv (.func (.func 38) #[] #[(ptr be_0 0), (ptr be_1 0)])], tbO (rI .u8) 0 tab_0])) (1, 0) () (weak [2, 0, 1, 3, 4, 5, 6] ⟨rfl, rfl, rfl, rfl, rfl, rfl, rfl, rfl, trivial⟩ ⟨rfl, rfl, rfl, rfl, rfl, rfl, rfl, trivial⟩) (fun s14 x15 => ?_) (fun q22 y23 => ?_)
  · unfold chance_worlds_s1_l1
    refine ref_seq (ref_region ?_)
    refine s_rd (r_lss rfl rfl) rfl ?_
    refine l_nil (n_then (ref_seq ?_))
    refine ref_cond rfl (fun hb16 => ?_) (fun hb16 => ?_)
    · refine ref_skip (n_then (ref_seq (ref_block (ref_seq (ref_region ?_)))))
      refine pull fun t17 h_t17 => ?_
      refine s_rd (r_oindex h_t17 Tryd.underlying29 el_36 rfl (j := 6) rfl rfl) rfl ?_
      refine s_rd (r_oload h_t17 el_36 rfl (j := 6) rfl) rfl ?_
      refine s_st (s_alloc zt_36) rfl (fun b18 => ?_)
      refine s_st0 (s_cstore (out := [iv .i64 t17.Num, iv .i64 t17.Den]) Tryd.sizeOf36 rfl (j := 7) rfl (part_agO (ψs := [iv .i64 t17.Num, iv .i64 t17.Den]) rfl ⟨.inl iv_at, .inl iv_at, trivial⟩) rfl rfl rfl) (fun _ => ?_)
      refine l_nil (n_then (ref_seq (ref_region ?_)))
      refine s_rd (r_cloadS Tryd.isAgg36 Tryd.sizeOf36 rfl (j := 7) rfl rfl rfl) rfl ?_
      refine pull fun t19 h_t19 => ?_
      refine s_st (s_call (ψ := fun (_ : Unit) => bv t19) (args := [.tmp 24]) Tryd.call57 rfl (chance_certain_ok h_t19) ⟨arg rfl, trivial⟩ (fun _ _ _ _ h => h)) rfl (fun _ => ?_)
      refine s_rd (r_not rfl) rfl ?_
      refine l_nil (n_then ?_)
      refine ref_cond rfl (fun hb20 => ?_) (fun hb20 => ?_)
      · refine ref_region ?_
        refine mv1 rfl rfl ?_
        refine s_rd (r_faddr (fo := 1) Tryd.underlying36 rfl rfl Tryd.sizeOf3 rfl) rfl ?_
        refine s_rd (r_cload Tryd.isAgg3 rfl (j := 7) rfl rfl) rfl ?_
        refine s_rd (r_mul rfl rfl) rfl ?_
        refine as1 rfl rfl ?_
        refine b_let (f := iv .i64) (t := 7) rfl fun total21 => ?_
        refine l_nil (n_block (n_then (ref_region ?_)))
        refine s_rd (r_add rfl rfl) rfl ?_
        refine mv1 rfl rfl ?_
        refine l_nil ?_
        exact goB () (weak [0, 1, 2, 3, 4, 5, 6] ⟨rfl, rfl, rfl, rfl, rfl, rfl, rfl, rfl, trivial⟩ ⟨rfl, rfl, rfl, rfl, rfl, rfl, rfl, trivial⟩)
      refine ref_skip (n_block (n_then (ref_region ?_)))
      refine s_rd (r_add rfl rfl) rfl ?_
      refine mv1 rfl rfl ?_
      refine l_nil ?_
      exact goB () (weak [0, 1, 2, 3, 4, 5, 6] ⟨rfl, rfl, rfl, rfl, rfl, rfl, rfl, rfl, trivial⟩ ⟨rfl, rfl, rfl, rfl, rfl, rfl, rfl, trivial⟩)
    refine ref_exit (x_then ?_)
    exact brkB () (weak [1, 2, 3, 4, 5, 0] ⟨rfl, rfl, rfl, rfl, rfl, trivial⟩ ⟨rfl, rfl, rfl, rfl, rfl, rfl, trivial⟩)
  refine n_then (ref_seq (ref_region ?_))
  refine s_rd (r_faddr (fo := 0) Tryd.underlying31 rfl rfl Tryd.sizeOf29 rfl) rfl ?_
  refine s_rd (r_cload Tryd.isAgg29 rfl (j := 3) rfl rfl) rfl ?_
  refine s_rd (r_faddr (fo := 1) Tryd.underlying31 rfl rfl Tryd.sizeOf29 rfl) rfl ?_
  refine s_rd (r_cload Tryd.isAgg29 rfl (j := 3) rfl rfl) rfl ?_
  refine s_st (s_bslice (xs := [.tmp 33, .tmp 35]) (ds := [o_1.Nodes, o_1.Attacks]) Tryd.underlying106 el_29 rfl (Nat.le_of_ble_eq_true rfl) ⟨(part_at rfl slv_at), ⟨(part_at rfl slv_at), trivial⟩⟩) rfl (fun _ => ?_)
  refine pull fun t24 h_t24 => ?_
  refine s_st (s_call (ψ := fun (x25 : (Value × List Nat)) => pv x25.1) (args := [.tmp 36]) Tryd.call56 rfl (slices_Concat_api_Fraction_api_Fraction_ok h_t24) ⟨arg rfl, trivial⟩ (fun _ _ _ _ h => h)) rfl (fun x25 => ?_)
  refine s_st (s_alloc zt_29) rfl (fun b26 => ?_)
  refine s_st0 (s_cstore (out := [pv x25.1]) Tryd.sizeOf29 rfl (j := 7) rfl (part_own rfl (j := 6) rfl) rfl rfl rfl) (fun _ => ?_)
  refine l_nil ?_
  refine b_of (nrm [oc be_0 [slv (rI .i64) e_0], oc be_1 [iv .i64 e_1], oc b1 [iv .i64 g_0.N, slv rT_api_Pair g_0.L], oc b2 [slv rT_api_Fraction o_1.Nodes, slv rT_api_Fraction o_1.Attacks], oc b3 [pv (.func (.func 38) #[] #[(ptr be_0 0), (ptr be_1 0)])], tbO (rI .u8) 0 tab_0, oa rT_api_Fraction x25.1 x25.2 t24, oc b26 [pv x25.1]] rfl) ?_
  refine n_then (ref_seq (ref_region ?_))
  refine s_rd (r_cload Tryd.isAgg29 rfl (j := 7) rfl rfl) rfl ?_
  refine s_rd (r_olen Tryd.underlying29 rfl (j := 6) rfl) rfl ?_
  refine pull fun t27 h_t27 => ?_
  refine s_st (s_make h_t27 Tryd.underlying97 el_4 ze_4 rfl rfl) rfl (fun o28 => ?_)
  refine s_st (s_alloc zt_97) rfl (fun b29 => ?_)
  refine s_st0 (s_cstore (out := [pv o28.1]) Tryd.sizeOf97 rfl (j := 9) rfl (part_own rfl (j := 8) rfl) rfl rfl rfl) (fun _ => ?_)
  refine l_nil (n_then (ref_seq (ref_region ?_)))
  refine s_st (s_alloc zt_98) rfl (fun b30 => ?_)
  refine l_nil ?_
  refine b_of (nrm [oc be_0 [slv (rI .i64) e_0], oc be_1 [iv .i64 e_1], oc b1 [iv .i64 g_0.N, slv rT_api_Pair g_0.L], oc b2 [slv rT_api_Fraction o_1.Nodes, slv rT_api_Fraction o_1.Attacks], oc b3 [pv (.func (.func 38) #[] #[(ptr be_0 0), (ptr be_1 0)])], tbO (rI .u8) 0 tab_0, oa rT_api_Fraction x25.1 x25.2 t24, oc b26 [pv x25.1], oa rB o28.1 o28.2 t27, oc b29 [pv o28.1], oc b30 [pv .nilFunc]] rfl) ?_
  refine n_then (ref_seq (ref_region ?_))
  refine s_rd (r_mkfn (xs := [.tmp 10, .tmp 5, .tmp 3, .tmp 11, .tmp 12]) (vs := [(ptr b26 0), (ptr b3 0), (ptr b1 0), (ptr b29 0), (ptr b30 0)]) ⟨rfl, rfl, rfl, rfl, rfl, trivial⟩) rfl ?_
  refine s_st0 (s_cstore (out := [pv (.func (.func 62) #[] #[(ptr b26 0), (ptr b3 0), (ptr b1 0), (ptr b29 0), (ptr b30 0)])]) Tryd.sizeOf98 rfl (j := 10) rfl (part_at (φ := pv (.func (.func 62) #[] #[(ptr b26 0), (ptr b3 0), (ptr b1 0), (ptr b29 0), (ptr b30 0)])) rfl (pv_at rfl)) rfl rfl rfl) (fun _ => ?_)
  refine l_nil (n_then (ref_seq (ref_region ?_)))
  refine s_rd (r_cload Tryd.isAgg98 rfl (j := 10) rfl rfl) rfl ?_
  refine pull fun t31 h_t31 => ?_
  refine s_st (s_callC [7, 6, 4, 0, 1, 2, 9, 8, 10, 5] [true, true, true, true, true, true, true, true, true, true] (fun (_ : Unit) => [oc b26 [pv x25.1], oa rT_api_Fraction x25.1 x25.2 t24, oc b3 [pv (.func (.func 38) #[] #[(ptr be_0 0), (ptr be_1 0)])], oc be_0 [slv (rI .i64) e_0], oc be_1 [iv .i64 t31.1], oc b1 [iv .i64 g_0.N, slv rT_api_Pair g_0.L], oc b29 [pv o28.1], oa rB o28.1 o28.2 t31.2, oc b30 [pv (.func (.func 62) #[] #[(ptr b26 0), (ptr b3 0), (ptr b1 0), (ptr b29 0), (ptr b30 0)])], tbO (rI .u8) 0 tab_0]) (fun (_ : Unit) => []) (fun (_ : Unit) => tup []) (args := [.const (.int .i64 (0)), .const (.int .i64 (1))]) (caps := [(ptr b26 0), (ptr b3 0), (ptr b1 0), (ptr b29 0), (ptr b30 0)]) Tryd.call62 rfl (chance_worlds_1_1_ok h_t31) ⟨rfl, rfl, ⟨rfl, rfl, ⟨rfl, rfl, ⟨rfl, rfl, ⟨rfl, rfl, ⟨rfl, rfl, ⟨rfl, rfl, ⟨rfl, rfl, ⟨rfl, rfl, ⟨rfl, rfl, trivial⟩⟩⟩⟩⟩⟩⟩⟩⟩⟩ (fun _ => rfl) (fun _ => trivial) (fun _ => rfl) ⟨arg rfl, arg rfl, arg rfl, arg rfl, arg rfl, arg rfl, arg rfl, trivial⟩ (fun _ _ _ _ h => h)) rfl (fun _ => ?_)
  refine l_nil ?_
  refine b_of (nrm [oc be_0 [slv (rI .i64) e_0], oc be_1 [iv .i64 t31.1], oc b1 [iv .i64 g_0.N, slv rT_api_Pair g_0.L], oc b2 [slv rT_api_Fraction o_1.Nodes, slv rT_api_Fraction o_1.Attacks], oc b3 [pv (.func (.func 38) #[] #[(ptr be_0 0), (ptr be_1 0)])], tbO (rI .u8) 0 tab_0, oa rT_api_Fraction x25.1 x25.2 t24, oc b26 [pv x25.1], oa rB o28.1 o28.2 t31.2, oc b29 [pv o28.1], oc b30 [pv (.func (.func 62) #[] #[(ptr b26 0), (ptr b3 0), (ptr b1 0), (ptr b29 0), (ptr b30 0)])]] rfl) ?_
  refine n_then (ref_seq (ref_region ?_))
  refine mv1 rfl rfl ?_
  refine as1 rfl rfl ?_
  refine l_nil (n_then (ref_ret ?_))
  exact fin1 (.inl rfl) () [0, 1, 5] rfl ⟨rfl, rfl, rfl, trivial⟩ rfl (rv_tmp rfl)

/-! deliberation/chance.Extension -/
noncomputable def chance_Extension_m (g_0 : T_api_Graph) (o_1 : T_api_Odds) (set__2 : (List Int)) : Option (T_api_Fraction × Int) :=
  Option.bind (chance_arguments_m g_0 o_1 set__2 4) fun e5 =>
  bif e5 != 0 then
    some ((T_api_Fraction.mk 0 0), e5)
  else
    Option.bind (chance_worlds_s1_m g_0 o_1 set__2 0) fun total8 =>
    Option.bind (chance_reduced_m total8.2 total8.1) fun t9 =>
    some (t9, 0)

theorem chance_Extension_ok {g_0 : T_api_Graph} {o_1 : T_api_Odds} {set__2 : (List Int)} {r : T_api_Fraction × Int} (hm : chance_Extension_m g_0 o_1 set__2 = some r) :
    FnOk prog 18 [ag [iv .i64 g_0.N, slv rT_api_Pair g_0.L], ag [slv rT_api_Fraction o_1.Nodes, slv rT_api_Fraction o_1.Attacks], slv (rI .i64) set__2] [tbO (rI .u8) 0 tab_0] (fun (x : Unit) => [ag [iv .i64 r.1.Num, iv .i64 r.1.Den], iv .i64 r.2]) (fun (x : Unit) => [tbO (rI .u8) 0 tab_0]) := by
  refine fn_ok (fn := Tryd.f18) (N := 26) (res := fun r x => [ag [iv .i64 r.1.Num, iv .i64 r.1.Den], iv .i64 r.2]) (Ω1 := fun r x => [tbO (rI .u8) 0 tab_0]) Tryd.func18 rfl rfl hm rfl (fun E hM => ?_)
  unfold chance_Extension_m
  refine ref_seq (ref_region ?_)
  refine s_st (s_box (part_agO (ψs := [iv .i64 g_0.N, slv rT_api_Pair g_0.L]) rfl ⟨.inl iv_at, .inl slv_at, trivial⟩)) rfl (fun b1 => ?_)
  refine s_st (s_box (part_agO (ψs := [slv rT_api_Fraction o_1.Nodes, slv rT_api_Fraction o_1.Attacks]) rfl ⟨.inl slv_at, .inl slv_at, trivial⟩)) rfl (fun b2 => ?_)
  refine s_st (s_box (part_at rfl slv_at)) rfl (fun b3 => ?_)
  refine s_st (s_alloc zt_36) rfl (fun b4 => ?_)
  refine as1 rfl rfl ?_
  refine l_nil ?_
  refine b_of (nrm [tbO (rI .u8) 0 tab_0, oc b1 [iv .i64 g_0.N, slv rT_api_Pair g_0.L], oc b2 [slv rT_api_Fraction o_1.Nodes, slv rT_api_Fraction o_1.Attacks], oc b3 [slv (rI .i64) set__2], oc b4 [iv .i64 0, iv .i64 0]] rfl) ?_
  refine n_then (ref_seq (ref_seq (ref_region ?_)))
  refine s_rd (r_cloadS Tryd.isAgg27 Tryd.sizeOf27 rfl (j := 1) rfl rfl rfl) rfl ?_
  refine s_rd (r_cloadS Tryd.isAgg31 Tryd.sizeOf31 rfl (j := 2) rfl rfl rfl) rfl ?_
  refine s_rd (r_cload Tryd.isAgg22 rfl (j := 3) rfl rfl) rfl ?_
  refine pull fun e5 h_e5 => ?_
  refine s_st (s_call (ψ := fun (_ : Unit) => iv .i64 e5) (args := [.tmp 11, .tmp 12, .tmp 13, .const (.int .i64 (4))]) Tryd.call30 rfl (chance_arguments_ok h_e5) ⟨arg rfl, arg rfl, arg rfl, arg rfl, trivial⟩ (fun _ _ _ _ h => h)) rfl (fun _ => ?_)
  refine as1 rfl rfl ?_
  refine l_nil (n_then (ref_seq (ref_region ?_)))
  refine mv1 rfl rfl ?_
  refine s_rd (r_neq rfl rfl) rfl ?_
  refine l_nil (n_then ?_)
  refine ref_cond rfl (fun hb6 => ?_) (fun hb6 => ?_)
  · refine ref_seq (ref_region ?_)
    refine s_rd (r_build (ps := []) (rs := []) st_36 zs_36 trivial rfl rfl) rfl ?_
    refine mv1 rfl rfl ?_
    refine s_st0 (s_cstore (out := [iv .i64 0, iv .i64 0]) Tryd.sizeOf36 rfl (j := 4) rfl (part_agO (ψs := [iv .i64 0, iv .i64 0]) rfl ⟨.inl iv_at, .inl iv_at, trivial⟩) rfl rfl rfl) (fun _ => ?_)
    refine as1 rfl rfl ?_
    refine l_nil (n_then (ref_ret (r_then ?_)))
    exact fin2 (.inl rfl) () [0] rfl ⟨rfl, trivial⟩ rfl (rv_cell rfl (j := 4) rfl Tryd.isAgg36 Tryd.sizeOf36 rfl rfl) (rv_tmp rfl)
  refine ref_skip (n_then (ref_seq (ref_region ?_)))
  refine s_st (s_alloc zt_3) rfl (fun b7 => ?_)
  refine s_st0 (s_cstore (out := [iv .i64 0]) Tryd.sizeOf3 rfl (j := 5) rfl (part_at rfl iv_at) rfl rfl rfl) (fun _ => ?_)
  refine l_nil (n_then (ref_seq (ref_region ?_)))
  refine s_rd (r_cloadS Tryd.isAgg27 Tryd.sizeOf27 rfl (j := 1) rfl rfl rfl) rfl ?_
  refine s_rd (r_cloadS Tryd.isAgg31 Tryd.sizeOf31 rfl (j := 2) rfl rfl rfl) rfl ?_
  refine s_rd (r_mkfn (xs := [.tmp 5, .tmp 9]) (vs := [(ptr b3 0), (ptr b7 0)]) ⟨rfl, rfl, trivial⟩) rfl ?_
  refine pull fun total8 h_total8 => ?_
  refine s_st (s_callC [3, 5, 0] [true, true, true] (fun (_ : Unit) => [oc b3 [slv (rI .i64) set__2], oc b7 [iv .i64 total8.2], tbO (rI .u8) 0 tab_0]) (fun (_ : Unit) => []) (fun (_ : Unit) => iv .i64 total8.1) (args := [.tmp 19, .tmp 20, .tmp 21]) (caps := []) Tryd.call37 rfl (chance_worlds_s1_ok h_total8) ⟨rfl, rfl, ⟨rfl, rfl, ⟨rfl, rfl, trivial⟩⟩⟩ (fun _ => rfl) (fun _ => trivial) (fun _ => rfl) ⟨arg rfl, arg rfl, arg rfl, trivial⟩ (fun _ _ _ _ h => h)) rfl (fun _ => ?_)
  refine as1 rfl rfl ?_
  refine l_nil ?_
  refine b_of (nrm [tbO (rI .u8) 0 tab_0, oc b1 [iv .i64 g_0.N, slv rT_api_Pair g_0.L], oc b2 [slv rT_api_Fraction o_1.Nodes, slv rT_api_Fraction o_1.Attacks], oc b3 [slv (rI .i64) set__2], oc b4 [iv .i64 0, iv .i64 0], oc b7 [iv .i64 total8.2]] rfl) ?_
  refine n_then (ref_seq (ref_region ?_))
  refine s_rd (r_cload Tryd.isAgg3 rfl (j := 5) rfl rfl) rfl ?_
  refine mv1 rfl rfl ?_
  refine pull fun t9 h_t9 => ?_
  refine s_st (s_call (ψ := fun (_ : Unit) => ag [iv .i64 t9.Num, iv .i64 t9.Den]) (args := [.tmp 23, .tmp 24]) Tryd.call31 rfl (chance_reduced_ok h_t9) ⟨arg rfl, arg rfl, trivial⟩ (fun _ _ _ _ h => h)) rfl (fun _ => ?_)
  refine s_st0 (s_cstore (out := [iv .i64 t9.Num, iv .i64 t9.Den]) Tryd.sizeOf36 rfl (j := 4) rfl (part_agO (ψs := [iv .i64 t9.Num, iv .i64 t9.Den]) rfl ⟨.inl iv_at, .inl iv_at, trivial⟩) rfl rfl rfl) (fun _ => ?_)
  refine as1 rfl rfl ?_
  refine l_nil (n_then (ref_ret ?_))
  exact fin2 (.inl rfl) () [0] rfl ⟨rfl, trivial⟩ rfl (rv_cell rfl (j := 4) rfl Tryd.isAgg36 Tryd.sizeOf36 rfl rfl) (rv_tmp rfl)

/-! deliberation/deliberationlaw23.plus -/
noncomputable def law23_plus_m (a__0 : T_api_Fraction) (b_1 : T_api_Fraction) : Option (T_api_Fraction) :=
  bif decide (a__0.Den < 1) then
    some (T_api_Fraction.mk 0 0)
  else
    bif decide (b_1.Den < 1) then
      some (T_api_Fraction.mk 0 0)
    else
      bif decide (a__0.Den > 268435456) then
        some (T_api_Fraction.mk 0 0)
      else
        bif decide (b_1.Den > 268435456) then
          some (T_api_Fraction.mk 0 0)
        else
          bif decide (a__0.Num < 0) then
            some (T_api_Fraction.mk 0 0)
          else
            bif decide (b_1.Num < 0) then
              some (T_api_Fraction.mk 0 0)
            else
              Option.bind (ref22_Reduced_m (iadd .i64 (imul .i64 a__0.Num b_1.Den) (imul .i64 b_1.Num a__0.Den)) (imul .i64 a__0.Den b_1.Den)) fun t5 =>
              some t5

theorem law23_plus_ok {a__0 : T_api_Fraction} {b_1 : T_api_Fraction} {r : T_api_Fraction} (hm : law23_plus_m a__0 b_1 = some r) :
    FnOk prog 19 [ag [iv .i64 a__0.Num, iv .i64 a__0.Den], ag [iv .i64 b_1.Num, iv .i64 b_1.Den]] [] (fun (x : Unit) => [ag [iv .i64 r.Num, iv .i64 r.Den]]) (fun (x : Unit) => []) := by
  refine fn_ok (fn := Tryd.f19) (N := 51) (res := fun r x => [ag [iv .i64 r.Num, iv .i64 r.Den]]) (Ω1 := fun r x => []) Tryd.func19 rfl rfl hm rfl (fun E hM => ?_)
  unfold law23_plus_m
  refine ref_seq (ref_region ?_)
  refine s_st (s_box (part_agO (ψs := [iv .i64 a__0.Num, iv .i64 a__0.Den]) rfl ⟨.inl iv_at, .inl iv_at, trivial⟩)) rfl (fun b1 => ?_)
  refine s_st (s_box (part_agO (ψs := [iv .i64 b_1.Num, iv .i64 b_1.Den]) rfl ⟨.inl iv_at, .inl iv_at, trivial⟩)) rfl (fun b2 => ?_)
  refine s_st (s_alloc zt_36) rfl (fun b3 => ?_)
  refine l_nil (n_then (ref_seq (ref_seq (ref_region ?_))))
  refine s_rd (r_faddr (fo := 1) Tryd.underlying36 rfl rfl Tryd.sizeOf3 rfl) rfl ?_
  refine s_rd (r_cload Tryd.isAgg3 rfl (j := 0) rfl rfl) rfl ?_
  refine s_rd (r_lss rfl rfl) rfl ?_
  refine mv1 rfl rfl ?_
  refine b_split (t := 8) rfl (fun _ => ?_) (fun _ => ?_)
  · refine s_off rfl rfl rfl rfl rfl ?_
    refine s_off rfl rfl rfl rfl rfl ?_
    refine s_off rfl rfl rfl rfl rfl ?_
    refine s_rd (r_pickT rfl rfl) rfl ?_
    refine mv1 rfl rfl ?_
    refine s_off rfl rfl rfl rfl rfl ?_
    refine s_off rfl rfl rfl rfl rfl ?_
    refine s_off rfl rfl rfl rfl rfl ?_
    refine s_rd (r_pickT rfl rfl) rfl ?_
    refine mv1 rfl rfl ?_
    refine s_off rfl rfl rfl rfl rfl ?_
    refine s_off rfl rfl rfl rfl rfl ?_
    refine s_off rfl rfl rfl rfl rfl ?_
    refine s_rd (r_pickT rfl rfl) rfl ?_
    refine mv1 rfl rfl ?_
    refine s_off rfl rfl rfl rfl rfl ?_
    refine s_off rfl rfl rfl rfl rfl ?_
    refine s_off rfl rfl rfl rfl rfl ?_
    refine s_rd (r_pickT rfl rfl) rfl ?_
    refine mv1 rfl rfl ?_
    refine s_off rfl rfl rfl rfl rfl ?_
    refine s_off rfl rfl rfl rfl rfl ?_
    refine s_off rfl rfl rfl rfl rfl ?_
    refine s_rd (r_pickT rfl rfl) rfl ?_
    refine l_nil (n_then ?_)
    refine ref_condT rfl rfl ?_
    refine ref_seq (ref_region ?_)
    refine s_rd (r_build (ps := []) (rs := []) st_36 zs_36 trivial rfl rfl) rfl ?_
    refine s_st0 (s_cstore (out := [iv .i64 0, iv .i64 0]) Tryd.sizeOf36 rfl (j := 2) rfl (part_agO (ψs := [iv .i64 0, iv .i64 0]) rfl ⟨.inl iv_at, .inl iv_at, trivial⟩) rfl rfl rfl) (fun _ => ?_)
    refine l_nil ?_
    refine b_of (nrm [oc b1 [iv .i64 a__0.Num, iv .i64 a__0.Den], oc b2 [iv .i64 b_1.Num, iv .i64 b_1.Den], oc b3 [iv .i64 0, iv .i64 0]] rfl) ?_
    refine n_then (ref_ret (r_then ?_))
    exact fin1 (.inl rfl) () [] rfl trivial rfl (rv_cell rfl (j := 2) rfl Tryd.isAgg36 Tryd.sizeOf36 rfl rfl)
  refine s_on rfl rfl rfl ?_
  refine s_rd (r_faddr (fo := 1) Tryd.underlying36 rfl rfl Tryd.sizeOf3 rfl) rfl ?_
  refine s_on rfl rfl rfl ?_
  refine s_rd (r_cload Tryd.isAgg3 rfl (j := 1) rfl rfl) rfl ?_
  refine s_on rfl rfl rfl ?_
  refine s_rd (r_lss rfl rfl) rfl ?_
  refine s_rd (r_pickF rfl rfl) rfl ?_
  refine mv1 rfl rfl ?_
  refine b_split (t := 13) rfl (fun _ => ?_) (fun _ => ?_)
  · refine s_off rfl rfl rfl rfl rfl ?_
    refine s_off rfl rfl rfl rfl rfl ?_
    refine s_off rfl rfl rfl rfl rfl ?_
    refine s_rd (r_pickT rfl rfl) rfl ?_
    refine mv1 rfl rfl ?_
    refine s_off rfl rfl rfl rfl rfl ?_
    refine s_off rfl rfl rfl rfl rfl ?_
    refine s_off rfl rfl rfl rfl rfl ?_
    refine s_rd (r_pickT rfl rfl) rfl ?_
    refine mv1 rfl rfl ?_
    refine s_off rfl rfl rfl rfl rfl ?_
    refine s_off rfl rfl rfl rfl rfl ?_
    refine s_off rfl rfl rfl rfl rfl ?_
    refine s_rd (r_pickT rfl rfl) rfl ?_
    refine mv1 rfl rfl ?_
    refine s_off rfl rfl rfl rfl rfl ?_
    refine s_off rfl rfl rfl rfl rfl ?_
    refine s_off rfl rfl rfl rfl rfl ?_
    refine s_rd (r_pickT rfl rfl) rfl ?_
    refine l_nil (n_then ?_)
    refine ref_condT rfl rfl ?_
    refine ref_seq (ref_region ?_)
    refine s_rd (r_build (ps := []) (rs := []) st_36 zs_36 trivial rfl rfl) rfl ?_
    refine s_st0 (s_cstore (out := [iv .i64 0, iv .i64 0]) Tryd.sizeOf36 rfl (j := 2) rfl (part_agO (ψs := [iv .i64 0, iv .i64 0]) rfl ⟨.inl iv_at, .inl iv_at, trivial⟩) rfl rfl rfl) (fun _ => ?_)
    refine l_nil ?_
    refine b_of (nrm [oc b1 [iv .i64 a__0.Num, iv .i64 a__0.Den], oc b2 [iv .i64 b_1.Num, iv .i64 b_1.Den], oc b3 [iv .i64 0, iv .i64 0]] rfl) ?_
    refine n_then (ref_ret (r_then ?_))
    exact fin1 (.inl rfl) () [] rfl trivial rfl (rv_cell rfl (j := 2) rfl Tryd.isAgg36 Tryd.sizeOf36 rfl rfl)
  refine s_on rfl rfl rfl ?_
  refine s_rd (r_faddr (fo := 1) Tryd.underlying36 rfl rfl Tryd.sizeOf3 rfl) rfl ?_
  refine s_on rfl rfl rfl ?_
  refine s_rd (r_cload Tryd.isAgg3 rfl (j := 0) rfl rfl) rfl ?_
  refine s_on rfl rfl rfl ?_
  refine s_rd (r_gtr rfl rfl) rfl ?_
  refine s_rd (r_pickF rfl rfl) rfl ?_
  refine mv1 rfl rfl ?_
  refine b_split (t := 18) rfl (fun _ => ?_) (fun _ => ?_)
  · refine s_off rfl rfl rfl rfl rfl ?_
    refine s_off rfl rfl rfl rfl rfl ?_
    refine s_off rfl rfl rfl rfl rfl ?_
    refine s_rd (r_pickT rfl rfl) rfl ?_
    refine mv1 rfl rfl ?_
    refine s_off rfl rfl rfl rfl rfl ?_
    refine s_off rfl rfl rfl rfl rfl ?_
    refine s_off rfl rfl rfl rfl rfl ?_
    refine s_rd (r_pickT rfl rfl) rfl ?_
    refine mv1 rfl rfl ?_
    refine s_off rfl rfl rfl rfl rfl ?_
    refine s_off rfl rfl rfl rfl rfl ?_
    refine s_off rfl rfl rfl rfl rfl ?_
    refine s_rd (r_pickT rfl rfl) rfl ?_
    refine l_nil (n_then ?_)
    refine ref_condT rfl rfl ?_
    refine ref_seq (ref_region ?_)
    refine s_rd (r_build (ps := []) (rs := []) st_36 zs_36 trivial rfl rfl) rfl ?_
    refine s_st0 (s_cstore (out := [iv .i64 0, iv .i64 0]) Tryd.sizeOf36 rfl (j := 2) rfl (part_agO (ψs := [iv .i64 0, iv .i64 0]) rfl ⟨.inl iv_at, .inl iv_at, trivial⟩) rfl rfl rfl) (fun _ => ?_)
    refine l_nil ?_
    refine b_of (nrm [oc b1 [iv .i64 a__0.Num, iv .i64 a__0.Den], oc b2 [iv .i64 b_1.Num, iv .i64 b_1.Den], oc b3 [iv .i64 0, iv .i64 0]] rfl) ?_
    refine n_then (ref_ret (r_then ?_))
    exact fin1 (.inl rfl) () [] rfl trivial rfl (rv_cell rfl (j := 2) rfl Tryd.isAgg36 Tryd.sizeOf36 rfl rfl)
  refine s_on rfl rfl rfl ?_
  refine s_rd (r_faddr (fo := 1) Tryd.underlying36 rfl rfl Tryd.sizeOf3 rfl) rfl ?_
  refine s_on rfl rfl rfl ?_
  refine s_rd (r_cload Tryd.isAgg3 rfl (j := 1) rfl rfl) rfl ?_
  refine s_on rfl rfl rfl ?_
  refine s_rd (r_gtr rfl rfl) rfl ?_
  refine s_rd (r_pickF rfl rfl) rfl ?_
  refine mv1 rfl rfl ?_
  refine b_split (t := 23) rfl (fun _ => ?_) (fun _ => ?_)
  · refine s_off rfl rfl rfl rfl rfl ?_
    refine s_off rfl rfl rfl rfl rfl ?_
    refine s_off rfl rfl rfl rfl rfl ?_
    refine s_rd (r_pickT rfl rfl) rfl ?_
    refine mv1 rfl rfl ?_
    refine s_off rfl rfl rfl rfl rfl ?_
    refine s_off rfl rfl rfl rfl rfl ?_
    refine s_off rfl rfl rfl rfl rfl ?_
    refine s_rd (r_pickT rfl rfl) rfl ?_
    refine l_nil (n_then ?_)
    refine ref_condT rfl rfl ?_
    refine ref_seq (ref_region ?_)
    refine s_rd (r_build (ps := []) (rs := []) st_36 zs_36 trivial rfl rfl) rfl ?_
    refine s_st0 (s_cstore (out := [iv .i64 0, iv .i64 0]) Tryd.sizeOf36 rfl (j := 2) rfl (part_agO (ψs := [iv .i64 0, iv .i64 0]) rfl ⟨.inl iv_at, .inl iv_at, trivial⟩) rfl rfl rfl) (fun _ => ?_)
    refine l_nil ?_
    refine b_of (nrm [oc b1 [iv .i64 a__0.Num, iv .i64 a__0.Den], oc b2 [iv .i64 b_1.Num, iv .i64 b_1.Den], oc b3 [iv .i64 0, iv .i64 0]] rfl) ?_
    refine n_then (ref_ret (r_then ?_))
    exact fin1 (.inl rfl) () [] rfl trivial rfl (rv_cell rfl (j := 2) rfl Tryd.isAgg36 Tryd.sizeOf36 rfl rfl)
  refine s_on rfl rfl rfl ?_
  refine s_rd (r_faddr (fo := 0) Tryd.underlying36 rfl rfl Tryd.sizeOf3 rfl) rfl ?_
  refine s_on rfl rfl rfl ?_
  refine s_rd (r_cload Tryd.isAgg3 rfl (j := 0) rfl rfl) rfl ?_
  refine s_on rfl rfl rfl ?_
  refine s_rd (r_lss rfl rfl) rfl ?_
  refine s_rd (r_pickF rfl rfl) rfl ?_
  refine mv1 rfl rfl ?_
  refine b_split (t := 28) rfl (fun _ => ?_) (fun _ => ?_)
  · refine s_off rfl rfl rfl rfl rfl ?_
    refine s_off rfl rfl rfl rfl rfl ?_
    refine s_off rfl rfl rfl rfl rfl ?_
    refine s_rd (r_pickT rfl rfl) rfl ?_
    refine l_nil (n_then ?_)
    refine ref_condT rfl rfl ?_
    refine ref_seq (ref_region ?_)
    refine s_rd (r_build (ps := []) (rs := []) st_36 zs_36 trivial rfl rfl) rfl ?_
    refine s_st0 (s_cstore (out := [iv .i64 0, iv .i64 0]) Tryd.sizeOf36 rfl (j := 2) rfl (part_agO (ψs := [iv .i64 0, iv .i64 0]) rfl ⟨.inl iv_at, .inl iv_at, trivial⟩) rfl rfl rfl) (fun _ => ?_)
    refine l_nil ?_
    refine b_of (nrm [oc b1 [iv .i64 a__0.Num, iv .i64 a__0.Den], oc b2 [iv .i64 b_1.Num, iv .i64 b_1.Den], oc b3 [iv .i64 0, iv .i64 0]] rfl) ?_
    refine n_then (ref_ret (r_then ?_))
    exact fin1 (.inl rfl) () [] rfl trivial rfl (rv_cell rfl (j := 2) rfl Tryd.isAgg36 Tryd.sizeOf36 rfl rfl)
  refine s_on rfl rfl rfl ?_
  refine s_rd (r_faddr (fo := 0) Tryd.underlying36 rfl rfl Tryd.sizeOf3 rfl) rfl ?_
  refine s_on rfl rfl rfl ?_
  refine s_rd (r_cload Tryd.isAgg3 rfl (j := 1) rfl rfl) rfl ?_
  refine s_on rfl rfl rfl ?_
  refine s_rd (r_lss rfl rfl) rfl ?_
  refine s_rd (r_pickF rfl rfl) rfl ?_
  refine l_nil (n_then ?_)
  refine ref_cond rfl (fun hb4 => ?_) (fun hb4 => ?_)
  · refine ref_seq (ref_region ?_)
    refine s_rd (r_build (ps := []) (rs := []) st_36 zs_36 trivial rfl rfl) rfl ?_
    refine s_st0 (s_cstore (out := [iv .i64 0, iv .i64 0]) Tryd.sizeOf36 rfl (j := 2) rfl (part_agO (ψs := [iv .i64 0, iv .i64 0]) rfl ⟨.inl iv_at, .inl iv_at, trivial⟩) rfl rfl rfl) (fun _ => ?_)
    refine l_nil ?_
    refine b_of (nrm [oc b1 [iv .i64 a__0.Num, iv .i64 a__0.Den], oc b2 [iv .i64 b_1.Num, iv .i64 b_1.Den], oc b3 [iv .i64 0, iv .i64 0]] rfl) ?_
    refine n_then (ref_ret (r_then ?_))
    exact fin1 (.inl rfl) () [] rfl trivial rfl (rv_cell rfl (j := 2) rfl Tryd.isAgg36 Tryd.sizeOf36 rfl rfl)
  refine ref_skip (n_then (ref_seq (ref_region ?_)))
  refine s_rd (r_faddr (fo := 0) Tryd.underlying36 rfl rfl Tryd.sizeOf3 rfl) rfl ?_
  refine s_rd (r_cload Tryd.isAgg3 rfl (j := 0) rfl rfl) rfl ?_
  refine s_rd (r_faddr (fo := 1) Tryd.underlying36 rfl rfl Tryd.sizeOf3 rfl) rfl ?_
  refine s_rd (r_cload Tryd.isAgg3 rfl (j := 1) rfl rfl) rfl ?_
  refine s_rd (r_mul rfl rfl) rfl ?_
  refine s_rd (r_faddr (fo := 0) Tryd.underlying36 rfl rfl Tryd.sizeOf3 rfl) rfl ?_
  refine s_rd (r_cload Tryd.isAgg3 rfl (j := 1) rfl rfl) rfl ?_
  refine s_rd (r_faddr (fo := 1) Tryd.underlying36 rfl rfl Tryd.sizeOf3 rfl) rfl ?_
  refine s_rd (r_cload Tryd.isAgg3 rfl (j := 0) rfl rfl) rfl ?_
  refine s_rd (r_mul rfl rfl) rfl ?_
  refine s_rd (r_add rfl rfl) rfl ?_
  refine s_rd (r_faddr (fo := 1) Tryd.underlying36 rfl rfl Tryd.sizeOf3 rfl) rfl ?_
  refine s_rd (r_cload Tryd.isAgg3 rfl (j := 0) rfl rfl) rfl ?_
  refine s_rd (r_faddr (fo := 1) Tryd.underlying36 rfl rfl Tryd.sizeOf3 rfl) rfl ?_
  refine s_rd (r_cload Tryd.isAgg3 rfl (j := 1) rfl rfl) rfl ?_
  refine s_rd (r_mul rfl rfl) rfl ?_
  refine pull fun t5 h_t5 => ?_
  refine s_st (s_call (ψ := fun (_ : Unit) => ag [iv .i64 t5.Num, iv .i64 t5.Den]) (args := [.tmp 44, .tmp 49]) Tryd.call15 rfl (ref22_Reduced_ok h_t5) ⟨arg rfl, arg rfl, trivial⟩ (fun _ _ _ _ h => h)) rfl (fun _ => ?_)
  refine s_st0 (s_cstore (out := [iv .i64 t5.Num, iv .i64 t5.Den]) Tryd.sizeOf36 rfl (j := 2) rfl (part_agO (ψs := [iv .i64 t5.Num, iv .i64 t5.Den]) rfl ⟨.inl iv_at, .inl iv_at, trivial⟩) rfl rfl rfl) (fun _ => ?_)
  refine l_nil ?_
  refine b_of (nrm [oc b1 [iv .i64 a__0.Num, iv .i64 a__0.Den], oc b2 [iv .i64 b_1.Num, iv .i64 b_1.Den], oc b3 [iv .i64 t5.Num, iv .i64 t5.Den]] rfl) ?_
  refine n_then (ref_ret ?_)
  exact fin1 (.inl rfl) () [] rfl trivial rfl (rv_cell rfl (j := 2) rfl Tryd.isAgg36 Tryd.sizeOf36 rfl rfl)

/-! deliberation/deliberationlaw23.ChanceWhole -/
noncomputable def law23_ChanceWhole_l1 (t3 : T_api_Graph × T_deliberationkeep_Src) (t5 : T_api_Odds × T_deliberationkeep_Src) (node9 : Int × T_deliberationkeep_Src) (s38 : Int × T_api_Fraction × T_api_Fraction) : Option (Sum ((Sum (Bool) (T_api_Fraction × T_api_Fraction))) (Int × T_api_Fraction × T_api_Fraction)) :=
  Option.bind (ishlM .u64 1 (IntKind.wrap .u64 t3.1.N)) fun t40 =>
  bif decide (s38.1 < t40) then
    Option.bind (net_Members_m s38.1) fun set_42 =>
    Option.bind (chance_Extension_m t3.1 t5.1 set_42) fun t44 =>
    bif t44.2 != 0 then
      some (Sum.inl (Sum.inl false))
    else
      Option.bind (law23_plus_m s38.2.1 t44.1) fun t47 =>
      Option.bind (keep_In_m set_42 node9.1) fun t48 =>
      bif t48 then
        Option.bind (law23_plus_m s38.2.2 t44.1) fun t50 =>
        letM (iadd .u64 s38.1 1) fun bits51 =>
        some (Sum.inr (bits51, t47, t50))
      else
        letM (iadd .u64 s38.1 1) fun bits52 =>
        some (Sum.inr (bits52, t47, s38.2.2))
  else
    some (Sum.inl (Sum.inr (s38.2.1, s38.2.2)))

noncomputable def law23_ChanceWhole_m (l_0 : (List Int)) : Option (Bool) :=
  Option.bind (keep_New_m l_0) fun s1 =>
  Option.bind (net_Graph_m s1 4) fun t3 =>
  Option.bind (law23_odds_m t3.2 t3.1 4) fun t5 =>
  Option.bind (keep_Src_N_m t5.2 t3.1.N) fun node9 =>
  Option.bind (loopC (law23_ChanceWhole_l1 t3 t5 node9) (0, (T_api_Fraction.mk 0 1), (T_api_Fraction.mk 0 1))) (sumK (fun a : Bool => some a) fun q53 : T_api_Fraction × T_api_Fraction =>
    Option.bind (chance_Joint_m t3.1 t5.1 [node9.1] 4) fun t55 =>
    bif t55.2 == 0 then
      bif decide (q53.1 = (T_api_Fraction.mk 1 1)) then
        bif decide (q53.2 = t55.1) then
          Option.bind (law23_awake_m ) fun t57 =>
          some t57
        else
          some false
      else
        some false
    else
      some false)

theorem law23_ChanceWhole_ok {l_0 : (List Int)} {r : Bool} (hm : law23_ChanceWhole_m l_0 = some r) :
    FnOk prog 4 [slv (rI .i64) l_0] [tbO (rI .u8) 0 tab_0] (fun (x : Unit) => [bv r]) (fun (x : Unit) => [tbO (rI .u8) 0 tab_0]) := by
  refine fn_ok (fn := Tryd.f4) (N := 79) (res := fun r x => [bv r]) (Ω1 := fun r x => [tbO (rI .u8) 0 tab_0]) Tryd.func4 rfl rfl hm rfl (fun E hM => ?_)
  unfold law23_ChanceWhole_m
  refine ref_seq (ref_region ?_)
  refine as1 rfl rfl ?_
  refine l_nil (n_then (ref_seq (ref_region ?_)))
  refine mv1 rfl rfl ?_
  refine pull fun s1 h_s1 => ?_
  refine s_st (s_call (ψ := fun (x2 : Nat) => pv (ptr x2 0)) (args := [.tmp 15]) Tryd.call7 rfl (keep_New_ok h_s1) ⟨arg rfl, trivial⟩ (fun _ _ _ _ h => h)) rfl (fun x2 => ?_)
  refine as1 rfl rfl ?_
  refine l_nil (n_then (ref_seq (ref_region ?_)))
  refine mv1 rfl rfl ?_
  refine pull fun t3 h_t3 => ?_
  refine s_st (s_callC [1] [true] (fun (_ : Unit) => [oc x2 [slv (rI .i64) t3.2.L, iv .i64 t3.2.At]]) (fun (_ : Unit) => []) (fun (_ : Unit) => ag [iv .i64 t3.1.N, slv rT_api_Pair t3.1.L]) (args := [.tmp 17, .const (.int .i64 (4))]) (caps := []) Tryd.call8 rfl (net_Graph_ok h_t3) ⟨rfl, rfl, trivial⟩ (fun _ => rfl) (fun _ => trivial) (fun _ => rfl) ⟨arg rfl, arg rfl, trivial⟩ (fun _ _ _ _ h => h)) rfl (fun _ => ?_)
  refine s_st (s_alloc zt_27) rfl (fun b4 => ?_)
  refine s_st0 (s_cstore (out := [iv .i64 t3.1.N, slv rT_api_Pair t3.1.L]) Tryd.sizeOf27 rfl (j := 2) rfl (part_agO (ψs := [iv .i64 t3.1.N, slv rT_api_Pair t3.1.L]) rfl ⟨.inl iv_at, .inl slv_at, trivial⟩) rfl rfl rfl) (fun _ => ?_)
  refine l_nil ?_
  refine b_of (nrm [tbO (rI .u8) 0 tab_0, oc x2 [slv (rI .i64) t3.2.L, iv .i64 t3.2.At], oc b4 [iv .i64 t3.1.N, slv rT_api_Pair t3.1.L]] rfl) ?_
  refine n_then (ref_seq (ref_region ?_))
  refine mv1 rfl rfl ?_
  refine s_rd (r_cloadS Tryd.isAgg27 Tryd.sizeOf27 rfl (j := 2) rfl rfl rfl) rfl ?_
  refine pull fun t5 h_t5 => ?_
  refine s_st (s_callC [1] [true] (fun (_ : Unit) => [oc x2 [slv (rI .i64) t5.2.L, iv .i64 t5.2.At]]) (fun (_ : Unit) => []) (fun (_ : Unit) => ag [slv rT_api_Fraction t5.1.Nodes, slv rT_api_Fraction t5.1.Attacks]) (args := [.tmp 19, .tmp 20, .const (.int .i64 (4))]) (caps := []) Tryd.call9 rfl (law23_odds_ok h_t5) ⟨rfl, rfl, trivial⟩ (fun _ => rfl) (fun _ => trivial) (fun _ => rfl) ⟨arg rfl, arg rfl, arg rfl, trivial⟩ (fun _ _ _ _ h => h)) rfl (fun _ => ?_)
  refine s_st (s_alloc zt_31) rfl (fun b6 => ?_)
  refine s_st0 (s_cstore (out := [slv rT_api_Fraction t5.1.Nodes, slv rT_api_Fraction t5.1.Attacks]) Tryd.sizeOf31 rfl (j := 3) rfl (part_agO (ψs := [slv rT_api_Fraction t5.1.Nodes, slv rT_api_Fraction t5.1.Attacks]) rfl ⟨.inl slv_at, .inl slv_at, trivial⟩) rfl rfl rfl) (fun _ => ?_)
  refine l_nil (n_then (ref_seq (ref_region ?_)))
  refine s_rd (r_build (ps := [(0, .const (.int .i64 (0))), (1, .const (.int .i64 (1)))]) (rs := [(0, [iv .i64 0]), (1, [iv .i64 1])]) st_36 zs_36 ⟨rfl, (part_at rfl iv_at), ⟨rfl, (part_at rfl iv_at), trivial⟩⟩ rfl rfl) rfl ?_
  refine s_rd (r_build (ps := [(0, .const (.int .i64 (0))), (1, .const (.int .i64 (1)))]) (rs := [(0, [iv .i64 0]), (1, [iv .i64 1])]) st_36 zs_36 ⟨rfl, (part_at rfl iv_at), ⟨rfl, (part_at rfl iv_at), trivial⟩⟩ rfl rfl) rfl ?_
  refine s_st (s_alloc zt_36) rfl (fun b7 => ?_)
  refine s_st (s_alloc zt_36) rfl (fun b8 => ?_)
  refine s_st0 (s_cstore (out := [iv .i64 0, iv .i64 1]) Tryd.sizeOf36 rfl (j := 4) rfl (part_agO (ψs := [iv .i64 0, iv .i64 1]) rfl ⟨.inl iv_at, .inl iv_at, trivial⟩) rfl rfl rfl) (fun _ => ?_)
  refine s_st0 (s_cstore (out := [iv .i64 0, iv .i64 1]) Tryd.sizeOf36 rfl (j := 5) rfl (part_agO (ψs := [iv .i64 0, iv .i64 1]) rfl ⟨.inl iv_at, .inl iv_at, trivial⟩) rfl rfl rfl) (fun _ => ?_)
  refine l_nil ?_
  refine b_of (nrm [tbO (rI .u8) 0 tab_0, oc x2 [slv (rI .i64) t5.2.L, iv .i64 t5.2.At], oc b4 [iv .i64 t3.1.N, slv rT_api_Pair t3.1.L], oc b6 [slv rT_api_Fraction t5.1.Nodes, slv rT_api_Fraction t5.1.Attacks], oc b7 [iv .i64 0, iv .i64 1], oc b8 [iv .i64 0, iv .i64 1]] rfl) ?_
  refine n_then (ref_seq (ref_region ?_))
  refine mv1 rfl rfl ?_
  refine s_rd (r_faddr (fo := 0) Tryd.underlying27 rfl rfl Tryd.sizeOf3 rfl) rfl ?_
  refine s_rd (r_cload Tryd.isAgg3 rfl (j := 2) rfl rfl) rfl ?_
  refine pull fun node9 h_node9 => ?_
  refine s_st (s_callC [1] [true] (fun (_ : Unit) => [oc x2 [slv (rI .i64) node9.2.L, iv .i64 node9.2.At]]) (fun (_ : Unit) => []) (fun (_ : Unit) => iv .i64 node9.1) (args := [.tmp 24, .tmp 26]) (caps := []) Tryd.call16 rfl (keep_Src_N_ok h_node9) ⟨rfl, rfl, trivial⟩ (fun _ => rfl) (fun _ => trivial) (fun _ => rfl) ⟨arg rfl, arg rfl, trivial⟩ (fun _ _ _ _ h => h)) rfl (fun _ => ?_)
  refine as1 rfl rfl ?_
  refine l_nil (n_then (ref_seq (ref_seq (ref_region ?_))))
  refine as1 rfl rfl ?_
  refine l_nil (n_then ?_)
  refine ref_loopX (f := (law23_ChanceWhole_l1 t3 t5 node9)) (Γl := (fun (s38 : Int × T_api_Fraction × T_api_Fraction) (x39 : Unit) => [(4, pv (ptr b4 0)), (5, pv (ptr b6 0)), (6, pv (ptr b7 0)), (7, pv (ptr b8 0)), (8, iv .i64 node9.1), (9, iv .u64 s38.1)])) (Ωl := (fun (s38 : Int × T_api_Fraction × T_api_Fraction) (x39 : Unit) => [tbO (rI .u8) 0 tab_0, oc b4 [iv .i64 t3.1.N, slv rT_api_Pair t3.1.L], oc b6 [slv rT_api_Fraction t5.1.Nodes, slv rT_api_Fraction t5.1.Attacks], oc b7 [iv .i64 s38.2.1.Num, iv .i64 s38.2.1.Den], oc b8 [iv .i64 s38.2.2.Num, iv .i64 s38.2.2.Den]])) (Γb := (fun (q53 : T_api_Fraction × T_api_Fraction) (y54 : Unit) => [(4, pv (ptr b4 0)), (5, pv (ptr b6 0)), (6, pv (ptr b7 0)), (7, pv (ptr b8 0)), (8, iv .i64 node9.1)])) (Ωb := (fun (q53 : T_api_Fraction × T_api_Fraction) (y54 : Unit) => [oc b4 [iv .i64 t3.1.N, slv rT_api_Pair t3.1.L], oc b6 [slv rT_api_Fraction t5.1.Nodes, slv rT_api_Fraction t5.1.Attacks], oc b7 [iv .i64 q53.1.Num, iv .i64 q53.1.Den], oc b8 [iv .i64 q53.2.Num, iv .i64 q53.2.Den], tbO (rI .u8) 0 tab_0])) (kr := (fun a : Bool => some a)) (0, (T_api_Fraction.mk 0 1), (T_api_Fraction.mk 0 1)) () (weak [0, 2, 3, 4, 5] ⟨rfl, rfl, rfl, rfl, rfl, rfl, trivial⟩ ⟨rfl, rfl, rfl, rfl, rfl, trivial⟩) (fun s38 x39 => ?_) (fun q53 y54 => ?_)
  · unfold law23_ChanceWhole_l1
    refine ref_seq (ref_seq (ref_region ?_))
    refine mv1 rfl rfl ?_
    refine s_rd (r_faddr (fo := 0) Tryd.underlying27 rfl rfl Tryd.sizeOf3 rfl) rfl ?_
    refine s_rd (r_cload Tryd.isAgg3 rfl (j := 1) rfl rfl) rfl ?_
    refine s_rd (r_conv (k' := .u64) rfl rfl rfl) rfl ?_
    refine pull fun t40 h_t40 => ?_
    refine s_rd (r_shlM h_t40 rfl rfl) rfl ?_
    refine s_rd (r_lss rfl rfl) rfl ?_
    refine l_nil (n_then ?_)
    refine ref_cond rfl (fun hb41 => ?_) (fun hb41 => ?_)
    · refine ref_skip (n_then (ref_seq (ref_block (ref_seq (ref_region ?_)))))
      refine mv1 rfl rfl ?_
      refine pull fun set_42 h_set_42 => ?_
      refine s_st (s_call (ψ := fun (x43 : (Value × List Nat)) => pv x43.1) (args := [.tmp 36]) Tryd.call17 rfl (net_Members_ok h_set_42) ⟨arg rfl, trivial⟩ (fun _ _ _ _ h => h)) rfl (fun x43 => ?_)
      refine as1 rfl rfl ?_
      refine l_nil (n_then (ref_seq (ref_region ?_)))
      refine s_rd (r_cloadS Tryd.isAgg27 Tryd.sizeOf27 rfl (j := 1) rfl rfl rfl) rfl ?_
      refine s_rd (r_cloadS Tryd.isAgg31 Tryd.sizeOf31 rfl (j := 2) rfl rfl rfl) rfl ?_
      refine mv1 rfl rfl ?_
      refine b_of (frzL [37, 10, 41] (j := 5) rfl ⟨rfl, rfl, rfl, trivial⟩) ?_
      refine pull fun t44 h_t44 => ?_
      refine s_st (s_callC [0] [true] (fun (_ : Unit) => [tbO (rI .u8) 0 tab_0]) (fun (_ : Unit) => []) (fun (_ : Unit) => tup [ag [iv .i64 t44.1.Num, iv .i64 t44.1.Den], iv .i64 t44.2]) (args := [.tmp 39, .tmp 40, .tmp 41]) (caps := []) Tryd.call18 rfl (chance_Extension_ok h_t44) ⟨rfl, rfl, trivial⟩ (fun _ => rfl) (fun _ => trivial) (fun _ => rfl) ⟨arg rfl, arg rfl, arg rfl, trivial⟩ (fun _ _ _ _ h => h)) rfl (fun _ => ?_)
      refine mv1 rfl rfl ?_
      refine s_rd (r_extract rfl rfl) rfl ?_
      refine s_rd (r_extract rfl rfl) rfl ?_
      refine s_st (s_alloc zt_36) rfl (fun b45 => ?_)
      refine s_st0 (s_cstore (out := [iv .i64 t44.1.Num, iv .i64 t44.1.Den]) Tryd.sizeOf36 rfl (j := 6) rfl (part_agO (ψs := [iv .i64 t44.1.Num, iv .i64 t44.1.Den]) rfl ⟨.inl iv_at, .inl iv_at, trivial⟩) rfl rfl rfl) (fun _ => ?_)
      refine as1 rfl rfl ?_
      refine l_nil ?_
      refine b_of (nrm [tbO (rI .u8) 0 tab_0, oc b4 [iv .i64 t3.1.N, slv rT_api_Pair t3.1.L], oc b6 [slv rT_api_Fraction t5.1.Nodes, slv rT_api_Fraction t5.1.Attacks], oc b7 [iv .i64 s38.2.1.Num, iv .i64 s38.2.1.Den], oc b8 [iv .i64 s38.2.2.Num, iv .i64 s38.2.2.Den], dead, oc b45 [iv .i64 t44.1.Num, iv .i64 t44.1.Den]] rfl) ?_
      refine n_then (ref_seq (ref_seq (ref_region ?_)))
      refine mv1 rfl rfl ?_
      refine s_rd (r_neq rfl rfl) rfl ?_
      refine l_nil (n_then ?_)
      refine ref_cond rfl (fun hb46 => ?_) (fun hb46 => ?_)
      · refine ref_seq (ref_region ?_)
        refine as1 rfl rfl ?_
        refine l_nil (n_then (ref_ret (r_then (r_block (r_then ?_)))))
        refine retX ?_
        refine r_block (r_then ?_)
        exact fin1 (.inl rfl) () [0] rfl ⟨rfl, trivial⟩ rfl (rv_tmp rfl)
      refine ref_skip (n_then (ref_seq (ref_region ?_)))
      refine s_rd (r_cloadS Tryd.isAgg36 Tryd.sizeOf36 rfl (j := 3) rfl rfl rfl) rfl ?_
      refine s_rd (r_cloadS Tryd.isAgg36 Tryd.sizeOf36 rfl (j := 6) rfl rfl rfl) rfl ?_
      refine pull fun t47 h_t47 => ?_
      refine s_st (s_call (ψ := fun (_ : Unit) => ag [iv .i64 t47.Num, iv .i64 t47.Den]) (args := [.tmp 47, .tmp 48]) Tryd.call19 rfl (law23_plus_ok h_t47) ⟨arg rfl, arg rfl, trivial⟩ (fun _ _ _ _ h => h)) rfl (fun _ => ?_)
      refine s_st0 (s_cstore (out := [iv .i64 t47.Num, iv .i64 t47.Den]) Tryd.sizeOf36 rfl (j := 3) rfl (part_agO (ψs := [iv .i64 t47.Num, iv .i64 t47.Den]) rfl ⟨.inl iv_at, .inl iv_at, trivial⟩) rfl rfl rfl) (fun _ => ?_)
      refine l_nil (n_then (ref_seq (ref_region ?_)))
      refine mv1 rfl rfl ?_
      refine mv1 rfl rfl ?_
      refine pull fun t48 h_t48 => ?_
      refine s_st (s_call (ψ := fun (_ : Unit) => bv t48) (args := [.tmp 50, .tmp 51]) Tryd.call11 rfl (keep_In_ok h_t48) ⟨arg rfl, arg rfl, trivial⟩ (fun _ _ _ _ h => h)) rfl (fun _ => ?_)
      refine l_nil (n_then ?_)
      refine ref_cond rfl (fun hb49 => ?_) (fun hb49 => ?_)
      · refine ref_region ?_
        refine s_rd (r_cloadS Tryd.isAgg36 Tryd.sizeOf36 rfl (j := 4) rfl rfl rfl) rfl ?_
        refine s_rd (r_cloadS Tryd.isAgg36 Tryd.sizeOf36 rfl (j := 6) rfl rfl rfl) rfl ?_
        refine pull fun t50 h_t50 => ?_
        refine s_st (s_call (ψ := fun (_ : Unit) => ag [iv .i64 t50.Num, iv .i64 t50.Den]) (args := [.tmp 53, .tmp 54]) Tryd.call19 rfl (law23_plus_ok h_t50) ⟨arg rfl, arg rfl, trivial⟩ (fun _ _ _ _ h => h)) rfl (fun _ => ?_)
        refine s_st0 (s_cstore (out := [iv .i64 t50.Num, iv .i64 t50.Den]) Tryd.sizeOf36 rfl (j := 4) rfl (part_agO (ψs := [iv .i64 t50.Num, iv .i64 t50.Den]) rfl ⟨.inl iv_at, .inl iv_at, trivial⟩) rfl rfl rfl) (fun _ => ?_)
        refine l_nil ?_
        refine b_of (nrm [tbO (rI .u8) 0 tab_0, oc b4 [iv .i64 t3.1.N, slv rT_api_Pair t3.1.L], oc b6 [slv rT_api_Fraction t5.1.Nodes, slv rT_api_Fraction t5.1.Attacks], oc b7 [iv .i64 t47.Num, iv .i64 t47.Den], oc b8 [iv .i64 t50.Num, iv .i64 t50.Den], dead, oc b45 [iv .i64 t44.1.Num, iv .i64 t44.1.Den]] rfl) ?_
        refine n_block (n_then (ref_region ?_))
        refine mv1 rfl rfl ?_
        refine s_rd (r_add rfl rfl) rfl ?_
        refine as1 rfl rfl ?_
        refine b_let (f := iv .u64) (t := 9) rfl fun bits51 => ?_
        refine l_nil ?_
        exact goX () (weak [0, 1, 2, 3, 4] ⟨rfl, rfl, rfl, rfl, rfl, rfl, trivial⟩ ⟨rfl, rfl, rfl, rfl, rfl, trivial⟩)
      refine ref_skip (n_block (n_then (ref_region ?_)))
      refine mv1 rfl rfl ?_
      refine s_rd (r_add rfl rfl) rfl ?_
      refine as1 rfl rfl ?_
      refine b_let (f := iv .u64) (t := 9) rfl fun bits52 => ?_
      refine l_nil ?_
      exact goX () (weak [0, 1, 2, 3, 4] ⟨rfl, rfl, rfl, rfl, rfl, rfl, trivial⟩ ⟨rfl, rfl, rfl, rfl, rfl, trivial⟩)
    refine ref_exit (x_then ?_)
    exact brkX () (weak [1, 2, 3, 4, 0] ⟨rfl, rfl, rfl, rfl, rfl, trivial⟩ ⟨rfl, rfl, rfl, rfl, rfl, trivial⟩)
  refine n_then (ref_seq (ref_region ?_))
  refine s_rd (r_cloadS Tryd.isAgg27 Tryd.sizeOf27 rfl (j := 0) rfl rfl rfl) rfl ?_
  refine s_rd (r_cloadS Tryd.isAgg31 Tryd.sizeOf31 rfl (j := 1) rfl rfl rfl) rfl ?_
  refine mv1 rfl rfl ?_
  refine s_st (s_bslice (xs := [.tmp 59]) (ds := [node9.1]) Tryd.underlying22 el_3 rfl (Nat.le_of_ble_eq_true rfl) ⟨(part_at rfl iv_at), trivial⟩) rfl (fun _ => ?_)
  refine pull fun t55 h_t55 => ?_
  refine s_st (s_callC [4] [true] (fun (_ : Unit) => [tbO (rI .u8) 0 tab_0]) (fun (_ : Unit) => []) (fun (_ : Unit) => tup [ag [iv .i64 t55.1.Num, iv .i64 t55.1.Den], iv .i64 t55.2]) (args := [.tmp 57, .tmp 58, .tmp 60, .const (.int .i64 (4))]) (caps := []) Tryd.call12 rfl (chance_Joint_ok h_t55) ⟨rfl, rfl, trivial⟩ (fun _ => rfl) (fun _ => trivial) (fun _ => rfl) ⟨arg rfl, arg rfl, arg rfl, arg rfl, trivial⟩ (fun _ _ _ _ h => h)) rfl (fun _ => ?_)
  refine mv1 rfl rfl ?_
  refine s_rd (r_extract rfl rfl) rfl ?_
  refine s_rd (r_extract rfl rfl) rfl ?_
  refine s_st (s_alloc zt_36) rfl (fun b56 => ?_)
  refine s_st0 (s_cstore (out := [iv .i64 t55.1.Num, iv .i64 t55.1.Den]) Tryd.sizeOf36 rfl (j := 5) rfl (part_agO (ψs := [iv .i64 t55.1.Num, iv .i64 t55.1.Den]) rfl ⟨.inl iv_at, .inl iv_at, trivial⟩) rfl rfl rfl) (fun _ => ?_)
  refine as1 rfl rfl ?_
  refine l_nil ?_
  refine b_of (nrm [oc b4 [iv .i64 t3.1.N, slv rT_api_Pair t3.1.L], oc b6 [slv rT_api_Fraction t5.1.Nodes, slv rT_api_Fraction t5.1.Attacks], oc b7 [iv .i64 q53.1.Num, iv .i64 q53.1.Den], oc b8 [iv .i64 q53.2.Num, iv .i64 q53.2.Den], tbO (rI .u8) 0 tab_0, oc b56 [iv .i64 t55.1.Num, iv .i64 t55.1.Den]] rfl) ?_
  refine n_then (ref_seq (ref_region ?_))
  refine mv1 rfl rfl ?_
  refine s_rd (r_eql rfl rfl) rfl ?_
  refine mv1 rfl rfl ?_
  refine b_split (t := 66) rfl (fun _ => ?_) (fun _ => ?_)
  · refine s_on rfl rfl rfl ?_
    refine s_rd (r_cloadS Tryd.isAgg36 Tryd.sizeOf36 rfl (j := 2) rfl rfl rfl) rfl ?_
    refine s_on rfl rfl rfl ?_
    refine s_rd (r_build (ps := [(0, .const (.int .i64 (1))), (1, .const (.int .i64 (1)))]) (rs := [(0, [iv .i64 1]), (1, [iv .i64 1])]) st_36 zs_36 ⟨rfl, (part_at rfl iv_at), ⟨rfl, (part_at rfl iv_at), trivial⟩⟩ rfl rfl) rfl ?_
    refine s_on rfl rfl rfl ?_
    refine s_rd (r_steql (u := q53.1) (v := (T_api_Fraction.mk 1 1)) eq_36 rfl rfl rfl rfl) rfl ?_
    refine s_rd (r_pickT rfl rfl) rfl ?_
    refine mv1 rfl rfl ?_
    refine b_split (t := 71) rfl (fun _ => ?_) (fun _ => ?_)
    · refine s_on rfl rfl rfl ?_
      refine s_rd (r_cloadS Tryd.isAgg36 Tryd.sizeOf36 rfl (j := 3) rfl rfl rfl) rfl ?_
      refine s_on rfl rfl rfl ?_
      refine s_rd (r_cloadS Tryd.isAgg36 Tryd.sizeOf36 rfl (j := 5) rfl rfl rfl) rfl ?_
      refine s_on rfl rfl rfl ?_
      refine s_rd (r_steql (u := q53.2) (v := t55.1) eq_36 rfl rfl rfl rfl) rfl ?_
      refine s_rd (r_pickT rfl rfl) rfl ?_
      refine mv1 rfl rfl ?_
      refine b_split (t := 76) rfl (fun _ => ?_) (fun _ => ?_)
      · refine s_on rfl rfl rfl ?_
        refine pull fun t57 h_t57 => ?_
        refine s_st (s_callC [4] [true] (fun (_ : Unit) => [tbO (rI .u8) 0 tab_0]) (fun (_ : Unit) => []) (fun (_ : Unit) => bv t57) (args := []) (caps := []) Tryd.call14 rfl (law23_awake_ok h_t57) ⟨rfl, rfl, trivial⟩ (fun _ => rfl) (fun _ => trivial) (fun _ => rfl) trivial (fun _ _ _ _ h => h)) rfl (fun _ => ?_)
        refine s_rd (r_pickT rfl rfl) rfl ?_
        refine as1 rfl rfl ?_
        refine l_nil (n_then (ref_ret ?_))
        exact fin1 (.inl rfl) () [4] rfl ⟨rfl, trivial⟩ rfl (rv_tmp rfl)
      refine s_off rfl rfl rfl rfl rfl ?_
      refine s_rd (r_pickF rfl rfl) rfl ?_
      refine as1 rfl rfl ?_
      refine l_nil (n_then (ref_ret ?_))
      exact fin1 (.inl rfl) () [4] rfl ⟨rfl, trivial⟩ rfl (rv_tmp rfl)
    refine s_off rfl rfl rfl rfl rfl ?_
    refine s_off rfl rfl rfl rfl rfl ?_
    refine s_off rfl rfl rfl rfl rfl ?_
    refine s_rd (r_pickF rfl rfl) rfl ?_
    refine mv1 rfl rfl ?_
    refine s_off rfl rfl rfl rfl rfl ?_
    refine s_rd (r_pickF rfl rfl) rfl ?_
    refine as1 rfl rfl ?_
    refine l_nil (n_then (ref_ret ?_))
    exact fin1 (.inl rfl) () [4] rfl ⟨rfl, trivial⟩ rfl (rv_tmp rfl)
  refine s_off rfl rfl rfl rfl rfl ?_
  refine s_off rfl rfl rfl rfl rfl ?_
  refine s_off rfl rfl rfl rfl rfl ?_
  refine s_rd (r_pickF rfl rfl) rfl ?_
  refine mv1 rfl rfl ?_
  refine s_off rfl rfl rfl rfl rfl ?_
  refine s_off rfl rfl rfl rfl rfl ?_
  refine s_off rfl rfl rfl rfl rfl ?_
  refine s_rd (r_pickF rfl rfl) rfl ?_
  refine mv1 rfl rfl ?_
  refine s_off rfl rfl rfl rfl rfl ?_
  refine s_rd (r_pickF rfl rfl) rfl ?_
  refine as1 rfl rfl ?_
  refine l_nil (n_then (ref_ret ?_))
  exact fin1 (.inl rfl) () [4] rfl ⟨rfl, trivial⟩ rfl (rv_tmp rfl)

end Go.Dc
