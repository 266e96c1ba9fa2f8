/- Part LAW23A.A3 of a proof: lemmas. -/
import Derived.Test.YtkcaadcoagimdaaDoorLAW23AA2
import Derived.Test.YtkcaadcoagimdaaDoorProg
set_option linter.unusedVariables false
set_option maxRecDepth 100000
set_option maxHeartbeats 4000000
namespace Go.Dc
open Go.Proofs
open Go.Proofs.Tryd (prog)

/-! deliberation/deliberationnet.Same -/
noncomputable def net_Same_m (a__0 : T_api_Graph) (b_1 : T_api_Graph) : Option (Bool) :=
  bif a__0.N == b_1.N then
    Option.bind (net_Pairs_m a__0.L b_1.L) fun t3 =>
    some t3
  else
    some false

theorem net_Same_ok {a__0 : T_api_Graph} {b_1 : T_api_Graph} {r : Bool} (hm : net_Same_m a__0 b_1 = some r) :
    FnOk prog 28 [ag [iv .i64 a__0.N, slv rT_api_Pair a__0.L], ag [iv .i64 b_1.N, slv rT_api_Pair b_1.L]] [] (fun (x : Unit) => [bv r]) (fun (x : Unit) => []) := by
  refine fn_ok (fn := Tryd.f28) (N := 17) (res := fun r x => [bv r]) (Ω1 := fun r x => []) Tryd.func28 rfl rfl hm rfl (fun E hM => ?_)
  unfold net_Same_m
  refine ref_seq (ref_region ?_)
  refine s_st (s_box (part_agO (ψs := [iv .i64 a__0.N, slv rT_api_Pair a__0.L]) rfl ⟨.inl iv_at, .inl slv_at, trivial⟩)) rfl (fun b1 => ?_)
  refine s_st (s_box (part_agO (ψs := [iv .i64 b_1.N, slv rT_api_Pair b_1.L]) rfl ⟨.inl iv_at, .inl slv_at, trivial⟩)) rfl (fun b2 => ?_)
  refine as1 rfl rfl ?_
  refine l_nil (n_then (ref_seq (ref_region ?_)))
  refine s_rd (r_faddr (fo := 0) Tryd.underlying27 rfl rfl Tryd.sizeOf3 rfl) rfl ?_
  refine s_rd (r_cload Tryd.isAgg3 rfl (j := 0) rfl rfl) rfl ?_
  refine s_rd (r_faddr (fo := 0) Tryd.underlying27 rfl rfl Tryd.sizeOf3 rfl) rfl ?_
  refine s_rd (r_cload Tryd.isAgg3 rfl (j := 1) rfl rfl) rfl ?_
  refine s_rd (r_eql rfl rfl) rfl ?_
  refine mv1 rfl rfl ?_
  refine b_split (t := 10) rfl (fun _ => ?_) (fun _ => ?_)
  · refine s_on rfl rfl rfl ?_
    refine s_rd (r_faddr (fo := 1) Tryd.underlying27 rfl rfl Tryd.sizeOf25 rfl) rfl ?_
    refine s_on rfl rfl rfl ?_
    refine s_rd (r_cload Tryd.isAgg25 rfl (j := 0) rfl rfl) rfl ?_
    refine s_on rfl rfl rfl ?_
    refine s_rd (r_faddr (fo := 1) Tryd.underlying27 rfl rfl Tryd.sizeOf25 rfl) rfl ?_
    refine s_on rfl rfl rfl ?_
    refine s_rd (r_cload Tryd.isAgg25 rfl (j := 1) rfl rfl) rfl ?_
    refine s_on rfl rfl rfl ?_
    refine pull fun t3 h_t3 => ?_
    refine s_st (s_call (ψ := fun (_ : Unit) => bv t3) (args := [.tmp 12, .tmp 14]) Tryd.call53 rfl (net_Pairs_ok h_t3) ⟨arg rfl, arg rfl, trivial⟩ (fun _ _ _ _ h => h)) rfl (fun _ => ?_)
    refine s_rd (r_pickT rfl rfl) rfl ?_
    refine as1 rfl rfl ?_
    refine l_nil (n_then (ref_ret ?_))
    exact fin1 (.inl rfl) () [] rfl trivial rfl (rv_tmp rfl)
  refine s_off rfl rfl rfl rfl rfl ?_
  refine s_off rfl rfl rfl rfl rfl ?_
  refine s_off rfl rfl rfl rfl rfl ?_
  refine s_off rfl rfl rfl rfl rfl ?_
  refine s_off rfl rfl rfl rfl rfl ?_
  refine s_rd (r_pickF rfl rfl) rfl ?_
  refine as1 rfl rfl ?_
  refine l_nil (n_then (ref_ret ?_))
  exact fin1 (.inl rfl) () [] rfl trivial rfl (rv_tmp rfl)

/-! deliberation/deliberationkeep.Ints -/
noncomputable def keep_Ints_l1 (a__0 : (List Int)) (b_1 : (List Int)) (s8 : Int) : Option (Sum ((Sum (Bool) (Unit))) (Int)) :=
  bif decide (s8 < (a__0.length : Int)) then
    Option.bind (idxM a__0 s8) fun t11 =>
    Option.bind (idxM b_1 s8) fun t12 =>
    bif t11 != t12 then
      some (Sum.inl (Sum.inl false))
    else
      some (Sum.inr (iadd .i64 s8 1))
  else
    some (Sum.inl (Sum.inr ()))

noncomputable def keep_Ints_m (a__0 : (List Int)) (b_1 : (List Int)) : Option (Bool) :=
  bif (a__0.length : Int) != (b_1.length : Int) then
    some false
  else
    Option.bind (loopC (keep_Ints_l1 a__0 b_1) 0) (sumK (fun a : Bool => some a) fun q14 : Unit =>
      some true)

theorem keep_Ints_ok {a__0 : (List Int)} {b_1 : (List Int)} {r : Bool} (hm : keep_Ints_m a__0 b_1 = some r) :
    FnOk prog 29 [slv (rI .i64) a__0, slv (rI .i64) b_1] [] (fun (x : Unit) => [bv r]) (fun (x : Unit) => []) := by
  refine fn_ok (fn := Tryd.f29) (N := 26) (res := fun r x => [bv r]) (Ω1 := fun r x => []) Tryd.func29 rfl rfl hm rfl (fun E hM => ?_)
  unfold keep_Ints_m
  refine ref_seq (ref_region ?_)
  refine as1 rfl rfl ?_
  refine l_nil (n_then (ref_seq (ref_seq (ref_region ?_))))
  refine mv1 rfl rfl ?_
  refine s_rd (r_len Tryd.underlying22 rfl) rfl ?_
  refine mv1 rfl rfl ?_
  refine s_rd (r_len Tryd.underlying22 rfl) rfl ?_
  refine s_rd (r_neq rfl rfl) rfl ?_
  refine l_nil (n_then ?_)
  refine ref_cond rfl (fun hb1 => ?_) (fun hb1 => ?_)
  · refine ref_seq (ref_region ?_)
    refine as1 rfl rfl ?_
    refine l_nil (n_then (ref_ret (r_then ?_)))
    exact fin1 (.inl rfl) () [] rfl trivial rfl (rv_tmp rfl)
  refine ref_skip (n_then (ref_seq (ref_seq (ref_region ?_))))
  refine mv1 rfl rfl ?_
  refine s_rd (r_len Tryd.underlying22 rfl) rfl ?_
  refine mv1 rfl rfl ?_
  refine l_nil (n_then ?_)
  refine ref_loopX (f := (keep_Ints_l1 a__0 b_1)) (Γl := (fun (s8 : Int) (x9 : Unit) => [(0, slv (rI .i64) a__0), (1, slv (rI .i64) b_1), (12, iv .i64 (a__0.length : Int)), (13, iv .i64 s8)])) (Ωl := (fun (s8 : Int) (x9 : Unit) => [])) (Γb := (fun (q14 : Unit) (y15 : Unit) => [])) (Ωb := (fun (q14 : Unit) (y15 : Unit) => [])) (kr := (fun a : Bool => some a)) 0 () (weak [] ⟨rfl, rfl, rfl, rfl, trivial⟩ trivial) (fun s8 x9 => ?_) (fun q14 y15 => ?_)
  · unfold keep_Ints_l1
    refine ref_seq (ref_region ?_)
    refine s_rd (r_lss rfl rfl) rfl ?_
    refine l_nil (n_then (ref_seq ?_))
    refine ref_cond rfl (fun hb10 => ?_) (fun hb10 => ?_)
    · refine ref_skip (n_then (ref_seq (ref_block (ref_seq (ref_region ?_)))))
      refine mv1 rfl rfl ?_
      refine as1 rfl rfl ?_
      refine l_nil (n_then (ref_seq ?_))
      refine ref_draw [0, 1, 2, 3, 4, 5, 6, 7, 8] rfl (by kernel_rfl) (fun hok => ?_)
      refine a_rd (i := 0) hok rfl (by kernel_rfl) rfl (r_move rfl) rfl ?_
      refine a_rd (i := 1) hok rfl (by kernel_rfl) rfl (r_move rfl) rfl ?_
      refine pull fun t11 h_t11 => ?_
      refine a_rd (i := 2) hok rfl (by kernel_rfl) rfl (r_index h_t11 Tryd.underlying22 el_3 rfl rfl) rfl ?_
      refine a_rd (i := 3) hok rfl (by kernel_rfl) rfl (r_load el_3 rfl) rfl ?_
      refine a_rd (i := 4) hok rfl (by kernel_rfl) rfl (r_move rfl) rfl ?_
      refine a_rd (i := 5) hok rfl (by kernel_rfl) rfl (r_move rfl) rfl ?_
      refine pull fun t12 h_t12 => ?_
      refine a_rd (i := 6) hok rfl (by kernel_rfl) rfl (r_index h_t12 Tryd.underlying22 el_3 rfl rfl) rfl ?_
      refine a_rd (i := 7) hok rfl (by kernel_rfl) rfl (r_load el_3 rfl) rfl ?_
      refine a_rd (i := 8) hok rfl (by kernel_rfl) rfl (r_neq rfl rfl) rfl ?_
      refine a_fin hok (by kernel_rfl) ?_
      refine n_then ?_
      refine ref_cond rfl (fun hb13 => ?_) (fun hb13 => ?_)
      · refine ref_seq (ref_region ?_)
        refine as1 rfl rfl ?_
        refine l_nil (n_then (ref_ret (r_block (r_then ?_))))
        refine retX ?_
        refine r_block (r_then ?_)
        exact fin1 (.inl rfl) () [] rfl trivial rfl (rv_tmp rfl)
      refine ref_skip (n_block (n_then (ref_region ?_)))
      refine s_rd (r_add rfl rfl) rfl ?_
      refine mv1 rfl rfl ?_
      refine l_nil ?_
      exact goX () (weak [] ⟨rfl, rfl, rfl, rfl, trivial⟩ trivial)
    refine ref_exit (x_then ?_)
    exact brkX () (weak [] trivial trivial)
  refine n_then (ref_seq (ref_region ?_))
  refine as1 rfl rfl ?_
  refine l_nil (n_then (ref_ret ?_))
  exact fin1 (.inl rfl) () [] rfl trivial rfl (rv_tmp rfl)

/-! deliberation/deliberationlaw23.ChanceAnswers -/
noncomputable def law23_ChanceAnswers_l1 (raw_0 : T_api_Graph) (given_1 : T_api_Odds) (set__3 : (List Int)) (question_4 : Int) (t15 : T_api_Graph × T_deliberationkeep_Src) (t17 : T_api_Odds × T_deliberationkeep_Src) (a_19 : List Int × T_deliberationkeep_Src) (b21 : List Int × T_deliberationkeep_Src) (q23 : Int × T_deliberationkeep_Src) (s49 : Int) : Option (Sum ((Sum (Bool) (Unit))) (Int)) :=
  bif decide (s49 < ([(T_anon55.mk t15.1 t17.1 a_19.1 b21.1 q23.1), (T_anon55.mk t15.1 t17.1 set__3 b21.1 q23.1), (T_anon55.mk t15.1 t17.1 a_19.1 set__3 question_4), (T_anon55.mk t15.1 given_1 a_19.1 b21.1 q23.1), (T_anon55.mk raw_0 given_1 set__3 b21.1 question_4)].length : Int)) then
    Option.bind (idxM [(T_anon55.mk t15.1 t17.1 a_19.1 b21.1 q23.1), (T_anon55.mk t15.1 t17.1 set__3 b21.1 q23.1), (T_anon55.mk t15.1 t17.1 a_19.1 set__3 question_4), (T_anon55.mk t15.1 given_1 a_19.1 b21.1 q23.1), (T_anon55.mk raw_0 given_1 set__3 b21.1 question_4)] s49) fun t52 =>
    Option.bind (chance_Joint_m t52.g t52.o t52.a' t52.q) fun t54 =>
    Option.bind (ref23_Joint_m t52.g t52.o t52.a' t52.q) fun t56 =>
    Option.bind (chance_Given_m t52.g t52.o t52.a' t52.b t52.q) fun t58 =>
    Option.bind (ref23_Given_m t52.g t52.o t52.a' t52.b t52.q) fun t60 =>
    bif t54.2 != t56.2 then
      some (Sum.inl (Sum.inl false))
    else
      bif t58.2 != t60.2 then
        some (Sum.inl (Sum.inl false))
      else
        bif !decide (t54.1 = t56.1) then
          some (Sum.inl (Sum.inl false))
        else
          bif !decide (t58.1 = t60.1) then
            some (Sum.inl (Sum.inl false))
          else
            Option.bind (chance_Extension_m t52.g t52.o t52.a') fun t63 =>
            Option.bind (ref23_Extension_m t52.g t52.o t52.a') fun t64 =>
            Option.bind (chance_Certain_m t52.g t52.o) fun t65 =>
            Option.bind (ref23_Certain_m t52.g t52.o) fun t68 =>
            bif t63.2 != t64.2 then
              some (Sum.inl (Sum.inl false))
            else
              bif t65.2.2 != t68.2.2 then
                some (Sum.inl (Sum.inl false))
              else
                bif !decide (t63.1 = t64.1) then
                  some (Sum.inl (Sum.inl false))
                else
                  Option.bind (net_Same_m t65.1 t68.1) fun t71 =>
                  bif !t71 then
                    some (Sum.inl (Sum.inl false))
                  else
                    Option.bind (keep_Ints_m t65.2.1 t68.2.1) fun t72 =>
                    bif !t72 then
                      some (Sum.inl (Sum.inl false))
                    else
                      some (Sum.inr (iadd .i64 s49 1))
  else
    some (Sum.inl (Sum.inr ()))

noncomputable def law23_ChanceAnswers_m (raw_0 : T_api_Graph) (given_1 : T_api_Odds) (l_2 : (List Int)) (set__3 : (List Int)) (question_4 : Int) : Option (Bool) :=
  joinM (fun j10 : Unit =>
      Option.bind (keep_New_m l_2) fun s13 =>
      Option.bind (net_Graph_m s13 5) fun t15 =>
      Option.bind (law23_odds_m t15.2 t15.1 6) fun t17 =>
      Option.bind (net_Some_m t17.2 t15.1.N) fun a_19 =>
      Option.bind (net_Some_m a_19.2 t15.1.N) fun b21 =>
      Option.bind (keep_Src_Range_m b21.2 1 4) fun q23 =>
      Option.bind (loopC (law23_ChanceAnswers_l1 raw_0 given_1 set__3 question_4 t15 t17 a_19 b21 q23) 0) (sumK (fun a : Bool => some a) fun q74 : Unit =>
        Option.bind (law23_awake_m ) fun t76 =>
        some t76)) fun k12 =>
  Option.bind (net_Light_m raw_0) fun t3 =>
  bif !t3 then
    Option.bind (law23_awake_m ) fun t4 =>
    some t4
  else
    bif decide ((given_1.Nodes.length : Int) > 60) then
      Option.bind (law23_awake_m ) fun t5 =>
      some t5
    else
      bif decide ((given_1.Attacks.length : Int) > 310) then
        Option.bind (law23_awake_m ) fun t6 =>
        some t6
      else
        bif decide ((set__3.length : Int) > 40) then
          Option.bind (law23_awake_m ) fun t7 =>
          some t7
        else
          bif decide (raw_0.N > 5) then
            bif decide (raw_0.N ≤ 10) then
              Option.bind (law23_awake_m ) fun t9 =>
              some t9
            else
              k12 ()
          else
            k12 ()

theorem law23_ChanceAnswers_ok {raw_0 : T_api_Graph} {given_1 : T_api_Odds} {l_2 : (List Int)} {set__3 : (List Int)} {question_4 : Int} {r : Bool} (hm : law23_ChanceAnswers_m raw_0 given_1 l_2 set__3 question_4 = some r) :
    FnOk prog 6 [ag [iv .i64 raw_0.N, slv rT_api_Pair raw_0.L], ag [slv rT_api_Fraction given_1.Nodes, slv rT_api_Fraction given_1.Attacks], slv (rI .i64) l_2, slv (rI .i64) set__3, iv .i64 question_4] [tbO (rI .u8) 0 tab_0] (fun (x : Unit) => [bv r]) (fun (x : Unit) => [tbO (rI .u8) 0 tab_0]) := by
  refine fn_ok (fn := Tryd.f6) (N := 252) (res := fun r x => [bv r]) (Ω1 := fun r x => [tbO (rI .u8) 0 tab_0]) Tryd.func6 rfl rfl hm rfl (fun E hM => ?_)
  unfold law23_ChanceAnswers_m
  refine ref_seq (ref_region ?_)
  refine s_st (s_box (part_agO (ψs := [iv .i64 raw_0.N, slv rT_api_Pair raw_0.L]) rfl ⟨.inl iv_at, .inl slv_at, trivial⟩)) rfl (fun b1 => ?_)
  refine s_st (s_box (part_agO (ψs := [slv rT_api_Fraction given_1.Nodes, slv rT_api_Fraction given_1.Attacks]) rfl ⟨.inl slv_at, .inl slv_at, trivial⟩)) rfl (fun b2 => ?_)
  refine as1 rfl rfl ?_
  refine l_nil (n_then (ref_seq ?_))
  refine ref_join (fun (j10 : Unit) (x11 : Unit) => [(2, slv (rI .i64) l_2), (3, slv (rI .i64) set__3), (4, iv .i64 question_4), (5, pv (ptr b1 0)), (6, pv (ptr b2 0))]) (fun (j10 : Unit) (x11 : Unit) => [oc b1 [iv .i64 raw_0.N, slv rT_api_Pair raw_0.L], oc b2 [slv rT_api_Fraction given_1.Nodes, slv rT_api_Fraction given_1.Attacks], tbO (rI .u8) 0 tab_0]) (fun k12 hk12 => ?_) (fun j10 x11 => ?_)
  · refine ref_seq (ref_region ?_)
    refine s_rd (r_cloadS Tryd.isAgg27 Tryd.sizeOf27 rfl (j := 1) rfl rfl rfl) rfl ?_
    refine pull fun t3 h_t3 => ?_
    refine s_st (s_call (ψ := fun (_ : Unit) => bv t3) (args := [.tmp 33]) Tryd.call22 rfl (net_Light_ok h_t3) ⟨arg rfl, trivial⟩ (fun _ _ _ _ h => h)) rfl (fun _ => ?_)
    refine s_rd (r_not rfl) rfl ?_
    refine mv1 rfl rfl ?_
    refine b_split (t := 36) rfl (fun _ => ?_) (fun _ => ?_)
    · refine s_off rfl rfl rfl rfl rfl ?_
      refine s_off rfl rfl rfl rfl rfl ?_
      refine s_off rfl rfl rfl rfl rfl ?_
      refine s_off rfl rfl rfl rfl rfl ?_
      refine s_rd (r_pickT rfl rfl) rfl ?_
      refine mv1 rfl rfl ?_
      refine s_off rfl rfl rfl rfl rfl ?_
      refine s_off rfl rfl rfl rfl rfl ?_
      refine s_off rfl rfl rfl rfl rfl ?_
      refine s_off rfl rfl rfl rfl rfl ?_
      refine s_rd (r_pickT rfl rfl) rfl ?_
      refine mv1 rfl rfl ?_
      refine s_off rfl rfl rfl rfl rfl ?_
      refine s_off rfl rfl rfl rfl rfl ?_
      refine s_off rfl rfl rfl rfl rfl ?_
      refine s_rd (r_pickT rfl rfl) rfl ?_
      refine mv1 rfl rfl ?_
      refine s_off rfl rfl rfl rfl rfl ?_
      refine s_off rfl rfl rfl rfl rfl ?_
      refine s_off rfl rfl rfl rfl rfl ?_
      refine s_off rfl rfl rfl rfl rfl ?_
      refine s_offU rfl rfl rfl ?_
      refine s_offU rfl rfl rfl ?_
      refine s_offU rfl rfl rfl ?_
      refine s_off rfl rfl rfl rfl rfl ?_
      refine s_rd (r_pickT rfl rfl) rfl ?_
      refine l_nil (n_then ?_)
      refine ref_condT rfl rfl ?_
      refine ref_seq (ref_region ?_)
      refine pull fun t4 h_t4 => ?_
      refine s_st (s_callC [0] [true] (fun (_ : Unit) => [tbO (rI .u8) 0 tab_0]) (fun (_ : Unit) => []) (fun (_ : Unit) => bv t4) (args := []) (caps := []) Tryd.call14 rfl (law23_awake_ok h_t4) ⟨rfl, rfl, trivial⟩ (fun _ => rfl) (fun _ => trivial) (fun _ => rfl) trivial (fun _ _ _ _ h => h)) rfl (fun _ => ?_)
      refine as1 rfl rfl ?_
      refine l_nil ?_
      refine b_of (nrm [tbO (rI .u8) 0 tab_0, oc b1 [iv .i64 raw_0.N, slv rT_api_Pair raw_0.L], oc b2 [slv rT_api_Fraction given_1.Nodes, slv rT_api_Fraction given_1.Attacks]] rfl) ?_
      refine n_then (ref_ret (r_then ?_))
      exact fin1 (.inl rfl) () [0] rfl ⟨rfl, trivial⟩ rfl (rv_tmp rfl)
    refine s_on rfl rfl rfl ?_
    refine s_rd (r_faddr (fo := 0) Tryd.underlying31 rfl rfl Tryd.sizeOf29 rfl) rfl ?_
    refine s_on rfl rfl rfl ?_
    refine s_rd (r_cload Tryd.isAgg29 rfl (j := 2) rfl rfl) rfl ?_
    refine s_on rfl rfl rfl ?_
    refine s_rd (r_len Tryd.underlying29 rfl) rfl ?_
    refine s_on rfl rfl rfl ?_
    refine s_rd (r_gtr rfl rfl) rfl ?_
    refine s_rd (r_pickF rfl rfl) rfl ?_
    refine mv1 rfl rfl ?_
    refine b_split (t := 42) rfl (fun _ => ?_) (fun _ => ?_)
    · refine s_off rfl rfl rfl rfl rfl ?_
      refine s_off rfl rfl rfl rfl rfl ?_
      refine s_off rfl rfl rfl rfl rfl ?_
      refine s_off rfl rfl rfl rfl rfl ?_
      refine s_rd (r_pickT rfl rfl) rfl ?_
      refine mv1 rfl rfl ?_
      refine s_off rfl rfl rfl rfl rfl ?_
      refine s_off rfl rfl rfl rfl rfl ?_
      refine s_off rfl rfl rfl rfl rfl ?_
      refine s_rd (r_pickT rfl rfl) rfl ?_
      refine mv1 rfl rfl ?_
      refine s_off rfl rfl rfl rfl rfl ?_
      refine s_off rfl rfl rfl rfl rfl ?_
      refine s_off rfl rfl rfl rfl rfl ?_
      refine s_off rfl rfl rfl rfl rfl ?_
      refine s_offU rfl rfl rfl ?_
      refine s_offU rfl rfl rfl ?_
      refine s_offU rfl rfl rfl ?_
      refine s_off rfl rfl rfl rfl rfl ?_
      refine s_rd (r_pickT rfl rfl) rfl ?_
      refine l_nil (n_then ?_)
      refine ref_condT rfl rfl ?_
      refine ref_seq (ref_region ?_)
      refine pull fun t5 h_t5 => ?_
      refine s_st (s_callC [0] [true] (fun (_ : Unit) => [tbO (rI .u8) 0 tab_0]) (fun (_ : Unit) => []) (fun (_ : Unit) => bv t5) (args := []) (caps := []) Tryd.call14 rfl (law23_awake_ok h_t5) ⟨rfl, rfl, trivial⟩ (fun _ => rfl) (fun _ => trivial) (fun _ => rfl) trivial (fun _ _ _ _ h => h)) rfl (fun _ => ?_)
      refine as1 rfl rfl ?_
      refine l_nil ?_
      refine b_of (nrm [tbO (rI .u8) 0 tab_0, oc b1 [iv .i64 raw_0.N, slv rT_api_Pair raw_0.L], oc b2 [slv rT_api_Fraction given_1.Nodes, slv rT_api_Fraction given_1.Attacks]] rfl) ?_
      refine n_then (ref_ret (r_then ?_))
      exact fin1 (.inl rfl) () [0] rfl ⟨rfl, trivial⟩ rfl (rv_tmp rfl)
    refine s_on rfl rfl rfl ?_
    refine s_rd (r_faddr (fo := 1) Tryd.underlying31 rfl rfl Tryd.sizeOf29 rfl) rfl ?_
    refine s_on rfl rfl rfl ?_
    refine s_rd (r_cload Tryd.isAgg29 rfl (j := 2) rfl rfl) rfl ?_
    refine s_on rfl rfl rfl ?_
    refine s_rd (r_len Tryd.underlying29 rfl) rfl ?_
    refine s_on rfl rfl rfl ?_
    refine s_rd (r_gtr rfl rfl) rfl ?_
    refine s_rd (r_pickF rfl rfl) rfl ?_
    refine mv1 rfl rfl ?_
    refine b_split (t := 48) rfl (fun _ => ?_) (fun _ => ?_)
    · refine s_off rfl rfl rfl rfl rfl ?_
      refine s_off rfl rfl rfl rfl rfl ?_
      refine s_off rfl rfl rfl rfl rfl ?_
      refine s_rd (r_pickT rfl rfl) rfl ?_
      refine mv1 rfl rfl ?_
      refine s_off rfl rfl rfl rfl rfl ?_
      refine s_off rfl rfl rfl rfl rfl ?_
      refine s_off rfl rfl rfl rfl rfl ?_
      refine s_off rfl rfl rfl rfl rfl ?_
      refine s_offU rfl rfl rfl ?_
      refine s_offU rfl rfl rfl ?_
      refine s_offU rfl rfl rfl ?_
      refine s_off rfl rfl rfl rfl rfl ?_
      refine s_rd (r_pickT rfl rfl) rfl ?_
      refine l_nil (n_then ?_)
      refine ref_condT rfl rfl ?_
      refine ref_seq (ref_region ?_)
      refine pull fun t6 h_t6 => ?_
      refine s_st (s_callC [0] [true] (fun (_ : Unit) => [tbO (rI .u8) 0 tab_0]) (fun (_ : Unit) => []) (fun (_ : Unit) => bv t6) (args := []) (caps := []) Tryd.call14 rfl (law23_awake_ok h_t6) ⟨rfl, rfl, trivial⟩ (fun _ => rfl) (fun _ => trivial) (fun _ => rfl) trivial (fun _ _ _ _ h => h)) rfl (fun _ => ?_)
      refine as1 rfl rfl ?_
      refine l_nil ?_
      refine b_of (nrm [tbO (rI .u8) 0 tab_0, oc b1 [iv .i64 raw_0.N, slv rT_api_Pair raw_0.L], oc b2 [slv rT_api_Fraction given_1.Nodes, slv rT_api_Fraction given_1.Attacks]] rfl) ?_
      refine n_then (ref_ret (r_then ?_))
      exact fin1 (.inl rfl) () [0] rfl ⟨rfl, trivial⟩ rfl (rv_tmp rfl)
    refine s_on rfl rfl rfl ?_
    refine mv1 rfl rfl ?_
    refine s_on rfl rfl rfl ?_
    refine s_rd (r_len Tryd.underlying22 rfl) rfl ?_
    refine s_on rfl rfl rfl ?_
    refine s_rd (r_gtr rfl rfl) rfl ?_
    refine s_rd (r_pickF rfl rfl) rfl ?_
    refine mv1 rfl rfl ?_
    refine b_split (t := 53) rfl (fun _ => ?_) (fun _ => ?_)
    · refine s_off rfl rfl rfl rfl rfl ?_
      refine s_off rfl rfl rfl rfl rfl ?_
      refine s_off rfl rfl rfl rfl rfl ?_
      refine s_off rfl rfl rfl rfl rfl ?_
      refine s_offU rfl rfl rfl ?_
      refine s_offU rfl rfl rfl ?_
      refine s_offU rfl rfl rfl ?_
      refine s_off rfl rfl rfl rfl rfl ?_
      refine s_rd (r_pickT rfl rfl) rfl ?_
      refine l_nil (n_then ?_)
      refine ref_condT rfl rfl ?_
      refine ref_seq (ref_region ?_)
      refine pull fun t7 h_t7 => ?_
      refine s_st (s_callC [0] [true] (fun (_ : Unit) => [tbO (rI .u8) 0 tab_0]) (fun (_ : Unit) => []) (fun (_ : Unit) => bv t7) (args := []) (caps := []) Tryd.call14 rfl (law23_awake_ok h_t7) ⟨rfl, rfl, trivial⟩ (fun _ => rfl) (fun _ => trivial) (fun _ => rfl) trivial (fun _ _ _ _ h => h)) rfl (fun _ => ?_)
      refine as1 rfl rfl ?_
      refine l_nil ?_
      refine b_of (nrm [tbO (rI .u8) 0 tab_0, oc b1 [iv .i64 raw_0.N, slv rT_api_Pair raw_0.L], oc b2 [slv rT_api_Fraction given_1.Nodes, slv rT_api_Fraction given_1.Attacks]] rfl) ?_
      refine n_then (ref_ret (r_then ?_))
      exact fin1 (.inl rfl) () [0] rfl ⟨rfl, trivial⟩ rfl (rv_tmp rfl)
    refine s_on rfl rfl rfl ?_
    refine s_rd (r_faddr (fo := 0) Tryd.underlying27 rfl rfl Tryd.sizeOf3 rfl) rfl ?_
    refine s_on rfl rfl rfl ?_
    refine s_rd (r_cload Tryd.isAgg3 rfl (j := 1) rfl rfl) rfl ?_
    refine s_on rfl rfl rfl ?_
    refine s_rd (r_gtr rfl rfl) rfl ?_
    refine s_on rfl rfl rfl ?_
    refine mv1 rfl rfl ?_
    refine b_split (t := 57) rfl (fun _ => ?_) (fun _ => ?_)
    · refine s_on rfl rfl rfl ?_
      refine s_rd (r_faddr (fo := 0) Tryd.underlying27 rfl rfl Tryd.sizeOf3 rfl) rfl ?_
      refine s_on rfl rfl rfl ?_
      refine s_rd (r_cload Tryd.isAgg3 rfl (j := 1) rfl rfl) rfl ?_
      refine s_on rfl rfl rfl ?_
      refine s_rd (r_leq rfl rfl) rfl ?_
      refine s_on rfl rfl rfl ?_
      refine s_rd (r_pickT rfl rfl) rfl ?_
      refine s_rd (r_pickF rfl rfl) rfl ?_
      refine l_nil (n_then ?_)
      refine ref_cond rfl (fun hb8 => ?_) (fun hb8 => ?_)
      · refine ref_seq (ref_region ?_)
        refine pull fun t9 h_t9 => ?_
        refine s_st (s_callC [0] [true] (fun (_ : Unit) => [tbO (rI .u8) 0 tab_0]) (fun (_ : Unit) => []) (fun (_ : Unit) => bv t9) (args := []) (caps := []) Tryd.call14 rfl (law23_awake_ok h_t9) ⟨rfl, rfl, trivial⟩ (fun _ => rfl) (fun _ => trivial) (fun _ => rfl) trivial (fun _ _ _ _ h => h)) rfl (fun _ => ?_)
        refine as1 rfl rfl ?_
        refine l_nil ?_
        refine b_of (nrm [tbO (rI .u8) 0 tab_0, oc b1 [iv .i64 raw_0.N, slv rT_api_Pair raw_0.L], oc b2 [slv rT_api_Fraction given_1.Nodes, slv rT_api_Fraction given_1.Attacks]] rfl) ?_
        refine n_then (ref_ret (r_then ?_))
        exact fin1 (.inl rfl) () [0] rfl ⟨rfl, trivial⟩ rfl (rv_tmp rfl)
      refine ref_skip ?_
      exact b_to (hk12 () ()) (weak [1, 2, 0] ⟨rfl, rfl, rfl, rfl, rfl, trivial⟩ ⟨rfl, rfl, rfl, trivial⟩)
    refine s_off rfl rfl rfl rfl rfl ?_
    refine s_off rfl rfl rfl rfl rfl ?_
    refine s_off rfl rfl rfl rfl rfl ?_
    refine s_on rfl rfl rfl ?_
    refine s_rd (r_pickF rfl rfl) rfl ?_
    refine s_rd (r_pickF rfl rfl) rfl ?_
    refine l_nil (n_then ?_)
    refine ref_condF rfl rfl ?_
    refine ref_skip ?_
    exact b_to (hk12 () ()) (weak [1, 2, 0] ⟨rfl, rfl, rfl, rfl, rfl, trivial⟩ ⟨rfl, rfl, rfl, trivial⟩)
  refine n_then (ref_seq (ref_region ?_))
  refine mv1 rfl rfl ?_
  refine pull fun s13 h_s13 => ?_
  refine s_st (s_call (ψ := fun (x14 : Nat) => pv (ptr x14 0)) (args := [.tmp 64]) Tryd.call7 rfl (keep_New_ok h_s13) ⟨arg rfl, trivial⟩ (fun _ _ _ _ h => h)) rfl (fun x14 => ?_)
  refine as1 rfl rfl ?_
  refine l_nil (n_then (ref_seq (ref_region ?_)))
  refine mv1 rfl rfl ?_
  refine pull fun t15 h_t15 => ?_
  refine s_st (s_callC [3] [true] (fun (_ : Unit) => [oc x14 [slv (rI .i64) t15.2.L, iv .i64 t15.2.At]]) (fun (_ : Unit) => []) (fun (_ : Unit) => ag [iv .i64 t15.1.N, slv rT_api_Pair t15.1.L]) (args := [.tmp 66, .const (.int .i64 (5))]) (caps := []) Tryd.call8 rfl (net_Graph_ok h_t15) ⟨rfl, rfl, trivial⟩ (fun _ => rfl) (fun _ => trivial) (fun _ => rfl) ⟨arg rfl, arg rfl, trivial⟩ (fun _ _ _ _ h => h)) rfl (fun _ => ?_)
  refine s_st (s_alloc zt_27) rfl (fun b16 => ?_)
  refine s_st0 (s_cstore (out := [iv .i64 t15.1.N, slv rT_api_Pair t15.1.L]) Tryd.sizeOf27 rfl (j := 4) rfl (part_agO (ψs := [iv .i64 t15.1.N, slv rT_api_Pair t15.1.L]) rfl ⟨.inl iv_at, .inl slv_at, trivial⟩) rfl rfl rfl) (fun _ => ?_)
  refine l_nil ?_
  refine b_of (nrm [oc b1 [iv .i64 raw_0.N, slv rT_api_Pair raw_0.L], oc b2 [slv rT_api_Fraction given_1.Nodes, slv rT_api_Fraction given_1.Attacks], tbO (rI .u8) 0 tab_0, oc x14 [slv (rI .i64) t15.2.L, iv .i64 t15.2.At], oc b16 [iv .i64 t15.1.N, slv rT_api_Pair t15.1.L]] rfl) ?_
  refine n_then (ref_seq (ref_region ?_))
  refine mv1 rfl rfl ?_
  refine s_rd (r_cloadS Tryd.isAgg27 Tryd.sizeOf27 rfl (j := 4) rfl rfl rfl) rfl ?_
  refine pull fun t17 h_t17 => ?_
  refine s_st (s_callC [3] [true] (fun (_ : Unit) => [oc x14 [slv (rI .i64) t17.2.L, iv .i64 t17.2.At]]) (fun (_ : Unit) => []) (fun (_ : Unit) => ag [slv rT_api_Fraction t17.1.Nodes, slv rT_api_Fraction t17.1.Attacks]) (args := [.tmp 68, .tmp 69, .const (.int .i64 (6))]) (caps := []) Tryd.call9 rfl (law23_odds_ok h_t17) ⟨rfl, rfl, trivial⟩ (fun _ => rfl) (fun _ => trivial) (fun _ => rfl) ⟨arg rfl, arg rfl, arg rfl, trivial⟩ (fun _ _ _ _ h => h)) rfl (fun _ => ?_)
  refine s_st (s_alloc zt_31) rfl (fun b18 => ?_)
  refine s_st0 (s_cstore (out := [slv rT_api_Fraction t17.1.Nodes, slv rT_api_Fraction t17.1.Attacks]) Tryd.sizeOf31 rfl (j := 5) rfl (part_agO (ψs := [slv rT_api_Fraction t17.1.Nodes, slv rT_api_Fraction t17.1.Attacks]) rfl ⟨.inl slv_at, .inl slv_at, trivial⟩) rfl rfl rfl) (fun _ => ?_)
  refine l_nil (n_then (ref_seq ?_))
  refine ref_draw [0, 1, 2, 4, 5, 6] rfl (by kernel_rfl) (fun hok => ?_)
  refine a_rd (i := 0) hok rfl (by kernel_rfl) rfl (r_move rfl) rfl ?_
  refine a_rd (i := 1) hok rfl (by kernel_rfl) rfl (r_faddr (fo := 0) Tryd.underlying27 rfl rfl Tryd.sizeOf3 rfl) rfl ?_
  refine a_rd (i := 2) hok rfl (by kernel_rfl) rfl (r_cload Tryd.isAgg3 rfl (j := 4) rfl rfl) rfl ?_
  refine a_rd (i := 4) hok rfl (by kernel_rfl) rfl (r_move rfl) rfl ?_
  refine a_rd (i := 5) hok rfl (by kernel_rfl) rfl (r_faddr (fo := 0) Tryd.underlying27 rfl rfl Tryd.sizeOf3 rfl) rfl ?_
  refine a_rd (i := 6) hok rfl (by kernel_rfl) rfl (r_cload Tryd.isAgg3 rfl (j := 4) rfl rfl) rfl ?_
  refine pull fun a_19 h_a_19 => ?_
  refine a_next hok 3 [] (by kernel_rfl) ?_ trivial
  refine a_st (i := 3) hok rfl rfl (s_callC [3] [true] (fun (x20 : (Value × List Nat)) => [oc x14 [slv (rI .i64) a_19.2.L, iv .i64 a_19.2.At]]) (fun (x20 : (Value × List Nat)) => [oa (rI .i64) x20.1 x20.2 a_19.1]) (fun (x20 : (Value × List Nat)) => pv x20.1) (args := [.tmp 71, .tmp 73]) (caps := []) Tryd.call10 rfl (net_Some_ok h_a_19) ⟨rfl, rfl, trivial⟩ (fun _ => rfl) (fun _ => trivial) (fun _ => rfl) ⟨arg rfl, arg rfl, trivial⟩ (fun _ _ _ _ h => h)) (by intro _ h; cases h; rfl) (fun _ => ⟨⟨⟨rfl, rfl⟩, trivial⟩, ⟨trivial, ⟨trivial, ⟨trivial, ⟨trivial, ⟨trivial, trivial⟩⟩⟩⟩⟩⟩) (fun x20 => ?_)
  refine pull fun b21 h_b21 => ?_
  refine a_next hok 7 [] (by kernel_rfl) ?_ trivial
  refine a_st (i := 7) hok rfl rfl (s_callC [3] [true] (fun (x22 : (Value × List Nat)) => [oc x14 [slv (rI .i64) b21.2.L, iv .i64 b21.2.At]]) (fun (x22 : (Value × List Nat)) => [oa (rI .i64) x22.1 x22.2 b21.1]) (fun (x22 : (Value × List Nat)) => pv x22.1) (args := [.tmp 75, .tmp 77]) (caps := []) Tryd.call10 rfl (net_Some_ok h_b21) ⟨rfl, rfl, trivial⟩ (fun _ => rfl) (fun _ => trivial) (fun _ => rfl) ⟨arg rfl, arg rfl, trivial⟩ (fun _ _ _ _ h => h)) (by intro _ h; cases h; rfl) (fun _ => ⟨trivial, ⟨trivial, ⟨trivial, ⟨⟨⟨rfl, rfl⟩, trivial⟩, ⟨trivial, ⟨trivial, trivial⟩⟩⟩⟩⟩⟩) (fun x22 => ?_)
  refine a_next hok 8 [] (by kernel_rfl) ?_ trivial
  refine a_st (i := 8) hok rfl rfl (St.ofRd (r_assign rfl)) (by intro _ h; cases h; rfl) (fun _ => ⟨⟨⟨rfl, rfl⟩, trivial⟩, ⟨trivial, ⟨trivial, ⟨trivial, ⟨trivial, ⟨trivial, trivial⟩⟩⟩⟩⟩⟩) (fun _ => ?_)
  refine a_next hok 9 [] (by kernel_rfl) ?_ trivial
  refine a_st (i := 9) hok rfl rfl (St.ofRd (r_assign rfl)) (by intro _ h; cases h; rfl) (fun _ => ⟨trivial, ⟨trivial, ⟨trivial, ⟨trivial, ⟨trivial, ⟨trivial, trivial⟩⟩⟩⟩⟩⟩) (fun _ => ?_)
  refine a_fin hok (by kernel_rfl) ?_
  refine b_of (nrm [oc b1 [iv .i64 raw_0.N, slv rT_api_Pair raw_0.L], oc b2 [slv rT_api_Fraction given_1.Nodes, slv rT_api_Fraction given_1.Attacks], tbO (rI .u8) 0 tab_0, oc x14 [slv (rI .i64) b21.2.L, iv .i64 b21.2.At], oc b16 [iv .i64 t15.1.N, slv rT_api_Pair t15.1.L], oc b18 [slv rT_api_Fraction t17.1.Nodes, slv rT_api_Fraction t17.1.Attacks], oa (rI .i64) x20.1 x20.2 a_19.1, oa (rI .i64) x22.1 x22.2 b21.1] rfl) ?_
  refine n_then (ref_seq (ref_region ?_))
  refine mv1 rfl rfl ?_
  refine pull fun q23 h_q23 => ?_
  refine s_st (s_callC [3] [true] (fun (_ : Unit) => [oc x14 [slv (rI .i64) q23.2.L, iv .i64 q23.2.At]]) (fun (_ : Unit) => []) (fun (_ : Unit) => iv .i64 q23.1) (args := [.tmp 79, .const (.int .i64 (1)), .const (.int .i64 (4))]) (caps := []) Tryd.call23 rfl (keep_Src_Range_ok h_q23) ⟨rfl, rfl, trivial⟩ (fun _ => rfl) (fun _ => trivial) (fun _ => rfl) ⟨arg rfl, arg rfl, arg rfl, trivial⟩ (fun _ _ _ _ h => h)) rfl (fun _ => ?_)
  refine as1 rfl rfl ?_
  refine l_nil (n_then (ref_seq (ref_seq (ref_region ?_))))
  refine s_rd (r_cloadS Tryd.isAgg27 Tryd.sizeOf27 rfl (j := 4) rfl rfl rfl) rfl ?_
  refine s_rd (r_cloadS Tryd.isAgg31 Tryd.sizeOf31 rfl (j := 5) rfl rfl rfl) rfl ?_
  refine mv1 rfl rfl ?_
  refine mv1 rfl rfl ?_
  refine mv1 rfl rfl ?_
  refine s_rd (r_build (ps := [(0, .tmp 81), (1, .tmp 82), (2, .tmp 83), (3, .tmp 84), (4, .tmp 85)]) (rs := [(0, [iv .i64 t15.1.N, slv rT_api_Pair t15.1.L]), (1, [slv rT_api_Fraction t17.1.Nodes, slv rT_api_Fraction t17.1.Attacks]), (2, [pv x20.1]), (3, [pv x22.1]), (4, [iv .i64 q23.1])]) st_55 zs_55 ⟨rfl, (part_agO (ψs := [iv .i64 t15.1.N, slv rT_api_Pair t15.1.L]) rfl ⟨.inl iv_at, .inl slv_at, trivial⟩), ⟨rfl, (part_agO (ψs := [slv rT_api_Fraction t17.1.Nodes, slv rT_api_Fraction t17.1.Attacks]) rfl ⟨.inl slv_at, .inl slv_at, trivial⟩), ⟨rfl, (part_own rfl (j := 6) rfl), ⟨rfl, (part_own rfl (j := 7) rfl), ⟨rfl, (part_at rfl iv_at), trivial⟩⟩⟩⟩⟩ rfl rfl) rfl ?_
  refine s_rd (r_cloadS Tryd.isAgg27 Tryd.sizeOf27 rfl (j := 4) rfl rfl rfl) rfl ?_
  refine s_rd (r_cloadS Tryd.isAgg31 Tryd.sizeOf31 rfl (j := 5) rfl rfl rfl) rfl ?_
  refine mv1 rfl rfl ?_
  refine mv1 rfl rfl ?_
  refine mv1 rfl rfl ?_
  refine s_rd (r_build (ps := [(0, .tmp 87), (1, .tmp 88), (2, .tmp 89), (3, .tmp 90), (4, .tmp 91)]) (rs := [(0, [iv .i64 t15.1.N, slv rT_api_Pair t15.1.L]), (1, [slv rT_api_Fraction t17.1.Nodes, slv rT_api_Fraction t17.1.Attacks]), (2, [slv (rI .i64) set__3]), (3, [pv x22.1]), (4, [iv .i64 q23.1])]) st_55 zs_55 ⟨rfl, (part_agO (ψs := [iv .i64 t15.1.N, slv rT_api_Pair t15.1.L]) rfl ⟨.inl iv_at, .inl slv_at, trivial⟩), ⟨rfl, (part_agO (ψs := [slv rT_api_Fraction t17.1.Nodes, slv rT_api_Fraction t17.1.Attacks]) rfl ⟨.inl slv_at, .inl slv_at, trivial⟩), ⟨rfl, (part_at rfl slv_at), ⟨rfl, (part_own rfl (j := 7) rfl), ⟨rfl, (part_at rfl iv_at), trivial⟩⟩⟩⟩⟩ rfl rfl) rfl ?_
  refine s_rd (r_cloadS Tryd.isAgg27 Tryd.sizeOf27 rfl (j := 4) rfl rfl rfl) rfl ?_
  refine s_rd (r_cloadS Tryd.isAgg31 Tryd.sizeOf31 rfl (j := 5) rfl rfl rfl) rfl ?_
  refine mv1 rfl rfl ?_
  refine mv1 rfl rfl ?_
  refine mv1 rfl rfl ?_
  refine s_rd (r_build (ps := [(0, .tmp 93), (1, .tmp 94), (2, .tmp 95), (3, .tmp 96), (4, .tmp 97)]) (rs := [(0, [iv .i64 t15.1.N, slv rT_api_Pair t15.1.L]), (1, [slv rT_api_Fraction t17.1.Nodes, slv rT_api_Fraction t17.1.Attacks]), (2, [pv x20.1]), (3, [slv (rI .i64) set__3]), (4, [iv .i64 question_4])]) st_55 zs_55 ⟨rfl, (part_agO (ψs := [iv .i64 t15.1.N, slv rT_api_Pair t15.1.L]) rfl ⟨.inl iv_at, .inl slv_at, trivial⟩), ⟨rfl, (part_agO (ψs := [slv rT_api_Fraction t17.1.Nodes, slv rT_api_Fraction t17.1.Attacks]) rfl ⟨.inl slv_at, .inl slv_at, trivial⟩), ⟨rfl, (part_own rfl (j := 6) rfl), ⟨rfl, (part_at rfl slv_at), ⟨rfl, (part_at rfl iv_at), trivial⟩⟩⟩⟩⟩ rfl rfl) rfl ?_
  refine s_rd (r_cloadS Tryd.isAgg27 Tryd.sizeOf27 rfl (j := 4) rfl rfl rfl) rfl ?_
  refine s_rd (r_cloadS Tryd.isAgg31 Tryd.sizeOf31 rfl (j := 1) rfl rfl rfl) rfl ?_
  refine mv1 rfl rfl ?_
  refine mv1 rfl rfl ?_
  refine mv1 rfl rfl ?_
  refine s_rd (r_build (ps := [(0, .tmp 99), (1, .tmp 100), (2, .tmp 101), (3, .tmp 102), (4, .tmp 103)]) (rs := [(0, [iv .i64 t15.1.N, slv rT_api_Pair t15.1.L]), (1, [slv rT_api_Fraction given_1.Nodes, slv rT_api_Fraction given_1.Attacks]), (2, [pv x20.1]), (3, [pv x22.1]), (4, [iv .i64 q23.1])]) st_55 zs_55 ⟨rfl, (part_agO (ψs := [iv .i64 t15.1.N, slv rT_api_Pair t15.1.L]) rfl ⟨.inl iv_at, .inl slv_at, trivial⟩), ⟨rfl, (part_agO (ψs := [slv rT_api_Fraction given_1.Nodes, slv rT_api_Fraction given_1.Attacks]) rfl ⟨.inl slv_at, .inl slv_at, trivial⟩), ⟨rfl, (part_own rfl (j := 6) rfl), ⟨rfl, (part_own rfl (j := 7) rfl), ⟨rfl, (part_at rfl iv_at), trivial⟩⟩⟩⟩⟩ rfl rfl) rfl ?_
  refine s_rd (r_cloadS Tryd.isAgg27 Tryd.sizeOf27 rfl (j := 0) rfl rfl rfl) rfl ?_
  refine s_rd (r_cloadS Tryd.isAgg31 Tryd.sizeOf31 rfl (j := 1) rfl rfl rfl) rfl ?_
  refine mv1 rfl rfl ?_
  refine mv1 rfl rfl ?_
  refine mv1 rfl rfl ?_
  refine s_rd (r_build (ps := [(0, .tmp 105), (1, .tmp 106), (2, .tmp 107), (3, .tmp 108), (4, .tmp 109)]) (rs := [(0, [iv .i64 raw_0.N, slv rT_api_Pair raw_0.L]), (1, [slv rT_api_Fraction given_1.Nodes, slv rT_api_Fraction given_1.Attacks]), (2, [slv (rI .i64) set__3]), (3, [pv x22.1]), (4, [iv .i64 question_4])]) st_55 zs_55 ⟨rfl, (part_agO (ψs := [iv .i64 raw_0.N, slv rT_api_Pair raw_0.L]) rfl ⟨.inl iv_at, .inl slv_at, trivial⟩), ⟨rfl, (part_agO (ψs := [slv rT_api_Fraction given_1.Nodes, slv rT_api_Fraction given_1.Attacks]) rfl ⟨.inl slv_at, .inl slv_at, trivial⟩), ⟨rfl, (part_at rfl slv_at), ⟨rfl, (part_own rfl (j := 7) rfl), ⟨rfl, (part_at rfl iv_at), trivial⟩⟩⟩⟩⟩ rfl rfl) rfl ?_
  refine b_of (frzGL [(74, slv (rI .i64) a_19.1), (14, slv (rI .i64) a_19.1), (83, slv (rI .i64) a_19.1), (95, slv (rI .i64) a_19.1), (101, slv (rI .i64) a_19.1), (86, ag [iv .i64 t15.1.N, slv rT_api_Pair t15.1.L, slv rT_api_Fraction t17.1.Nodes, slv rT_api_Fraction t17.1.Attacks, slv (rI .i64) a_19.1, pv x22.1, iv .i64 q23.1]), (98, ag [iv .i64 t15.1.N, slv rT_api_Pair t15.1.L, slv rT_api_Fraction t17.1.Nodes, slv rT_api_Fraction t17.1.Attacks, slv (rI .i64) a_19.1, slv (rI .i64) set__3, iv .i64 question_4]), (104, ag [iv .i64 t15.1.N, slv rT_api_Pair t15.1.L, slv rT_api_Fraction given_1.Nodes, slv rT_api_Fraction given_1.Attacks, slv (rI .i64) a_19.1, pv x22.1, iv .i64 q23.1])] [] (j := 6) rfl ⟨⟨_, rfl, .inl ⟨rfl, rfl⟩⟩, ⟨_, rfl, .inl ⟨rfl, rfl⟩⟩, ⟨_, rfl, .inl ⟨rfl, rfl⟩⟩, ⟨_, rfl, .inl ⟨rfl, rfl⟩⟩, ⟨_, rfl, .inl ⟨rfl, rfl⟩⟩, ⟨_, rfl, .inr ⟨_, _, rfl, rfl, ⟨.inl rfl, .inl rfl, .inl rfl, .inl rfl, .inr ⟨rfl, rfl⟩, .inl rfl, .inl rfl, trivial⟩⟩⟩, ⟨_, rfl, .inr ⟨_, _, rfl, rfl, ⟨.inl rfl, .inl rfl, .inl rfl, .inl rfl, .inr ⟨rfl, rfl⟩, .inl rfl, .inl rfl, trivial⟩⟩⟩, ⟨_, rfl, .inr ⟨_, _, rfl, rfl, ⟨.inl rfl, .inl rfl, .inl rfl, .inl rfl, .inr ⟨rfl, rfl⟩, .inl rfl, .inl rfl, trivial⟩⟩⟩, trivial⟩ trivial) ?_
  refine b_of (frzGL [(78, slv (rI .i64) b21.1), (15, slv (rI .i64) b21.1), (84, slv (rI .i64) b21.1), (90, slv (rI .i64) b21.1), (102, slv (rI .i64) b21.1), (108, slv (rI .i64) b21.1), (86, ag [iv .i64 t15.1.N, slv rT_api_Pair t15.1.L, slv rT_api_Fraction t17.1.Nodes, slv rT_api_Fraction t17.1.Attacks, slv (rI .i64) a_19.1, slv (rI .i64) b21.1, iv .i64 q23.1]), (92, ag [iv .i64 t15.1.N, slv rT_api_Pair t15.1.L, slv rT_api_Fraction t17.1.Nodes, slv rT_api_Fraction t17.1.Attacks, slv (rI .i64) set__3, slv (rI .i64) b21.1, iv .i64 q23.1]), (104, ag [iv .i64 t15.1.N, slv rT_api_Pair t15.1.L, slv rT_api_Fraction given_1.Nodes, slv rT_api_Fraction given_1.Attacks, slv (rI .i64) a_19.1, slv (rI .i64) b21.1, iv .i64 q23.1]), (110, ag [iv .i64 raw_0.N, slv rT_api_Pair raw_0.L, slv rT_api_Fraction given_1.Nodes, slv rT_api_Fraction given_1.Attacks, slv (rI .i64) set__3, slv (rI .i64) b21.1, iv .i64 question_4])] [] (j := 7) rfl ⟨⟨_, rfl, .inl ⟨rfl, rfl⟩⟩, ⟨_, rfl, .inl ⟨rfl, rfl⟩⟩, ⟨_, rfl, .inl ⟨rfl, rfl⟩⟩, ⟨_, rfl, .inl ⟨rfl, rfl⟩⟩, ⟨_, rfl, .inl ⟨rfl, rfl⟩⟩, ⟨_, rfl, .inl ⟨rfl, rfl⟩⟩, ⟨_, rfl, .inr ⟨_, _, rfl, rfl, ⟨.inl rfl, .inl rfl, .inl rfl, .inl rfl, .inl rfl, .inr ⟨rfl, rfl⟩, .inl rfl, trivial⟩⟩⟩, ⟨_, rfl, .inr ⟨_, _, rfl, rfl, ⟨.inl rfl, .inl rfl, .inl rfl, .inl rfl, .inl rfl, .inr ⟨rfl, rfl⟩, .inl rfl, trivial⟩⟩⟩, ⟨_, rfl, .inr ⟨_, _, rfl, rfl, ⟨.inl rfl, .inl rfl, .inl rfl, .inl rfl, .inl rfl, .inr ⟨rfl, rfl⟩, .inl rfl, trivial⟩⟩⟩, ⟨_, rfl, .inr ⟨_, _, rfl, rfl, ⟨.inl rfl, .inl rfl, .inl rfl, .inl rfl, .inl rfl, .inr ⟨rfl, rfl⟩, .inl rfl, trivial⟩⟩⟩, trivial⟩ trivial) ?_
  refine s_st (s_bslice (xs := [.tmp 86, .tmp 92, .tmp 98, .tmp 104, .tmp 110]) (ds := [(T_anon55.mk t15.1 t17.1 a_19.1 b21.1 q23.1), (T_anon55.mk t15.1 t17.1 set__3 b21.1 q23.1), (T_anon55.mk t15.1 t17.1 a_19.1 set__3 question_4), (T_anon55.mk t15.1 given_1 a_19.1 b21.1 q23.1), (T_anon55.mk raw_0 given_1 set__3 b21.1 question_4)]) Tryd.underlying56 el_55 rfl (Nat.le_of_ble_eq_true rfl) ⟨(part_agO (ψs := [iv .i64 t15.1.N, slv rT_api_Pair t15.1.L, slv rT_api_Fraction t17.1.Nodes, slv rT_api_Fraction t17.1.Attacks, slv (rI .i64) a_19.1, slv (rI .i64) b21.1, iv .i64 q23.1]) rfl ⟨.inl iv_at, .inl slv_at, .inl slv_at, .inl slv_at, .inl slv_at, .inl slv_at, .inl iv_at, trivial⟩), ⟨(part_agO (ψs := [iv .i64 t15.1.N, slv rT_api_Pair t15.1.L, slv rT_api_Fraction t17.1.Nodes, slv rT_api_Fraction t17.1.Attacks, slv (rI .i64) set__3, slv (rI .i64) b21.1, iv .i64 q23.1]) rfl ⟨.inl iv_at, .inl slv_at, .inl slv_at, .inl slv_at, .inl slv_at, .inl slv_at, .inl iv_at, trivial⟩), ⟨(part_agO (ψs := [iv .i64 t15.1.N, slv rT_api_Pair t15.1.L, slv rT_api_Fraction t17.1.Nodes, slv rT_api_Fraction t17.1.Attacks, slv (rI .i64) a_19.1, slv (rI .i64) set__3, iv .i64 question_4]) rfl ⟨.inl iv_at, .inl slv_at, .inl slv_at, .inl slv_at, .inl slv_at, .inl slv_at, .inl iv_at, trivial⟩), ⟨(part_agO (ψs := [iv .i64 t15.1.N, slv rT_api_Pair t15.1.L, slv rT_api_Fraction given_1.Nodes, slv rT_api_Fraction given_1.Attacks, slv (rI .i64) a_19.1, slv (rI .i64) b21.1, iv .i64 q23.1]) rfl ⟨.inl iv_at, .inl slv_at, .inl slv_at, .inl slv_at, .inl slv_at, .inl slv_at, .inl iv_at, trivial⟩), ⟨(part_agO (ψs := [iv .i64 raw_0.N, slv rT_api_Pair raw_0.L, slv rT_api_Fraction given_1.Nodes, slv rT_api_Fraction given_1.Attacks, slv (rI .i64) set__3, slv (rI .i64) b21.1, iv .i64 question_4]) rfl ⟨.inl iv_at, .inl slv_at, .inl slv_at, .inl slv_at, .inl slv_at, .inl slv_at, .inl iv_at, trivial⟩), trivial⟩⟩⟩⟩⟩) rfl (fun _ => ?_)
  refine s_rd (r_len Tryd.underlying56 rfl) rfl ?_
  refine mv1 rfl rfl ?_
  refine l_nil (n_then ?_)
  refine ref_loopX (f := (law23_ChanceAnswers_l1 raw_0 given_1 set__3 question_4 t15 t17 a_19 b21 q23)) (Γl := (fun (s49 : Int) (x50 : Unit) => [(111, slv rT_anon55 [(T_anon55.mk t15.1 t17.1 a_19.1 b21.1 q23.1), (T_anon55.mk t15.1 t17.1 set__3 b21.1 q23.1), (T_anon55.mk t15.1 t17.1 a_19.1 set__3 question_4), (T_anon55.mk t15.1 given_1 a_19.1 b21.1 q23.1), (T_anon55.mk raw_0 given_1 set__3 b21.1 question_4)]), (112, iv .i64 ([(T_anon55.mk t15.1 t17.1 a_19.1 b21.1 q23.1), (T_anon55.mk t15.1 t17.1 set__3 b21.1 q23.1), (T_anon55.mk t15.1 t17.1 a_19.1 set__3 question_4), (T_anon55.mk t15.1 given_1 a_19.1 b21.1 q23.1), (T_anon55.mk raw_0 given_1 set__3 b21.1 question_4)].length : Int)), (113, iv .i64 s49)])) (Ωl := (fun (s49 : Int) (x50 : Unit) => [tbO (rI .u8) 0 tab_0])) (Γb := (fun (q74 : Unit) (y75 : Unit) => [])) (Ωb := (fun (q74 : Unit) (y75 : Unit) => [tbO (rI .u8) 0 tab_0])) (kr := (fun a : Bool => some a)) 0 () (weak [2] ⟨rfl, rfl, rfl, trivial⟩ ⟨rfl, trivial⟩) (fun s49 x50 => ?_) (fun q74 y75 => ?_)
  · unfold law23_ChanceAnswers_l1
    refine ref_seq (ref_region ?_)
    refine s_rd (r_lss rfl rfl) rfl ?_
    refine l_nil (n_then (ref_seq ?_))
    refine ref_cond rfl (fun hb51 => ?_) (fun hb51 => ?_)
    · refine ref_skip (n_then (ref_seq (ref_block (ref_seq (ref_region ?_)))))
      refine pull fun t52 h_t52 => ?_
      refine s_rd (r_index h_t52 Tryd.underlying56 el_55 rfl rfl) rfl ?_
      refine s_rd (r_load el_55 rfl) rfl ?_
      refine s_st (s_alloc zt_55) rfl (fun b53 => ?_)
      refine s_st0 (s_cstore (out := [iv .i64 t52.g.N, slv rT_api_Pair t52.g.L, slv rT_api_Fraction t52.o.Nodes, slv rT_api_Fraction t52.o.Attacks, slv (rI .i64) t52.a', slv (rI .i64) t52.b, iv .i64 t52.q]) Tryd.sizeOf55 rfl (j := 1) rfl (part_agO (ψs := [iv .i64 t52.g.N, slv rT_api_Pair t52.g.L, slv rT_api_Fraction t52.o.Nodes, slv rT_api_Fraction t52.o.Attacks, slv (rI .i64) t52.a', slv (rI .i64) t52.b, iv .i64 t52.q]) rfl ⟨.inl iv_at, .inl slv_at, .inl slv_at, .inl slv_at, .inl slv_at, .inl slv_at, .inl iv_at, trivial⟩) rfl rfl rfl) (fun _ => ?_)
      refine l_nil ?_
      refine b_of (nrm [tbO (rI .u8) 0 tab_0, oc b53 [iv .i64 t52.g.N, slv rT_api_Pair t52.g.L, slv rT_api_Fraction t52.o.Nodes, slv rT_api_Fraction t52.o.Attacks, slv (rI .i64) t52.a', slv (rI .i64) t52.b, iv .i64 t52.q]] rfl) ?_
      refine n_then (ref_seq (ref_region ?_))
      refine s_rd (r_faddr (fo := 0) Tryd.underlying55 rfl rfl Tryd.sizeOf27 rfl) rfl ?_
      refine s_rd (r_cloadS Tryd.isAgg27 Tryd.sizeOf27 rfl (j := 1) rfl rfl rfl) rfl ?_
      refine s_rd (r_faddr (fo := 2) Tryd.underlying55 rfl rfl Tryd.sizeOf31 rfl) rfl ?_
      refine s_rd (r_cloadS Tryd.isAgg31 Tryd.sizeOf31 rfl (j := 1) rfl rfl rfl) rfl ?_
      refine s_rd (r_faddr (fo := 4) Tryd.underlying55 rfl rfl Tryd.sizeOf22 rfl) rfl ?_
      refine s_rd (r_cload Tryd.isAgg22 rfl (j := 1) rfl rfl) rfl ?_
      refine s_rd (r_faddr (fo := 6) Tryd.underlying55 rfl rfl Tryd.sizeOf3 rfl) rfl ?_
      refine s_rd (r_cload Tryd.isAgg3 rfl (j := 1) rfl rfl) rfl ?_
      refine pull fun t54 h_t54 => ?_
      refine s_st (s_callC [0] [true] (fun (_ : Unit) => [tbO (rI .u8) 0 tab_0]) (fun (_ : Unit) => []) (fun (_ : Unit) => tup [ag [iv .i64 t54.1.Num, iv .i64 t54.1.Den], iv .i64 t54.2]) (args := [.tmp 119, .tmp 121, .tmp 123, .tmp 125]) (caps := []) Tryd.call12 rfl (chance_Joint_ok h_t54) ⟨rfl, rfl, trivial⟩ (fun _ => rfl) (fun _ => trivial) (fun _ => rfl) ⟨arg rfl, arg rfl, arg rfl, arg rfl, trivial⟩ (fun _ _ _ _ h => h)) rfl (fun _ => ?_)
      refine mv1 rfl rfl ?_
      refine s_rd (r_extract rfl rfl) rfl ?_
      refine s_rd (r_extract rfl rfl) rfl ?_
      refine s_st (s_alloc zt_36) rfl (fun b55 => ?_)
      refine s_st0 (s_cstore (out := [iv .i64 t54.1.Num, iv .i64 t54.1.Den]) Tryd.sizeOf36 rfl (j := 2) rfl (part_agO (ψs := [iv .i64 t54.1.Num, iv .i64 t54.1.Den]) rfl ⟨.inl iv_at, .inl iv_at, trivial⟩) rfl rfl rfl) (fun _ => ?_)
      refine as1 rfl rfl ?_
      refine l_nil (n_then (ref_seq (ref_region ?_)))
      refine s_rd (r_faddr (fo := 0) Tryd.underlying55 rfl rfl Tryd.sizeOf27 rfl) rfl ?_
      refine s_rd (r_cloadS Tryd.isAgg27 Tryd.sizeOf27 rfl (j := 1) rfl rfl rfl) rfl ?_
      refine s_rd (r_faddr (fo := 2) Tryd.underlying55 rfl rfl Tryd.sizeOf31 rfl) rfl ?_
      refine s_rd (r_cloadS Tryd.isAgg31 Tryd.sizeOf31 rfl (j := 1) rfl rfl rfl) rfl ?_
      refine s_rd (r_faddr (fo := 4) Tryd.underlying55 rfl rfl Tryd.sizeOf22 rfl) rfl ?_
      refine s_rd (r_cload Tryd.isAgg22 rfl (j := 1) rfl rfl) rfl ?_
      refine s_rd (r_faddr (fo := 6) Tryd.underlying55 rfl rfl Tryd.sizeOf3 rfl) rfl ?_
      refine s_rd (r_cload Tryd.isAgg3 rfl (j := 1) rfl rfl) rfl ?_
      refine pull fun t56 h_t56 => ?_
      refine s_st (s_call (ψ := fun (_ : Unit) => tup [ag [iv .i64 t56.1.Num, iv .i64 t56.1.Den], iv .i64 t56.2]) (args := [.tmp 131, .tmp 133, .tmp 135, .tmp 137]) Tryd.call24 rfl (ref23_Joint_ok h_t56) ⟨arg rfl, arg rfl, arg rfl, arg rfl, trivial⟩ (fun _ _ _ _ h => h)) rfl (fun _ => ?_)
      refine mv1 rfl rfl ?_
      refine s_rd (r_extract rfl rfl) rfl ?_
      refine s_rd (r_extract rfl rfl) rfl ?_
      refine s_st (s_alloc zt_36) rfl (fun b57 => ?_)
      refine s_st0 (s_cstore (out := [iv .i64 t56.1.Num, iv .i64 t56.1.Den]) Tryd.sizeOf36 rfl (j := 3) rfl (part_agO (ψs := [iv .i64 t56.1.Num, iv .i64 t56.1.Den]) rfl ⟨.inl iv_at, .inl iv_at, trivial⟩) rfl rfl rfl) (fun _ => ?_)
      refine as1 rfl rfl ?_
      refine l_nil ?_
      refine b_of (nrm [tbO (rI .u8) 0 tab_0, oc b53 [iv .i64 t52.g.N, slv rT_api_Pair t52.g.L, slv rT_api_Fraction t52.o.Nodes, slv rT_api_Fraction t52.o.Attacks, slv (rI .i64) t52.a', slv (rI .i64) t52.b, iv .i64 t52.q], oc b55 [iv .i64 t54.1.Num, iv .i64 t54.1.Den], oc b57 [iv .i64 t56.1.Num, iv .i64 t56.1.Den]] rfl) ?_
      refine n_then (ref_seq (ref_region ?_))
      refine s_rd (r_faddr (fo := 0) Tryd.underlying55 rfl rfl Tryd.sizeOf27 rfl) rfl ?_
      refine s_rd (r_cloadS Tryd.isAgg27 Tryd.sizeOf27 rfl (j := 1) rfl rfl rfl) rfl ?_
      refine s_rd (r_faddr (fo := 2) Tryd.underlying55 rfl rfl Tryd.sizeOf31 rfl) rfl ?_
      refine s_rd (r_cloadS Tryd.isAgg31 Tryd.sizeOf31 rfl (j := 1) rfl rfl rfl) rfl ?_
      refine s_rd (r_faddr (fo := 4) Tryd.underlying55 rfl rfl Tryd.sizeOf22 rfl) rfl ?_
      refine s_rd (r_cload Tryd.isAgg22 rfl (j := 1) rfl rfl) rfl ?_
      refine s_rd (r_faddr (fo := 5) Tryd.underlying55 rfl rfl Tryd.sizeOf22 rfl) rfl ?_
      refine s_rd (r_cload Tryd.isAgg22 rfl (j := 1) rfl rfl) rfl ?_
      refine s_rd (r_faddr (fo := 6) Tryd.underlying55 rfl rfl Tryd.sizeOf3 rfl) rfl ?_
      refine s_rd (r_cload Tryd.isAgg3 rfl (j := 1) rfl rfl) rfl ?_
      refine pull fun t58 h_t58 => ?_
      refine s_st (s_callC [0] [true] (fun (_ : Unit) => [tbO (rI .u8) 0 tab_0]) (fun (_ : Unit) => []) (fun (_ : Unit) => tup [ag [iv .i64 t58.1.Num, iv .i64 t58.1.Den], iv .i64 t58.2]) (args := [.tmp 143, .tmp 145, .tmp 147, .tmp 149, .tmp 151]) (caps := []) Tryd.call13 rfl (chance_Given_ok h_t58) ⟨rfl, rfl, trivial⟩ (fun _ => rfl) (fun _ => trivial) (fun _ => rfl) ⟨arg rfl, arg rfl, arg rfl, arg rfl, arg rfl, trivial⟩ (fun _ _ _ _ h => h)) rfl (fun _ => ?_)
      refine mv1 rfl rfl ?_
      refine s_rd (r_extract rfl rfl) rfl ?_
      refine s_rd (r_extract rfl rfl) rfl ?_
      refine s_st (s_alloc zt_36) rfl (fun b59 => ?_)
      refine s_st0 (s_cstore (out := [iv .i64 t58.1.Num, iv .i64 t58.1.Den]) Tryd.sizeOf36 rfl (j := 4) rfl (part_agO (ψs := [iv .i64 t58.1.Num, iv .i64 t58.1.Den]) rfl ⟨.inl iv_at, .inl iv_at, trivial⟩) rfl rfl rfl) (fun _ => ?_)
      refine as1 rfl rfl ?_
      refine l_nil (n_then (ref_seq (ref_region ?_)))
      refine s_rd (r_faddr (fo := 0) Tryd.underlying55 rfl rfl Tryd.sizeOf27 rfl) rfl ?_
      refine s_rd (r_cloadS Tryd.isAgg27 Tryd.sizeOf27 rfl (j := 1) rfl rfl rfl) rfl ?_
      refine s_rd (r_faddr (fo := 2) Tryd.underlying55 rfl rfl Tryd.sizeOf31 rfl) rfl ?_
      refine s_rd (r_cloadS Tryd.isAgg31 Tryd.sizeOf31 rfl (j := 1) rfl rfl rfl) rfl ?_
      refine s_rd (r_faddr (fo := 4) Tryd.underlying55 rfl rfl Tryd.sizeOf22 rfl) rfl ?_
      refine s_rd (r_cload Tryd.isAgg22 rfl (j := 1) rfl rfl) rfl ?_
      refine s_rd (r_faddr (fo := 5) Tryd.underlying55 rfl rfl Tryd.sizeOf22 rfl) rfl ?_
      refine s_rd (r_cload Tryd.isAgg22 rfl (j := 1) rfl rfl) rfl ?_
      refine s_rd (r_faddr (fo := 6) Tryd.underlying55 rfl rfl Tryd.sizeOf3 rfl) rfl ?_
      refine s_rd (r_cload Tryd.isAgg3 rfl (j := 1) rfl rfl) rfl ?_
      refine pull fun t60 h_t60 => ?_
      refine s_st (s_call (ψ := fun (_ : Unit) => tup [ag [iv .i64 t60.1.Num, iv .i64 t60.1.Den], iv .i64 t60.2]) (args := [.tmp 157, .tmp 159, .tmp 161, .tmp 163, .tmp 165]) Tryd.call25 rfl (ref23_Given_ok h_t60) ⟨arg rfl, arg rfl, arg rfl, arg rfl, arg rfl, trivial⟩ (fun _ _ _ _ h => h)) rfl (fun _ => ?_)
      refine mv1 rfl rfl ?_
      refine s_rd (r_extract rfl rfl) rfl ?_
      refine s_rd (r_extract rfl rfl) rfl ?_
      refine s_st (s_alloc zt_36) rfl (fun b61 => ?_)
      refine s_st0 (s_cstore (out := [iv .i64 t60.1.Num, iv .i64 t60.1.Den]) Tryd.sizeOf36 rfl (j := 5) rfl (part_agO (ψs := [iv .i64 t60.1.Num, iv .i64 t60.1.Den]) rfl ⟨.inl iv_at, .inl iv_at, trivial⟩) rfl rfl rfl) (fun _ => ?_)
      refine as1 rfl rfl ?_
      refine l_nil ?_
      refine b_of (nrm [tbO (rI .u8) 0 tab_0, oc b53 [iv .i64 t52.g.N, slv rT_api_Pair t52.g.L, slv rT_api_Fraction t52.o.Nodes, slv rT_api_Fraction t52.o.Attacks, slv (rI .i64) t52.a', slv (rI .i64) t52.b, iv .i64 t52.q], oc b55 [iv .i64 t54.1.Num, iv .i64 t54.1.Den], oc b57 [iv .i64 t56.1.Num, iv .i64 t56.1.Den], oc b59 [iv .i64 t58.1.Num, iv .i64 t58.1.Den], oc b61 [iv .i64 t60.1.Num, iv .i64 t60.1.Den]] rfl) ?_
      refine n_then (ref_seq (ref_seq (ref_region ?_)))
      refine mv1 rfl rfl ?_
      refine mv1 rfl rfl ?_
      refine s_rd (r_neq rfl rfl) rfl ?_
      refine mv1 rfl rfl ?_
      refine b_split (t := 172) rfl (fun _ => ?_) (fun _ => ?_)
      · refine s_off rfl rfl rfl rfl rfl ?_
        refine s_off rfl rfl rfl rfl rfl ?_
        refine s_off rfl rfl rfl rfl rfl ?_
        refine s_rd (r_pickT rfl rfl) rfl ?_
        refine mv1 rfl rfl ?_
        refine s_off rfl rfl rfl rfl rfl ?_
        refine s_off rfl rfl rfl rfl rfl ?_
        refine s_off rfl rfl rfl rfl rfl ?_
        refine s_rd (r_pickT rfl rfl) rfl ?_
        refine mv1 rfl rfl ?_
        refine s_off rfl rfl rfl rfl rfl ?_
        refine s_off rfl rfl rfl rfl rfl ?_
        refine s_off rfl rfl rfl rfl rfl ?_
        refine s_rd (r_pickT rfl rfl) rfl ?_
        refine l_nil (n_then ?_)
        refine ref_condT rfl rfl ?_
        refine ref_seq (ref_region ?_)
        refine as1 rfl rfl ?_
        refine l_nil (n_then (ref_ret (r_then (r_block (r_then ?_)))))
        refine retX ?_
        refine r_block (r_then ?_)
        exact fin1 (.inl rfl) () [0] rfl ⟨rfl, trivial⟩ rfl (rv_tmp rfl)
      refine s_on rfl rfl rfl ?_
      refine mv1 rfl rfl ?_
      refine s_on rfl rfl rfl ?_
      refine mv1 rfl rfl ?_
      refine s_on rfl rfl rfl ?_
      refine s_rd (r_neq rfl rfl) rfl ?_
      refine s_rd (r_pickF rfl rfl) rfl ?_
      refine mv1 rfl rfl ?_
      refine b_split (t := 177) rfl (fun _ => ?_) (fun _ => ?_)
      · refine s_off rfl rfl rfl rfl rfl ?_
        refine s_off rfl rfl rfl rfl rfl ?_
        refine s_off rfl rfl rfl rfl rfl ?_
        refine s_rd (r_pickT rfl rfl) rfl ?_
        refine mv1 rfl rfl ?_
        refine s_off rfl rfl rfl rfl rfl ?_
        refine s_off rfl rfl rfl rfl rfl ?_
        refine s_off rfl rfl rfl rfl rfl ?_
        refine s_rd (r_pickT rfl rfl) rfl ?_
        refine l_nil (n_then ?_)
        refine ref_condT rfl rfl ?_
        refine ref_seq (ref_region ?_)
        refine as1 rfl rfl ?_
        refine l_nil (n_then (ref_ret (r_then (r_block (r_then ?_)))))
        refine retX ?_
        refine r_block (r_then ?_)
        exact fin1 (.inl rfl) () [0] rfl ⟨rfl, trivial⟩ rfl (rv_tmp rfl)
      refine s_on rfl rfl rfl ?_
      refine s_rd (r_cloadS Tryd.isAgg36 Tryd.sizeOf36 rfl (j := 2) rfl rfl rfl) rfl ?_
      refine s_on rfl rfl rfl ?_
      refine s_rd (r_cloadS Tryd.isAgg36 Tryd.sizeOf36 rfl (j := 3) rfl rfl rfl) rfl ?_
      refine s_on rfl rfl rfl ?_
      refine s_rd (r_stneq (u := t54.1) (v := t56.1) eq_36 rfl rfl rfl rfl) rfl ?_
      refine s_rd (r_pickF rfl rfl) rfl ?_
      refine mv1 rfl rfl ?_
      refine b_split (t := 182) rfl (fun _ => ?_) (fun _ => ?_)
      · refine s_off rfl rfl rfl rfl rfl ?_
        refine s_off rfl rfl rfl rfl rfl ?_
        refine s_off rfl rfl rfl rfl rfl ?_
        refine s_rd (r_pickT rfl rfl) rfl ?_
        refine l_nil (n_then ?_)
        refine ref_condT rfl rfl ?_
        refine ref_seq (ref_region ?_)
        refine as1 rfl rfl ?_
        refine l_nil (n_then (ref_ret (r_then (r_block (r_then ?_)))))
        refine retX ?_
        refine r_block (r_then ?_)
        exact fin1 (.inl rfl) () [0] rfl ⟨rfl, trivial⟩ rfl (rv_tmp rfl)
      refine s_on rfl rfl rfl ?_
      refine s_rd (r_cloadS Tryd.isAgg36 Tryd.sizeOf36 rfl (j := 4) rfl rfl rfl) rfl ?_
      refine s_on rfl rfl rfl ?_
      refine s_rd (r_cloadS Tryd.isAgg36 Tryd.sizeOf36 rfl (j := 5) rfl rfl rfl) rfl ?_
      refine s_on rfl rfl rfl ?_
      refine s_rd (r_stneq (u := t58.1) (v := t60.1) eq_36 rfl rfl rfl rfl) rfl ?_
      refine s_rd (r_pickF rfl rfl) rfl ?_
      refine l_nil (n_then ?_)
      refine ref_cond rfl (fun hb62 => ?_) (fun hb62 => ?_)
      · refine ref_seq (ref_region ?_)
        refine as1 rfl rfl ?_
        refine l_nil (n_then (ref_ret (r_then (r_block (r_then ?_)))))
        refine retX ?_
        refine r_block (r_then ?_)
        exact fin1 (.inl rfl) () [0] rfl ⟨rfl, trivial⟩ rfl (rv_tmp rfl)
      refine ref_skip (n_then (ref_seq (ref_region ?_)))
      refine s_rd (r_faddr (fo := 0) Tryd.underlying55 rfl rfl Tryd.sizeOf27 rfl) rfl ?_
      refine s_rd (r_cloadS Tryd.isAgg27 Tryd.sizeOf27 rfl (j := 1) rfl rfl rfl) rfl ?_
      refine s_rd (r_faddr (fo := 2) Tryd.underlying55 rfl rfl Tryd.sizeOf31 rfl) rfl ?_
      refine s_rd (r_cloadS Tryd.isAgg31 Tryd.sizeOf31 rfl (j := 1) rfl rfl rfl) rfl ?_
      refine s_rd (r_faddr (fo := 4) Tryd.underlying55 rfl rfl Tryd.sizeOf22 rfl) rfl ?_
      refine s_rd (r_cload Tryd.isAgg22 rfl (j := 1) rfl rfl) rfl ?_
      refine pull fun t63 h_t63 => ?_
      refine s_st (s_callC [0] [true] (fun (_ : Unit) => [tbO (rI .u8) 0 tab_0]) (fun (_ : Unit) => []) (fun (_ : Unit) => tup [ag [iv .i64 t63.1.Num, iv .i64 t63.1.Den], iv .i64 t63.2]) (args := [.tmp 189, .tmp 191, .tmp 193]) (caps := []) Tryd.call18 rfl (chance_Extension_ok h_t63) ⟨rfl, rfl, trivial⟩ (fun _ => rfl) (fun _ => trivial) (fun _ => rfl) ⟨arg rfl, arg rfl, arg rfl, trivial⟩ (fun _ _ _ _ h => h)) rfl (fun _ => ?_)
      refine mv1 rfl rfl ?_
      refine s_rd (r_extract rfl rfl) rfl ?_
      refine s_rd (r_extract rfl rfl) rfl ?_
      refine s_st0 (s_cstore (out := [iv .i64 t63.1.Num, iv .i64 t63.1.Den]) Tryd.sizeOf36 rfl (j := 2) rfl (part_agO (ψs := [iv .i64 t63.1.Num, iv .i64 t63.1.Den]) rfl ⟨.inl iv_at, .inl iv_at, trivial⟩) rfl rfl rfl) (fun _ => ?_)
      refine as1 rfl rfl ?_
      refine l_nil (n_then (ref_seq (ref_region ?_)))
      refine s_rd (r_faddr (fo := 0) Tryd.underlying55 rfl rfl Tryd.sizeOf27 rfl) rfl ?_
      refine s_rd (r_cloadS Tryd.isAgg27 Tryd.sizeOf27 rfl (j := 1) rfl rfl rfl) rfl ?_
      refine s_rd (r_faddr (fo := 2) Tryd.underlying55 rfl rfl Tryd.sizeOf31 rfl) rfl ?_
      refine s_rd (r_cloadS Tryd.isAgg31 Tryd.sizeOf31 rfl (j := 1) rfl rfl rfl) rfl ?_
      refine s_rd (r_faddr (fo := 4) Tryd.underlying55 rfl rfl Tryd.sizeOf22 rfl) rfl ?_
      refine s_rd (r_cload Tryd.isAgg22 rfl (j := 1) rfl rfl) rfl ?_
      refine pull fun t64 h_t64 => ?_
      refine s_st (s_call (ψ := fun (_ : Unit) => tup [ag [iv .i64 t64.1.Num, iv .i64 t64.1.Den], iv .i64 t64.2]) (args := [.tmp 199, .tmp 201, .tmp 203]) Tryd.call26 rfl (ref23_Extension_ok h_t64) ⟨arg rfl, arg rfl, arg rfl, trivial⟩ (fun _ _ _ _ h => h)) rfl (fun _ => ?_)
      refine mv1 rfl rfl ?_
      refine s_rd (r_extract rfl rfl) rfl ?_
      refine s_rd (r_extract rfl rfl) rfl ?_
      refine s_st0 (s_cstore (out := [iv .i64 t64.1.Num, iv .i64 t64.1.Den]) Tryd.sizeOf36 rfl (j := 3) rfl (part_agO (ψs := [iv .i64 t64.1.Num, iv .i64 t64.1.Den]) rfl ⟨.inl iv_at, .inl iv_at, trivial⟩) rfl rfl rfl) (fun _ => ?_)
      refine as1 rfl rfl ?_
      refine l_nil ?_
      refine b_of (nrm [tbO (rI .u8) 0 tab_0, oc b53 [iv .i64 t52.g.N, slv rT_api_Pair t52.g.L, slv rT_api_Fraction t52.o.Nodes, slv rT_api_Fraction t52.o.Attacks, slv (rI .i64) t52.a', slv (rI .i64) t52.b, iv .i64 t52.q], oc b55 [iv .i64 t63.1.Num, iv .i64 t63.1.Den], oc b57 [iv .i64 t64.1.Num, iv .i64 t64.1.Den], oc b59 [iv .i64 t58.1.Num, iv .i64 t58.1.Den], oc b61 [iv .i64 t60.1.Num, iv .i64 t60.1.Den]] rfl) ?_
      refine n_then (ref_seq (ref_region ?_))
      refine s_rd (r_faddr (fo := 0) Tryd.underlying55 rfl rfl Tryd.sizeOf27 rfl) rfl ?_
      refine s_rd (r_cloadS Tryd.isAgg27 Tryd.sizeOf27 rfl (j := 1) rfl rfl rfl) rfl ?_
      refine s_rd (r_faddr (fo := 2) Tryd.underlying55 rfl rfl Tryd.sizeOf31 rfl) rfl ?_
      refine s_rd (r_cloadS Tryd.isAgg31 Tryd.sizeOf31 rfl (j := 1) rfl rfl rfl) rfl ?_
      refine pull fun t65 h_t65 => ?_
      refine s_st (s_call (ψ := fun (x66 : (Value × List Nat)) => tup [ag [iv .i64 t65.1.N, slv rT_api_Pair t65.1.L], pv x66.1, iv .i64 t65.2.2]) (args := [.tmp 209, .tmp 211]) Tryd.call20 rfl (chance_Certain_ok h_t65) ⟨arg rfl, arg rfl, trivial⟩ (fun _ _ _ _ h => h)) rfl (fun x66 => ?_)
      refine mv1 rfl rfl ?_
      refine s_rd (r_extract rfl rfl) rfl ?_
      refine s_rd (r_extract rfl rfl) rfl ?_
      refine s_rd (r_extract rfl rfl) rfl ?_
      refine s_st (s_alloc zt_27) rfl (fun b67 => ?_)
      refine s_st0 (s_cstore (out := [iv .i64 t65.1.N, slv rT_api_Pair t65.1.L]) Tryd.sizeOf27 rfl (j := 7) rfl (part_agO (ψs := [iv .i64 t65.1.N, slv rT_api_Pair t65.1.L]) rfl ⟨.inl iv_at, .inl slv_at, trivial⟩) rfl rfl rfl) (fun _ => ?_)
      refine as1 rfl rfl ?_
      refine as1 rfl rfl ?_
      refine l_nil (n_then (ref_seq (ref_region ?_)))
      refine s_rd (r_faddr (fo := 0) Tryd.underlying55 rfl rfl Tryd.sizeOf27 rfl) rfl ?_
      refine s_rd (r_cloadS Tryd.isAgg27 Tryd.sizeOf27 rfl (j := 1) rfl rfl rfl) rfl ?_
      refine s_rd (r_faddr (fo := 2) Tryd.underlying55 rfl rfl Tryd.sizeOf31 rfl) rfl ?_
      refine s_rd (r_cloadS Tryd.isAgg31 Tryd.sizeOf31 rfl (j := 1) rfl rfl rfl) rfl ?_
      refine pull fun t68 h_t68 => ?_
      refine s_st (s_call (ψ := fun (x69 : (Value × List Nat)) => tup [ag [iv .i64 t68.1.N, slv rT_api_Pair t68.1.L], pv x69.1, iv .i64 t68.2.2]) (args := [.tmp 218, .tmp 220]) Tryd.call27 rfl (ref23_Certain_ok h_t68) ⟨arg rfl, arg rfl, trivial⟩ (fun _ _ _ _ h => h)) rfl (fun x69 => ?_)
      refine mv1 rfl rfl ?_
      refine s_rd (r_extract rfl rfl) rfl ?_
      refine s_rd (r_extract rfl rfl) rfl ?_
      refine s_rd (r_extract rfl rfl) rfl ?_
      refine s_st (s_alloc zt_27) rfl (fun b70 => ?_)
      refine s_st0 (s_cstore (out := [iv .i64 t68.1.N, slv rT_api_Pair t68.1.L]) Tryd.sizeOf27 rfl (j := 9) rfl (part_agO (ψs := [iv .i64 t68.1.N, slv rT_api_Pair t68.1.L]) rfl ⟨.inl iv_at, .inl slv_at, trivial⟩) rfl rfl rfl) (fun _ => ?_)
      refine as1 rfl rfl ?_
      refine as1 rfl rfl ?_
      refine l_nil ?_
      refine b_of (nrm [tbO (rI .u8) 0 tab_0, oc b53 [iv .i64 t52.g.N, slv rT_api_Pair t52.g.L, slv rT_api_Fraction t52.o.Nodes, slv rT_api_Fraction t52.o.Attacks, slv (rI .i64) t52.a', slv (rI .i64) t52.b, iv .i64 t52.q], oc b55 [iv .i64 t63.1.Num, iv .i64 t63.1.Den], oc b57 [iv .i64 t64.1.Num, iv .i64 t64.1.Den], oc b59 [iv .i64 t58.1.Num, iv .i64 t58.1.Den], oc b61 [iv .i64 t60.1.Num, iv .i64 t60.1.Den], oa (rI .i64) x66.1 x66.2 t65.2.1, oc b67 [iv .i64 t65.1.N, slv rT_api_Pair t65.1.L], oa (rI .i64) x69.1 x69.2 t68.2.1, oc b70 [iv .i64 t68.1.N, slv rT_api_Pair t68.1.L]] rfl) ?_
      refine n_then (ref_seq (ref_region ?_))
      refine mv1 rfl rfl ?_
      refine mv1 rfl rfl ?_
      refine s_rd (r_neq rfl rfl) rfl ?_
      refine mv1 rfl rfl ?_
      refine b_split (t := 228) rfl (fun _ => ?_) (fun _ => ?_)
      · refine s_off rfl rfl rfl rfl rfl ?_
        refine s_off rfl rfl rfl rfl rfl ?_
        refine s_off rfl rfl rfl rfl rfl ?_
        refine s_rd (r_pickT rfl rfl) rfl ?_
        refine mv1 rfl rfl ?_
        refine s_off rfl rfl rfl rfl rfl ?_
        refine s_off rfl rfl rfl rfl rfl ?_
        refine s_off rfl rfl rfl rfl rfl ?_
        refine s_rd (r_pickT rfl rfl) rfl ?_
        refine mv1 rfl rfl ?_
        refine s_off rfl rfl rfl rfl rfl ?_
        refine s_off rfl rfl rfl rfl rfl ?_
        refine s_off rfl rfl rfl rfl rfl ?_
        refine s_off rfl rfl rfl rfl rfl ?_
        refine s_rd (r_pickT rfl rfl) rfl ?_
        refine mv1 rfl rfl ?_
        refine s_off rfl rfl rfl rfl rfl ?_
        refine s_off rfl rfl rfl rfl rfl ?_
        refine s_off rfl rfl rfl rfl rfl ?_
        refine s_off rfl rfl rfl rfl rfl ?_
        refine s_rd (r_pickT rfl rfl) rfl ?_
        refine l_nil (n_then ?_)
        refine ref_condT rfl rfl ?_
        refine ref_seq (ref_region ?_)
        refine as1 rfl rfl ?_
        refine l_nil (n_then (ref_ret (r_block (r_then ?_))))
        refine retX ?_
        refine r_block (r_then ?_)
        exact fin1 (.inl rfl) () [0] rfl ⟨rfl, trivial⟩ rfl (rv_tmp rfl)
      refine s_on rfl rfl rfl ?_
      refine mv1 rfl rfl ?_
      refine s_on rfl rfl rfl ?_
      refine mv1 rfl rfl ?_
      refine s_on rfl rfl rfl ?_
      refine s_rd (r_neq rfl rfl) rfl ?_
      refine s_rd (r_pickF rfl rfl) rfl ?_
      refine mv1 rfl rfl ?_
      refine b_split (t := 233) rfl (fun _ => ?_) (fun _ => ?_)
      · refine s_off rfl rfl rfl rfl rfl ?_
        refine s_off rfl rfl rfl rfl rfl ?_
        refine s_off rfl rfl rfl rfl rfl ?_
        refine s_rd (r_pickT rfl rfl) rfl ?_
        refine mv1 rfl rfl ?_
        refine s_off rfl rfl rfl rfl rfl ?_
        refine s_off rfl rfl rfl rfl rfl ?_
        refine s_off rfl rfl rfl rfl rfl ?_
        refine s_off rfl rfl rfl rfl rfl ?_
        refine s_rd (r_pickT rfl rfl) rfl ?_
        refine mv1 rfl rfl ?_
        refine s_off rfl rfl rfl rfl rfl ?_
        refine s_off rfl rfl rfl rfl rfl ?_
        refine s_off rfl rfl rfl rfl rfl ?_
        refine s_off rfl rfl rfl rfl rfl ?_
        refine s_rd (r_pickT rfl rfl) rfl ?_
        refine l_nil (n_then ?_)
        refine ref_condT rfl rfl ?_
        refine ref_seq (ref_region ?_)
        refine as1 rfl rfl ?_
        refine l_nil (n_then (ref_ret (r_block (r_then ?_))))
        refine retX ?_
        refine r_block (r_then ?_)
        exact fin1 (.inl rfl) () [0] rfl ⟨rfl, trivial⟩ rfl (rv_tmp rfl)
      refine s_on rfl rfl rfl ?_
      refine s_rd (r_cloadS Tryd.isAgg36 Tryd.sizeOf36 rfl (j := 2) rfl rfl rfl) rfl ?_
      refine s_on rfl rfl rfl ?_
      refine s_rd (r_cloadS Tryd.isAgg36 Tryd.sizeOf36 rfl (j := 3) rfl rfl rfl) rfl ?_
      refine s_on rfl rfl rfl ?_
      refine s_rd (r_stneq (u := t63.1) (v := t64.1) eq_36 rfl rfl rfl rfl) rfl ?_
      refine s_rd (r_pickF rfl rfl) rfl ?_
      refine mv1 rfl rfl ?_
      refine b_split (t := 238) rfl (fun _ => ?_) (fun _ => ?_)
      · refine s_off rfl rfl rfl rfl rfl ?_
        refine s_off rfl rfl rfl rfl rfl ?_
        refine s_off rfl rfl rfl rfl rfl ?_
        refine s_off rfl rfl rfl rfl rfl ?_
        refine s_rd (r_pickT rfl rfl) rfl ?_
        refine mv1 rfl rfl ?_
        refine s_off rfl rfl rfl rfl rfl ?_
        refine s_off rfl rfl rfl rfl rfl ?_
        refine s_off rfl rfl rfl rfl rfl ?_
        refine s_off rfl rfl rfl rfl rfl ?_
        refine s_rd (r_pickT rfl rfl) rfl ?_
        refine l_nil (n_then ?_)
        refine ref_condT rfl rfl ?_
        refine ref_seq (ref_region ?_)
        refine as1 rfl rfl ?_
        refine l_nil (n_then (ref_ret (r_block (r_then ?_))))
        refine retX ?_
        refine r_block (r_then ?_)
        exact fin1 (.inl rfl) () [0] rfl ⟨rfl, trivial⟩ rfl (rv_tmp rfl)
      refine s_on rfl rfl rfl ?_
      refine s_rd (r_cloadS Tryd.isAgg27 Tryd.sizeOf27 rfl (j := 7) rfl rfl rfl) rfl ?_
      refine s_on rfl rfl rfl ?_
      refine s_rd (r_cloadS Tryd.isAgg27 Tryd.sizeOf27 rfl (j := 9) rfl rfl rfl) rfl ?_
      refine s_on rfl rfl rfl ?_
      refine pull fun t71 h_t71 => ?_
      refine s_st (s_call (ψ := fun (_ : Unit) => bv t71) (args := [.tmp 239, .tmp 240]) Tryd.call28 rfl (net_Same_ok h_t71) ⟨arg rfl, arg rfl, trivial⟩ (fun _ _ _ _ h => h)) rfl (fun _ => ?_)
      refine s_on rfl rfl rfl ?_
      refine s_rd (r_not rfl) rfl ?_
      refine s_rd (r_pickF rfl rfl) rfl ?_
      refine mv1 rfl rfl ?_
      refine b_split (t := 244) rfl (fun _ => ?_) (fun _ => ?_)
      · refine s_off rfl rfl rfl rfl rfl ?_
        refine s_off rfl rfl rfl rfl rfl ?_
        refine s_off rfl rfl rfl rfl rfl ?_
        refine s_off rfl rfl rfl rfl rfl ?_
        refine s_rd (r_pickT rfl rfl) rfl ?_
        refine l_nil (n_then ?_)
        refine ref_condT rfl rfl ?_
        refine ref_seq (ref_region ?_)
        refine as1 rfl rfl ?_
        refine l_nil (n_then (ref_ret (r_block (r_then ?_))))
        refine retX ?_
        refine r_block (r_then ?_)
        exact fin1 (.inl rfl) () [0] rfl ⟨rfl, trivial⟩ rfl (rv_tmp rfl)
      refine s_on rfl rfl rfl ?_
      refine mv1 rfl rfl ?_
      refine s_on rfl rfl rfl ?_
      refine mv1 rfl rfl ?_
      refine s_on rfl rfl rfl ?_
      refine pull fun t72 h_t72 => ?_
      refine s_st (s_callB (ψ := fun (_ : Unit) => bv t72) (args := [.tmp 245, .tmp 246]) Tryd.call29 rfl (keep_Ints_ok h_t72) ⟨argO rfl (j := 6) rfl, argO rfl (j := 8) rfl, trivial⟩ (fun _ _ _ _ _ h => h)) rfl (fun _ => ?_)
      refine s_on rfl rfl rfl ?_
      refine s_rd (r_not rfl) rfl ?_
      refine s_rd (r_pickF rfl rfl) rfl ?_
      refine l_nil (n_then ?_)
      refine ref_cond rfl (fun hb73 => ?_) (fun hb73 => ?_)
      · refine ref_seq (ref_region ?_)
        refine as1 rfl rfl ?_
        refine l_nil (n_then (ref_ret (r_block (r_then ?_))))
        refine retX ?_
        refine r_block (r_then ?_)
        exact fin1 (.inl rfl) () [0] rfl ⟨rfl, trivial⟩ rfl (rv_tmp rfl)
      refine ref_skip (n_block (n_then (ref_region ?_)))
      refine s_rd (r_add rfl rfl) rfl ?_
      refine mv1 rfl rfl ?_
      refine l_nil ?_
      exact goX () (weak [0] ⟨rfl, rfl, rfl, trivial⟩ ⟨rfl, trivial⟩)
    refine ref_exit (x_then ?_)
    exact brkX () (weak [0] trivial ⟨rfl, trivial⟩)
  refine n_then (ref_seq (ref_region ?_))
  refine pull fun t76 h_t76 => ?_
  refine s_st (s_callC [0] [true] (fun (_ : Unit) => [tbO (rI .u8) 0 tab_0]) (fun (_ : Unit) => []) (fun (_ : Unit) => bv t76) (args := []) (caps := []) Tryd.call14 rfl (law23_awake_ok h_t76) ⟨rfl, rfl, trivial⟩ (fun _ => rfl) (fun _ => trivial) (fun _ => rfl) trivial (fun _ _ _ _ h => h)) rfl (fun _ => ?_)
  refine as1 rfl rfl ?_
  refine l_nil (n_then (ref_ret ?_))
  exact fin1 (.inl rfl) () [0] rfl ⟨rfl, trivial⟩ rfl (rv_tmp rfl)

end Go.Dc
