/- Part LAW23C.A2 of a proof: lemmas. -/
import Derived.Test.YtkcaadcoagimdaaDoorLAW23CA1
import Derived.Test.YtkcaadcoagimdaaDoorProg
set_option linter.unusedVariables false
set_option maxRecDepth 100000
set_option maxHeartbeats 4000000
namespace Go.Dc
open Go.Proofs
open Go.Proofs.Tryd (prog)

/-! deliberation/deliberationlaw23.ChanceCertain -/
noncomputable def law23_ChanceCertain_l1 (t3 : T_api_Graph × T_deliberationkeep_Src) (t7 : T_api_Graph × List Int × Int) (s27 : Int × (List Int)) : Option (Sum ((List Int)) (Int × (List Int))) :=
  bif decide (s27.1 < t3.1.N) then
    Option.bind (keep_In_m t7.2.1 s27.1) fun t30 =>
    bif !t30 then
      Option.bind (appM 8 s27.2 [s27.1]) fun gone32 =>
      letM (iadd .i64 s27.1 1) fun a_34 =>
      some (Sum.inr (a_34, gone32))
    else
      letM (iadd .i64 s27.1 1) fun a_35 =>
      some (Sum.inr (a_35, s27.2))
  else
    some (Sum.inl s27.2)

noncomputable def law23_ChanceCertain_l3 (t3 : T_api_Graph × T_deliberationkeep_Src) (t5 : T_api_Odds × T_deliberationkeep_Src) (t7 : T_api_Graph × List Int × Int) (q36 : (List Int)) (s68 : Int) (s83 : Int) : Option (Sum ((Sum (Bool) (Unit))) (Int)) :=
  bif decide (s83 ≤ 4) then
    Option.bind (chance_Joint_m t3.1 t5.1 [s68] s83) fun t86 =>
    joinM (fun j91 : Int =>
        bif t86.2 != 0 then
          some (Sum.inl (Sum.inl false))
        else
          bif !decide (t86.1 = (T_api_Fraction.mk j91 1)) then
            some (Sum.inl (Sum.inl false))
          else
            letM (iadd .i64 s83 1) fun q95 =>
            some (Sum.inr q95)) fun k93 =>
    Option.bind (ref23_Accepted_m t7.1 q36 s68 s83) fun t89 =>
    bif t89 then
      k93 1
    else
      k93 0
  else
    some (Sum.inl (Sum.inr ()))

noncomputable def law23_ChanceCertain_l2 (t3 : T_api_Graph × T_deliberationkeep_Src) (t5 : T_api_Odds × T_deliberationkeep_Src) (t7 : T_api_Graph × List Int × Int) (q36 : (List Int)) (s68 : Int) : Option (Sum ((Sum (Bool) (Unit))) (Int)) :=
  bif decide (s68 < t3.1.N) then
    Option.bind (loopC (law23_ChanceCertain_l3 t3 t5 t7 q36 s68) 1) (sumK (fun a : Bool => some (Sum.inl (Sum.inl a))) fun q96 : Unit =>
      letM (iadd .i64 s68 1) fun a_98 =>
      some (Sum.inr a_98))
  else
    some (Sum.inl (Sum.inr ()))

noncomputable def law23_ChanceCertain_m (l_0 : (List Int)) : Option (Bool) :=
  Option.bind (keep_New_m l_0) fun s1 =>
  Option.bind (net_Graph_m s1 6) fun t3 =>
  Option.bind (law23_odds_m t3.2 t3.1 0) fun t5 =>
  Option.bind (chance_Certain_m t3.1 t5.1) fun t7 =>
  bif t7.2.2 != 0 then
    some false
  else
    Option.bind (loopC (law23_ChanceCertain_l1 t3 t7) (0, [])) fun q36 : (List Int) =>
    Option.bind (loopC (law23_ChanceCertain_l2 t3 t5 t7 q36) 0) (sumK (fun a : Bool => some a) fun q99 : Unit =>
      Option.bind (law23_awake_m ) fun t101 =>
      some t101)

theorem law23_ChanceCertain_ok {l_0 : (List Int)} {r : Bool} (hm : law23_ChanceCertain_m l_0 = some r) :
    FnOk prog 5 [slv (rI .i64) l_0] [tbO (rI .u8) 0 tab_0] (fun (x : Unit) => [bv r]) (fun (x : Unit) => [tbO (rI .u8) 0 tab_0]) := by
  refine fn_ok (fn := Tryd.f5) (N := 80) (res := fun r x => [bv r]) (Ω1 := fun r x => [tbO (rI .u8) 0 tab_0]) Tryd.func5 rfl rfl hm rfl (fun E hM => ?_)
  unfold law23_ChanceCertain_m
  refine ref_seq (ref_region ?_)
  refine as1 rfl rfl ?_
  refine l_nil (n_then (ref_seq (ref_region ?_)))
  refine mv1 rfl rfl ?_
  refine pull fun s1 h_s1 => ?_
  refine s_st (s_call (ψ := fun (x2 : Nat) => pv (ptr x2 0)) (args := [.tmp 16]) Tryd.call7 rfl (keep_New_ok h_s1) ⟨arg rfl, trivial⟩ (fun _ _ _ _ h => h)) rfl (fun x2 => ?_)
  refine as1 rfl rfl ?_
  refine l_nil (n_then (ref_seq (ref_region ?_)))
  refine mv1 rfl rfl ?_
  refine pull fun t3 h_t3 => ?_
  refine s_st (s_callC [1] [true] (fun (_ : Unit) => [oc x2 [slv (rI .i64) t3.2.L, iv .i64 t3.2.At]]) (fun (_ : Unit) => []) (fun (_ : Unit) => ag [iv .i64 t3.1.N, slv rT_api_Pair t3.1.L]) (args := [.tmp 18, .const (.int .i64 (6))]) (caps := []) Tryd.call8 rfl (net_Graph_ok h_t3) ⟨rfl, rfl, trivial⟩ (fun _ => rfl) (fun _ => trivial) (fun _ => rfl) ⟨arg rfl, arg rfl, trivial⟩ (fun _ _ _ _ h => h)) rfl (fun _ => ?_)
  refine s_st (s_alloc zt_27) rfl (fun b4 => ?_)
  refine s_st0 (s_cstore (out := [iv .i64 t3.1.N, slv rT_api_Pair t3.1.L]) Tryd.sizeOf27 rfl (j := 2) rfl (part_agO (ψs := [iv .i64 t3.1.N, slv rT_api_Pair t3.1.L]) rfl ⟨.inl iv_at, .inl slv_at, trivial⟩) rfl rfl rfl) (fun _ => ?_)
  refine l_nil ?_
  refine b_of (nrm [tbO (rI .u8) 0 tab_0, oc x2 [slv (rI .i64) t3.2.L, iv .i64 t3.2.At], oc b4 [iv .i64 t3.1.N, slv rT_api_Pair t3.1.L]] rfl) ?_
  refine n_then (ref_seq (ref_region ?_))
  refine mv1 rfl rfl ?_
  refine s_rd (r_cloadS Tryd.isAgg27 Tryd.sizeOf27 rfl (j := 2) rfl rfl rfl) rfl ?_
  refine pull fun t5 h_t5 => ?_
  refine s_st (s_callC [1] [true] (fun (_ : Unit) => [oc x2 [slv (rI .i64) t5.2.L, iv .i64 t5.2.At]]) (fun (_ : Unit) => []) (fun (_ : Unit) => ag [slv rT_api_Fraction t5.1.Nodes, slv rT_api_Fraction t5.1.Attacks]) (args := [.tmp 20, .tmp 21, .const (.int .i64 (0))]) (caps := []) Tryd.call9 rfl (law23_odds_ok h_t5) ⟨rfl, rfl, trivial⟩ (fun _ => rfl) (fun _ => trivial) (fun _ => rfl) ⟨arg rfl, arg rfl, arg rfl, trivial⟩ (fun _ _ _ _ h => h)) rfl (fun _ => ?_)
  refine s_st (s_alloc zt_31) rfl (fun b6 => ?_)
  refine s_st0 (s_cstore (out := [slv rT_api_Fraction t5.1.Nodes, slv rT_api_Fraction t5.1.Attacks]) Tryd.sizeOf31 rfl (j := 3) rfl (part_agO (ψs := [slv rT_api_Fraction t5.1.Nodes, slv rT_api_Fraction t5.1.Attacks]) rfl ⟨.inl slv_at, .inl slv_at, trivial⟩) rfl rfl rfl) (fun _ => ?_)
  refine l_nil (n_then (ref_seq (ref_region ?_)))
  refine s_rd (r_cloadS Tryd.isAgg27 Tryd.sizeOf27 rfl (j := 2) rfl rfl rfl) rfl ?_
  refine s_rd (r_cloadS Tryd.isAgg31 Tryd.sizeOf31 rfl (j := 3) rfl rfl rfl) rfl ?_
  refine pull fun t7 h_t7 => ?_
  refine s_st (s_call (ψ := fun (x8 : (Value × List Nat)) => tup [ag [iv .i64 t7.1.N, slv rT_api_Pair t7.1.L], pv x8.1, iv .i64 t7.2.2]) (args := [.tmp 24, .tmp 25]) Tryd.call20 rfl (chance_Certain_ok h_t7) ⟨arg rfl, arg rfl, trivial⟩ (fun _ _ _ _ h => h)) rfl (fun x8 => ?_)
  refine mv1 rfl rfl ?_
  refine s_rd (r_extract rfl rfl) rfl ?_
  refine s_rd (r_extract rfl rfl) rfl ?_
  refine s_rd (r_extract rfl rfl) rfl ?_
  refine s_st (s_alloc zt_27) rfl (fun b9 => ?_)
  refine s_st0 (s_cstore (out := [iv .i64 t7.1.N, slv rT_api_Pair t7.1.L]) Tryd.sizeOf27 rfl (j := 5) rfl (part_agO (ψs := [iv .i64 t7.1.N, slv rT_api_Pair t7.1.L]) rfl ⟨.inl iv_at, .inl slv_at, trivial⟩) rfl rfl rfl) (fun _ => ?_)
  refine as1 rfl rfl ?_
  refine as1 rfl rfl ?_
  refine l_nil ?_
  refine b_of (nrm [tbO (rI .u8) 0 tab_0, oc x2 [slv (rI .i64) t5.2.L, iv .i64 t5.2.At], oc b4 [iv .i64 t3.1.N, slv rT_api_Pair t3.1.L], oc b6 [slv rT_api_Fraction t5.1.Nodes, slv rT_api_Fraction t5.1.Attacks], oa (rI .i64) x8.1 x8.2 t7.2.1, oc b9 [iv .i64 t7.1.N, slv rT_api_Pair t7.1.L]] rfl) ?_
  refine n_then (ref_seq (ref_seq (ref_region ?_)))
  refine mv1 rfl rfl ?_
  refine s_rd (r_neq rfl rfl) rfl ?_
  refine l_nil (n_then ?_)
  refine ref_cond rfl (fun hb10 => ?_) (fun hb10 => ?_)
  · refine ref_seq (ref_region ?_)
    refine as1 rfl rfl ?_
    refine l_nil (n_then (ref_ret (r_then ?_)))
    exact fin1 (.inl rfl) () [0] rfl ⟨rfl, trivial⟩ rfl (rv_tmp rfl)
  refine ref_skip (n_then (ref_seq (ref_region ?_)))
  refine as1 rfl rfl ?_
  refine l_nil (n_then (ref_seq (ref_seq (ref_region ?_))))
  refine as1 rfl rfl ?_
  refine l_nil (n_then ?_)
  refine b_of (own_nil (rI .i64)) ?_
  refine ref_loopB (f := (law23_ChanceCertain_l1 t3 t7)) (Γl := (fun (s27 : Int × (List Int)) (x28 : (Value × List Nat)) => [(4, pv (ptr b4 0)), (5, pv (ptr b6 0)), (6, pv (ptr b9 0)), (7, pv x8.1), (9, pv x28.1), (10, iv .i64 s27.1)])) (Ωl := (fun (s27 : Int × (List Int)) (x28 : (Value × List Nat)) => [tbO (rI .u8) 0 tab_0, oc b4 [iv .i64 t3.1.N, slv rT_api_Pair t3.1.L], oc b6 [slv rT_api_Fraction t5.1.Nodes, slv rT_api_Fraction t5.1.Attacks], oc b9 [iv .i64 t7.1.N, slv rT_api_Pair t7.1.L], oa (rI .i64) x8.1 x8.2 t7.2.1, oa (rI .i64) x28.1 x28.2 s27.2])) (Γb := (fun (q36 : (List Int)) (y37 : (Value × List Nat)) => [(4, pv (ptr b4 0)), (5, pv (ptr b6 0)), (6, pv (ptr b9 0)), (9, pv y37.1)])) (Ωb := (fun (q36 : (List Int)) (y37 : (Value × List Nat)) => [oc b4 [iv .i64 t3.1.N, slv rT_api_Pair t3.1.L], oc b6 [slv rT_api_Fraction t5.1.Nodes, slv rT_api_Fraction t5.1.Attacks], oc b9 [iv .i64 t7.1.N, slv rT_api_Pair t7.1.L], oa (rI .i64) y37.1 y37.2 q36, tbO (rI .u8) 0 tab_0])) (0, []) ((.slice none 0 0), []) (weak [0, 2, 3, 5, 4, 6] ⟨rfl, rfl, rfl, rfl, rfl, rfl, trivial⟩ ⟨rfl, rfl, rfl, rfl, rfl, rfl, trivial⟩) (fun s27 x28 => ?_) (fun q36 y37 => ?_)
  · unfold law23_ChanceCertain_l1
    refine ref_seq (ref_seq (ref_region ?_))
    refine mv1 rfl rfl ?_
    refine s_rd (r_faddr (fo := 0) Tryd.underlying27 rfl rfl Tryd.sizeOf3 rfl) rfl ?_
    refine s_rd (r_cload Tryd.isAgg3 rfl (j := 1) rfl rfl) rfl ?_
    refine s_rd (r_lss rfl rfl) rfl ?_
    refine l_nil (n_then ?_)
    refine ref_cond rfl (fun hb29 => ?_) (fun hb29 => ?_)
    · refine ref_skip (n_then (ref_seq (ref_block (ref_seq (ref_region ?_)))))
      refine mv1 rfl rfl ?_
      refine mv1 rfl rfl ?_
      refine pull fun t30 h_t30 => ?_
      refine s_st (s_callB (ψ := fun (_ : Unit) => bv t30) (args := [.tmp 38, .tmp 39]) Tryd.call11 rfl (keep_In_ok h_t30) ⟨argO rfl (j := 4) rfl, argB rfl, trivial⟩ (fun _ _ _ _ _ h => h)) rfl (fun _ => ?_)
      refine s_rd (r_not rfl) rfl ?_
      refine l_nil (n_then ?_)
      refine ref_cond rfl (fun hb31 => ?_) (fun hb31 => ?_)
      · refine ref_region ?_
        refine mv1 rfl rfl ?_
        refine mv1 rfl rfl ?_
        refine s_st (s_bslice (xs := [.tmp 43]) (ds := [s27.1]) Tryd.underlying22 el_3 rfl (Nat.le_of_ble_eq_true rfl) ⟨(part_at rfl iv_at), trivial⟩) rfl (fun _ => ?_)
        refine pull fun gone32 h_gone32 => ?_
        refine s_st (s_append h_gone32 Tryd.underlying22 el_3 rfl (j := 5) rfl rfl) rfl (fun o33 => ?_)
        refine as1 rfl rfl ?_
        refine l_nil (n_block (n_then (ref_region ?_)))
        refine mv1 rfl rfl ?_
        refine s_rd (r_add rfl rfl) rfl ?_
        refine as1 rfl rfl ?_
        refine b_let (f := iv .i64) (t := 10) rfl fun a_34 => ?_
        refine l_nil ?_
        exact goB o33 (weak [0, 1, 2, 3, 4, 5] ⟨rfl, rfl, rfl, rfl, rfl, rfl, trivial⟩ ⟨rfl, rfl, rfl, rfl, rfl, rfl, trivial⟩)
      refine ref_skip (n_block (n_then (ref_region ?_)))
      refine mv1 rfl rfl ?_
      refine s_rd (r_add rfl rfl) rfl ?_
      refine as1 rfl rfl ?_
      refine b_let (f := iv .i64) (t := 10) rfl fun a_35 => ?_
      refine l_nil ?_
      exact goB x28 (weak [0, 1, 2, 3, 4, 5] ⟨rfl, rfl, rfl, rfl, rfl, rfl, trivial⟩ ⟨rfl, rfl, rfl, rfl, rfl, rfl, trivial⟩)
    refine ref_exit (x_then ?_)
    exact brkB x28 (weak [1, 2, 3, 5, 0] ⟨rfl, rfl, rfl, rfl, trivial⟩ ⟨rfl, rfl, rfl, rfl, rfl, trivial⟩)
  refine n_then (ref_seq (ref_seq (ref_region ?_)))
  refine as1 rfl rfl ?_
  refine l_nil (n_then ?_)
  refine ref_loopX (f := (law23_ChanceCertain_l2 t3 t5 t7 q36)) (Γl := (fun (s68 : Int) (x69 : Unit) => [(4, pv (ptr b4 0)), (5, pv (ptr b6 0)), (6, pv (ptr b9 0)), (9, pv y37.1), (11, iv .i64 s68)])) (Ωl := (fun (s68 : Int) (x69 : Unit) => [tbO (rI .u8) 0 tab_0, oc b4 [iv .i64 t3.1.N, slv rT_api_Pair t3.1.L], oc b6 [slv rT_api_Fraction t5.1.Nodes, slv rT_api_Fraction t5.1.Attacks], oc b9 [iv .i64 t7.1.N, slv rT_api_Pair t7.1.L], oa (rI .i64) y37.1 y37.2 q36])) (Γb := (fun (q99 : Unit) (y100 : Unit) => [])) (Ωb := (fun (q99 : Unit) (y100 : Unit) => [tbO (rI .u8) 0 tab_0])) (kr := (fun a : Bool => some a)) 0 () (weak [4, 0, 1, 2, 3] ⟨rfl, rfl, rfl, rfl, rfl, trivial⟩ ⟨rfl, rfl, rfl, rfl, rfl, trivial⟩) (fun s68 x69 => ?_) (fun q99 y100 => ?_)
  · unfold law23_ChanceCertain_l2
    refine ref_seq (ref_seq (ref_region ?_))
    refine mv1 rfl rfl ?_
    refine s_rd (r_faddr (fo := 0) Tryd.underlying27 rfl rfl Tryd.sizeOf3 rfl) rfl ?_
    refine s_rd (r_cload Tryd.isAgg3 rfl (j := 1) rfl rfl) rfl ?_
    refine s_rd (r_lss rfl rfl) rfl ?_
    refine l_nil (n_then ?_)
    refine ref_cond rfl (fun hb70 => ?_) (fun hb70 => ?_)
    · refine ref_skip (n_then (ref_seq (ref_block (ref_seq (ref_region ?_)))))
      refine as1 rfl rfl ?_
      refine l_nil (n_then ?_)
      refine ref_loopX (f := (law23_ChanceCertain_l3 t3 t5 t7 q36 s68)) (Γl := (fun (s83 : Int) (x84 : Unit) => [(4, pv (ptr b4 0)), (5, pv (ptr b6 0)), (6, pv (ptr b9 0)), (9, pv y37.1), (11, iv .i64 s68), (12, iv .i64 s83)])) (Ωl := (fun (s83 : Int) (x84 : Unit) => [tbO (rI .u8) 0 tab_0, oc b4 [iv .i64 t3.1.N, slv rT_api_Pair t3.1.L], oc b6 [slv rT_api_Fraction t5.1.Nodes, slv rT_api_Fraction t5.1.Attacks], oc b9 [iv .i64 t7.1.N, slv rT_api_Pair t7.1.L], oa (rI .i64) y37.1 y37.2 q36])) (Γb := (fun (q96 : Unit) (y97 : Unit) => [(4, pv (ptr b4 0)), (5, pv (ptr b6 0)), (6, pv (ptr b9 0)), (9, pv y37.1), (11, iv .i64 s68)])) (Ωb := (fun (q96 : Unit) (y97 : Unit) => [oc b4 [iv .i64 t3.1.N, slv rT_api_Pair t3.1.L], oc b6 [slv rT_api_Fraction t5.1.Nodes, slv rT_api_Fraction t5.1.Attacks], oc b9 [iv .i64 t7.1.N, slv rT_api_Pair t7.1.L], oa (rI .i64) y37.1 y37.2 q36, tbO (rI .u8) 0 tab_0])) (kr := (fun a : Bool => some (Sum.inl (Sum.inl a)))) 1 () (weak [0, 1, 2, 3, 4] ⟨rfl, rfl, rfl, rfl, rfl, rfl, trivial⟩ ⟨rfl, rfl, rfl, rfl, rfl, trivial⟩) (fun s83 x84 => ?_) (fun q96 y97 => ?_)
      · unfold law23_ChanceCertain_l3
        refine ref_seq (ref_seq (ref_region ?_))
        refine mv1 rfl rfl ?_
        refine s_rd (r_leq rfl rfl) rfl ?_
        refine l_nil (n_then ?_)
        refine ref_cond rfl (fun hb85 => ?_) (fun hb85 => ?_)
        · refine ref_skip (n_then (ref_seq (ref_block (ref_seq (ref_region ?_)))))
          refine s_rd (r_cloadS Tryd.isAgg27 Tryd.sizeOf27 rfl (j := 1) rfl rfl rfl) rfl ?_
          refine s_rd (r_cloadS Tryd.isAgg31 Tryd.sizeOf31 rfl (j := 2) rfl rfl rfl) rfl ?_
          refine mv1 rfl rfl ?_
          refine s_st (s_bslice (xs := [.tmp 59]) (ds := [s68]) Tryd.underlying22 el_3 rfl (Nat.le_of_ble_eq_true rfl) ⟨(part_at rfl iv_at), trivial⟩) rfl (fun _ => ?_)
          refine mv1 rfl rfl ?_
          refine pull fun t86 h_t86 => ?_
          refine s_st (s_callC [0] [true] (fun (_ : Unit) => [tbO (rI .u8) 0 tab_0]) (fun (_ : Unit) => []) (fun (_ : Unit) => tup [ag [iv .i64 t86.1.Num, iv .i64 t86.1.Den], iv .i64 t86.2]) (args := [.tmp 57, .tmp 58, .tmp 60, .tmp 61]) (caps := []) Tryd.call12 rfl (chance_Joint_ok h_t86) ⟨rfl, rfl, trivial⟩ (fun _ => rfl) (fun _ => trivial) (fun _ => rfl) ⟨arg rfl, arg rfl, arg rfl, arg rfl, trivial⟩ (fun _ _ _ _ h => h)) rfl (fun _ => ?_)
          refine mv1 rfl rfl ?_
          refine s_rd (r_extract rfl rfl) rfl ?_
          refine s_rd (r_extract rfl rfl) rfl ?_
          refine s_st (s_alloc zt_36) rfl (fun b87 => ?_)
          refine s_st0 (s_cstore (out := [iv .i64 t86.1.Num, iv .i64 t86.1.Den]) Tryd.sizeOf36 rfl (j := 5) rfl (part_agO (ψs := [iv .i64 t86.1.Num, iv .i64 t86.1.Den]) rfl ⟨.inl iv_at, .inl iv_at, trivial⟩) rfl rfl rfl) (fun _ => ?_)
          refine as1 rfl rfl ?_
          refine l_nil ?_
          refine b_of (nrm [tbO (rI .u8) 0 tab_0, oc b4 [iv .i64 t3.1.N, slv rT_api_Pair t3.1.L], oc b6 [slv rT_api_Fraction t5.1.Nodes, slv rT_api_Fraction t5.1.Attacks], oc b9 [iv .i64 t7.1.N, slv rT_api_Pair t7.1.L], oa (rI .i64) y37.1 y37.2 q36, oc b87 [iv .i64 t86.1.Num, iv .i64 t86.1.Den]] rfl) ?_
          refine n_then (ref_seq (ref_region ?_))
          refine s_rd (r_build (ps := [(0, .const (.int .i64 (0))), (1, .const (.int .i64 (1)))]) (rs := [(0, [iv .i64 0]), (1, [iv .i64 1])]) st_36 zs_36 ⟨rfl, (part_at rfl iv_at), ⟨rfl, (part_at rfl iv_at), trivial⟩⟩ rfl rfl) rfl ?_
          refine s_st (s_alloc zt_36) rfl (fun b88 => ?_)
          refine s_st0 (s_cstore (out := [iv .i64 0, iv .i64 1]) Tryd.sizeOf36 rfl (j := 6) rfl (part_agO (ψs := [iv .i64 0, iv .i64 1]) rfl ⟨.inl iv_at, .inl iv_at, trivial⟩) rfl rfl rfl) (fun _ => ?_)
          refine l_nil (n_then (ref_seq ?_))
          refine ref_join (fun (j91 : Int) (x92 : Unit) => [(4, pv (ptr b4 0)), (5, pv (ptr b6 0)), (6, pv (ptr b9 0)), (9, pv y37.1), (11, iv .i64 s68), (12, iv .i64 s83), (13, pv (ptr b87 0)), (14, iv .i64 t86.2), (15, pv (ptr b88 0))]) (fun (j91 : Int) (x92 : Unit) => [oc b4 [iv .i64 t3.1.N, slv rT_api_Pair t3.1.L], oc b6 [slv rT_api_Fraction t5.1.Nodes, slv rT_api_Fraction t5.1.Attacks], oc b9 [iv .i64 t7.1.N, slv rT_api_Pair t7.1.L], oa (rI .i64) y37.1 y37.2 q36, oc b87 [iv .i64 t86.1.Num, iv .i64 t86.1.Den], oc b88 [iv .i64 j91, iv .i64 1], tbO (rI .u8) 0 tab_0]) (fun k93 hk93 => ?_) (fun j91 x92 => ?_)
          · refine ref_seq (ref_region ?_)
            refine s_rd (r_cloadS Tryd.isAgg27 Tryd.sizeOf27 rfl (j := 3) rfl rfl rfl) rfl ?_
            refine mv1 rfl rfl ?_
            refine mv1 rfl rfl ?_
            refine mv1 rfl rfl ?_
            refine pull fun t89 h_t89 => ?_
            refine s_st (s_callB (ψ := fun (_ : Unit) => bv t89) (args := [.tmp 66, .tmp 67, .tmp 68, .tmp 69]) Tryd.call21 rfl (ref23_Accepted_ok h_t89) ⟨argB rfl, argO rfl (j := 4) rfl, argB rfl, argB rfl, trivial⟩ (fun _ _ _ _ _ h => h)) rfl (fun _ => ?_)
            refine l_nil (n_then ?_)
            refine ref_cond rfl (fun hb90 => ?_) (fun hb90 => ?_)
            · refine ref_region ?_
              refine s_rd (r_faddr (fo := 0) Tryd.underlying36 rfl rfl Tryd.sizeOf3 rfl) rfl ?_
              refine s_st0 (s_cstore (out := [iv .i64 1, iv .i64 1]) Tryd.sizeOf3 rfl (j := 6) rfl (part_at rfl iv_at) rfl rfl rfl) (fun _ => ?_)
              refine l_nil ?_
              refine b_of (nrm [tbO (rI .u8) 0 tab_0, oc b4 [iv .i64 t3.1.N, slv rT_api_Pair t3.1.L], oc b6 [slv rT_api_Fraction t5.1.Nodes, slv rT_api_Fraction t5.1.Attacks], oc b9 [iv .i64 t7.1.N, slv rT_api_Pair t7.1.L], oa (rI .i64) y37.1 y37.2 q36, oc b87 [iv .i64 t86.1.Num, iv .i64 t86.1.Den], oc b88 [iv .i64 1, iv .i64 1]] rfl) ?_
              exact b_to (hk93 1 ()) (weak [1, 2, 3, 4, 5, 6, 0] ⟨rfl, rfl, rfl, rfl, rfl, rfl, rfl, rfl, rfl, trivial⟩ ⟨rfl, rfl, rfl, rfl, rfl, rfl, rfl, trivial⟩)
            refine ref_skip ?_
            exact b_to (hk93 0 ()) (weak [1, 2, 3, 4, 5, 6, 0] ⟨rfl, rfl, rfl, rfl, rfl, rfl, rfl, rfl, rfl, trivial⟩ ⟨rfl, rfl, rfl, rfl, rfl, rfl, rfl, trivial⟩)
          refine n_then (ref_seq (ref_region ?_))
          refine mv1 rfl rfl ?_
          refine s_rd (r_neq rfl rfl) rfl ?_
          refine mv1 rfl rfl ?_
          refine b_split (t := 74) rfl (fun _ => ?_) (fun _ => ?_)
          · refine s_off rfl rfl rfl rfl rfl ?_
            refine s_off rfl rfl rfl rfl rfl ?_
            refine s_off rfl rfl rfl rfl rfl ?_
            refine s_rd (r_pickT rfl rfl) rfl ?_
            refine l_nil (n_then ?_)
            refine ref_condT rfl rfl ?_
            refine ref_seq (ref_region ?_)
            refine as1 rfl rfl ?_
            refine l_nil (n_then (ref_ret (r_block (r_then ?_))))
            refine retX ?_
            refine r_block (r_block (r_then ?_))
            refine retX ?_
            refine r_block (r_then ?_)
            exact fin1 (.inl rfl) () [6] rfl ⟨rfl, trivial⟩ rfl (rv_tmp rfl)
          refine s_on rfl rfl rfl ?_
          refine s_rd (r_cloadS Tryd.isAgg36 Tryd.sizeOf36 rfl (j := 4) rfl rfl rfl) rfl ?_
          refine s_on rfl rfl rfl ?_
          refine s_rd (r_cloadS Tryd.isAgg36 Tryd.sizeOf36 rfl (j := 5) rfl rfl rfl) rfl ?_
          refine s_on rfl rfl rfl ?_
          refine s_rd (r_stneq (u := t86.1) (v := (T_api_Fraction.mk j91 1)) eq_36 rfl rfl rfl rfl) rfl ?_
          refine s_rd (r_pickF rfl rfl) rfl ?_
          refine l_nil (n_then ?_)
          refine ref_cond rfl (fun hb94 => ?_) (fun hb94 => ?_)
          · refine ref_seq (ref_region ?_)
            refine as1 rfl rfl ?_
            refine l_nil (n_then (ref_ret (r_block (r_then ?_))))
            refine retX ?_
            refine r_block (r_block (r_then ?_))
            refine retX ?_
            refine r_block (r_then ?_)
            exact fin1 (.inl rfl) () [6] rfl ⟨rfl, trivial⟩ rfl (rv_tmp rfl)
          refine ref_skip (n_block (n_then (ref_region ?_)))
          refine mv1 rfl rfl ?_
          refine s_rd (r_add rfl rfl) rfl ?_
          refine as1 rfl rfl ?_
          refine b_let (f := iv .i64) (t := 12) rfl fun q95 => ?_
          refine l_nil ?_
          exact goX () (weak [6, 0, 1, 2, 3] ⟨rfl, rfl, rfl, rfl, rfl, rfl, trivial⟩ ⟨rfl, rfl, rfl, rfl, rfl, trivial⟩)
        refine ref_exit (x_then ?_)
        exact brkX () (weak [1, 2, 3, 4, 0] ⟨rfl, rfl, rfl, rfl, rfl, trivial⟩ ⟨rfl, rfl, rfl, rfl, rfl, trivial⟩)
      refine n_block (n_then (ref_region ?_))
      refine mv1 rfl rfl ?_
      refine s_rd (r_add rfl rfl) rfl ?_
      refine as1 rfl rfl ?_
      refine b_let (f := iv .i64) (t := 11) rfl fun a_98 => ?_
      refine l_nil ?_
      exact goX () (weak [4, 0, 1, 2, 3] ⟨rfl, rfl, rfl, rfl, rfl, trivial⟩ ⟨rfl, rfl, rfl, rfl, rfl, trivial⟩)
    refine ref_exit (x_then ?_)
    exact brkX () (weak [0] trivial ⟨rfl, trivial⟩)
  refine n_then (ref_seq (ref_region ?_))
  refine pull fun t101 h_t101 => ?_
  refine s_st (s_callC [0] [true] (fun (_ : Unit) => [tbO (rI .u8) 0 tab_0]) (fun (_ : Unit) => []) (fun (_ : Unit) => bv t101) (args := []) (caps := []) Tryd.call14 rfl (law23_awake_ok h_t101) ⟨rfl, rfl, trivial⟩ (fun _ => rfl) (fun _ => trivial) (fun _ => rfl) trivial (fun _ _ _ _ h => h)) rfl (fun _ => ?_)
  refine as1 rfl rfl ?_
  refine l_nil (n_then (ref_ret ?_))
  exact fin1 (.inl rfl) () [0] rfl ⟨rfl, trivial⟩ rfl (rv_tmp rfl)

end Go.Dc
