/- Part LAW06ZD.A1 of a proof: lemmas. -/
import Derived.Test.YtejhbimlekcllaaGreatDoorLAW06ZDA0
import Derived.Test.YtejhbimlekcllaaGreatDoorProg
set_option linter.unusedVariables false
set_option linter.unusedSimpArgs false
set_option maxRecDepth 100000
set_option maxHeartbeats 4000000
namespace Go.Dc
open Go.Proofs
open Go.Proofs.Tryz (prog)

/-! deliberation/deliberationref01.Insert -/
noncomputable def ref01_Insert_l1 (l_0 : (List T_api_Literal)) (x_1 : T_api_Literal) (s7 : Int) : Option (Sum (Int) (Int)) :=
  bif decide (s7 < (l_0.length : Int)) then
    Option.bind (idxM l_0 s7) fun t9 =>
    Option.bind (ref01_Compare_m t9 x_1) fun t10 =>
    bif decide (t10 < 0) then
      some (Sum.inr (iadd .i64 s7 1))
    else
      some (Sum.inl s7)
  else
    some (Sum.inl s7)

noncomputable def ref01_Insert_m (l_0 : (List T_api_Literal)) (x_1 : T_api_Literal) : Option (List T_api_Literal) :=
  Option.bind (loopC (ref01_Insert_l1 l_0 x_1) 0) fun q12 : Int =>
  joinM (fun j16 : Unit =>
      Option.bind (slM l_0 0 q12) fun t20 =>
      Option.bind (appM 24 [] t20) fun out21 =>
      Option.bind (slM l_0 q12 (l_0.length : Int)) fun t23 =>
      Option.bind (appM 24 out21 [x_1]) fun t24 =>
      Option.bind (appM 24 t24 t23) fun t26 =>
      some t26) fun k18 =>
  bif decide (q12 < (l_0.length : Int)) then
    Option.bind (idxM l_0 q12) fun t14 =>
    bif decide (t14 = x_1) then
      some l_0
    else
      k18 ()
  else
    k18 ()

theorem ref01_Insert_ok {l_0 : (List T_api_Literal)} {x_1 : T_api_Literal} {r : List T_api_Literal} (hm : ref01_Insert_m l_0 x_1 = some r) :
    FnOk prog 43 [slv rT_api_Literal l_0, ag [bv x_1.Neg, sv x_1.Name]] [] (fun (x : Unit) => [slv rT_api_Literal r]) (fun (x : Unit) => []) := by
  refine fn_ok (fn := Tryz.f43) (N := 48) (res := fun r x => [slv rT_api_Literal r]) (Ω1 := fun r x => []) Tryz.func43 rfl rfl hm rfl (fun E hM => ?_)
  unfold ref01_Insert_m
  refine ref_seq (ref_region ?_)
  refine s_st (s_box (part_agO (ψs := [bv x_1.Neg, sv x_1.Name]) rfl ⟨.inl bv_at, .inl sv_at, trivial⟩)) rfl (fun b1 => ?_)
  refine as1 rfl rfl ?_
  refine l_nil (n_then (ref_seq (ref_region ?_)))
  refine as1 rfl rfl ?_
  refine l_nil (n_then (ref_seq ?_))
  refine ref_loopB (f := (ref01_Insert_l1 l_0 x_1)) (Γl := (fun (s7 : Int) (x8 : Unit) => [(0, slv rT_api_Literal l_0), (3, pv (ptr b1 0)), (5, iv .i64 s7)])) (Ωl := (fun (s7 : Int) (x8 : Unit) => [oc b1 [bv x_1.Neg, sv x_1.Name]])) (Γb := (fun (q12 : Int) (y13 : Unit) => [(0, slv rT_api_Literal l_0), (3, pv (ptr b1 0)), (5, iv .i64 q12)])) (Ωb := (fun (q12 : Int) (y13 : Unit) => [oc b1 [bv x_1.Neg, sv x_1.Name]])) 0 () (weak [0] ⟨rfl, rfl, rfl, trivial⟩ ⟨rfl, trivial⟩) (fun s7 x8 => ?_) (fun q12 y13 => ?_)
  · unfold ref01_Insert_l1
    refine ref_seq (ref_seq ?_)
    refine ref_draw [0, 1, 2, 3, 4, 5, 6, 7, 8, 9, 11, 12] rfl (by kernel_rfl) (fun hok => ?_)
    refine a_rd (i := 0) hok rfl (by kernel_rfl) rfl (r_move rfl) rfl ?_
    refine a_rd (i := 1) hok rfl (by kernel_rfl) rfl (r_move rfl) rfl ?_
    refine a_rd (i := 2) hok rfl (by kernel_rfl) rfl (r_len Tryz.underlying27 rfl) rfl ?_
    refine a_rd (i := 3) hok rfl (by kernel_rfl) rfl (r_lss rfl rfl) rfl ?_
    refine a_rd (i := 4) hok rfl (by kernel_rfl) rfl (r_move rfl) rfl ?_
    refine b_split (t := 11) rfl (fun _ => ?_) (fun _ => ?_)
    · refine a_rdOn (i := 5) hok rfl rfl rfl rfl (by kernel_rfl) rfl (r_move rfl) rfl ?_
      refine a_rdOn (i := 6) hok rfl rfl rfl rfl (by kernel_rfl) rfl (r_move rfl) rfl ?_
      refine pull fun t9 h_t9 => ?_
      refine a_rdOn (i := 7) hok rfl rfl rfl rfl (by kernel_rfl) rfl (r_index h_t9 Tryz.underlying27 el_29 rfl rfl) rfl ?_
      refine a_rdOn (i := 8) hok rfl rfl rfl rfl (by kernel_rfl) rfl (r_load el_29 rfl) rfl ?_
      refine a_rdOn (i := 9) hok rfl rfl rfl rfl (by kernel_rfl) rfl (r_cloadS Tryz.isAgg29 Tryz.sizeOf29 rfl (j := 0) rfl rfl rfl) rfl ?_
      refine pull fun t10 h_t10 => ?_
      refine a_next hok 10 [] (by kernel_rfl) ?_ trivial
      refine a_stOn (i := 10) hok rfl rfl rfl rfl rfl (s_call (ψ := fun (_ : Unit) => iv .i64 t10) (args := [.tmp 15, .tmp 16]) Tryz.call66 rfl (ref01_Compare_ok h_t10) ⟨arg rfl, arg rfl, trivial⟩ (fun _ _ _ _ h => h)) (by intro _ h; cases h; rfl) (fun _ => ⟨trivial, ⟨trivial, ⟨trivial, ⟨trivial, ⟨trivial, ⟨trivial, ⟨trivial, ⟨trivial, ⟨trivial, ⟨trivial, trivial⟩⟩⟩⟩⟩⟩⟩⟩⟩⟩) (fun _ => ?_)
      refine a_rdOn (i := 11) hok rfl rfl rfl rfl (by kernel_rfl) rfl (r_lss rfl rfl) rfl ?_
      refine a_rd (i := 12) hok rfl (by kernel_rfl) rfl (r_pickT rfl rfl) rfl ?_
      refine a_fin hok (by kernel_rfl) ?_
      refine n_then ?_
      refine ref_cond rfl (fun hb11 => ?_) (fun hb11 => ?_)
      · refine ref_skip (n_then (ref_block (ref_region ?_)))
        refine mv1 rfl rfl ?_
        refine s_rd (r_add rfl rfl) rfl ?_
        refine as1 rfl rfl ?_
        refine l_nil (n_block ?_)
        exact goB () (weak [0] ⟨rfl, rfl, rfl, trivial⟩ ⟨rfl, trivial⟩)
      refine ref_exit (x_then ?_)
      exact brkB () (weak [0] ⟨rfl, rfl, rfl, trivial⟩ ⟨rfl, trivial⟩)
    refine a_off (i := 5) hok rfl rfl rfl rfl rfl (by kernel_rfl) rfl rfl ?_
    refine a_off (i := 6) hok rfl rfl rfl rfl rfl (by kernel_rfl) rfl rfl ?_
    refine a_off (i := 7) hok rfl rfl rfl rfl rfl (by kernel_rfl) rfl rfl ?_
    refine a_off (i := 8) hok rfl rfl rfl rfl rfl (by kernel_rfl) rfl rfl ?_
    refine a_off (i := 9) hok rfl rfl rfl rfl rfl (by kernel_rfl) rfl rfl ?_
    refine a_next hok 10 [] (by kernel_rfl) ?_ trivial
    refine a_stOff (i := 10) hok rfl rfl rfl rfl rfl rfl (by intro _ h; cases h; rfl) ⟨trivial, ⟨trivial, ⟨trivial, ⟨trivial, ⟨trivial, ⟨trivial, ⟨trivial, ⟨trivial, ⟨trivial, ⟨trivial, trivial⟩⟩⟩⟩⟩⟩⟩⟩⟩⟩ ?_
    refine a_off (i := 11) hok rfl rfl rfl rfl rfl (by kernel_rfl) rfl rfl ?_
    refine a_rd (i := 12) hok rfl (by kernel_rfl) rfl (r_pickF rfl rfl) rfl ?_
    refine a_fin hok (by kernel_rfl) ?_
    refine n_then ?_
    refine ref_condF rfl rfl ?_
    refine ref_exit (x_then ?_)
    exact brkB () (weak [0] ⟨rfl, rfl, rfl, trivial⟩ ⟨rfl, trivial⟩)
  refine n_then (ref_seq ?_)
  refine ref_join (fun (j16 : Unit) (x17 : Unit) => [(0, slv rT_api_Literal l_0), (3, pv (ptr b1 0)), (5, iv .i64 q12)]) (fun (j16 : Unit) (x17 : Unit) => [oc b1 [bv x_1.Neg, sv x_1.Name]]) (fun k18 hk18 => ?_) (fun j16 x17 => ?_)
  · refine ref_seq ?_
    refine ref_draw [0, 1, 2, 3, 4, 5, 6, 7, 8, 9, 10, 11] rfl (by kernel_rfl) (fun hok => ?_)
    refine a_rd (i := 0) hok rfl (by kernel_rfl) rfl (r_move rfl) rfl ?_
    refine a_rd (i := 1) hok rfl (by kernel_rfl) rfl (r_move rfl) rfl ?_
    refine a_rd (i := 2) hok rfl (by kernel_rfl) rfl (r_len Tryz.underlying27 rfl) rfl ?_
    refine a_rd (i := 3) hok rfl (by kernel_rfl) rfl (r_lss rfl rfl) rfl ?_
    refine a_rd (i := 4) hok rfl (by kernel_rfl) rfl (r_move rfl) rfl ?_
    refine b_split (t := 26) rfl (fun _ => ?_) (fun _ => ?_)
    · refine a_rdOn (i := 5) hok rfl rfl rfl rfl (by kernel_rfl) rfl (r_move rfl) rfl ?_
      refine a_rdOn (i := 6) hok rfl rfl rfl rfl (by kernel_rfl) rfl (r_move rfl) rfl ?_
      refine pull fun t14 h_t14 => ?_
      refine a_rdOn (i := 7) hok rfl rfl rfl rfl (by kernel_rfl) rfl (r_index h_t14 Tryz.underlying27 el_29 rfl rfl) rfl ?_
      refine a_rdOn (i := 8) hok rfl rfl rfl rfl (by kernel_rfl) rfl (r_load el_29 rfl) rfl ?_
      refine a_rdOn (i := 9) hok rfl rfl rfl rfl (by kernel_rfl) rfl (r_cloadS Tryz.isAgg29 Tryz.sizeOf29 rfl (j := 0) rfl rfl rfl) rfl ?_
      refine a_rdOn (i := 10) hok rfl rfl rfl rfl (by kernel_rfl) rfl (r_steql (u := t14) (v := x_1) eq_29 rfl rfl rfl rfl) rfl ?_
      refine a_rd (i := 11) hok rfl (by kernel_rfl) rfl (r_pickT rfl rfl) rfl ?_
      refine a_fin hok (by kernel_rfl) ?_
      refine n_then ?_
      refine ref_cond rfl (fun hb15 => ?_) (fun hb15 => ?_)
      · refine ref_seq (ref_region ?_)
        refine mv1 rfl rfl ?_
        refine as1 rfl rfl ?_
        refine l_nil (n_then (ref_ret (r_then ?_)))
        exact fin1 (.inl rfl) () [] rfl trivial rfl (rv_tmp rfl)
      refine ref_skip ?_
      exact b_to (hk18 () ()) (weak [0] ⟨rfl, rfl, rfl, trivial⟩ ⟨rfl, trivial⟩)
    refine a_off (i := 5) hok rfl rfl rfl rfl rfl (by kernel_rfl) rfl rfl ?_
    refine a_off (i := 6) hok rfl rfl rfl rfl rfl (by kernel_rfl) rfl rfl ?_
    refine a_off (i := 7) hok rfl rfl rfl rfl rfl (by kernel_rfl) rfl rfl ?_
    refine a_off (i := 8) hok rfl rfl rfl rfl rfl (by kernel_rfl) rfl rfl ?_
    refine a_off (i := 9) hok rfl rfl rfl rfl rfl (by kernel_rfl) rfl rfl ?_
    refine a_off (i := 10) hok rfl rfl rfl rfl rfl (by kernel_rfl) rfl rfl ?_
    refine a_rd (i := 11) hok rfl (by kernel_rfl) rfl (r_pickF rfl rfl) rfl ?_
    refine a_fin hok (by kernel_rfl) ?_
    refine n_then ?_
    refine ref_condF rfl rfl ?_
    refine ref_skip ?_
    exact b_to (hk18 () ()) (weak [0] ⟨rfl, rfl, rfl, trivial⟩ ⟨rfl, trivial⟩)
  refine n_then (ref_seq (ref_region ?_))
  refine s_st (s_bsliceO (xs := []) (ds := []) Tryz.underlying27 el_29 rfl (Nat.le_of_ble_eq_true rfl) trivial) rfl (fun o19 => ?_)
  refine mv1 rfl rfl ?_
  refine mv1 rfl rfl ?_
  refine pull fun t20 h_t20 => ?_
  refine s_rd (r_slice h_t20 Tryz.underlying27 el_29 rfl .dft (.of rfl)) rfl ?_
  refine pull fun out21 h_out21 => ?_
  refine s_st (s_append h_out21 Tryz.underlying27 el_29 rfl (j := 1) rfl rfl) rfl (fun o22 => ?_)
  refine as1 rfl rfl ?_
  refine l_nil (n_then (ref_seq ?_))
  refine ref_draw [0, 1, 4, 5, 6] rfl (by kernel_rfl) (fun hok => ?_)
  refine a_rd (i := 0) hok rfl (by kernel_rfl) rfl (r_move rfl) rfl ?_
  refine a_rd (i := 1) hok rfl (by kernel_rfl) rfl (r_cloadS Tryz.isAgg29 Tryz.sizeOf29 rfl (j := 0) rfl rfl rfl) rfl ?_
  refine a_rd (i := 4) hok rfl (by kernel_rfl) rfl (r_move rfl) rfl ?_
  refine a_rd (i := 5) hok rfl (by kernel_rfl) rfl (r_move rfl) rfl ?_
  refine pull fun t23 h_t23 => ?_
  refine a_rd (i := 6) hok rfl (by kernel_rfl) rfl (r_slice h_t23 Tryz.underlying27 el_29 rfl (.of rfl) .dft) rfl ?_
  refine a_next hok 2 [] (by kernel_rfl) ?_ trivial
  refine a_st (i := 2) hok rfl rfl (s_bslice (xs := [.tmp 41]) (ds := [x_1]) Tryz.underlying27 el_29 rfl (Nat.le_of_ble_eq_true rfl) ⟨(part_agO (ψs := [bv x_1.Neg, sv x_1.Name]) rfl ⟨.inl bv_at, .inl sv_at, trivial⟩), trivial⟩) (by intro _ h; cases h; rfl) (fun _ => ⟨trivial, ⟨trivial, ⟨trivial, ⟨trivial, ⟨trivial, trivial⟩⟩⟩⟩⟩) (fun _ => ?_)
  refine pull fun t24 h_t24 => ?_
  refine a_next hok 3 [] (by kernel_rfl) ?_ trivial
  refine a_st (i := 3) hok rfl rfl (s_append h_t24 Tryz.underlying27 el_29 rfl (j := 1) rfl rfl) (by intro _ h; cases h; rfl) (fun _ => ⟨trivial, ⟨trivial, ⟨trivial, ⟨⟨⟨rfl, rfl⟩, trivial⟩, ⟨trivial, trivial⟩⟩⟩⟩⟩) (fun o25 => ?_)
  refine pull fun t26 h_t26 => ?_
  refine a_next hok 7 [] (by kernel_rfl) ?_ trivial
  refine a_st (i := 7) hok rfl rfl (s_append h_t26 Tryz.underlying27 el_29 rfl (j := 1) rfl rfl) (by intro _ h; cases h; rfl) (fun _ => ⟨trivial, ⟨trivial, ⟨trivial, ⟨⟨⟨rfl, rfl⟩, trivial⟩, ⟨trivial, trivial⟩⟩⟩⟩⟩) (fun o27 => ?_)
  refine a_next hok 8 [] (by kernel_rfl) ?_ trivial
  refine a_st (i := 8) hok rfl rfl (St.ofRd (r_assign rfl)) (by intro _ h; cases h; rfl) (fun _ => ⟨trivial, ⟨trivial, ⟨trivial, ⟨trivial, ⟨trivial, trivial⟩⟩⟩⟩⟩) (fun _ => ?_)
  refine a_fin hok (by kernel_rfl) ?_
  refine b_of (nrm [oc b1 [bv x_1.Neg, sv x_1.Name], oa rT_api_Literal o27.1 o27.2 t26] rfl) ?_
  refine n_then (ref_ret ?_)
  refine b_of (frzL [47, 4] (j := 1) rfl ⟨rfl, rfl, trivial⟩) ?_
  exact fin1 (.inl rfl) () [] rfl trivial rfl (rv_tmp rfl)

/-! deliberation/deliberationref01.Normal -/
noncomputable def ref01_Normal_l1 (l_0 : (List T_api_Literal)) (s11 : (List T_api_Literal) × Int) : Option (Sum ((List T_api_Literal)) ((List T_api_Literal) × Int)) :=
  bif decide (s11.2 < (l_0.length : Int)) then
    Option.bind (idxM l_0 s11.2) fun t14 =>
    Option.bind (ref01_Insert_m s11.1 t14) fun out15 =>
    letM (iadd .i64 s11.2 1) fun i16x =>
    some (Sum.inr (out15, i16x))
  else
    some (Sum.inl s11.1)

noncomputable def ref01_Normal_m (l_0 : (List T_api_Literal)) : Option (List T_api_Literal) :=
  Option.bind (loopC (ref01_Normal_l1 l_0) ([], 0)) fun q17 : (List T_api_Literal) =>
  some q17

theorem ref01_Normal_ok {l_0 : (List T_api_Literal)} {r : List T_api_Literal} (hm : ref01_Normal_m l_0 = some r) :
    FnOk prog 30 [slv rT_api_Literal l_0] [] (fun (x : Unit) => [slv rT_api_Literal r]) (fun (x : Unit) => []) := by
  refine fn_ok (fn := Tryz.f30) (N := 18) (res := fun r x => [slv rT_api_Literal r]) (Ω1 := fun r x => []) Tryz.func30 rfl rfl hm rfl (fun E hM => ?_)
  unfold ref01_Normal_m
  refine ref_seq (ref_region ?_)
  refine as1 rfl rfl ?_
  refine l_nil (n_then (ref_seq (ref_region ?_)))
  refine as1 rfl rfl ?_
  refine l_nil (n_then (ref_seq (ref_seq (ref_region ?_))))
  refine as1 rfl rfl ?_
  refine l_nil (n_then ?_)
  refine b_of (sl_nil rT_api_Literal (t := 3) rfl) ?_
  refine ref_loopB (f := (ref01_Normal_l1 l_0)) (Γl := (fun (s11 : (List T_api_Literal) × Int) (x12 : Unit) => [(0, slv rT_api_Literal l_0), (3, slv rT_api_Literal s11.1), (4, iv .i64 s11.2)])) (Ωl := (fun (s11 : (List T_api_Literal) × Int) (x12 : Unit) => [])) (Γb := (fun (q17 : (List T_api_Literal)) (y18 : Unit) => [(3, slv rT_api_Literal q17)])) (Ωb := (fun (q17 : (List T_api_Literal)) (y18 : Unit) => [])) ([], 0) () (weak [] ⟨rfl, rfl, rfl, trivial⟩ trivial) (fun s11 x12 => ?_) (fun q17 y18 => ?_)
  · unfold ref01_Normal_l1
    refine ref_seq (ref_seq (ref_region ?_))
    refine mv1 rfl rfl ?_
    refine mv1 rfl rfl ?_
    refine s_rd (r_len Tryz.underlying27 rfl) rfl ?_
    refine s_rd (r_lss rfl rfl) rfl ?_
    refine l_nil (n_then ?_)
    refine ref_cond rfl (fun hb13 => ?_) (fun hb13 => ?_)
    · refine ref_skip (n_then (ref_seq (ref_block (ref_region ?_))))
      refine mv1 rfl rfl ?_
      refine mv1 rfl rfl ?_
      refine mv1 rfl rfl ?_
      refine pull fun t14 h_t14 => ?_
      refine s_rd (r_index h_t14 Tryz.underlying27 el_29 rfl rfl) rfl ?_
      refine s_rd (r_load el_29 rfl) rfl ?_
      refine pull fun out15 h_out15 => ?_
      refine s_st (s_call (ψ := fun (_ : Unit) => slv rT_api_Literal out15) (args := [.tmp 11, .tmp 15]) Tryz.call43 rfl (ref01_Insert_ok h_out15) ⟨arg rfl, arg rfl, trivial⟩ (fun _ _ _ _ h => h)) rfl (fun _ => ?_)
      refine as1 rfl rfl ?_
      refine l_nil (n_block (n_then (ref_region ?_)))
      refine mv1 rfl rfl ?_
      refine s_rd (r_add rfl rfl) rfl ?_
      refine as1 rfl rfl ?_
      refine b_let (f := iv .i64) (t := 4) rfl fun i16x => ?_
      refine l_nil ?_
      exact goB () (weak [] ⟨rfl, rfl, rfl, trivial⟩ trivial)
    refine ref_exit (x_then ?_)
    exact brkB () (weak [] ⟨rfl, trivial⟩ trivial)
  refine n_then (ref_seq (ref_region ?_))
  refine mv1 rfl rfl ?_
  refine as1 rfl rfl ?_
  refine l_nil (n_then (ref_ret ?_))
  exact fin1 (.inl rfl) () [] rfl trivial rfl (rv_tmp rfl)

/-! deliberation/deliberationref06.transpose -/
noncomputable def ref06_transpose_l1 (r__0 : T_api_Rule) (i_1 : Int) (s23 : Int × (List T_api_Literal)) : Option (Sum ((List T_api_Literal)) (Int × (List T_api_Literal))) :=
  bif decide (s23.1 < (r__0.Body.length : Int)) then
    Option.bind (idxM r__0.Body s23.1) fun t26 =>
    Option.bind (idxM r__0.Body i_1) fun t27 =>
    bif !decide (t26 = t27) then
      Option.bind (idxM r__0.Body s23.1) fun t29 =>
      Option.bind (appM 24 s23.2 [t29]) fun body30 =>
      letM (iadd .i64 s23.1 1) fun k32 =>
      some (Sum.inr (k32, body30))
    else
      letM (iadd .i64 s23.1 1) fun k33 =>
      some (Sum.inr (k33, s23.2))
  else
    some (Sum.inl s23.2)

noncomputable def ref06_transpose_m (r__0 : T_api_Rule) (i_1 : Int) : Option (T_api_Rule) :=
  Option.bind (loopC (ref06_transpose_l1 r__0 i_1) (0, [])) fun q34 : (List T_api_Literal) =>
  Option.bind (ref01_Complement_m r__0.Head) fun t36 =>
  Option.bind (appM 24 q34 [t36]) fun body37 =>
  Option.bind (idxM r__0.Body i_1) fun t39 =>
  Option.bind (ref01_Normal_m body37) fun t40 =>
  Option.bind (ref01_Complement_m t39) fun t41 =>
  some (T_api_Rule.mk ByteArray.empty true 0 t40 t41)

theorem ref06_transpose_ok {r__0 : T_api_Rule} {i_1 : Int} {r : T_api_Rule} (hm : ref06_transpose_m r__0 i_1 = some r) :
    FnOk prog 54 [ag [sv r__0.Name, bv r__0.Strict, iv .i64 r__0.Rank, slv rT_api_Literal r__0.Body, bv r__0.Head.Neg, sv r__0.Head.Name], iv .i64 i_1] [] (fun (x : Unit) => [ag [sv r.Name, bv r.Strict, iv .i64 r.Rank, slv rT_api_Literal r.Body, bv r.Head.Neg, sv r.Head.Name]]) (fun (x : Unit) => []) := by
  refine fn_ok (fn := Tryz.f54) (N := 48) (res := fun r x => [ag [sv r.Name, bv r.Strict, iv .i64 r.Rank, slv rT_api_Literal r.Body, bv r.Head.Neg, sv r.Head.Name]]) (Ω1 := fun r x => []) Tryz.func54 rfl rfl hm rfl (fun E hM => ?_)
  unfold ref06_transpose_m
  refine ref_seq (ref_region ?_)
  refine s_st (s_box (part_agO (ψs := [sv r__0.Name, bv r__0.Strict, iv .i64 r__0.Rank, slv rT_api_Literal r__0.Body, bv r__0.Head.Neg, sv r__0.Head.Name]) rfl ⟨.inl sv_at, .inl bv_at, .inl iv_at, .inl slv_at, .inl bv_at, .inl sv_at, trivial⟩)) rfl (fun b1 => ?_)
  refine s_st (s_alloc zt_60) rfl (fun b2 => ?_)
  refine l_nil (n_then (ref_seq (ref_region ?_)))
  refine as1 rfl rfl ?_
  refine l_nil (n_then (ref_seq (ref_seq (ref_region ?_))))
  refine as1 rfl rfl ?_
  refine l_nil (n_then ?_)
  refine b_of (own_nil rT_api_Literal) ?_
  refine ref_loopB (f := (ref06_transpose_l1 r__0 i_1)) (Γl := (fun (s23 : Int × (List T_api_Literal)) (x24 : (Value × List Nat)) => [(1, iv .i64 i_1), (2, pv (ptr b1 0)), (4, pv (ptr b2 0)), (5, pv x24.1), (6, iv .i64 s23.1)])) (Ωl := (fun (s23 : Int × (List T_api_Literal)) (x24 : (Value × List Nat)) => [oc b1 [sv r__0.Name, bv r__0.Strict, iv .i64 r__0.Rank, slv rT_api_Literal r__0.Body, bv r__0.Head.Neg, sv r__0.Head.Name], oc b2 [sv ByteArray.empty, bv false, iv .i64 0, pv (.slice none 0 0), bv false, sv ByteArray.empty], oa rT_api_Literal x24.1 x24.2 s23.2])) (Γb := (fun (q34 : (List T_api_Literal)) (y35 : (Value × List Nat)) => [(1, iv .i64 i_1), (2, pv (ptr b1 0)), (4, pv (ptr b2 0)), (5, pv y35.1)])) (Ωb := (fun (q34 : (List T_api_Literal)) (y35 : (Value × List Nat)) => [oc b1 [sv r__0.Name, bv r__0.Strict, iv .i64 r__0.Rank, slv rT_api_Literal r__0.Body, bv r__0.Head.Neg, sv r__0.Head.Name], oc b2 [sv ByteArray.empty, bv false, iv .i64 0, pv (.slice none 0 0), bv false, sv ByteArray.empty], oa rT_api_Literal y35.1 y35.2 q34])) (0, []) ((.slice none 0 0), []) (weak [0, 1, 2] ⟨rfl, rfl, rfl, rfl, rfl, trivial⟩ ⟨rfl, rfl, rfl, trivial⟩) (fun s23 x24 => ?_) (fun q34 y35 => ?_)
  · unfold ref06_transpose_l1
    refine ref_seq (ref_seq (ref_region ?_))
    refine mv1 rfl rfl ?_
    refine s_rd (r_faddr (fo := 3) Tryz.underlying60 rfl rfl Tryz.sizeOf27 rfl) rfl ?_
    refine s_rd (r_cload Tryz.isAgg27 rfl (j := 0) rfl rfl) rfl ?_
    refine s_rd (r_len Tryz.underlying27 rfl) rfl ?_
    refine s_rd (r_lss rfl rfl) rfl ?_
    refine l_nil (n_then ?_)
    refine ref_cond rfl (fun hb25 => ?_) (fun hb25 => ?_)
    · refine ref_skip (n_then (ref_seq (ref_block (ref_seq ?_))))
      refine ref_draw [0, 1, 2, 3, 4, 5, 6, 7, 8, 9, 10] rfl (by kernel_rfl) (fun hok => ?_)
      refine a_rd (i := 0) hok rfl (by kernel_rfl) rfl (r_faddr (fo := 3) Tryz.underlying60 rfl rfl Tryz.sizeOf27 rfl) rfl ?_
      refine a_rd (i := 1) hok rfl (by kernel_rfl) rfl (r_cload Tryz.isAgg27 rfl (j := 0) rfl rfl) rfl ?_
      refine a_rd (i := 2) hok rfl (by kernel_rfl) rfl (r_move rfl) rfl ?_
      refine pull fun t26 h_t26 => ?_
      refine a_rd (i := 3) hok rfl (by kernel_rfl) rfl (r_index h_t26 Tryz.underlying27 el_29 rfl rfl) rfl ?_
      refine a_rd (i := 4) hok rfl (by kernel_rfl) rfl (r_load el_29 rfl) rfl ?_
      refine a_rd (i := 5) hok rfl (by kernel_rfl) rfl (r_faddr (fo := 3) Tryz.underlying60 rfl rfl Tryz.sizeOf27 rfl) rfl ?_
      refine a_rd (i := 6) hok rfl (by kernel_rfl) rfl (r_cload Tryz.isAgg27 rfl (j := 0) rfl rfl) rfl ?_
      refine a_rd (i := 7) hok rfl (by kernel_rfl) rfl (r_move rfl) rfl ?_
      refine pull fun t27 h_t27 => ?_
      refine a_rd (i := 8) hok rfl (by kernel_rfl) rfl (r_index h_t27 Tryz.underlying27 el_29 rfl rfl) rfl ?_
      refine a_rd (i := 9) hok rfl (by kernel_rfl) rfl (r_load el_29 rfl) rfl ?_
      refine a_rd (i := 10) hok rfl (by kernel_rfl) rfl (r_stneq (u := t26) (v := t27) eq_29 rfl rfl rfl rfl) rfl ?_
      refine a_fin hok (by kernel_rfl) ?_
      refine n_then ?_
      refine ref_cond rfl (fun hb28 => ?_) (fun hb28 => ?_)
      · refine ref_region ?_
        refine mv1 rfl rfl ?_
        refine s_rd (r_faddr (fo := 3) Tryz.underlying60 rfl rfl Tryz.sizeOf27 rfl) rfl ?_
        refine s_rd (r_cload Tryz.isAgg27 rfl (j := 0) rfl rfl) rfl ?_
        refine mv1 rfl rfl ?_
        refine pull fun t29 h_t29 => ?_
        refine s_rd (r_index h_t29 Tryz.underlying27 el_29 rfl rfl) rfl ?_
        refine s_rd (r_load el_29 rfl) rfl ?_
        refine s_st (s_bslice (xs := [.tmp 30]) (ds := [t29]) Tryz.underlying27 el_29 rfl (Nat.le_of_ble_eq_true rfl) ⟨(part_agO (ψs := [bv t29.Neg, sv t29.Name]) rfl ⟨.inl bv_at, .inl sv_at, trivial⟩), trivial⟩) rfl (fun _ => ?_)
        refine pull fun body30 h_body30 => ?_
        refine s_st (s_append h_body30 Tryz.underlying27 el_29 rfl (j := 2) rfl rfl) rfl (fun o31 => ?_)
        refine as1 rfl rfl ?_
        refine l_nil ?_
        refine b_of (nrm [oc b1 [sv r__0.Name, bv r__0.Strict, iv .i64 r__0.Rank, slv rT_api_Literal r__0.Body, bv r__0.Head.Neg, sv r__0.Head.Name], oc b2 [sv ByteArray.empty, bv false, iv .i64 0, pv (.slice none 0 0), bv false, sv ByteArray.empty], oa rT_api_Literal o31.1 o31.2 body30] rfl) ?_
        refine n_block (n_then (ref_region ?_))
        refine mv1 rfl rfl ?_
        refine s_rd (r_add rfl rfl) rfl ?_
        refine as1 rfl rfl ?_
        refine b_let (f := iv .i64) (t := 6) rfl fun k32 => ?_
        refine l_nil ?_
        exact goB o31 (weak [0, 1, 2] ⟨rfl, rfl, rfl, rfl, rfl, trivial⟩ ⟨rfl, rfl, rfl, trivial⟩)
      refine ref_skip (n_block (n_then (ref_region ?_)))
      refine mv1 rfl rfl ?_
      refine s_rd (r_add rfl rfl) rfl ?_
      refine as1 rfl rfl ?_
      refine b_let (f := iv .i64) (t := 6) rfl fun k33 => ?_
      refine l_nil ?_
      exact goB x24 (weak [0, 1, 2] ⟨rfl, rfl, rfl, rfl, rfl, trivial⟩ ⟨rfl, rfl, rfl, trivial⟩)
    refine ref_exit (x_then ?_)
    exact brkB x24 (weak [0, 1, 2] ⟨rfl, rfl, rfl, rfl, trivial⟩ ⟨rfl, rfl, rfl, trivial⟩)
  refine n_then (ref_seq (ref_region ?_))
  refine mv1 rfl rfl ?_
  refine s_rd (r_faddr (fo := 4) Tryz.underlying60 rfl rfl Tryz.sizeOf29 rfl) rfl ?_
  refine s_rd (r_cloadS Tryz.isAgg29 Tryz.sizeOf29 rfl (j := 0) rfl rfl rfl) rfl ?_
  refine pull fun t36 h_t36 => ?_
  refine s_st (s_call (ψ := fun (_ : Unit) => ag [bv t36.Neg, sv t36.Name]) (args := [.tmp 35]) Tryz.call86 rfl (ref01_Complement_ok h_t36) ⟨arg rfl, trivial⟩ (fun _ _ _ _ h => h)) rfl (fun _ => ?_)
  refine s_st (s_bslice (xs := [.tmp 36]) (ds := [t36]) Tryz.underlying27 el_29 rfl (Nat.le_of_ble_eq_true rfl) ⟨(part_agO (ψs := [bv t36.Neg, sv t36.Name]) rfl ⟨.inl bv_at, .inl sv_at, trivial⟩), trivial⟩) rfl (fun _ => ?_)
  refine pull fun body37 h_body37 => ?_
  refine s_st (s_append h_body37 Tryz.underlying27 el_29 rfl (j := 2) rfl rfl) rfl (fun o38 => ?_)
  refine as1 rfl rfl ?_
  refine l_nil (n_then (ref_seq ?_))
  refine ref_draw [0, 2, 3, 4, 5, 6, 8] rfl (by kernel_rfl) (fun hok => ?_)
  refine a_rd (i := 0) hok rfl (by kernel_rfl) rfl (r_move rfl) rfl ?_
  refine a_rd (i := 2) hok rfl (by kernel_rfl) rfl (r_faddr (fo := 3) Tryz.underlying60 rfl rfl Tryz.sizeOf27 rfl) rfl ?_
  refine a_rd (i := 3) hok rfl (by kernel_rfl) rfl (r_cload Tryz.isAgg27 rfl (j := 0) rfl rfl) rfl ?_
  refine a_rd (i := 4) hok rfl (by kernel_rfl) rfl (r_move rfl) rfl ?_
  refine pull fun t39 h_t39 => ?_
  refine a_rd (i := 5) hok rfl (by kernel_rfl) rfl (r_index h_t39 Tryz.underlying27 el_29 rfl rfl) rfl ?_
  refine a_rd (i := 6) hok rfl (by kernel_rfl) rfl (r_load el_29 rfl) rfl ?_
  refine a_of (frzL [5, 38, 39] (j := 2) rfl ⟨rfl, rfl, rfl, trivial⟩) (dead_keeps (j := 2) rfl) ?_
  refine pull fun t40 h_t40 => ?_
  refine a_next hok 1 [] (by kernel_rfl) ?_ trivial
  refine a_st (i := 1) hok rfl rfl (s_call (ψ := fun (_ : Unit) => slv rT_api_Literal t40) (args := [.tmp 39]) Tryz.call30 rfl (ref01_Normal_ok h_t40) ⟨arg rfl, trivial⟩ (fun _ _ _ _ h => h)) (by intro _ h; cases h; rfl) (fun _ => ⟨trivial, ⟨trivial, ⟨trivial, ⟨⟨⟨rfl, rfl⟩, trivial⟩, ⟨trivial, ⟨trivial, trivial⟩⟩⟩⟩⟩⟩) (fun _ => ?_)
  refine pull fun t41 h_t41 => ?_
  refine a_next hok 7 [] (by kernel_rfl) ?_ trivial
  refine a_st (i := 7) hok rfl rfl (s_call (ψ := fun (_ : Unit) => ag [bv t41.Neg, sv t41.Name]) (args := [.tmp 45]) Tryz.call86 rfl (ref01_Complement_ok h_t41) ⟨arg rfl, trivial⟩ (fun _ _ _ _ h => h)) (by intro _ h; cases h; rfl) (fun _ => ⟨trivial, ⟨trivial, ⟨trivial, ⟨⟨⟨rfl, rfl⟩, trivial⟩, ⟨trivial, ⟨trivial, trivial⟩⟩⟩⟩⟩⟩) (fun _ => ?_)
  refine a_rd (i := 8) hok rfl (by kernel_rfl) rfl (r_build (ps := [(1, .const (.bool true)), (3, .tmp 40), (4, .tmp 46)]) (rs := [(1, [bv true]), (3, [slv rT_api_Literal t40]), (4, [bv t41.Neg, sv t41.Name])]) st_60 zs_60 ⟨rfl, (part_at rfl bv_at), ⟨rfl, (part_at rfl slv_at), ⟨rfl, (part_agO (ψs := [bv t41.Neg, sv t41.Name]) rfl ⟨.inl bv_at, .inl sv_at, trivial⟩), trivial⟩⟩⟩ rfl rfl) rfl ?_
  refine a_next hok 9 [] (by kernel_rfl) ?_ trivial
  refine a_st (i := 9) hok rfl rfl (s_cstore (out := [sv ByteArray.empty, bv true, iv .i64 0, slv rT_api_Literal t40, bv t41.Neg, sv t41.Name]) Tryz.sizeOf60 rfl (j := 1) rfl (part_agO (ψs := [sv ByteArray.empty, bv true, iv .i64 0, slv rT_api_Literal t40, bv t41.Neg, sv t41.Name]) rfl ⟨.inl sv_at, .inl bv_at, .inl iv_at, .inl slv_at, .inl bv_at, .inl sv_at, trivial⟩) rfl rfl rfl) (by intro _ h; cases h) (fun _ => ⟨trivial, ⟨trivial, ⟨trivial, ⟨trivial, ⟨trivial, ⟨trivial, ⟨trivial, trivial⟩⟩⟩⟩⟩⟩⟩) (fun _ => ?_)
  refine a_fin hok (by kernel_rfl) ?_
  refine b_of (nrm [oc b1 [sv r__0.Name, bv r__0.Strict, iv .i64 r__0.Rank, slv rT_api_Literal r__0.Body, bv r__0.Head.Neg, sv r__0.Head.Name], oc b2 [sv ByteArray.empty, bv true, iv .i64 0, slv rT_api_Literal t40, bv t41.Neg, sv t41.Name], dead] rfl) ?_
  refine n_then (ref_ret ?_)
  exact fin1 (.inl rfl) () [] rfl trivial rfl (rv_cell rfl (j := 1) rfl Tryz.isAgg60 Tryz.sizeOf60 rfl rfl)

/-! deliberation/deliberationref01.Same -/
noncomputable def ref01_Same_l1 (a__0 : (List T_api_Literal)) (b_1 : (List T_api_Literal)) (s8 : Int) : Option (Sum ((Sum (Bool) (Unit))) (Int)) :=
  bif decide (s8 < (a__0.length : Int)) then
    Option.bind (idxM a__0 s8) fun t11 =>
    Option.bind (idxM b_1 s8) fun t12 =>
    bif !decide (t11 = t12) then
      some (Sum.inl (Sum.inl false))
    else
      some (Sum.inr (iadd .i64 s8 1))
  else
    some (Sum.inl (Sum.inr ()))

noncomputable def ref01_Same_m (a__0 : (List T_api_Literal)) (b_1 : (List T_api_Literal)) : Option (Bool) :=
  bif (a__0.length : Int) != (b_1.length : Int) then
    some false
  else
    Option.bind (loopC (ref01_Same_l1 a__0 b_1) 0) (sumK (fun a : Bool => some a) fun q14 : Unit =>
      some true)

theorem ref01_Same_ok {a__0 : (List T_api_Literal)} {b_1 : (List T_api_Literal)} {r : Bool} (hm : ref01_Same_m a__0 b_1 = some r) :
    FnOk prog 12 [slv rT_api_Literal a__0, slv rT_api_Literal b_1] [] (fun (x : Unit) => [bv r]) (fun (x : Unit) => []) := by
  refine fn_ok (fn := Tryz.f12) (N := 26) (res := fun r x => [bv r]) (Ω1 := fun r x => []) Tryz.func12 rfl rfl hm rfl (fun E hM => ?_)
  unfold ref01_Same_m
  refine ref_seq (ref_region ?_)
  refine as1 rfl rfl ?_
  refine l_nil (n_then (ref_seq (ref_seq (ref_region ?_))))
  refine mv1 rfl rfl ?_
  refine s_rd (r_len Tryz.underlying27 rfl) rfl ?_
  refine mv1 rfl rfl ?_
  refine s_rd (r_len Tryz.underlying27 rfl) rfl ?_
  refine s_rd (r_neq rfl rfl) rfl ?_
  refine l_nil (n_then ?_)
  refine ref_cond rfl (fun hb1 => ?_) (fun hb1 => ?_)
  · refine ref_seq (ref_region ?_)
    refine as1 rfl rfl ?_
    refine l_nil (n_then (ref_ret (r_then ?_)))
    exact fin1 (.inl rfl) () [] rfl trivial rfl (rv_tmp rfl)
  refine ref_skip (n_then (ref_seq (ref_seq (ref_region ?_))))
  refine as1 rfl rfl ?_
  refine l_nil (n_then ?_)
  refine ref_loopX (f := (ref01_Same_l1 a__0 b_1)) (Γl := (fun (s8 : Int) (x9 : Unit) => [(0, slv rT_api_Literal a__0), (1, slv rT_api_Literal b_1), (5, iv .i64 s8)])) (Ωl := (fun (s8 : Int) (x9 : Unit) => [])) (Γb := (fun (q14 : Unit) (y15 : Unit) => [])) (Ωb := (fun (q14 : Unit) (y15 : Unit) => [])) (kr := (fun a : Bool => some a)) 0 () (weak [] ⟨rfl, rfl, rfl, trivial⟩ trivial) (fun s8 x9 => ?_) (fun q14 y15 => ?_)
  · unfold ref01_Same_l1
    refine ref_seq (ref_seq (ref_region ?_))
    refine mv1 rfl rfl ?_
    refine mv1 rfl rfl ?_
    refine s_rd (r_len Tryz.underlying27 rfl) rfl ?_
    refine s_rd (r_lss rfl rfl) rfl ?_
    refine l_nil (n_then ?_)
    refine ref_cond rfl (fun hb10 => ?_) (fun hb10 => ?_)
    · refine ref_skip (n_then (ref_seq (ref_block (ref_seq ?_))))
      refine ref_draw [0, 1, 2, 3, 4, 5, 6, 7, 8] rfl (by kernel_rfl) (fun hok => ?_)
      refine a_rd (i := 0) hok rfl (by kernel_rfl) rfl (r_move rfl) rfl ?_
      refine a_rd (i := 1) hok rfl (by kernel_rfl) rfl (r_move rfl) rfl ?_
      refine pull fun t11 h_t11 => ?_
      refine a_rd (i := 2) hok rfl (by kernel_rfl) rfl (r_index h_t11 Tryz.underlying27 el_29 rfl rfl) rfl ?_
      refine a_rd (i := 3) hok rfl (by kernel_rfl) rfl (r_load el_29 rfl) rfl ?_
      refine a_rd (i := 4) hok rfl (by kernel_rfl) rfl (r_move rfl) rfl ?_
      refine a_rd (i := 5) hok rfl (by kernel_rfl) rfl (r_move rfl) rfl ?_
      refine pull fun t12 h_t12 => ?_
      refine a_rd (i := 6) hok rfl (by kernel_rfl) rfl (r_index h_t12 Tryz.underlying27 el_29 rfl rfl) rfl ?_
      refine a_rd (i := 7) hok rfl (by kernel_rfl) rfl (r_load el_29 rfl) rfl ?_
      refine a_rd (i := 8) hok rfl (by kernel_rfl) rfl (r_stneq (u := t11) (v := t12) eq_29 rfl rfl rfl rfl) rfl ?_
      refine a_fin hok (by kernel_rfl) ?_
      refine n_then ?_
      refine ref_cond rfl (fun hb13 => ?_) (fun hb13 => ?_)
      · refine ref_seq (ref_region ?_)
        refine as1 rfl rfl ?_
        refine l_nil (n_then (ref_ret (r_block (r_then ?_))))
        refine retX ?_
        refine r_block (r_then ?_)
        exact fin1 (.inl rfl) () [] rfl trivial rfl (rv_tmp rfl)
      refine ref_skip (n_block (n_then (ref_region ?_)))
      refine mv1 rfl rfl ?_
      refine s_rd (r_add rfl rfl) rfl ?_
      refine as1 rfl rfl ?_
      refine l_nil ?_
      exact goX () (weak [] ⟨rfl, rfl, rfl, trivial⟩ trivial)
    refine ref_exit (x_then ?_)
    exact brkX () (weak [] trivial trivial)
  refine n_then (ref_seq (ref_region ?_))
  refine as1 rfl rfl ?_
  refine l_nil (n_then (ref_ret ?_))
  exact fin1 (.inl rfl) () [] rfl trivial rfl (rv_tmp rfl)

/-! deliberation/deliberationref06.alike -/
noncomputable def ref06_alike_l1 (b_0 : T_api_Base) (r__1 : T_api_Rule) (s10 : Int) : Option (Sum ((Sum (Bool) (Unit))) (Int)) :=
  bif decide (s10 < (b_0.Rules.length : Int)) then
    Option.bind (idxM b_0.Rules s10) fun t13 =>
    bif t13.Strict then
      bif decide (t13.Head = r__1.Head) then
        Option.bind (ref01_Same_m t13.Body r__1.Body) fun t15 =>
        bif t15 then
          some (Sum.inl (Sum.inl true))
        else
          letM (iadd .i64 s10 1) fun i17 =>
          some (Sum.inr i17)
      else
        letM (iadd .i64 s10 1) fun i18 =>
        some (Sum.inr i18)
    else
      letM (iadd .i64 s10 1) fun i19 =>
      some (Sum.inr i19)
  else
    some (Sum.inl (Sum.inr ()))

noncomputable def ref06_alike_m (b_0 : T_api_Base) (r__1 : T_api_Rule) : Option (Bool) :=
  Option.bind (loopC (ref06_alike_l1 b_0 r__1) 0) (sumK (fun a : Bool => some a) fun q20 : Unit =>
    some false)

theorem ref06_alike_ok {b_0 : T_api_Base} {r__1 : T_api_Rule} {r : Bool} (hm : ref06_alike_m b_0 r__1 = some r) :
    FnOk prog 55 [ag [slv rT_api_Premise b_0.Premises, slv rT_api_Rule b_0.Rules, slv rT_api_Promotion b_0.Promotions], ag [sv r__1.Name, bv r__1.Strict, iv .i64 r__1.Rank, slv rT_api_Literal r__1.Body, bv r__1.Head.Neg, sv r__1.Head.Name]] [] (fun (x : Unit) => [bv r]) (fun (x : Unit) => []) := by
  refine fn_ok (fn := Tryz.f55) (N := 35) (res := fun r x => [bv r]) (Ω1 := fun r x => []) Tryz.func55 rfl rfl hm rfl (fun E hM => ?_)
  unfold ref06_alike_m
  refine ref_seq (ref_region ?_)
  refine s_st (s_box (part_agO (ψs := [slv rT_api_Premise b_0.Premises, slv rT_api_Rule b_0.Rules, slv rT_api_Promotion b_0.Promotions]) rfl ⟨.inl slv_at, .inl slv_at, .inl slv_at, trivial⟩)) rfl (fun b1 => ?_)
  refine s_st (s_box (part_agO (ψs := [sv r__1.Name, bv r__1.Strict, iv .i64 r__1.Rank, slv rT_api_Literal r__1.Body, bv r__1.Head.Neg, sv r__1.Head.Name]) rfl ⟨.inl sv_at, .inl bv_at, .inl iv_at, .inl slv_at, .inl bv_at, .inl sv_at, trivial⟩)) rfl (fun b2 => ?_)
  refine as1 rfl rfl ?_
  refine l_nil (n_then (ref_seq (ref_seq (ref_region ?_))))
  refine as1 rfl rfl ?_
  refine l_nil (n_then ?_)
  refine ref_loopX (f := (ref06_alike_l1 b_0 r__1)) (Γl := (fun (s10 : Int) (x11 : Unit) => [(2, pv (ptr b1 0)), (3, pv (ptr b2 0)), (5, iv .i64 s10)])) (Ωl := (fun (s10 : Int) (x11 : Unit) => [oc b1 [slv rT_api_Premise b_0.Premises, slv rT_api_Rule b_0.Rules, slv rT_api_Promotion b_0.Promotions], oc b2 [sv r__1.Name, bv r__1.Strict, iv .i64 r__1.Rank, slv rT_api_Literal r__1.Body, bv r__1.Head.Neg, sv r__1.Head.Name]])) (Γb := (fun (q20 : Unit) (y21 : Unit) => [])) (Ωb := (fun (q20 : Unit) (y21 : Unit) => [])) (kr := (fun a : Bool => some a)) 0 () (weak [0, 1] ⟨rfl, rfl, rfl, trivial⟩ ⟨rfl, rfl, trivial⟩) (fun s10 x11 => ?_) (fun q20 y21 => ?_)
  · unfold ref06_alike_l1
    refine ref_seq (ref_seq (ref_region ?_))
    refine mv1 rfl rfl ?_
    refine s_rd (r_faddr (fo := 1) Tryz.underlying26 rfl rfl Tryz.sizeOf23 rfl) rfl ?_
    refine s_rd (r_cload Tryz.isAgg23 rfl (j := 0) rfl rfl) rfl ?_
    refine s_rd (r_len Tryz.underlying23 rfl) rfl ?_
    refine s_rd (r_lss rfl rfl) rfl ?_
    refine l_nil (n_then ?_)
    refine ref_cond rfl (fun hb12 => ?_) (fun hb12 => ?_)
    · refine ref_skip (n_then (ref_seq (ref_block (ref_seq (ref_region ?_)))))
      refine s_rd (r_faddr (fo := 1) Tryz.underlying26 rfl rfl Tryz.sizeOf23 rfl) rfl ?_
      refine s_rd (r_cload Tryz.isAgg23 rfl (j := 0) rfl rfl) rfl ?_
      refine mv1 rfl rfl ?_
      refine pull fun t13 h_t13 => ?_
      refine s_rd (r_index h_t13 Tryz.underlying23 el_60 rfl rfl) rfl ?_
      refine s_rd (r_load el_60 rfl) rfl ?_
      refine s_st (s_alloc zt_60) rfl (fun b14 => ?_)
      refine s_st0 (s_cstore (out := [sv t13.Name, bv t13.Strict, iv .i64 t13.Rank, slv rT_api_Literal t13.Body, bv t13.Head.Neg, sv t13.Head.Name]) Tryz.sizeOf60 rfl (j := 2) rfl (part_agO (ψs := [sv t13.Name, bv t13.Strict, iv .i64 t13.Rank, slv rT_api_Literal t13.Body, bv t13.Head.Neg, sv t13.Head.Name]) rfl ⟨.inl sv_at, .inl bv_at, .inl iv_at, .inl slv_at, .inl bv_at, .inl sv_at, trivial⟩) rfl rfl rfl) (fun _ => ?_)
      refine l_nil ?_
      refine b_of (nrm [oc b1 [slv rT_api_Premise b_0.Premises, slv rT_api_Rule b_0.Rules, slv rT_api_Promotion b_0.Promotions], oc b2 [sv r__1.Name, bv r__1.Strict, iv .i64 r__1.Rank, slv rT_api_Literal r__1.Body, bv r__1.Head.Neg, sv r__1.Head.Name], oc b14 [sv t13.Name, bv t13.Strict, iv .i64 t13.Rank, slv rT_api_Literal t13.Body, bv t13.Head.Neg, sv t13.Head.Name]] rfl) ?_
      refine n_then (ref_seq (ref_region ?_))
      refine s_rd (r_faddr (fo := 1) Tryz.underlying60 rfl rfl Tryz.sizeOf4 rfl) rfl ?_
      refine s_rd (r_cload Tryz.isAgg4 rfl (j := 2) rfl rfl) rfl ?_
      refine mv1 rfl rfl ?_
      refine b_split (t := 21) rfl (fun _ => ?_) (fun _ => ?_)
      · refine s_on rfl rfl rfl ?_
        refine s_rd (r_faddr (fo := 4) Tryz.underlying60 rfl rfl Tryz.sizeOf29 rfl) rfl ?_
        refine s_on rfl rfl rfl ?_
        refine s_rd (r_cloadS Tryz.isAgg29 Tryz.sizeOf29 rfl (j := 2) rfl rfl rfl) rfl ?_
        refine s_on rfl rfl rfl ?_
        refine s_rd (r_faddr (fo := 4) Tryz.underlying60 rfl rfl Tryz.sizeOf29 rfl) rfl ?_
        refine s_on rfl rfl rfl ?_
        refine s_rd (r_cloadS Tryz.isAgg29 Tryz.sizeOf29 rfl (j := 1) rfl rfl rfl) rfl ?_
        refine s_on rfl rfl rfl ?_
        refine s_rd (r_steql (u := t13.Head) (v := r__1.Head) eq_29 rfl rfl rfl rfl) rfl ?_
        refine s_rd (r_pickT rfl rfl) rfl ?_
        refine mv1 rfl rfl ?_
        refine b_split (t := 28) rfl (fun _ => ?_) (fun _ => ?_)
        · refine s_on rfl rfl rfl ?_
          refine s_rd (r_faddr (fo := 3) Tryz.underlying60 rfl rfl Tryz.sizeOf27 rfl) rfl ?_
          refine s_on rfl rfl rfl ?_
          refine s_rd (r_cload Tryz.isAgg27 rfl (j := 2) rfl rfl) rfl ?_
          refine s_on rfl rfl rfl ?_
          refine s_rd (r_faddr (fo := 3) Tryz.underlying60 rfl rfl Tryz.sizeOf27 rfl) rfl ?_
          refine s_on rfl rfl rfl ?_
          refine s_rd (r_cload Tryz.isAgg27 rfl (j := 1) rfl rfl) rfl ?_
          refine s_on rfl rfl rfl ?_
          refine pull fun t15 h_t15 => ?_
          refine s_st (s_call (ψ := fun (_ : Unit) => bv t15) (args := [.tmp 30, .tmp 32]) Tryz.call12 rfl (ref01_Same_ok h_t15) ⟨arg rfl, arg rfl, trivial⟩ (fun _ _ _ _ h => h)) rfl (fun _ => ?_)
          refine s_rd (r_pickT rfl rfl) rfl ?_
          refine l_nil (n_then ?_)
          refine ref_cond rfl (fun hb16 => ?_) (fun hb16 => ?_)
          · refine ref_seq (ref_region ?_)
            refine as1 rfl rfl ?_
            refine l_nil (n_then (ref_ret (r_block (r_then ?_))))
            refine retX ?_
            refine r_block (r_then ?_)
            exact fin1 (.inl rfl) () [] rfl trivial rfl (rv_tmp rfl)
          refine ref_skip (n_block (n_then (ref_region ?_)))
          refine mv1 rfl rfl ?_
          refine s_rd (r_add rfl rfl) rfl ?_
          refine as1 rfl rfl ?_
          refine b_let (f := iv .i64) (t := 5) rfl fun i17 => ?_
          refine l_nil ?_
          exact goX () (weak [0, 1] ⟨rfl, rfl, rfl, trivial⟩ ⟨rfl, rfl, trivial⟩)
        refine s_off rfl rfl rfl rfl rfl ?_
        refine s_off rfl rfl rfl rfl rfl ?_
        refine s_off rfl rfl rfl rfl rfl ?_
        refine s_off rfl rfl rfl rfl rfl ?_
        refine s_off rfl rfl rfl rfl rfl ?_
        refine s_rd (r_pickF rfl rfl) rfl ?_
        refine l_nil (n_then ?_)
        refine ref_condF rfl rfl ?_
        refine ref_skip (n_block (n_then (ref_region ?_)))
        refine mv1 rfl rfl ?_
        refine s_rd (r_add rfl rfl) rfl ?_
        refine as1 rfl rfl ?_
        refine b_let (f := iv .i64) (t := 5) rfl fun i18 => ?_
        refine l_nil ?_
        exact goX () (weak [0, 1] ⟨rfl, rfl, rfl, trivial⟩ ⟨rfl, rfl, trivial⟩)
      refine s_off rfl rfl rfl rfl rfl ?_
      refine s_off rfl rfl rfl rfl rfl ?_
      refine s_off rfl rfl rfl rfl rfl ?_
      refine s_off rfl rfl rfl rfl rfl ?_
      refine s_off rfl rfl rfl rfl rfl ?_
      refine s_rd (r_pickF rfl rfl) rfl ?_
      refine mv1 rfl rfl ?_
      refine s_off rfl rfl rfl rfl rfl ?_
      refine s_off rfl rfl rfl rfl rfl ?_
      refine s_off rfl rfl rfl rfl rfl ?_
      refine s_off rfl rfl rfl rfl rfl ?_
      refine s_off rfl rfl rfl rfl rfl ?_
      refine s_rd (r_pickF rfl rfl) rfl ?_
      refine l_nil (n_then ?_)
      refine ref_condF rfl rfl ?_
      refine ref_skip (n_block (n_then (ref_region ?_)))
      refine mv1 rfl rfl ?_
      refine s_rd (r_add rfl rfl) rfl ?_
      refine as1 rfl rfl ?_
      refine b_let (f := iv .i64) (t := 5) rfl fun i19 => ?_
      refine l_nil ?_
      exact goX () (weak [0, 1] ⟨rfl, rfl, rfl, trivial⟩ ⟨rfl, rfl, trivial⟩)
    refine ref_exit (x_then ?_)
    exact brkX () (weak [] trivial trivial)
  refine n_then (ref_seq (ref_region ?_))
  refine as1 rfl rfl ?_
  refine l_nil (n_then (ref_ret ?_))
  exact fin1 (.inl rfl) () [] rfl trivial rfl (rv_tmp rfl)

/-! deliberation/deliberationref06.decimal -/
noncomputable def ref06_decimal_b (rec_ : Int → Option (ByteArray)) (n_0 : Int) : Option (ByteArray) :=
  bif decide (n_0 < 10) then
    Option.bind (ssubM (ByteArray.mk #[48, 49, 50, 51, 52, 53, 54, 55, 56, 57]) n_0 (iadd .i64 n_0 1)) fun t2 =>
    some t2
  else
    Option.bind (ssubM (ByteArray.mk #[48, 49, 50, 51, 52, 53, 54, 55, 56, 57]) (irem .i64 n_0 10) (iadd .i64 (irem .i64 n_0 10) 1)) fun t3 =>
    Option.bind (rec_ (iquo .i64 n_0 10)) fun t4 =>
    Option.bind (sconM t4 t3) fun t5 =>
    some t5

noncomputable def ref06_decimal_n : Nat → Int → Option (ByteArray)
  | 0 => fun _ => none
  | n_ + 1 => ref06_decimal_b (ref06_decimal_n n_)

noncomputable def ref06_decimal_m (n_0 : Int) : Option (ByteArray) := recC fun n_ => ref06_decimal_n n_ n_0

theorem ref06_decimal_step (rec_ : Int → Option (ByteArray)) (ih : ∀ {n_0 : Int} {r : ByteArray}, rec_ n_0 = some r →
    FnOk prog 87 [iv .i64 n_0] [] (fun (x : Unit) => [sv r]) (fun (x : Unit) => [])) {n_0 : Int} {r : ByteArray} (hm : ref06_decimal_b rec_ n_0 = some r) :
    FnOk prog 87 [iv .i64 n_0] [] (fun (x : Unit) => [sv r]) (fun (x : Unit) => []) := by
  refine fn_ok (fn := Tryz.f87) (N := 19) (res := fun r x => [sv r]) (Ω1 := fun r x => []) Tryz.func87 rfl rfl hm rfl (fun E hM => ?_)
  unfold ref06_decimal_b
  refine ref_seq (ref_region ?_)
  refine as1 rfl rfl ?_
  refine l_nil (n_then (ref_seq (ref_seq (ref_region ?_))))
  refine mv1 rfl rfl ?_
  refine s_rd (r_lss rfl rfl) rfl ?_
  refine l_nil (n_then ?_)
  refine ref_cond rfl (fun hb1 => ?_) (fun hb1 => ?_)
  · refine ref_seq (ref_region ?_)
    refine mv1 rfl rfl ?_
    refine mv1 rfl rfl ?_
    refine s_rd (r_add rfl rfl) rfl ?_
    refine pull fun t2 h_t2 => ?_
    refine s_rd (r_ssub h_t2 Tryz.underlying9 rfl (.of rfl) (.of rfl)) rfl ?_
    refine as1 rfl rfl ?_
    refine l_nil (n_then (ref_ret (r_then ?_)))
    exact fin1 (.inl rfl) () [] rfl trivial rfl (rv_tmp rfl)
  refine ref_skip (n_then (ref_seq ?_))
  refine ref_draw [0, 1, 3, 4, 5, 6, 7, 8, 9] rfl (by kernel_rfl) (fun hok => ?_)
  refine a_rd (i := 0) hok rfl (by kernel_rfl) rfl (r_move rfl) rfl ?_
  refine a_rd (i := 1) hok rfl (by kernel_rfl) rfl (r_quo rfl rfl (by decide)) rfl ?_
  refine a_rd (i := 3) hok rfl (by kernel_rfl) rfl (r_move rfl) rfl ?_
  refine a_rd (i := 4) hok rfl (by kernel_rfl) rfl (r_rem rfl rfl (by decide)) rfl ?_
  refine a_rd (i := 5) hok rfl (by kernel_rfl) rfl (r_move rfl) rfl ?_
  refine a_rd (i := 6) hok rfl (by kernel_rfl) rfl (r_rem rfl rfl (by decide)) rfl ?_
  refine a_rd (i := 7) hok rfl (by kernel_rfl) rfl (r_add rfl rfl) rfl ?_
  refine pull fun t3 h_t3 => ?_
  refine a_rd (i := 8) hok rfl (by kernel_rfl) rfl (r_ssub h_t3 Tryz.underlying9 rfl (.of rfl) (.of rfl)) rfl ?_
  refine pull fun t4 h_t4 => ?_
  refine a_next hok 2 [] (by kernel_rfl) ?_ trivial
  refine a_st (i := 2) hok rfl rfl (s_call (ψ := fun (_ : Unit) => sv t4) (args := [.tmp 10]) Tryz.call87 rfl (ih h_t4) ⟨arg rfl, trivial⟩ (fun _ _ _ _ h => h)) (by intro _ h; cases h; rfl) (fun _ => ⟨trivial, ⟨trivial, ⟨trivial, ⟨trivial, ⟨trivial, ⟨trivial, ⟨trivial, ⟨trivial, trivial⟩⟩⟩⟩⟩⟩⟩⟩) (fun _ => ?_)
  refine pull fun t5 h_t5 => ?_
  refine a_rd (i := 9) hok rfl (by kernel_rfl) rfl (r_sadd h_t5 rfl rfl) rfl ?_
  refine a_next hok 10 [] (by kernel_rfl) ?_ trivial
  refine a_st (i := 10) hok rfl rfl (St.ofRd (r_assign rfl)) (by intro _ h; cases h; rfl) (fun _ => ⟨trivial, ⟨trivial, ⟨trivial, ⟨trivial, ⟨trivial, ⟨trivial, ⟨trivial, ⟨trivial, ⟨trivial, trivial⟩⟩⟩⟩⟩⟩⟩⟩⟩) (fun _ => ?_)
  refine a_fin hok (by kernel_rfl) ?_
  refine n_then (ref_ret ?_)
  exact fin1 (.inl rfl) () [] rfl trivial rfl (rv_tmp rfl)

theorem ref06_decimal_n_ok : ∀ (n_ : Nat) {n_0 : Int} {r : ByteArray}, ref06_decimal_n n_ n_0 = some r →
    FnOk prog 87 [iv .i64 n_0] [] (fun (x : Unit) => [sv r]) (fun (x : Unit) => []) := by
  intro n_
  induction n_ with
  | zero => intros; rename_i h; cases h
  | succ n_ ih => intros; rename_i h; exact ref06_decimal_step _ @ih h

theorem ref06_decimal_ok {n_0 : Int} {r : ByteArray} (hm : ref06_decimal_m n_0 = some r) :
    FnOk prog 87 [iv .i64 n_0] [] (fun (x : Unit) => [sv r]) (fun (x : Unit) => []) := by
  obtain ⟨n_, h⟩ := recC_some hm
  exact ref06_decimal_n_ok n_ h

theorem ref06_decimal_b_le {rec_ rec_' : Int → Option (ByteArray)} (h : ∀ n_0, Le (rec_ n_0) (rec_' n_0)) {n_0 : Int} : Le (ref06_decimal_b rec_ n_0) (ref06_decimal_b rec_' n_0) := by
  unfold ref06_decimal_b
  repeat' with_reducible (first | exact Le.refl _ | exact h _ | refine Le.bind ?_ (Le.sumK fun _ => ?_) | refine Le.bind ?_ (fun _ => ?_) | refine Le.cond ?_ ?_ | refine Le.letM (fun _ => ?_) | refine Le.join (fun _ => ?_) (fun _ _ hj => ?_) | exact hj _)

theorem ref06_decimal_n_le : ∀ (n_ : Nat) (n_0 : Int), Le (ref06_decimal_n n_ n_0) (ref06_decimal_n (n_ + 1) n_0)
  | 0, _ => fun _ h => by cases h
  | n_ + 1, _ => ref06_decimal_b_le (ref06_decimal_n_le n_)

/-! deliberation/deliberationref06.name -/
noncomputable def ref06_name_l1 (b_0 : T_api_Base) (s8 : Int) : Option (Sum (Int) (Int)) :=
  Option.bind (ref06_decimal_m s8) fun t10 =>
  Option.bind (sconM (ByteArray.mk #[116]) t10) fun t11 =>
  Option.bind (ref05_Find_m b_0 t11) fun t12 =>
  bif decide (t12 ≥ 0) then
    some (Sum.inr (iadd .i64 s8 1))
  else
    some (Sum.inl s8)

noncomputable def ref06_name_m (b_0 : T_api_Base) : Option (ByteArray) :=
  Option.bind (loopC (ref06_name_l1 b_0) 1) fun q14 : Int =>
  Option.bind (ref06_decimal_m q14) fun t16 =>
  Option.bind (sconM (ByteArray.mk #[116]) t16) fun t17 =>
  some t17

theorem ref06_name_ok {b_0 : T_api_Base} {r : ByteArray} (hm : ref06_name_m b_0 = some r) :
    FnOk prog 56 [ag [slv rT_api_Premise b_0.Premises, slv rT_api_Rule b_0.Rules, slv rT_api_Promotion b_0.Promotions]] [] (fun (x : Unit) => [sv r]) (fun (x : Unit) => []) := by
  refine fn_ok (fn := Tryz.f56) (N := 15) (res := fun r x => [sv r]) (Ω1 := fun r x => []) Tryz.func56 rfl rfl hm rfl (fun E hM => ?_)
  unfold ref06_name_m
  refine ref_seq (ref_region ?_)
  refine s_st (s_box (part_agO (ψs := [slv rT_api_Premise b_0.Premises, slv rT_api_Rule b_0.Rules, slv rT_api_Promotion b_0.Promotions]) rfl ⟨.inl slv_at, .inl slv_at, .inl slv_at, trivial⟩)) rfl (fun b1 => ?_)
  refine as1 rfl rfl ?_
  refine l_nil (n_then (ref_seq (ref_region ?_)))
  refine as1 rfl rfl ?_
  refine l_nil (n_then (ref_seq ?_))
  refine ref_loopB (f := (ref06_name_l1 b_0)) (Γl := (fun (s8 : Int) (x9 : Unit) => [(1, pv (ptr b1 0)), (3, iv .i64 s8)])) (Ωl := (fun (s8 : Int) (x9 : Unit) => [oc b1 [slv rT_api_Premise b_0.Premises, slv rT_api_Rule b_0.Rules, slv rT_api_Promotion b_0.Promotions]])) (Γb := (fun (q14 : Int) (y15 : Unit) => [(3, iv .i64 q14)])) (Ωb := (fun (q14 : Int) (y15 : Unit) => [])) 1 () (weak [0] ⟨rfl, rfl, trivial⟩ ⟨rfl, trivial⟩) (fun s8 x9 => ?_) (fun q14 y15 => ?_)
  · unfold ref06_name_l1
    refine ref_seq (ref_seq ?_)
    refine ref_draw [0, 1, 3, 5] rfl (by kernel_rfl) (fun hok => ?_)
    refine a_rd (i := 0) hok rfl (by kernel_rfl) rfl (r_cloadS Tryz.isAgg26 Tryz.sizeOf26 rfl (j := 0) rfl rfl rfl) rfl ?_
    refine a_rd (i := 1) hok rfl (by kernel_rfl) rfl (r_move rfl) rfl ?_
    refine pull fun t10 h_t10 => ?_
    refine a_next hok 2 [] (by kernel_rfl) ?_ trivial
    refine a_st (i := 2) hok rfl rfl (s_call (ψ := fun (_ : Unit) => sv t10) (args := [.tmp 5]) Tryz.call87 rfl (ref06_decimal_ok h_t10) ⟨arg rfl, trivial⟩ (fun _ _ _ _ h => h)) (by intro _ h; cases h; rfl) (fun _ => ⟨trivial, ⟨⟨⟨rfl, rfl⟩, trivial⟩, trivial⟩⟩) (fun _ => ?_)
    refine pull fun t11 h_t11 => ?_
    refine a_rd (i := 3) hok rfl (by kernel_rfl) rfl (r_sadd h_t11 rfl rfl) rfl ?_
    refine pull fun t12 h_t12 => ?_
    refine a_next hok 4 [] (by kernel_rfl) ?_ trivial
    refine a_st (i := 4) hok rfl rfl (s_call (ψ := fun (_ : Unit) => iv .i64 t12) (args := [.tmp 4, .tmp 7]) Tryz.call83 rfl (ref05_Find_ok h_t12) ⟨arg rfl, arg rfl, trivial⟩ (fun _ _ _ _ h => h)) (by intro _ h; cases h; rfl) (fun _ => ⟨trivial, ⟨trivial, ⟨trivial, trivial⟩⟩⟩) (fun _ => ?_)
    refine a_rd (i := 5) hok rfl (by kernel_rfl) rfl (r_geq rfl rfl) rfl ?_
    refine a_fin hok (by kernel_rfl) ?_
    refine n_then ?_
    refine ref_cond rfl (fun hb13 => ?_) (fun hb13 => ?_)
    · refine ref_skip (n_then (ref_block (ref_region ?_)))
      refine mv1 rfl rfl ?_
      refine s_rd (r_add rfl rfl) rfl ?_
      refine as1 rfl rfl ?_
      refine l_nil (n_block ?_)
      exact goB () (weak [0] ⟨rfl, rfl, trivial⟩ ⟨rfl, trivial⟩)
    refine ref_exit (x_then ?_)
    exact brkB () (weak [] ⟨rfl, trivial⟩ trivial)
  refine n_then (ref_seq (ref_region ?_))
  refine mv1 rfl rfl ?_
  refine pull fun t16 h_t16 => ?_
  refine s_st (s_call (ψ := fun (_ : Unit) => sv t16) (args := [.tmp 12]) Tryz.call87 rfl (ref06_decimal_ok h_t16) ⟨arg rfl, trivial⟩ (fun _ _ _ _ h => h)) rfl (fun _ => ?_)
  refine pull fun t17 h_t17 => ?_
  refine s_rd (r_sadd h_t17 rfl rfl) rfl ?_
  refine as1 rfl rfl ?_
  refine l_nil (n_then (ref_ret ?_))
  exact fin1 (.inl rfl) () [] rfl trivial rfl (rv_tmp rfl)

/-! deliberation/deliberationref06.Transpose -/
noncomputable def ref06_Transpose_l2 (t5 : T_api_Base) (t74 : T_api_Rule) (s87 : Int × (List T_api_Rule)) : Option (Sum ((Sum (T_api_Base × Int) ((List T_api_Rule)))) (Int × (List T_api_Rule))) :=
  bif decide (s87.1 < (t74.Body.length : Int)) then
    bif t74.Strict then
      Option.bind (ref06_transpose_m t74 s87.1) fun t90 =>
      Option.bind (ref06_alike_m (T_api_Base.mk t5.Premises s87.2 t5.Promotions) t90) fun t92 =>
      bif t92 then
        letM (iadd .i64 s87.1 1) fun k98 =>
        some (Sum.inr (k98, s87.2))
      else
        bif (s87.2.length : Int) == 24 then
          some (Sum.inl (Sum.inl ((T_api_Base.mk [] [] []), 2)))
        else
          Option.bind (ref06_name_m (T_api_Base.mk t5.Premises s87.2 t5.Promotions)) fun t95 =>
          Option.bind (appM 80 s87.2 [(T_api_Rule.mk t95 t90.Strict t90.Rank t90.Body t90.Head)]) fun t96 =>
          letM (iadd .i64 s87.1 1) fun k99 =>
          some (Sum.inr (k99, t96))
    else
      some (Sum.inl (Sum.inr s87.2))
  else
    some (Sum.inl (Sum.inr s87.2))

noncomputable def ref06_Transpose_l1 (t5 : T_api_Base) (s71 : Int × (List T_api_Rule)) : Option (Sum ((Sum (T_api_Base × Int) ((List T_api_Rule)))) (Int × (List T_api_Rule))) :=
  bif decide (s71.1 < (s71.2.length : Int)) then
    Option.bind (idxM s71.2 s71.1) fun t74 =>
    Option.bind (loopC (ref06_Transpose_l2 t5 t74) (0, s71.2)) (sumK (fun a : T_api_Base × Int => some (Sum.inl (Sum.inl a))) fun q100 : (List T_api_Rule) =>
      letM (iadd .i64 s71.1 1) fun i102 =>
      some (Sum.inr (i102, q100)))
  else
    some (Sum.inl (Sum.inr s71.2))

noncomputable def ref06_Transpose_m (b_0 : T_api_Base) : Option (T_api_Base × Int) :=
  Option.bind (ref05_Validate_m b_0) fun e3 =>
  bif e3 != 0 then
    some ((T_api_Base.mk [] [] []), e3)
  else
    Option.bind (ref05_Copy_m b_0) fun t5 =>
    Option.bind (loopC (ref06_Transpose_l1 t5) (0, t5.Rules)) (sumK (fun a : T_api_Base × Int => some a) fun q103 : (List T_api_Rule) =>
      some ((T_api_Base.mk t5.Premises q103 t5.Promotions), 0))

theorem ref06_Transpose_ok {b_0 : T_api_Base} {r : T_api_Base × Int} (hm : ref06_Transpose_m b_0 = some r) :
    FnOk prog 23 [ag [slv rT_api_Premise b_0.Premises, slv rT_api_Rule b_0.Rules, slv rT_api_Promotion b_0.Promotions]] [] (fun (x : Unit) => [ag [slv rT_api_Premise r.1.Premises, slv rT_api_Rule r.1.Rules, slv rT_api_Promotion r.1.Promotions], iv .i64 r.2]) (fun (x : Unit) => []) := by
  refine fn_ok (fn := Tryz.f23) (N := 62) (res := fun r x => [ag [slv rT_api_Premise r.1.Premises, slv rT_api_Rule r.1.Rules, slv rT_api_Promotion r.1.Promotions], iv .i64 r.2]) (Ω1 := fun r x => []) Tryz.func23 rfl rfl hm rfl (fun E hM => ?_)
  unfold ref06_Transpose_m
  refine ref_seq (ref_region ?_)
  refine s_st (s_box (part_agO (ψs := [slv rT_api_Premise b_0.Premises, slv rT_api_Rule b_0.Rules, slv rT_api_Promotion b_0.Promotions]) rfl ⟨.inl slv_at, .inl slv_at, .inl slv_at, trivial⟩)) rfl (fun b1 => ?_)
  refine s_st (s_alloc zt_26) rfl (fun b2 => ?_)
  refine as1 rfl rfl ?_
  refine l_nil (n_then (ref_seq (ref_seq (ref_region ?_))))
  refine s_rd (r_cloadS Tryz.isAgg26 Tryz.sizeOf26 rfl (j := 0) rfl rfl rfl) rfl ?_
  refine pull fun e3 h_e3 => ?_
  refine s_st (s_call (ψ := fun (_ : Unit) => iv .i64 e3) (args := [.tmp 10]) Tryz.call52 rfl (ref05_Validate_ok h_e3) ⟨arg rfl, trivial⟩ (fun _ _ _ _ h => h)) rfl (fun _ => ?_)
  refine as1 rfl rfl ?_
  refine l_nil (n_then (ref_seq (ref_region ?_)))
  refine mv1 rfl rfl ?_
  refine s_rd (r_neq rfl rfl) rfl ?_
  refine l_nil (n_then ?_)
  refine ref_cond rfl (fun hb4 => ?_) (fun hb4 => ?_)
  · refine ref_seq (ref_region ?_)
    refine s_rd (r_build (ps := []) (rs := []) st_26 zs_26 trivial rfl rfl) rfl ?_
    refine mv1 rfl rfl ?_
    refine s_st0 (s_cstore (out := [pv (.slice none 0 0), pv (.slice none 0 0), pv (.slice none 0 0)]) Tryz.sizeOf26 rfl (j := 1) rfl (part_agO (ψs := [pv (.slice none 0 0), pv (.slice none 0 0), pv (.slice none 0 0)]) rfl ⟨.inl (pv_at rfl), .inl (pv_at rfl), .inl (pv_at rfl), trivial⟩) rfl rfl rfl) (fun _ => ?_)
    refine as1 rfl rfl ?_
    refine l_nil ?_
    refine b_of (nrm [oc b1 [slv rT_api_Premise b_0.Premises, slv rT_api_Rule b_0.Rules, slv rT_api_Promotion b_0.Promotions], oc b2 [pv (.slice none 0 0), pv (.slice none 0 0), pv (.slice none 0 0)]] rfl) ?_
    refine n_then (ref_ret (r_then ?_))
    refine b_of (ocW 1 [slv rT_api_Premise [], slv rT_api_Rule [], slv rT_api_Promotion []] rfl ⟨nil_sl, nil_sl, nil_sl, trivial⟩) ?_
    exact fin2 (.inl rfl) () [] rfl trivial rfl (rv_cell rfl (j := 1) rfl Tryz.isAgg26 Tryz.sizeOf26 rfl rfl) (rv_tmp rfl)
  refine ref_skip (n_then (ref_seq (ref_region ?_)))
  refine s_rd (r_cloadS Tryz.isAgg26 Tryz.sizeOf26 rfl (j := 0) rfl rfl rfl) rfl ?_
  refine pull fun t5 h_t5 => ?_
  refine s_st (s_call (ψ := fun (x6 : (Value × List Nat)) => ag [slv rT_api_Premise t5.Premises, pv x6.1, slv rT_api_Promotion t5.Promotions]) (args := [.tmp 16]) Tryz.call53 rfl (ref05_Copy_ok h_t5) ⟨arg rfl, trivial⟩ (fun _ _ _ _ h => h)) rfl (fun x6 => ?_)
  refine s_st (s_alloc zt_26) rfl (fun b7 => ?_)
  refine s_st0 (s_cstore (out := [slv rT_api_Premise t5.Premises, pv x6.1, slv rT_api_Promotion t5.Promotions]) Tryz.sizeOf26 rfl (j := 3) rfl (part_agO (ψs := [slv rT_api_Premise t5.Premises, pv x6.1, slv rT_api_Promotion t5.Promotions]) rfl ⟨.inl slv_at, .inr ⟨_, _, _, _, _, 2, rfl, rfl⟩, .inl slv_at, trivial⟩) rfl rfl rfl) (fun _ => ?_)
  refine l_nil ?_
  refine b_of (nrm [oc b1 [slv rT_api_Premise b_0.Premises, slv rT_api_Rule b_0.Rules, slv rT_api_Promotion b_0.Promotions], oc b2 [pv (.slice none 0 0), pv (.slice none 0 0), pv (.slice none 0 0)], oa rT_api_Rule x6.1 x6.2 t5.Rules, oc b7 [slv rT_api_Premise t5.Premises, pv x6.1, slv rT_api_Promotion t5.Promotions]] rfl) ?_
  refine n_then (ref_seq (ref_seq (ref_region ?_)))
  refine as1 rfl rfl ?_
  refine l_nil (n_then ?_)
  refine ref_loopX (f := (ref06_Transpose_l1 t5)) (Γl := (fun (s71 : Int × (List T_api_Rule)) (x72 : (Value × List Nat)) => [(2, pv (ptr b2 0)), (5, pv (ptr b7 0)), (6, iv .i64 s71.1)])) (Ωl := (fun (s71 : Int × (List T_api_Rule)) (x72 : (Value × List Nat)) => [oc b2 [pv (.slice none 0 0), pv (.slice none 0 0), pv (.slice none 0 0)], oc b7 [slv rT_api_Premise t5.Premises, pv x72.1, slv rT_api_Promotion t5.Promotions], oa rT_api_Rule x72.1 x72.2 s71.2])) (Γb := (fun (q103 : (List T_api_Rule)) (y104 : (Value × List Nat)) => [(2, pv (ptr b2 0)), (5, pv (ptr b7 0))])) (Ωb := (fun (q103 : (List T_api_Rule)) (y104 : (Value × List Nat)) => [oc b2 [pv (.slice none 0 0), pv (.slice none 0 0), pv (.slice none 0 0)], oc b7 [slv rT_api_Premise t5.Premises, pv y104.1, slv rT_api_Promotion t5.Promotions], oa rT_api_Rule y104.1 y104.2 q103])) (kr := (fun a : T_api_Base × Int => some a)) (0, t5.Rules) x6 (weak [1, 3, 2] ⟨rfl, rfl, rfl, trivial⟩ ⟨rfl, rfl, rfl, trivial⟩) (fun s71 x72 => ?_) (fun q103 y104 => ?_)
  · unfold ref06_Transpose_l1
    refine ref_seq (ref_seq (ref_region ?_))
    refine mv1 rfl rfl ?_
    refine s_rd (r_faddr (fo := 1) Tryz.underlying26 rfl rfl Tryz.sizeOf23 rfl) rfl ?_
    refine s_rd (r_cload Tryz.isAgg23 rfl (j := 1) rfl rfl) rfl ?_
    refine s_rd (r_olen Tryz.underlying23 rfl (j := 2) rfl) rfl ?_
    refine s_rd (r_lss rfl rfl) rfl ?_
    refine l_nil (n_then ?_)
    refine ref_cond rfl (fun hb73 => ?_) (fun hb73 => ?_)
    · refine ref_skip (n_then (ref_seq (ref_block (ref_seq (ref_region ?_)))))
      refine s_rd (r_faddr (fo := 1) Tryz.underlying26 rfl rfl Tryz.sizeOf23 rfl) rfl ?_
      refine s_rd (r_cload Tryz.isAgg23 rfl (j := 1) rfl rfl) rfl ?_
      refine mv1 rfl rfl ?_
      refine pull fun t74 h_t74 => ?_
      refine s_rd (r_oindex h_t74 Tryz.underlying23 el_60 rfl (j := 2) rfl rfl) rfl ?_
      refine s_rd (r_oload h_t74 el_60 rfl (j := 2) rfl) rfl ?_
      refine s_st (s_alloc zt_60) rfl (fun b75 => ?_)
      refine s_st0 (s_cstore (out := [sv t74.Name, bv t74.Strict, iv .i64 t74.Rank, slv rT_api_Literal t74.Body, bv t74.Head.Neg, sv t74.Head.Name]) Tryz.sizeOf60 rfl (j := 3) rfl (part_agO (ψs := [sv t74.Name, bv t74.Strict, iv .i64 t74.Rank, slv rT_api_Literal t74.Body, bv t74.Head.Neg, sv t74.Head.Name]) rfl ⟨.inl sv_at, .inl bv_at, .inl iv_at, .inl slv_at, .inl bv_at, .inl sv_at, trivial⟩) rfl rfl rfl) (fun _ => ?_)
      refine l_nil (n_then (ref_seq (ref_region ?_)))
      refine as1 rfl rfl ?_
      refine l_nil (n_then ?_)
      refine ref_loopX (f := (ref06_Transpose_l2 t5 t74)) (Γl := (fun (s87 : Int × (List T_api_Rule)) (x88 : (Value × List Nat)) => [(2, pv (ptr b2 0)), (5, pv (ptr b7 0)), (6, iv .i64 s71.1), (7, pv (ptr b75 0)), (8, iv .i64 s87.1)])) (Ωl := (fun (s87 : Int × (List T_api_Rule)) (x88 : (Value × List Nat)) => [oc b2 [pv (.slice none 0 0), pv (.slice none 0 0), pv (.slice none 0 0)], oc b7 [slv rT_api_Premise t5.Premises, pv x88.1, slv rT_api_Promotion t5.Promotions], oa rT_api_Rule x88.1 x88.2 s87.2, oc b75 [sv t74.Name, bv t74.Strict, iv .i64 t74.Rank, slv rT_api_Literal t74.Body, bv t74.Head.Neg, sv t74.Head.Name]])) (Γb := (fun (q100 : (List T_api_Rule)) (y101 : (Value × List Nat)) => [(2, pv (ptr b2 0)), (5, pv (ptr b7 0)), (6, iv .i64 s71.1)])) (Ωb := (fun (q100 : (List T_api_Rule)) (y101 : (Value × List Nat)) => [oc b2 [pv (.slice none 0 0), pv (.slice none 0 0), pv (.slice none 0 0)], oc b7 [slv rT_api_Premise t5.Premises, pv y101.1, slv rT_api_Promotion t5.Promotions], oa rT_api_Rule y101.1 y101.2 q100])) (kr := (fun a : T_api_Base × Int => some (Sum.inl (Sum.inl a)))) (0, s71.2) x72 (weak [0, 1, 2, 3] ⟨rfl, rfl, rfl, rfl, rfl, trivial⟩ ⟨rfl, rfl, rfl, rfl, trivial⟩) (fun s87 x88 => ?_) (fun q100 y101 => ?_)
      · unfold ref06_Transpose_l2
        refine ref_seq (ref_seq (ref_region ?_))
        refine mv1 rfl rfl ?_
        refine s_rd (r_faddr (fo := 3) Tryz.underlying60 rfl rfl Tryz.sizeOf27 rfl) rfl ?_
        refine s_rd (r_cload Tryz.isAgg27 rfl (j := 3) rfl rfl) rfl ?_
        refine s_rd (r_len Tryz.underlying27 rfl) rfl ?_
        refine s_rd (r_lss rfl rfl) rfl ?_
        refine mv1 rfl rfl ?_
        refine b_split (t := 35) rfl (fun _ => ?_) (fun _ => ?_)
        · refine s_on rfl rfl rfl ?_
          refine s_rd (r_faddr (fo := 1) Tryz.underlying60 rfl rfl Tryz.sizeOf4 rfl) rfl ?_
          refine s_on rfl rfl rfl ?_
          refine s_rd (r_cload Tryz.isAgg4 rfl (j := 3) rfl rfl) rfl ?_
          refine s_rd (r_pickT rfl rfl) rfl ?_
          refine l_nil (n_then ?_)
          refine ref_cond rfl (fun hb89 => ?_) (fun hb89 => ?_)
          · refine ref_skip (n_then (ref_seq (ref_block (ref_seq (ref_region ?_)))))
            refine s_rd (r_cloadS Tryz.isAgg60 Tryz.sizeOf60 rfl (j := 3) rfl rfl rfl) rfl ?_
            refine mv1 rfl rfl ?_
            refine pull fun t90 h_t90 => ?_
            refine s_st (s_call (ψ := fun (_ : Unit) => ag [sv t90.Name, bv t90.Strict, iv .i64 t90.Rank, slv rT_api_Literal t90.Body, bv t90.Head.Neg, sv t90.Head.Name]) (args := [.tmp 41, .tmp 42]) Tryz.call54 rfl (ref06_transpose_ok h_t90) ⟨arg rfl, arg rfl, trivial⟩ (fun _ _ _ _ h => h)) rfl (fun _ => ?_)
            refine s_st (s_alloc zt_60) rfl (fun b91 => ?_)
            refine s_st0 (s_cstore (out := [sv t90.Name, bv t90.Strict, iv .i64 t90.Rank, slv rT_api_Literal t90.Body, bv t90.Head.Neg, sv t90.Head.Name]) Tryz.sizeOf60 rfl (j := 4) rfl (part_agO (ψs := [sv t90.Name, bv t90.Strict, iv .i64 t90.Rank, slv rT_api_Literal t90.Body, bv t90.Head.Neg, sv t90.Head.Name]) rfl ⟨.inl sv_at, .inl bv_at, .inl iv_at, .inl slv_at, .inl bv_at, .inl sv_at, trivial⟩) rfl rfl rfl) (fun _ => ?_)
            refine l_nil ?_
            refine b_of (nrm [oc b2 [pv (.slice none 0 0), pv (.slice none 0 0), pv (.slice none 0 0)], oc b7 [slv rT_api_Premise t5.Premises, pv x88.1, slv rT_api_Promotion t5.Promotions], oa rT_api_Rule x88.1 x88.2 s87.2, oc b75 [sv t74.Name, bv t74.Strict, iv .i64 t74.Rank, slv rT_api_Literal t74.Body, bv t74.Head.Neg, sv t74.Head.Name], oc b91 [sv t90.Name, bv t90.Strict, iv .i64 t90.Rank, slv rT_api_Literal t90.Body, bv t90.Head.Neg, sv t90.Head.Name]] rfl) ?_
            refine n_then (ref_seq (ref_seq (ref_region ?_)))
            refine s_rd (r_cloadS Tryz.isAgg26 Tryz.sizeOf26 rfl (j := 1) rfl rfl rfl) rfl ?_
            refine s_rd (r_cloadS Tryz.isAgg60 Tryz.sizeOf60 rfl (j := 4) rfl rfl rfl) rfl ?_
            refine pull fun t92 h_t92 => ?_
            refine s_st (s_callB (ψ := fun (_ : Unit) => bv t92) (args := [.tmp 44, .tmp 45]) Tryz.call55 rfl (ref06_alike_ok h_t92) ⟨argAG (ψs := [slv rT_api_Premise t5.Premises, slv rT_api_Rule s87.2, slv rT_api_Promotion t5.Promotions]) rfl ⟨.inl rfl, .inr (.inl ⟨_, _, _, _, _, 2, rfl, rfl, rfl⟩), .inl rfl, trivial⟩, argB rfl, trivial⟩ (fun _ _ _ _ _ h => h)) rfl (fun _ => ?_)
            refine l_nil (n_then ?_)
            refine ref_cond rfl (fun hb93 => ?_) (fun hb93 => ?_)
            · refine ref_exit (x_then (x_eq (n_then (ref_region ?_))))
              refine mv1 rfl rfl ?_
              refine s_rd (r_add rfl rfl) rfl ?_
              refine as1 rfl rfl ?_
              refine b_let (f := iv .i64) (t := 8) rfl fun k98 => ?_
              refine l_nil ?_
              exact goX x88 (weak [0, 1, 2, 3] ⟨rfl, rfl, rfl, rfl, rfl, trivial⟩ ⟨rfl, rfl, rfl, rfl, trivial⟩)
            refine ref_skip (n_then (ref_seq (ref_seq (ref_region ?_))))
            refine s_rd (r_faddr (fo := 1) Tryz.underlying26 rfl rfl Tryz.sizeOf23 rfl) rfl ?_
            refine s_rd (r_cload Tryz.isAgg23 rfl (j := 1) rfl rfl) rfl ?_
            refine s_rd (r_olen Tryz.underlying23 rfl (j := 2) rfl) rfl ?_
            refine s_rd (r_eql rfl rfl) rfl ?_
            refine l_nil (n_then ?_)
            refine ref_cond rfl (fun hb94 => ?_) (fun hb94 => ?_)
            · refine ref_seq (ref_region ?_)
              refine s_rd (r_build (ps := []) (rs := []) st_26 zs_26 trivial rfl rfl) rfl ?_
              refine s_st0 (s_cstore (out := [pv (.slice none 0 0), pv (.slice none 0 0), pv (.slice none 0 0)]) Tryz.sizeOf26 rfl (j := 0) rfl (part_agO (ψs := [pv (.slice none 0 0), pv (.slice none 0 0), pv (.slice none 0 0)]) rfl ⟨.inl (pv_at rfl), .inl (pv_at rfl), .inl (pv_at rfl), trivial⟩) rfl rfl rfl) (fun _ => ?_)
              refine as1 rfl rfl ?_
              refine l_nil (n_then (ref_ret (r_then (r_block (r_then ?_)))))
              refine retX ?_
              refine r_block (r_block (r_then ?_))
              refine retX ?_
              refine r_block (r_then ?_)
              refine b_of (ocW 0 [slv rT_api_Premise [], slv rT_api_Rule [], slv rT_api_Promotion []] rfl ⟨nil_sl, nil_sl, nil_sl, trivial⟩) ?_
              exact fin2 (.inl rfl) () [] rfl trivial rfl (rv_cell rfl (j := 0) rfl Tryz.isAgg26 Tryz.sizeOf26 rfl rfl) (rv_tmp rfl)
            refine ref_skip (n_then (ref_seq (ref_region ?_)))
            refine s_rd (r_cloadS Tryz.isAgg26 Tryz.sizeOf26 rfl (j := 1) rfl rfl rfl) rfl ?_
            refine pull fun t95 h_t95 => ?_
            refine s_st (s_callB (ψ := fun (_ : Unit) => sv t95) (args := [.tmp 52]) Tryz.call56 rfl (ref06_name_ok h_t95) ⟨argAG (ψs := [slv rT_api_Premise t5.Premises, slv rT_api_Rule s87.2, slv rT_api_Promotion t5.Promotions]) rfl ⟨.inl rfl, .inr (.inl ⟨_, _, _, _, _, 2, rfl, rfl, rfl⟩), .inl rfl, trivial⟩, trivial⟩ (fun _ _ _ _ _ h => h)) rfl (fun _ => ?_)
            refine s_rd (r_faddr (fo := 0) Tryz.underlying60 rfl rfl Tryz.sizeOf9 rfl) rfl ?_
            refine s_st0 (s_cstore (out := [sv t95, bv t90.Strict, iv .i64 t90.Rank, slv rT_api_Literal t90.Body, bv t90.Head.Neg, sv t90.Head.Name]) Tryz.sizeOf9 rfl (j := 4) rfl (part_at rfl sv_at) rfl rfl rfl) (fun _ => ?_)
            refine l_nil (n_then (ref_region ?_))
            refine s_rd (r_faddr (fo := 1) Tryz.underlying26 rfl rfl Tryz.sizeOf23 rfl) rfl ?_
            refine s_rd (r_cload Tryz.isAgg23 rfl (j := 1) rfl rfl) rfl ?_
            refine s_rd (r_cloadS Tryz.isAgg60 Tryz.sizeOf60 rfl (j := 4) rfl rfl rfl) rfl ?_
            refine s_st (s_bslice (xs := [.tmp 57]) (ds := [(T_api_Rule.mk t95 t90.Strict t90.Rank t90.Body t90.Head)]) Tryz.underlying23 el_60 rfl (Nat.le_of_ble_eq_true rfl) ⟨(part_agO (ψs := [sv t95, bv t90.Strict, iv .i64 t90.Rank, slv rT_api_Literal t90.Body, bv t90.Head.Neg, sv t90.Head.Name]) rfl ⟨.inl sv_at, .inl bv_at, .inl iv_at, .inl slv_at, .inl bv_at, .inl sv_at, trivial⟩), trivial⟩) rfl (fun _ => ?_)
            refine pull fun t96 h_t96 => ?_
            refine s_st (s_append h_t96 Tryz.underlying23 el_60 rfl (j := 2) rfl rfl) rfl (fun o97 => ?_)
            refine s_rd (r_faddr (fo := 1) Tryz.underlying26 rfl rfl Tryz.sizeOf23 rfl) rfl ?_
            refine s_st0 (s_cstore (out := [slv rT_api_Premise t5.Premises, pv o97.1, slv rT_api_Promotion t5.Promotions]) Tryz.sizeOf23 rfl (j := 1) rfl (part_own rfl (j := 2) rfl) rfl rfl rfl) (fun _ => ?_)
            refine l_nil ?_
            refine b_of (nrm [oc b2 [pv (.slice none 0 0), pv (.slice none 0 0), pv (.slice none 0 0)], oc b7 [slv rT_api_Premise t5.Premises, pv o97.1, slv rT_api_Promotion t5.Promotions], oa rT_api_Rule o97.1 o97.2 t96, oc b75 [sv t74.Name, bv t74.Strict, iv .i64 t74.Rank, slv rT_api_Literal t74.Body, bv t74.Head.Neg, sv t74.Head.Name], oc b91 [sv t95, bv t90.Strict, iv .i64 t90.Rank, slv rT_api_Literal t90.Body, bv t90.Head.Neg, sv t90.Head.Name]] rfl) ?_
            refine n_block (n_then (ref_region ?_))
            refine mv1 rfl rfl ?_
            refine s_rd (r_add rfl rfl) rfl ?_
            refine as1 rfl rfl ?_
            refine b_let (f := iv .i64) (t := 8) rfl fun k99 => ?_
            refine l_nil ?_
            exact goX o97 (weak [0, 1, 2, 3] ⟨rfl, rfl, rfl, rfl, rfl, trivial⟩ ⟨rfl, rfl, rfl, rfl, trivial⟩)
          refine ref_exit (x_then ?_)
          exact brkX x88 (weak [0, 1, 2] ⟨rfl, rfl, rfl, trivial⟩ ⟨rfl, rfl, rfl, trivial⟩)
        refine s_off rfl rfl rfl rfl rfl ?_
        refine s_off rfl rfl rfl rfl rfl ?_
        refine s_rd (r_pickF rfl rfl) rfl ?_
        refine l_nil (n_then ?_)
        refine ref_condF rfl rfl ?_
        refine ref_exit (x_then ?_)
        exact brkX x88 (weak [0, 1, 2] ⟨rfl, rfl, rfl, trivial⟩ ⟨rfl, rfl, rfl, trivial⟩)
      refine n_block (n_then (ref_region ?_))
      refine mv1 rfl rfl ?_
      refine s_rd (r_add rfl rfl) rfl ?_
      refine as1 rfl rfl ?_
      refine b_let (f := iv .i64) (t := 6) rfl fun i102 => ?_
      refine l_nil ?_
      exact goX y101 (weak [0, 1, 2] ⟨rfl, rfl, rfl, trivial⟩ ⟨rfl, rfl, rfl, trivial⟩)
    refine ref_exit (x_then ?_)
    exact brkX x72 (weak [0, 1, 2] ⟨rfl, rfl, trivial⟩ ⟨rfl, rfl, rfl, trivial⟩)
  refine n_then (ref_seq (ref_region ?_))
  refine s_rd (r_cloadS Tryz.isAgg26 Tryz.sizeOf26 rfl (j := 1) rfl rfl rfl) rfl ?_
  refine s_st0 (s_cstore (out := [slv rT_api_Premise t5.Premises, pv y104.1, slv rT_api_Promotion t5.Promotions]) Tryz.sizeOf26 rfl (j := 0) rfl (part_agO (ψs := [slv rT_api_Premise t5.Premises, pv y104.1, slv rT_api_Promotion t5.Promotions]) rfl ⟨.inl slv_at, .inr ⟨_, _, _, _, _, 2, rfl, rfl⟩, .inl slv_at, trivial⟩) rfl rfl rfl) (fun _ => ?_)
  refine as1 rfl rfl ?_
  refine l_nil (n_then (ref_ret ?_))
  refine b_of (frzGL [(61, ag [slv rT_api_Premise t5.Premises, slv rT_api_Rule q103, slv rT_api_Promotion t5.Promotions])] [(0, b2, [slv rT_api_Premise t5.Premises, slv rT_api_Rule q103, slv rT_api_Promotion t5.Promotions]), (1, b7, [slv rT_api_Premise t5.Premises, slv rT_api_Rule q103, slv rT_api_Promotion t5.Promotions])] (j := 2) rfl ⟨⟨_, rfl, .inr ⟨_, _, rfl, rfl, ⟨.inl rfl, .inr ⟨rfl, rfl⟩, .inl rfl, trivial⟩⟩⟩, trivial⟩ ⟨⟨_, rfl, ⟨.inl rfl, .inr ⟨rfl, rfl⟩, .inl rfl, trivial⟩⟩, ⟨_, rfl, ⟨.inl rfl, .inr ⟨rfl, rfl⟩, .inl rfl, trivial⟩⟩, trivial⟩) ?_
  refine b_of (nrm [oc b2 [slv rT_api_Premise t5.Premises, slv rT_api_Rule q103, slv rT_api_Promotion t5.Promotions], oc b7 [slv rT_api_Premise t5.Premises, slv rT_api_Rule q103, slv rT_api_Promotion t5.Promotions], dead] rfl) ?_
  exact fin2 (.inl rfl) () [] rfl trivial rfl (rv_cell rfl (j := 0) rfl Tryz.isAgg26 Tryz.sizeOf26 rfl rfl) (rv_tmp rfl)

/-! deliberation/deliberationlaw06.closed -/
noncomputable def law06_closed_a_l1 (t2 : T_api_Base × T_deliberationkeep_Src) (s8 : Unit) : Option (Sum (Unit) (Unit)) :=
  bif decide (0 < (t2.1.Rules.length : Int)) then
    none
  else
    some (Sum.inl ())

noncomputable def law06_closed_a_m (s_0 : T_deliberationkeep_Src) (n_1 : Int) (rules_2 : Int) : Option (T_api_Base × T_deliberationkeep_Src) :=
  Option.bind (keep_Src_Base_m s_0 n_1 4 rules_2) fun t2 =>
  Option.bind (ref06_Transpose_m t2.1) fun t5 =>
  bif t5.2 == 0 then
    some (t5.1, t2.2)
  else
    Option.bind (loopC (law06_closed_a_l1 t2) ()) fun q12 : Unit =>
    some (t2.1, t2.2)

theorem law06_closed_a_ok {s_0 : T_deliberationkeep_Src} {n_1 : Int} {rules_2 : Int} {b_0 : Nat} {r : T_api_Base × T_deliberationkeep_Src} (hm : law06_closed_a_m s_0 n_1 rules_2 = some r) :
    FnOk prog 10 [pv (ptr b_0 0), iv .i64 n_1, iv .i64 rules_2] [oc b_0 [slv (rI .i64) s_0.L, iv .i64 s_0.At]] (fun (x : Unit) => [ag [slv rT_api_Premise r.1.Premises, slv rT_api_Rule r.1.Rules, slv rT_api_Promotion r.1.Promotions]]) (fun (x : Unit) => [oc b_0 [slv (rI .i64) r.2.L, iv .i64 r.2.At]]) := by
  refine fn_ok (fn := Tryz.f10) (N := 36) (res := fun r x => [ag [slv rT_api_Premise r.1.Premises, slv rT_api_Rule r.1.Rules, slv rT_api_Promotion r.1.Promotions]]) (Ω1 := fun r x => [oc b_0 [slv (rI .i64) r.2.L, iv .i64 r.2.At]]) Tryz.func10 rfl rfl hm rfl (fun E hM => ?_)
  unfold law06_closed_a_m
  refine ref_seq (ref_region ?_)
  refine s_st (s_alloc zt_26) rfl (fun b1 => ?_)
  refine l_nil (n_then (ref_seq (ref_region ?_)))
  refine mv1 rfl rfl ?_
  refine mv1 rfl rfl ?_
  refine mv1 rfl rfl ?_
  refine pull fun t2 h_t2 => ?_
  refine s_st (s_callC [0] [true] (fun (x3 : (Value × List Nat)) => [oc b_0 [slv (rI .i64) t2.2.L, iv .i64 t2.2.At]]) (fun (x3 : (Value × List Nat)) => [oa rT_api_Rule x3.1 x3.2 t2.1.Rules]) (fun (x3 : (Value × List Nat)) => ag [slv rT_api_Premise t2.1.Premises, pv x3.1, slv rT_api_Promotion t2.1.Promotions]) (args := [.tmp 11, .tmp 12, .const (.int .i64 (4)), .tmp 13]) (caps := []) Tryz.call9 rfl (keep_Src_Base_ok h_t2) ⟨rfl, rfl, trivial⟩ (fun _ => rfl) (fun _ => trivial) (fun _ => rfl) ⟨arg rfl, arg rfl, arg rfl, arg rfl, trivial⟩ (fun _ _ _ _ h => h)) rfl (fun x3 => ?_)
  refine s_st (s_alloc zt_26) rfl (fun b4 => ?_)
  refine s_st0 (s_cstore (out := [slv rT_api_Premise t2.1.Premises, pv x3.1, slv rT_api_Promotion t2.1.Promotions]) Tryz.sizeOf26 rfl (j := 3) rfl (part_agO (ψs := [slv rT_api_Premise t2.1.Premises, pv x3.1, slv rT_api_Promotion t2.1.Promotions]) rfl ⟨.inl slv_at, .inr ⟨_, _, _, _, _, 2, rfl, rfl⟩, .inl slv_at, trivial⟩) rfl rfl rfl) (fun _ => ?_)
  refine l_nil ?_
  refine b_of (nrm [oc b_0 [slv (rI .i64) t2.2.L, iv .i64 t2.2.At], oc b1 [pv (.slice none 0 0), pv (.slice none 0 0), pv (.slice none 0 0)], oa rT_api_Rule x3.1 x3.2 t2.1.Rules, oc b4 [slv rT_api_Premise t2.1.Premises, pv x3.1, slv rT_api_Promotion t2.1.Promotions]] rfl) ?_
  refine n_then (ref_seq (ref_region ?_))
  refine s_rd (r_cloadS Tryz.isAgg26 Tryz.sizeOf26 rfl (j := 3) rfl rfl rfl) rfl ?_
  refine b_of (frzGL [(14, ag [slv rT_api_Premise t2.1.Premises, slv rT_api_Rule t2.1.Rules, slv rT_api_Promotion t2.1.Promotions]), (16, ag [slv rT_api_Premise t2.1.Premises, slv rT_api_Rule t2.1.Rules, slv rT_api_Promotion t2.1.Promotions])] [(3, b4, [slv rT_api_Premise t2.1.Premises, slv rT_api_Rule t2.1.Rules, slv rT_api_Promotion t2.1.Promotions])] (j := 2) rfl ⟨⟨_, rfl, .inr ⟨_, _, rfl, rfl, ⟨.inl rfl, .inr ⟨rfl, rfl⟩, .inl rfl, trivial⟩⟩⟩, ⟨_, rfl, .inr ⟨_, _, rfl, rfl, ⟨.inl rfl, .inr ⟨rfl, rfl⟩, .inl rfl, trivial⟩⟩⟩, trivial⟩ ⟨⟨_, rfl, ⟨.inl rfl, .inr ⟨rfl, rfl⟩, .inl rfl, trivial⟩⟩, trivial⟩) ?_
  refine pull fun t5 h_t5 => ?_
  refine s_st (s_call (ψ := fun (_ : Unit) => tup [ag [slv rT_api_Premise t5.1.Premises, slv rT_api_Rule t5.1.Rules, slv rT_api_Promotion t5.1.Promotions], iv .i64 t5.2]) (args := [.tmp 16]) Tryz.call23 rfl (ref06_Transpose_ok h_t5) ⟨arg rfl, trivial⟩ (fun _ _ _ _ h => h)) rfl (fun _ => ?_)
  refine mv1 rfl rfl ?_
  refine s_rd (r_extract rfl rfl) rfl ?_
  refine s_rd (r_extract rfl rfl) rfl ?_
  refine s_st (s_alloc zt_26) rfl (fun b6 => ?_)
  refine s_st0 (s_cstore (out := [slv rT_api_Premise t5.1.Premises, slv rT_api_Rule t5.1.Rules, slv rT_api_Promotion t5.1.Promotions]) Tryz.sizeOf26 rfl (j := 4) rfl (part_agO (ψs := [slv rT_api_Premise t5.1.Premises, slv rT_api_Rule t5.1.Rules, slv rT_api_Promotion t5.1.Promotions]) rfl ⟨.inl slv_at, .inl slv_at, .inl slv_at, trivial⟩) rfl rfl rfl) (fun _ => ?_)
  refine as1 rfl rfl ?_
  refine l_nil (n_then (ref_seq (ref_seq (ref_region ?_))))
  refine mv1 rfl rfl ?_
  refine s_rd (r_eql rfl rfl) rfl ?_
  refine l_nil (n_then ?_)
  refine ref_cond rfl (fun hb7 => ?_) (fun hb7 => ?_)
  · refine ref_seq (ref_region ?_)
    refine s_rd (r_cloadS Tryz.isAgg26 Tryz.sizeOf26 rfl (j := 4) rfl rfl rfl) rfl ?_
    refine s_st0 (s_cstore (out := [slv rT_api_Premise t5.1.Premises, slv rT_api_Rule t5.1.Rules, slv rT_api_Promotion t5.1.Promotions]) Tryz.sizeOf26 rfl (j := 1) rfl (part_agO (ψs := [slv rT_api_Premise t5.1.Premises, slv rT_api_Rule t5.1.Rules, slv rT_api_Promotion t5.1.Promotions]) rfl ⟨.inl slv_at, .inl slv_at, .inl slv_at, trivial⟩) rfl rfl rfl) (fun _ => ?_)
    refine l_nil ?_
    refine b_of (nrm [oc b_0 [slv (rI .i64) t2.2.L, iv .i64 t2.2.At], oc b1 [slv rT_api_Premise t5.1.Premises, slv rT_api_Rule t5.1.Rules, slv rT_api_Promotion t5.1.Promotions], dead, oc b4 [slv rT_api_Premise t2.1.Premises, slv rT_api_Rule t2.1.Rules, slv rT_api_Promotion t2.1.Promotions], oc b6 [slv rT_api_Premise t5.1.Premises, slv rT_api_Rule t5.1.Rules, slv rT_api_Promotion t5.1.Promotions]] rfl) ?_
    refine n_then (ref_ret (r_then ?_))
    exact fin1 (.inl rfl) () [0] rfl ⟨rfl, trivial⟩ rfl (rv_cell rfl (j := 1) rfl Tryz.isAgg26 Tryz.sizeOf26 rfl rfl)
  refine ref_skip (n_then (ref_seq (ref_seq (ref_region ?_))))
  refine s_rd (r_faddr (fo := 1) Tryz.underlying26 rfl rfl Tryz.sizeOf23 rfl) rfl ?_
  refine s_rd (r_cload Tryz.isAgg23 rfl (j := 3) rfl rfl) rfl ?_
  refine s_rd (r_len Tryz.underlying23 rfl) rfl ?_
  refine mv1 rfl rfl ?_
  refine l_nil (n_then ?_)
  refine ref_loopB (f := (law06_closed_a_l1 t2)) (Γl := (fun (s8 : Unit) (x9 : Unit) => [(0, pv (ptr b_0 0)), (6, pv (ptr b1 0)), (7, pv (ptr b4 0)), (25, iv .i64 (t2.1.Rules.length : Int)), (26, iv .i64 0)])) (Ωl := (fun (s8 : Unit) (x9 : Unit) => [oc b_0 [slv (rI .i64) t2.2.L, iv .i64 t2.2.At], oc b1 [pv (.slice none 0 0), pv (.slice none 0 0), pv (.slice none 0 0)], oc b4 [slv rT_api_Premise t2.1.Premises, slv rT_api_Rule t2.1.Rules, slv rT_api_Promotion t2.1.Promotions]])) (Γb := (fun (q12 : Unit) (y13 : Unit) => [(0, pv (ptr b_0 0)), (6, pv (ptr b1 0)), (7, pv (ptr b4 0))])) (Ωb := (fun (q12 : Unit) (y13 : Unit) => [oc b_0 [slv (rI .i64) t2.2.L, iv .i64 t2.2.At], oc b1 [pv (.slice none 0 0), pv (.slice none 0 0), pv (.slice none 0 0)], oc b4 [slv rT_api_Premise t2.1.Premises, slv rT_api_Rule t2.1.Rules, slv rT_api_Promotion t2.1.Promotions]])) () () (weak [0, 1, 3] ⟨rfl, rfl, rfl, rfl, rfl, trivial⟩ ⟨rfl, rfl, rfl, trivial⟩) (fun s8 x9 => ?_) (fun q12 y13 => ?_)
  · unfold law06_closed_a_l1
    refine ref_seq (ref_region ?_)
    refine s_rd (r_lss rfl rfl) rfl ?_
    refine l_nil (n_then (ref_seq ?_))
    refine ref_cond rfl (fun hb10 => ?_) (fun hb10 => ?_)
    · refine ref_skip (n_then (ref_seq (ref_block (ref_seq (ref_region ?_)))))
      refine mv1 rfl rfl ?_
      refine as1 rfl rfl ?_
      refine l_nil (n_then (ref_region ?_))
      exact pnone
    refine ref_exit (x_then ?_)
    exact brkB () (weak [0, 1, 2] ⟨rfl, rfl, rfl, trivial⟩ ⟨rfl, rfl, rfl, trivial⟩)
  refine n_then (ref_seq (ref_region ?_))
  refine s_rd (r_cloadS Tryz.isAgg26 Tryz.sizeOf26 rfl (j := 2) rfl rfl rfl) rfl ?_
  refine s_st0 (s_cstore (out := [slv rT_api_Premise t2.1.Premises, slv rT_api_Rule t2.1.Rules, slv rT_api_Promotion t2.1.Promotions]) Tryz.sizeOf26 rfl (j := 1) rfl (part_agO (ψs := [slv rT_api_Premise t2.1.Premises, slv rT_api_Rule t2.1.Rules, slv rT_api_Promotion t2.1.Promotions]) rfl ⟨.inl slv_at, .inl slv_at, .inl slv_at, trivial⟩) rfl rfl rfl) (fun _ => ?_)
  refine l_nil (n_then (ref_ret ?_))
  exact fin1 (.inl rfl) () [0] rfl ⟨rfl, trivial⟩ rfl (rv_cell rfl (j := 1) rfl Tryz.isAgg26 Tryz.sizeOf26 rfl rfl)

/-! deliberation/deliberationlaw06.closed -/
noncomputable def law06_closed_b_l1 (t2 : T_api_Base × T_deliberationkeep_Src) (s16 : Int × (List T_api_Rule)) : Option (Sum ((List T_api_Rule)) (Int × (List T_api_Rule))) :=
  bif decide (s16.1 < (t2.1.Rules.length : Int)) then
    Option.bind (idxM s16.2 s16.1) fun t19 =>
    some (Sum.inr (iadd .i64 s16.1 1, s16.2.set (Int.toNat s16.1) (T_api_Rule.mk t19.Name false t19.Rank t19.Body t19.Head)))
  else
    some (Sum.inl s16.2)

noncomputable def law06_closed_b_m (s_0 : T_deliberationkeep_Src) (n_1 : Int) (rules_2 : Int) : Option (T_api_Base × T_deliberationkeep_Src) :=
  Option.bind (keep_Src_Base_m s_0 n_1 4 rules_2) fun t2 =>
  Option.bind (ref06_Transpose_m t2.1) fun t5 =>
  bif t5.2 == 0 then
    none
  else
    Option.bind (loopC (law06_closed_b_l1 t2) (0, t2.1.Rules)) fun q20 : (List T_api_Rule) =>
    some ((T_api_Base.mk t2.1.Premises q20 t2.1.Promotions), t2.2)

theorem law06_closed_b_ok {s_0 : T_deliberationkeep_Src} {n_1 : Int} {rules_2 : Int} {b_0 : Nat} {r : T_api_Base × T_deliberationkeep_Src} (hm : law06_closed_b_m s_0 n_1 rules_2 = some r) :
    FnOk prog 10 [pv (ptr b_0 0), iv .i64 n_1, iv .i64 rules_2] [oc b_0 [slv (rI .i64) s_0.L, iv .i64 s_0.At]] (fun (x : Unit) => [ag [slv rT_api_Premise r.1.Premises, slv rT_api_Rule r.1.Rules, slv rT_api_Promotion r.1.Promotions]]) (fun (x : Unit) => [oc b_0 [slv (rI .i64) r.2.L, iv .i64 r.2.At]]) := by
  refine fn_ok (fn := Tryz.f10) (N := 36) (res := fun r x => [ag [slv rT_api_Premise r.1.Premises, slv rT_api_Rule r.1.Rules, slv rT_api_Promotion r.1.Promotions]]) (Ω1 := fun r x => [oc b_0 [slv (rI .i64) r.2.L, iv .i64 r.2.At]]) Tryz.func10 rfl rfl hm rfl (fun E hM => ?_)
  unfold law06_closed_b_m
  refine ref_seq (ref_region ?_)
  refine s_st (s_alloc zt_26) rfl (fun b1 => ?_)
  refine l_nil (n_then (ref_seq (ref_region ?_)))
  refine mv1 rfl rfl ?_
  refine mv1 rfl rfl ?_
  refine mv1 rfl rfl ?_
  refine pull fun t2 h_t2 => ?_
  refine s_st (s_callC [0] [true] (fun (x3 : (Value × List Nat)) => [oc b_0 [slv (rI .i64) t2.2.L, iv .i64 t2.2.At]]) (fun (x3 : (Value × List Nat)) => [oa rT_api_Rule x3.1 x3.2 t2.1.Rules]) (fun (x3 : (Value × List Nat)) => ag [slv rT_api_Premise t2.1.Premises, pv x3.1, slv rT_api_Promotion t2.1.Promotions]) (args := [.tmp 11, .tmp 12, .const (.int .i64 (4)), .tmp 13]) (caps := []) Tryz.call9 rfl (keep_Src_Base_ok h_t2) ⟨rfl, rfl, trivial⟩ (fun _ => rfl) (fun _ => trivial) (fun _ => rfl) ⟨arg rfl, arg rfl, arg rfl, arg rfl, trivial⟩ (fun _ _ _ _ h => h)) rfl (fun x3 => ?_)
  refine s_st (s_alloc zt_26) rfl (fun b4 => ?_)
  refine s_st0 (s_cstore (out := [slv rT_api_Premise t2.1.Premises, pv x3.1, slv rT_api_Promotion t2.1.Promotions]) Tryz.sizeOf26 rfl (j := 3) rfl (part_agO (ψs := [slv rT_api_Premise t2.1.Premises, pv x3.1, slv rT_api_Promotion t2.1.Promotions]) rfl ⟨.inl slv_at, .inr ⟨_, _, _, _, _, 2, rfl, rfl⟩, .inl slv_at, trivial⟩) rfl rfl rfl) (fun _ => ?_)
  refine l_nil ?_
  refine b_of (nrm [oc b_0 [slv (rI .i64) t2.2.L, iv .i64 t2.2.At], oc b1 [pv (.slice none 0 0), pv (.slice none 0 0), pv (.slice none 0 0)], oa rT_api_Rule x3.1 x3.2 t2.1.Rules, oc b4 [slv rT_api_Premise t2.1.Premises, pv x3.1, slv rT_api_Promotion t2.1.Promotions]] rfl) ?_
  refine n_then (ref_seq (ref_region ?_))
  refine s_rd (r_cloadS Tryz.isAgg26 Tryz.sizeOf26 rfl (j := 3) rfl rfl rfl) rfl ?_
  refine pull fun t5 h_t5 => ?_
  refine s_st (s_callB (ψ := fun (_ : Unit) => tup [ag [anyc, anyc, anyc], iv .i64 t5.2]) (args := [.tmp 16]) Tryz.call23 rfl (ref06_Transpose_ok h_t5) ⟨argAG (ψs := [slv rT_api_Premise t2.1.Premises, slv rT_api_Rule t2.1.Rules, slv rT_api_Promotion t2.1.Promotions]) rfl ⟨.inl rfl, .inr (.inl ⟨_, _, _, _, _, 2, rfl, rfl, rfl⟩), .inl rfl, trivial⟩, trivial⟩ (fun _ _ _ _ _ h => dropS3 h)) rfl (fun _ => ?_)
  refine mv1 rfl rfl ?_
  refine s_rd (r_extract rfl rfl) rfl ?_
  refine s_rd (r_extract rfl rfl) rfl ?_
  refine s_st (s_alloc zt_26) rfl (fun b6 => ?_)
  refine s_st0 (s_cstore (out := [anyc, anyc, anyc]) Tryz.sizeOf26 rfl (j := 4) rfl (part_agO (ψs := [anyc, anyc, anyc]) rfl ⟨.inl anyc_at, .inl anyc_at, .inl anyc_at, trivial⟩) rfl rfl rfl) (fun _ => ?_)
  refine as1 rfl rfl ?_
  refine l_nil (n_then (ref_seq (ref_seq (ref_region ?_))))
  refine mv1 rfl rfl ?_
  refine s_rd (r_eql rfl rfl) rfl ?_
  refine l_nil (n_then ?_)
  refine ref_cond rfl (fun hb7 => ?_) (fun hb7 => ?_)
  · refine ref_seq (ref_region ?_)
    exact pnone
  refine ref_skip (n_then (ref_seq (ref_seq (ref_region ?_))))
  refine s_rd (r_faddr (fo := 1) Tryz.underlying26 rfl rfl Tryz.sizeOf23 rfl) rfl ?_
  refine s_rd (r_cload Tryz.isAgg23 rfl (j := 3) rfl rfl) rfl ?_
  refine s_rd (r_olen Tryz.underlying23 rfl (j := 2) rfl) rfl ?_
  refine mv1 rfl rfl ?_
  refine l_nil (n_then ?_)
  refine ref_loopB (f := (law06_closed_b_l1 t2)) (Γl := (fun (s16 : Int × (List T_api_Rule)) (x17 : Unit) => [(0, pv (ptr b_0 0)), (6, pv (ptr b1 0)), (7, pv (ptr b4 0)), (25, iv .i64 (t2.1.Rules.length : Int)), (26, iv .i64 s16.1)])) (Ωl := (fun (s16 : Int × (List T_api_Rule)) (x17 : Unit) => [oc b_0 [slv (rI .i64) t2.2.L, iv .i64 t2.2.At], oc b1 [pv (.slice none 0 0), pv (.slice none 0 0), pv (.slice none 0 0)], oc b4 [slv rT_api_Premise t2.1.Premises, pv x3.1, slv rT_api_Promotion t2.1.Promotions], oa rT_api_Rule x3.1 x3.2 s16.2])) (Γb := (fun (q20 : (List T_api_Rule)) (y21 : Unit) => [(0, pv (ptr b_0 0)), (6, pv (ptr b1 0)), (7, pv (ptr b4 0))])) (Ωb := (fun (q20 : (List T_api_Rule)) (y21 : Unit) => [oc b_0 [slv (rI .i64) t2.2.L, iv .i64 t2.2.At], oc b1 [pv (.slice none 0 0), pv (.slice none 0 0), pv (.slice none 0 0)], oc b4 [slv rT_api_Premise t2.1.Premises, pv x3.1, slv rT_api_Promotion t2.1.Promotions], oa rT_api_Rule x3.1 x3.2 q20])) (0, t2.1.Rules) () (weak [0, 1, 3, 2] ⟨rfl, rfl, rfl, rfl, rfl, trivial⟩ ⟨rfl, rfl, rfl, rfl, trivial⟩) (fun s16 x17 => ?_) (fun q20 y21 => ?_)
  · unfold law06_closed_b_l1
    refine ref_seq (ref_region ?_)
    refine s_rd (r_lss rfl rfl) rfl ?_
    refine l_nil (n_then (ref_seq ?_))
    refine ref_cond rfl (fun hb18 => ?_) (fun hb18 => ?_)
    · refine ref_skip (n_then (ref_seq (ref_block (ref_seq (ref_region ?_)))))
      refine mv1 rfl rfl ?_
      refine as1 rfl rfl ?_
      refine l_nil (n_then (ref_region ?_))
      refine s_rd (r_faddr (fo := 1) Tryz.underlying26 rfl rfl Tryz.sizeOf23 rfl) rfl ?_
      refine s_rd (r_cload Tryz.isAgg23 rfl (j := 2) rfl rfl) rfl ?_
      refine mv1 rfl rfl ?_
      refine pull fun t19 h_t19 => ?_
      refine s_rd (r_oindex h_t19 Tryz.underlying23 el_60 rfl (j := 3) rfl rfl) rfl ?_
      refine s_rd (r_foea (ρ := rT_api_Rule) (fo := 1) h_t19 Tryz.underlying60 rfl rfl Tryz.sizeOf4 rfl (j := 3) rfl) rfl ?_
      refine s_st0 (s_fostore (ρ := rT_api_Rule) (u := (T_api_Rule.mk t19.Name false t19.Rank t19.Body t19.Head)) (φs := [bv false]) h_t19 Tryz.sizeOf4 rfl (j := 3) rfl (part_at rfl bv_at) rfl rfl) (fun _ => ?_)
      refine l_nil ?_
      refine b_of (nrm [oc b_0 [slv (rI .i64) t2.2.L, iv .i64 t2.2.At], oc b1 [pv (.slice none 0 0), pv (.slice none 0 0), pv (.slice none 0 0)], oc b4 [slv rT_api_Premise t2.1.Premises, pv x3.1, slv rT_api_Promotion t2.1.Promotions], oa rT_api_Rule x3.1 x3.2 (s16.2.set (Int.toNat s16.1) (T_api_Rule.mk t19.Name false t19.Rank t19.Body t19.Head))] rfl) ?_
      refine n_block (n_then (ref_region ?_))
      refine s_rd (r_add rfl rfl) rfl ?_
      refine mv1 rfl rfl ?_
      refine l_nil ?_
      exact goB () (weak [0, 1, 2, 3] ⟨rfl, rfl, rfl, rfl, rfl, trivial⟩ ⟨rfl, rfl, rfl, rfl, trivial⟩)
    refine ref_exit (x_then ?_)
    exact brkB () (weak [0, 1, 2, 3] ⟨rfl, rfl, rfl, trivial⟩ ⟨rfl, rfl, rfl, rfl, trivial⟩)
  refine n_then (ref_seq (ref_region ?_))
  refine s_rd (r_cloadS Tryz.isAgg26 Tryz.sizeOf26 rfl (j := 2) rfl rfl rfl) rfl ?_
  refine s_st0 (s_cstore (out := [slv rT_api_Premise t2.1.Premises, pv x3.1, slv rT_api_Promotion t2.1.Promotions]) Tryz.sizeOf26 rfl (j := 1) rfl (part_agO (ψs := [slv rT_api_Premise t2.1.Premises, pv x3.1, slv rT_api_Promotion t2.1.Promotions]) rfl ⟨.inl slv_at, .inr ⟨_, _, _, _, _, 3, rfl, rfl⟩, .inl slv_at, trivial⟩) rfl rfl rfl) (fun _ => ?_)
  refine l_nil (n_then (ref_ret ?_))
  refine b_of (frzGL [(35, ag [slv rT_api_Premise t2.1.Premises, slv rT_api_Rule q20, slv rT_api_Promotion t2.1.Promotions])] [(1, b1, [slv rT_api_Premise t2.1.Premises, slv rT_api_Rule q20, slv rT_api_Promotion t2.1.Promotions]), (2, b4, [slv rT_api_Premise t2.1.Premises, slv rT_api_Rule q20, slv rT_api_Promotion t2.1.Promotions])] (j := 3) rfl ⟨⟨_, rfl, .inr ⟨_, _, rfl, rfl, ⟨.inl rfl, .inr ⟨rfl, rfl⟩, .inl rfl, trivial⟩⟩⟩, trivial⟩ ⟨⟨_, rfl, ⟨.inl rfl, .inr ⟨rfl, rfl⟩, .inl rfl, trivial⟩⟩, ⟨_, rfl, ⟨.inl rfl, .inr ⟨rfl, rfl⟩, .inl rfl, trivial⟩⟩, trivial⟩) ?_
  refine b_of (nrm [oc b_0 [slv (rI .i64) t2.2.L, iv .i64 t2.2.At], oc b1 [slv rT_api_Premise t2.1.Premises, slv rT_api_Rule q20, slv rT_api_Promotion t2.1.Promotions], oc b4 [slv rT_api_Premise t2.1.Premises, slv rT_api_Rule q20, slv rT_api_Promotion t2.1.Promotions], dead] rfl) ?_
  exact fin1 (.inl rfl) () [0] rfl ⟨rfl, trivial⟩ rfl (rv_cell rfl (j := 1) rfl Tryz.isAgg26 Tryz.sizeOf26 rfl rfl)

/-! deliberation/deliberationlaw06.closed -/
noncomputable def law06_closed_m (s_0 : T_deliberationkeep_Src) (n_1 : Int) (rules_2 : Int) : Option (T_api_Base × T_deliberationkeep_Src) := (law06_closed_a_m s_0 n_1 rules_2).orElse fun _ => law06_closed_b_m s_0 n_1 rules_2

theorem law06_closed_ok {s_0 : T_deliberationkeep_Src} {n_1 : Int} {rules_2 : Int} {b_0 : Nat} {r : T_api_Base × T_deliberationkeep_Src} (hm : law06_closed_m s_0 n_1 rules_2 = some r) :
    FnOk prog 10 [pv (ptr b_0 0), iv .i64 n_1, iv .i64 rules_2] [oc b_0 [slv (rI .i64) s_0.L, iv .i64 s_0.At]] (fun (x : Unit) => [ag [slv rT_api_Premise r.1.Premises, slv rT_api_Rule r.1.Rules, slv rT_api_Promotion r.1.Promotions]]) (fun (x : Unit) => [oc b_0 [slv (rI .i64) r.2.L, iv .i64 r.2.At]]) := by
  unfold law06_closed_m at hm
  cases h : law06_closed_a_m s_0 n_1 rules_2 with
  | none => rw [h] at hm; exact law06_closed_b_ok hm
  | some r2 => rw [h] at hm; cases hm; exact law06_closed_a_ok h

/-! slices.Clone[[]deliberation/api.Literal,deliberation/api.Literal] -/
def slices_Clone_api_Literal_api_Literal_m (d_0 : List T_api_Literal) : Option (List T_api_Literal) := appM 24 [] d_0

theorem slices_Clone_api_Literal_api_Literal_ok {d_0 r : List T_api_Literal} (hm : slices_Clone_api_Literal_api_Literal_m d_0 = some r) : FnOk prog 62 [slv rT_api_Literal d_0] [] (fun (x : Value × List Nat) => [pv x.1]) (fun (x : Value × List Nat) => [oa rT_api_Literal x.1 x.2 r]) := by
  have hm' : appM 24 [] d_0 = some r := hm
  have hr : r = d_0 := by have := (appM_some hm').2; simpa using this
  subst hr
  refine fn_ok (X := Value × List Nat) (fn := Tryz.f62) (N := 8) (m := some ()) (r := ()) (res := fun _ x => [pv x.1]) (Ω1 := fun _ x => [oa rT_api_Literal x.1 x.2 r]) Tryz.func62 rfl rfl rfl rfl (fun E hM => ?_)
  refine ref_seq ?_
  refine ref_region ?_
  refine s_rd (r_assign rfl) rfl ?_
  refine l_nil ?_
  refine n_then ?_
  refine ref_seq ?_
  refine ref_seq ?_
  refine ref_region ?_
  refine s_rd (r_move rfl) rfl ?_
  refine s_st (s_isnil Tryz.underlying27 rfl) rfl (fun b => ?_)
  refine l_nil ?_
  refine n_then ?_
  refine ref_condE (b := b.1) rfl (fun hb => ?_) (fun hb => ?_)
  · refine ref_seq ?_
    refine ref_region ?_
    refine s_rd (r_assign rfl) rfl ?_
    refine l_nil ?_
    refine n_then ?_
    refine ref_ret ?_
    refine r_then ?_
    have hd := b.2 hb
    subst hd
    refine b_of (own_nil rT_api_Literal) ?_
    exact fin1 (.inl rfl) (.slice none 0 0, []) [0] rfl ⟨rfl, trivial⟩ rfl (rv_tmp rfl)
  · refine ref_skip ?_
    refine n_then ?_
    refine ref_seq ?_
    refine ref_region ?_
    refine s_st (s_bsliceO (xs := []) (ds := []) Tryz.underlying27 el_29 rfl (Nat.le_of_ble_eq_true rfl) trivial) rfl (fun o => ?_)
    refine s_rd (r_move rfl) rfl ?_
    refine s_st (s_append hm' Tryz.underlying27 el_29 rfl (j := 0) rfl rfl) rfl (fun o2 => ?_)
    refine s_rd (r_assign rfl) rfl ?_
    refine l_nil ?_
    refine n_then ?_
    refine ref_ret ?_
    exact fin1 (.inl rfl) o2 [0] rfl ⟨rfl, trivial⟩ rfl (rv_tmp rfl)

/-! cmp.isNaN[string] -/
noncomputable def cmp_isNaN_string_m (x_0 : ByteArray) : Option (Bool) :=
  letM (!(x_0.toList == x_0.toList)) fun t1 =>
  some t1

theorem cmp_isNaN_string_ok {x_0 : ByteArray} {r : Bool} (hm : cmp_isNaN_string_m x_0 = some r) :
    FnOk prog 111 [sv x_0] [] (fun (x : Unit) => [bv r]) (fun (x : Unit) => []) := by
  refine fn_ok (fn := Tryz.f111) (N := 6) (res := fun r x => [bv r]) (Ω1 := fun r x => []) Tryz.func111 rfl rfl hm rfl (fun E hM => ?_)
  unfold cmp_isNaN_string_m
  refine ref_seq (ref_region ?_)
  refine as1 rfl rfl ?_
  refine l_nil (n_then (ref_seq (ref_region ?_)))
  refine mv1 rfl rfl ?_
  refine mv1 rfl rfl ?_
  refine s_rd (r_sneq rfl rfl) rfl ?_
  refine as1 rfl rfl ?_
  refine b_let (f := bv) (t := 2) rfl fun t1 => ?_
  refine l_nil (n_then (ref_ret ?_))
  exact fin1 (.inl rfl) () [] rfl trivial rfl (rv_tmp rfl)

/-! cmp.Compare[string] -/
noncomputable def cmp_Compare_string_m (x_0 : ByteArray) (y_1 : ByteArray) : Option (Int) :=
  Option.bind (cmp_isNaN_string_m x_0) fun xNaN1 =>
  Option.bind (cmp_isNaN_string_m y_1) fun yNaN2 =>
  bif xNaN1 then
    bif yNaN2 then
      some 0
    else
      some (-1)
  else
    bif yNaN2 then
      some 1
    else
      bif Op.bytesLess x_0.toList y_1.toList then
        some (-1)
      else
        bif !(Op.bytesLess x_0.toList y_1.toList || x_0.toList == y_1.toList) then
          some 1
        else
          some 0

theorem cmp_Compare_string_ok {x_0 : ByteArray} {y_1 : ByteArray} {r : Int} (hm : cmp_Compare_string_m x_0 y_1 = some r) :
    FnOk prog 91 [sv x_0, sv y_1] [] (fun (x : Unit) => [iv .i64 r]) (fun (x : Unit) => []) := by
  refine fn_ok (fn := Tryz.f91) (N := 20) (res := fun r x => [iv .i64 r]) (Ω1 := fun r x => []) Tryz.func91 rfl rfl hm rfl (fun E hM => ?_)
  unfold cmp_Compare_string_m
  refine ref_seq (ref_region ?_)
  refine as1 rfl rfl ?_
  refine l_nil (n_then (ref_seq (ref_region ?_)))
  refine mv1 rfl rfl ?_
  refine pull fun xNaN1 h_xNaN1 => ?_
  refine s_st (s_call (ψ := fun (_ : Unit) => bv xNaN1) (args := [.tmp 7]) Tryz.call111 rfl (cmp_isNaN_string_ok h_xNaN1) ⟨arg rfl, trivial⟩ (fun _ _ _ _ h => h)) rfl (fun _ => ?_)
  refine as1 rfl rfl ?_
  refine l_nil (n_then (ref_seq (ref_region ?_)))
  refine mv1 rfl rfl ?_
  refine pull fun yNaN2 h_yNaN2 => ?_
  refine s_st (s_call (ψ := fun (_ : Unit) => bv yNaN2) (args := [.tmp 9]) Tryz.call111 rfl (cmp_isNaN_string_ok h_yNaN2) ⟨arg rfl, trivial⟩ (fun _ _ _ _ h => h)) rfl (fun _ => ?_)
  refine as1 rfl rfl ?_
  refine l_nil (n_then (ref_seq (ref_seq (ref_region ?_))))
  refine mv1 rfl rfl ?_
  refine l_nil (n_then ?_)
  refine ref_cond rfl (fun hb3 => ?_) (fun hb3 => ?_)
  · refine ref_seq (ref_seq (ref_region ?_))
    refine mv1 rfl rfl ?_
    refine l_nil (n_then ?_)
    refine ref_cond rfl (fun hb4 => ?_) (fun hb4 => ?_)
    · refine ref_seq (ref_region ?_)
      refine as1 rfl rfl ?_
      refine l_nil (n_then (ref_ret (r_then (r_then ?_))))
      exact fin1 (.inl rfl) () [] rfl trivial rfl (rv_tmp rfl)
    refine ref_skip (n_then (ref_seq (ref_region ?_)))
    refine as1 rfl rfl ?_
    refine l_nil (n_then (ref_ret (r_then ?_)))
    exact fin1 (.inl rfl) () [] rfl trivial rfl (rv_tmp rfl)
  refine ref_skip (n_then (ref_seq (ref_seq (ref_region ?_))))
  refine mv1 rfl rfl ?_
  refine l_nil (n_then ?_)
  refine ref_cond rfl (fun hb5 => ?_) (fun hb5 => ?_)
  · refine ref_seq (ref_region ?_)
    refine as1 rfl rfl ?_
    refine l_nil (n_then (ref_ret (r_then ?_)))
    exact fin1 (.inl rfl) () [] rfl trivial rfl (rv_tmp rfl)
  refine ref_skip (n_then (ref_seq (ref_seq (ref_region ?_))))
  refine mv1 rfl rfl ?_
  refine mv1 rfl rfl ?_
  refine s_rd (r_slss rfl rfl) rfl ?_
  refine l_nil (n_then ?_)
  refine ref_cond rfl (fun hb6 => ?_) (fun hb6 => ?_)
  · refine ref_seq (ref_region ?_)
    refine as1 rfl rfl ?_
    refine l_nil (n_then (ref_ret (r_then ?_)))
    exact fin1 (.inl rfl) () [] rfl trivial rfl (rv_tmp rfl)
  refine ref_skip (n_then (ref_seq (ref_seq (ref_region ?_))))
  refine mv1 rfl rfl ?_
  refine mv1 rfl rfl ?_
  refine s_rd (r_sgtr rfl rfl) rfl ?_
  refine l_nil (n_then ?_)
  refine ref_cond rfl (fun hb7 => ?_) (fun hb7 => ?_)
  · refine ref_seq (ref_region ?_)
    refine as1 rfl rfl ?_
    refine l_nil (n_then (ref_ret (r_then ?_)))
    exact fin1 (.inl rfl) () [] rfl trivial rfl (rv_tmp rfl)
  refine ref_skip (n_then (ref_seq (ref_region ?_)))
  refine as1 rfl rfl ?_
  refine l_nil (n_then (ref_ret ?_))
  exact fin1 (.inl rfl) () [] rfl trivial rfl (rv_tmp rfl)

/-! deliberation/literal.Compare -/
noncomputable def literal_Compare_m (a__0 : T_api_Literal) (b_1 : T_api_Literal) : Option (Int) :=
  Option.bind (cmp_Compare_string_m a__0.Name b_1.Name) fun c3 =>
  bif c3 != 0 then
    some c3
  else
    bif a__0.Neg == b_1.Neg then
      some c3
    else
      bif b_1.Neg then
        some (-1)
      else
        some 1

theorem literal_Compare_ok {a__0 : T_api_Literal} {b_1 : T_api_Literal} {r : Int} (hm : literal_Compare_m a__0 b_1 = some r) :
    FnOk prog 64 [ag [bv a__0.Neg, sv a__0.Name], ag [bv b_1.Neg, sv b_1.Name]] [] (fun (x : Unit) => [iv .i64 r]) (fun (x : Unit) => []) := by
  refine fn_ok (fn := Tryz.f64) (N := 23) (res := fun r x => [iv .i64 r]) (Ω1 := fun r x => []) Tryz.func64 rfl rfl hm rfl (fun E hM => ?_)
  unfold literal_Compare_m
  refine ref_seq (ref_region ?_)
  refine s_st (s_box (part_agO (ψs := [bv a__0.Neg, sv a__0.Name]) rfl ⟨.inl bv_at, .inl sv_at, trivial⟩)) rfl (fun b1 => ?_)
  refine s_st (s_box (part_agO (ψs := [bv b_1.Neg, sv b_1.Name]) rfl ⟨.inl bv_at, .inl sv_at, trivial⟩)) rfl (fun b2 => ?_)
  refine as1 rfl rfl ?_
  refine l_nil (n_then (ref_seq (ref_seq (ref_region ?_))))
  refine s_rd (r_faddr (fo := 1) Tryz.underlying29 rfl rfl Tryz.sizeOf9 rfl) rfl ?_
  refine s_rd (r_cload Tryz.isAgg9 rfl (j := 0) rfl rfl) rfl ?_
  refine s_rd (r_faddr (fo := 1) Tryz.underlying29 rfl rfl Tryz.sizeOf9 rfl) rfl ?_
  refine s_rd (r_cload Tryz.isAgg9 rfl (j := 1) rfl rfl) rfl ?_
  refine pull fun c3 h_c3 => ?_
  refine s_st (s_call (ψ := fun (_ : Unit) => iv .i64 c3) (args := [.tmp 7, .tmp 9]) Tryz.call91 rfl (cmp_Compare_string_ok h_c3) ⟨arg rfl, arg rfl, trivial⟩ (fun _ _ _ _ h => h)) rfl (fun _ => ?_)
  refine as1 rfl rfl ?_
  refine l_nil (n_then (ref_seq (ref_region ?_)))
  refine mv1 rfl rfl ?_
  refine s_rd (r_neq rfl rfl) rfl ?_
  refine mv1 rfl rfl ?_
  refine b_split (t := 13) rfl (fun _ => ?_) (fun _ => ?_)
  · refine s_off rfl rfl rfl rfl rfl ?_
    refine s_off rfl rfl rfl rfl rfl ?_
    refine s_off rfl rfl rfl rfl rfl ?_
    refine s_off rfl rfl rfl rfl rfl ?_
    refine s_off rfl rfl rfl rfl rfl ?_
    refine s_rd (r_pickT rfl rfl) rfl ?_
    refine l_nil (n_then ?_)
    refine ref_condT rfl rfl ?_
    refine ref_seq (ref_region ?_)
    refine mv1 rfl rfl ?_
    refine as1 rfl rfl ?_
    refine l_nil (n_then (ref_ret (r_then ?_)))
    exact fin1 (.inl rfl) () [] rfl trivial rfl (rv_tmp rfl)
  refine s_on rfl rfl rfl ?_
  refine s_rd (r_faddr (fo := 0) Tryz.underlying29 rfl rfl Tryz.sizeOf4 rfl) rfl ?_
  refine s_on rfl rfl rfl ?_
  refine s_rd (r_cload Tryz.isAgg4 rfl (j := 0) rfl rfl) rfl ?_
  refine s_on rfl rfl rfl ?_
  refine s_rd (r_faddr (fo := 0) Tryz.underlying29 rfl rfl Tryz.sizeOf4 rfl) rfl ?_
  refine s_on rfl rfl rfl ?_
  refine s_rd (r_cload Tryz.isAgg4 rfl (j := 1) rfl rfl) rfl ?_
  refine s_on rfl rfl rfl ?_
  refine s_rd (r_beql Tryz.underlying4 rfl rfl) rfl ?_
  refine s_rd (r_pickF rfl rfl) rfl ?_
  refine l_nil (n_then ?_)
  refine ref_cond rfl (fun hb4 => ?_) (fun hb4 => ?_)
  · refine ref_seq (ref_region ?_)
    refine mv1 rfl rfl ?_
    refine as1 rfl rfl ?_
    refine l_nil (n_then (ref_ret (r_then ?_)))
    exact fin1 (.inl rfl) () [] rfl trivial rfl (rv_tmp rfl)
  refine ref_skip (n_then (ref_seq (ref_seq (ref_region ?_))))
  refine s_rd (r_faddr (fo := 0) Tryz.underlying29 rfl rfl Tryz.sizeOf4 rfl) rfl ?_
  refine s_rd (r_cload Tryz.isAgg4 rfl (j := 1) rfl rfl) rfl ?_
  refine l_nil (n_then ?_)
  refine ref_cond rfl (fun hb5 => ?_) (fun hb5 => ?_)
  · refine ref_seq (ref_region ?_)
    refine as1 rfl rfl ?_
    refine l_nil (n_then (ref_ret (r_then ?_)))
    exact fin1 (.inl rfl) () [] rfl trivial rfl (rv_tmp rfl)
  refine ref_skip (n_then (ref_seq (ref_region ?_)))
  refine as1 rfl rfl ?_
  refine l_nil (n_then (ref_ret ?_))
  exact fin1 (.inl rfl) () [] rfl trivial rfl (rv_tmp rfl)

/-! math/bits.Len64 -/
noncomputable def math_bits_Len64_m (x_0 : Int) : Option (Int) :=
  joinM (fun j3 : Int × Int =>
      joinM (fun j9 : Int × Int =>
          joinM (fun j15 : Int × Int =>
              Option.bind (sidxM (ByteArray.mk #[0, 1, 2, 2, 3, 3, 3, 3, 4, 4, 4, 4, 4, 4, 4, 4, 5, 5, 5, 5, 5, 5, 5, 5, 5, 5, 5, 5, 5, 5, 5, 5, 6, 6, 6, 6, 6, 6, 6, 6, 6, 6, 6, 6, 6, 6, 6, 6, 6, 6, 6, 6, 6, 6, 6, 6, 6, 6, 6, 6, 6, 6, 6, 6, 7, 7, 7, 7, 7, 7, 7, 7, 7, 7, 7, 7, 7, 7, 7, 7, 7, 7, 7, 7, 7, 7, 7, 7, 7, 7, 7, 7, 7, 7, 7, 7, 7, 7, 7, 7, 7, 7, 7, 7, 7, 7, 7, 7, 7, 7, 7, 7, 7, 7, 7, 7, 7, 7, 7, 7, 7, 7, 7, 7, 7, 7, 7, 7, 8, 8, 8, 8, 8, 8, 8, 8, 8, 8, 8, 8, 8, 8, 8, 8, 8, 8, 8, 8, 8, 8, 8, 8, 8, 8, 8, 8, 8, 8, 8, 8, 8, 8, 8, 8, 8, 8, 8, 8, 8, 8, 8, 8, 8, 8, 8, 8, 8, 8, 8, 8, 8, 8, 8, 8, 8, 8, 8, 8, 8, 8, 8, 8, 8, 8, 8, 8, 8, 8, 8, 8, 8, 8, 8, 8, 8, 8, 8, 8, 8, 8, 8, 8, 8, 8, 8, 8, 8, 8, 8, 8, 8, 8, 8, 8, 8, 8, 8, 8, 8, 8, 8, 8, 8, 8, 8, 8, 8, 8, 8, 8, 8, 8, 8, 8, 8, 8, 8, 8, 8, 8, 8, 8, 8, 8, 8, 8]) (IntKind.wrap .u8 j15.1)) fun t18 =>
              letM (iadd .i64 j15.2 (IntKind.wrap .i64 t18)) fun n19 =>
              some n19) fun k17 =>
          bif decide (j9.1 ≥ 256) then
            letM (ishr .u64 j9.1 8) fun x13 =>
            letM (iadd .i64 j9.2 8) fun n14 =>
            k17 (x13, n14)
          else
            k17 (j9.1, j9.2)) fun k11 =>
      bif decide (j3.1 ≥ 65536) then
        letM (ishr .u64 j3.1 16) fun x7 =>
        letM (iadd .i64 j3.2 16) fun n8 =>
        k11 (x7, n8)
      else
        k11 (j3.1, j3.2)) fun k5 =>
  bif decide (x_0 ≥ 4294967296) then
    letM (ishr .u64 x_0 32) fun x2 =>
    k5 (x2, 32)
  else
    k5 (x_0, 0)

theorem math_bits_Len64_ok {x_0 : Int} {r : Int} (hm : math_bits_Len64_m x_0 = some r) :
    FnOk prog 110 [iv .u64 x_0] [] (fun (x : Unit) => [iv .i64 r]) (fun (x : Unit) => []) := by
  refine fn_ok (fn := Tryz.f110) (N := 25) (res := fun r x => [iv .i64 r]) (Ω1 := fun r x => []) Tryz.func110 rfl rfl hm rfl (fun E hM => ?_)
  unfold math_bits_Len64_m
  refine ref_seq (ref_region ?_)
  refine as1 rfl rfl ?_
  refine l_nil (n_then (ref_seq ?_))
  refine ref_join (fun (j3 : Int × Int) (x4 : Unit) => [(0, iv .u64 j3.1), (2, iv .i64 j3.2)]) (fun (j3 : Int × Int) (x4 : Unit) => []) (fun k5 hk5 => ?_) (fun j3 x4 => ?_)
  · refine ref_seq (ref_region ?_)
    refine mv1 rfl rfl ?_
    refine s_rd (r_geq rfl rfl) rfl ?_
    refine l_nil (n_then ?_)
    refine ref_cond rfl (fun hb1 => ?_) (fun hb1 => ?_)
    · refine ref_seq (ref_region ?_)
      refine mv1 rfl rfl ?_
      refine s_rd (r_shr rfl rfl (by decide)) rfl ?_
      refine as1 rfl rfl ?_
      refine b_let (f := iv .u64) (t := 0) rfl fun x2 => ?_
      refine l_nil (n_then (ref_region ?_))
      refine as1 rfl rfl ?_
      refine l_nil ?_
      exact b_to (hk5 (x2, 32) ()) (weak [] ⟨rfl, rfl, trivial⟩ trivial)
    refine ref_skip ?_
    exact b_to (hk5 (x_0, 0) ()) (weak [] ⟨rfl, rfl, trivial⟩ trivial)
  refine n_then (ref_seq ?_)
  refine ref_join (fun (j9 : Int × Int) (x10 : Unit) => [(0, iv .u64 j9.1), (2, iv .i64 j9.2)]) (fun (j9 : Int × Int) (x10 : Unit) => []) (fun k11 hk11 => ?_) (fun j9 x10 => ?_)
  · refine ref_seq (ref_region ?_)
    refine mv1 rfl rfl ?_
    refine s_rd (r_geq rfl rfl) rfl ?_
    refine l_nil (n_then ?_)
    refine ref_cond rfl (fun hb6 => ?_) (fun hb6 => ?_)
    · refine ref_seq (ref_region ?_)
      refine mv1 rfl rfl ?_
      refine s_rd (r_shr rfl rfl (by decide)) rfl ?_
      refine as1 rfl rfl ?_
      refine b_let (f := iv .u64) (t := 0) rfl fun x7 => ?_
      refine l_nil (n_then (ref_region ?_))
      refine mv1 rfl rfl ?_
      refine s_rd (r_add rfl rfl) rfl ?_
      refine as1 rfl rfl ?_
      refine b_let (f := iv .i64) (t := 2) rfl fun n8 => ?_
      refine l_nil ?_
      exact b_to (hk11 (x7, n8) ()) (weak [] ⟨rfl, rfl, trivial⟩ trivial)
    refine ref_skip ?_
    exact b_to (hk11 (j3.1, j3.2) ()) (weak [] ⟨rfl, rfl, trivial⟩ trivial)
  refine n_then (ref_seq ?_)
  refine ref_join (fun (j15 : Int × Int) (x16 : Unit) => [(0, iv .u64 j15.1), (2, iv .i64 j15.2)]) (fun (j15 : Int × Int) (x16 : Unit) => []) (fun k17 hk17 => ?_) (fun j15 x16 => ?_)
  · refine ref_seq (ref_region ?_)
    refine mv1 rfl rfl ?_
    refine s_rd (r_geq rfl rfl) rfl ?_
    refine l_nil (n_then ?_)
    refine ref_cond rfl (fun hb12 => ?_) (fun hb12 => ?_)
    · refine ref_seq (ref_region ?_)
      refine mv1 rfl rfl ?_
      refine s_rd (r_shr rfl rfl (by decide)) rfl ?_
      refine as1 rfl rfl ?_
      refine b_let (f := iv .u64) (t := 0) rfl fun x13 => ?_
      refine l_nil (n_then (ref_region ?_))
      refine mv1 rfl rfl ?_
      refine s_rd (r_add rfl rfl) rfl ?_
      refine as1 rfl rfl ?_
      refine b_let (f := iv .i64) (t := 2) rfl fun n14 => ?_
      refine l_nil ?_
      exact b_to (hk17 (x13, n14) ()) (weak [] ⟨rfl, rfl, trivial⟩ trivial)
    refine ref_skip ?_
    exact b_to (hk17 (j9.1, j9.2) ()) (weak [] ⟨rfl, rfl, trivial⟩ trivial)
  refine n_then (ref_seq (ref_region ?_))
  refine mv1 rfl rfl ?_
  refine mv1 rfl rfl ?_
  refine s_rd (r_conv (k' := .u8) rfl rfl rfl) rfl ?_
  refine pull fun t18 h_t18 => ?_
  refine s_rd (r_sidx h_t18 Tryz.underlying9 rfl rfl) rfl ?_
  refine s_rd (r_conv (k' := .i64) rfl rfl rfl) rfl ?_
  refine s_rd (r_add rfl rfl) rfl ?_
  refine as1 rfl rfl ?_
  refine b_let (f := iv .i64) (t := 2) rfl fun n19 => ?_
  refine l_nil (n_then (ref_ret ?_))
  exact fin1 (.inl rfl) () [] rfl trivial rfl (rv_tmp rfl)

/-! math/bits.Len -/
noncomputable def math_bits_Len_m (x_0 : Int) : Option (Int) :=
  Option.bind (math_bits_Len64_m x_0) fun t1 =>
  some t1

theorem math_bits_Len_ok {x_0 : Int} {r : Int} (hm : math_bits_Len_m x_0 = some r) :
    FnOk prog 90 [iv .u64 x_0] [] (fun (x : Unit) => [iv .i64 r]) (fun (x : Unit) => []) := by
  refine fn_ok (fn := Tryz.f90) (N := 8) (res := fun r x => [iv .i64 r]) (Ω1 := fun r x => []) Tryz.func90 rfl rfl hm rfl (fun E hM => ?_)
  unfold math_bits_Len_m
  refine ref_seq (ref_region ?_)
  refine as1 rfl rfl ?_
  refine l_nil (n_then (ref_seq ?_))
  refine ref_condF rfl rfl ?_
  refine ref_skip (n_then (ref_seq (ref_region ?_)))
  refine mv1 rfl rfl ?_
  refine pull fun t1 h_t1 => ?_
  refine s_st (s_call (ψ := fun (_ : Unit) => iv .i64 t1) (args := [.tmp 6]) Tryz.call110 rfl (math_bits_Len64_ok h_t1) ⟨arg rfl, trivial⟩ (fun _ _ _ _ h => h)) rfl (fun _ => ?_)
  refine as1 rfl rfl ?_
  refine l_nil (n_then (ref_ret ?_))
  exact fin1 (.inl rfl) () [] rfl trivial rfl (rv_tmp rfl)

/-! slices.nextPowerOfTwo -/
noncomputable def slices_nextPowerOfTwo_m (length_0 : Int) : Option (Int) :=
  Option.bind (math_bits_Len_m (IntKind.wrap .u64 length_0)) fun t1 =>
  Option.bind (ishlM .u64 1 t1) fun t2 =>
  some t2

theorem slices_nextPowerOfTwo_ok {length_0 : Int} {r : Int} (hm : slices_nextPowerOfTwo_m length_0 = some r) :
    FnOk prog 114 [iv .i64 length_0] [] (fun (x : Unit) => [iv .u64 r]) (fun (x : Unit) => []) := by
  refine fn_ok (fn := Tryz.f114) (N := 7) (res := fun r x => [iv .u64 r]) (Ω1 := fun r x => []) Tryz.func114 rfl rfl hm rfl (fun E hM => ?_)
  unfold slices_nextPowerOfTwo_m
  refine ref_seq (ref_region ?_)
  refine as1 rfl rfl ?_
  refine l_nil (n_then (ref_seq (ref_region ?_)))
  refine mv1 rfl rfl ?_
  refine s_rd (r_conv (k' := .u64) rfl rfl rfl) rfl ?_
  refine pull fun t1 h_t1 => ?_
  refine s_st (s_call (ψ := fun (_ : Unit) => iv .i64 t1) (args := [.tmp 4]) Tryz.call90 rfl (math_bits_Len_ok h_t1) ⟨arg rfl, trivial⟩ (fun _ _ _ _ h => h)) rfl (fun _ => ?_)
  refine pull fun t2 h_t2 => ?_
  refine s_rd (r_shlM h_t2 rfl rfl) rfl ?_
  refine as1 rfl rfl ?_
  refine l_nil (n_then (ref_ret ?_))
  exact fin1 (.inl rfl) () [] rfl trivial rfl (rv_tmp rfl)

/-! (*slices.xorshift).Next -/
noncomputable def slices_xorshift_Next_m (r__0 : Int) : Option (Int × Int) :=
  letM (ixor .u64 (ixor .u64 (ixor .u64 r__0 (ishl .u64 r__0 13)) (ishr .u64 (ixor .u64 r__0 (ishl .u64 r__0 13)) 7)) (ishl .u64 (ixor .u64 (ixor .u64 r__0 (ishl .u64 r__0 13)) (ishr .u64 (ixor .u64 r__0 (ishl .u64 r__0 13)) 7)) 17)) fun t1 =>
  some (t1, ixor .u64 (ixor .u64 (ixor .u64 r__0 (ishl .u64 r__0 13)) (ishr .u64 (ixor .u64 r__0 (ishl .u64 r__0 13)) 7)) (ishl .u64 (ixor .u64 (ixor .u64 r__0 (ishl .u64 r__0 13)) (ishr .u64 (ixor .u64 r__0 (ishl .u64 r__0 13)) 7)) 17))

theorem slices_xorshift_Next_ok {r__0 : Int} {b_0 : Nat} {r : Int × Int} (hm : slices_xorshift_Next_m r__0 = some r) :
    FnOk prog 115 [pv (ptr b_0 0)] [oc b_0 [iv .u64 r__0]] (fun (x : Unit) => [iv .u64 r.1]) (fun (x : Unit) => [oc b_0 [iv .u64 r.2]]) := by
  refine fn_ok (fn := Tryz.f115) (N := 33) (res := fun r x => [iv .u64 r.1]) (Ω1 := fun r x => [oc b_0 [iv .u64 r.2]]) Tryz.func115 rfl rfl hm rfl (fun E hM => ?_)
  unfold slices_xorshift_Next_m
  refine ref_seq (ref_region ?_)
  refine as1 rfl rfl ?_
  refine l_nil (n_then (ref_seq ?_))
  refine ref_draw [0, 1, 2, 3, 4, 5, 6, 7, 8] rfl (by kernel_rfl) (fun hok => ?_)
  refine a_rd (i := 0) hok rfl (by kernel_rfl) rfl (r_move rfl) rfl ?_
  refine a_rd (i := 1) hok rfl (by kernel_rfl) rfl (r_nilc rfl) rfl ?_
  refine a_rd (i := 2) hok rfl (by kernel_rfl) rfl (r_cload Tryz.isAgg125 rfl (j := 0) rfl rfl) rfl ?_
  refine a_rd (i := 3) hok rfl (by kernel_rfl) rfl (r_move rfl) rfl ?_
  refine a_rd (i := 4) hok rfl (by kernel_rfl) rfl (r_nilc rfl) rfl ?_
  refine a_rd (i := 5) hok rfl (by kernel_rfl) rfl (r_cload Tryz.isAgg125 rfl (j := 0) rfl rfl) rfl ?_
  refine a_rd (i := 6) hok rfl (by kernel_rfl) rfl (r_shl rfl rfl (by decide)) rfl ?_
  refine a_rd (i := 7) hok rfl (by kernel_rfl) rfl (r_xor rfl rfl) rfl ?_
  refine a_rd (i := 8) hok rfl (by kernel_rfl) rfl (r_nilc rfl) rfl ?_
  refine a_next hok 9 [] (by kernel_rfl) ?_ trivial
  refine a_st (i := 9) hok rfl rfl (s_cstore (out := [iv .u64 (ixor .u64 r__0 (ishl .u64 r__0 13))]) Tryz.sizeOf125 rfl (j := 0) rfl (part_at rfl iv_at) rfl rfl rfl) (by intro _ h; cases h) (fun _ => ⟨trivial, ⟨trivial, ⟨trivial, ⟨trivial, ⟨trivial, ⟨trivial, ⟨trivial, ⟨trivial, ⟨trivial, trivial⟩⟩⟩⟩⟩⟩⟩⟩⟩) (fun _ => ?_)
  refine a_fin hok (by kernel_rfl) ?_
  refine n_then (ref_seq ?_)
  refine ref_draw [0, 1, 2, 3, 4, 5, 6, 7, 8] rfl (by kernel_rfl) (fun hok => ?_)
  refine a_rd (i := 0) hok rfl (by kernel_rfl) rfl (r_move rfl) rfl ?_
  refine a_rd (i := 1) hok rfl (by kernel_rfl) rfl (r_nilc rfl) rfl ?_
  refine a_rd (i := 2) hok rfl (by kernel_rfl) rfl (r_cload Tryz.isAgg125 rfl (j := 0) rfl rfl) rfl ?_
  refine a_rd (i := 3) hok rfl (by kernel_rfl) rfl (r_move rfl) rfl ?_
  refine a_rd (i := 4) hok rfl (by kernel_rfl) rfl (r_nilc rfl) rfl ?_
  refine a_rd (i := 5) hok rfl (by kernel_rfl) rfl (r_cload Tryz.isAgg125 rfl (j := 0) rfl rfl) rfl ?_
  refine a_rd (i := 6) hok rfl (by kernel_rfl) rfl (r_shr rfl rfl (by decide)) rfl ?_
  refine a_rd (i := 7) hok rfl (by kernel_rfl) rfl (r_xor rfl rfl) rfl ?_
  refine a_rd (i := 8) hok rfl (by kernel_rfl) rfl (r_nilc rfl) rfl ?_
  refine a_next hok 9 [] (by kernel_rfl) ?_ trivial
  refine a_st (i := 9) hok rfl rfl (s_cstore (out := [iv .u64 (ixor .u64 (ixor .u64 r__0 (ishl .u64 r__0 13)) (ishr .u64 (ixor .u64 r__0 (ishl .u64 r__0 13)) 7))]) Tryz.sizeOf125 rfl (j := 0) rfl (part_at rfl iv_at) rfl rfl rfl) (by intro _ h; cases h) (fun _ => ⟨trivial, ⟨trivial, ⟨trivial, ⟨trivial, ⟨trivial, ⟨trivial, ⟨trivial, ⟨trivial, ⟨trivial, trivial⟩⟩⟩⟩⟩⟩⟩⟩⟩) (fun _ => ?_)
  refine a_fin hok (by kernel_rfl) ?_
  refine n_then (ref_seq ?_)
  refine ref_draw [0, 1, 2, 3, 4, 5, 6, 7, 8] rfl (by kernel_rfl) (fun hok => ?_)
  refine a_rd (i := 0) hok rfl (by kernel_rfl) rfl (r_move rfl) rfl ?_
  refine a_rd (i := 1) hok rfl (by kernel_rfl) rfl (r_nilc rfl) rfl ?_
  refine a_rd (i := 2) hok rfl (by kernel_rfl) rfl (r_cload Tryz.isAgg125 rfl (j := 0) rfl rfl) rfl ?_
  refine a_rd (i := 3) hok rfl (by kernel_rfl) rfl (r_move rfl) rfl ?_
  refine a_rd (i := 4) hok rfl (by kernel_rfl) rfl (r_nilc rfl) rfl ?_
  refine a_rd (i := 5) hok rfl (by kernel_rfl) rfl (r_cload Tryz.isAgg125 rfl (j := 0) rfl rfl) rfl ?_
  refine a_rd (i := 6) hok rfl (by kernel_rfl) rfl (r_shl rfl rfl (by decide)) rfl ?_
  refine a_rd (i := 7) hok rfl (by kernel_rfl) rfl (r_xor rfl rfl) rfl ?_
  refine a_rd (i := 8) hok rfl (by kernel_rfl) rfl (r_nilc rfl) rfl ?_
  refine a_next hok 9 [] (by kernel_rfl) ?_ trivial
  refine a_st (i := 9) hok rfl rfl (s_cstore (out := [iv .u64 (ixor .u64 (ixor .u64 (ixor .u64 r__0 (ishl .u64 r__0 13)) (ishr .u64 (ixor .u64 r__0 (ishl .u64 r__0 13)) 7)) (ishl .u64 (ixor .u64 (ixor .u64 r__0 (ishl .u64 r__0 13)) (ishr .u64 (ixor .u64 r__0 (ishl .u64 r__0 13)) 7)) 17))]) Tryz.sizeOf125 rfl (j := 0) rfl (part_at rfl iv_at) rfl rfl rfl) (by intro _ h; cases h) (fun _ => ⟨trivial, ⟨trivial, ⟨trivial, ⟨trivial, ⟨trivial, ⟨trivial, ⟨trivial, ⟨trivial, ⟨trivial, trivial⟩⟩⟩⟩⟩⟩⟩⟩⟩) (fun _ => ?_)
  refine a_fin hok (by kernel_rfl) ?_
  refine n_then (ref_seq (ref_region ?_))
  refine mv1 rfl rfl ?_
  refine s_rd (r_nilc rfl) rfl ?_
  refine s_rd (r_cload Tryz.isAgg125 rfl (j := 0) rfl rfl) rfl ?_
  refine as1 rfl rfl ?_
  refine b_let (f := iv .u64) (t := 2) rfl fun t1 => ?_
  refine l_nil (n_then (ref_ret ?_))
  exact fin1 (.inl rfl) () [0] rfl ⟨rfl, trivial⟩ rfl (rv_tmp rfl)

/-! slices.Compact[[]deliberation/api.Literal,deliberation/api.Literal] -/
noncomputable def slices_Compact_api_Literal_api_Literal_l2 (s_0 : (List T_api_Literal)) (s52 : Int) (s85 : Int × Int × (List T_api_Literal)) : Option (Sum ((List T_api_Literal) × Int) (Int × Int × (List T_api_Literal))) :=
  bif decide (s85.2.1 < ((Int.toNat (s_0.length : Int) - Int.toNat s52 : Nat) : Int)) then
    Option.bind (vixM s52 (s_0.length : Int) s85.2.1) fun n89 =>
    Option.bind (idxM s85.2.2 n89) fun t88 =>
    Option.bind (vixM s52 (s_0.length : Int) (isub .i64 s85.2.1 1)) fun n91 =>
    Option.bind (idxM s85.2.2 n91) fun t90 =>
    bif !decide (t88 = t90) then
      Option.bind (vixM s52 (s_0.length : Int) s85.2.1) fun n94 =>
      Option.bind (idxM s85.2.2 n94) fun t93 =>
      Option.bind (idxM s85.2.2 s85.1) fun t95 =>
      letM (iadd .i64 s85.1 1) fun k96 =>
      letM (iadd .i64 s85.2.1 1) fun k297 =>
      some (Sum.inr (k96, k297, s85.2.2.set (Int.toNat s85.1) t93))
    else
      letM (iadd .i64 s85.2.1 1) fun k298 =>
      some (Sum.inr (s85.1, k298, s85.2.2))
  else
    some (Sum.inl (s85.2.2, s85.1))

noncomputable def slices_Compact_api_Literal_api_Literal_l1 (s_0 : (List T_api_Literal)) (s52 : Int) : Option (Sum ((Sum (List T_api_Literal) (Unit))) (Int)) :=
  bif decide (s52 < (s_0.length : Int)) then
    Option.bind (idxM s_0 s52) fun t55 =>
    Option.bind (idxM s_0 (isub .i64 s52 1)) fun t56 =>
    bif decide (t55 = t56) then
      Option.bind (slM s_0 s52 (s_0.length : Int)) fun s258 =>
      Option.bind (loopC (slices_Compact_api_Literal_api_Literal_l2 s_0 s52) (s52, 1, s_0)) fun q99 : (List T_api_Literal) × Int =>
      Option.bind (slM q99.1 q99.2 (q99.1.length : Int)) fun t101 =>
      Option.bind (slM (q99.1.take (Int.toNat q99.2) ++ List.replicate (Int.toNat (q99.1.length : Int) - Int.toNat q99.2) (T_api_Literal.mk false ByteArray.empty) ++ q99.1.drop (Int.toNat (q99.1.length : Int))) 0 q99.2) fun t102 =>
      some (Sum.inl (Sum.inl t102))
    else
      letM (iadd .i64 s52 1) fun k103 =>
      some (Sum.inr k103)
  else
    some (Sum.inl (Sum.inr ()))

noncomputable def slices_Compact_api_Literal_api_Literal_m (s_0 : (List T_api_Literal)) : Option (List T_api_Literal) :=
  bif decide ((s_0.length : Int) < 2) then
    some s_0
  else
    Option.bind (loopC (slices_Compact_api_Literal_api_Literal_l1 s_0) 1) (sumK (fun a : List T_api_Literal => some a) fun q104 : Unit =>
      some s_0)

theorem slices_Compact_api_Literal_api_Literal_ok {s_0 : (List T_api_Literal)} {h_0 : Value × List Nat} {r : List T_api_Literal} (hm : slices_Compact_api_Literal_api_Literal_m s_0 = some r) :
    FnOk prog 65 [pv h_0.1] [oa rT_api_Literal h_0.1 h_0.2 s_0] (fun (x : Unit) => [slv rT_api_Literal r]) (fun (x : Unit) => []) := by
  refine fn_ok (fn := Tryz.f65) (N := 61) (res := fun r x => [slv rT_api_Literal r]) (Ω1 := fun r x => []) Tryz.func65 rfl rfl hm rfl (fun E hM => ?_)
  unfold slices_Compact_api_Literal_api_Literal_m
  refine ref_seq (ref_region ?_)
  refine as1 rfl rfl ?_
  refine l_nil (n_then (ref_seq (ref_seq (ref_region ?_))))
  refine mv1 rfl rfl ?_
  refine s_rd (r_olen Tryz.underlying27 rfl (j := 0) rfl) rfl ?_
  refine s_rd (r_lss rfl rfl) rfl ?_
  refine l_nil (n_then ?_)
  refine ref_cond rfl (fun hb1 => ?_) (fun hb1 => ?_)
  · refine ref_seq (ref_region ?_)
    refine mv1 rfl rfl ?_
    refine as1 rfl rfl ?_
    refine l_nil (n_then (ref_ret (r_then ?_)))
    refine b_of (frzL [0, 2, 6, 9] (j := 0) rfl ⟨rfl, rfl, rfl, rfl, trivial⟩) ?_
    exact fin1 (.inl rfl) () [] rfl trivial rfl (rv_tmp rfl)
  refine ref_skip (n_then (ref_seq (ref_seq (ref_region ?_))))
  refine as1 rfl rfl ?_
  refine l_nil (n_then ?_)
  refine ref_loopX (f := (slices_Compact_api_Literal_api_Literal_l1 s_0)) (Γl := (fun (s52 : Int) (x53 : Unit) => [(0, pv h_0.1), (3, iv .i64 s52)])) (Ωl := (fun (s52 : Int) (x53 : Unit) => [oa rT_api_Literal h_0.1 h_0.2 s_0])) (Γb := (fun (q104 : Unit) (y105 : Unit) => [(0, pv h_0.1)])) (Ωb := (fun (q104 : Unit) (y105 : Unit) => [oa rT_api_Literal h_0.1 h_0.2 s_0])) (kr := (fun a : List T_api_Literal => some a)) 1 () (weak [0] ⟨rfl, rfl, trivial⟩ ⟨rfl, trivial⟩) (fun s52 x53 => ?_) (fun q104 y105 => ?_)
  · unfold slices_Compact_api_Literal_api_Literal_l1
    refine ref_seq (ref_seq (ref_region ?_))
    refine mv1 rfl rfl ?_
    refine mv1 rfl rfl ?_
    refine s_rd (r_olen Tryz.underlying27 rfl (j := 0) rfl) rfl ?_
    refine s_rd (r_lss rfl rfl) rfl ?_
    refine l_nil (n_then ?_)
    refine ref_cond rfl (fun hb54 => ?_) (fun hb54 => ?_)
    · refine ref_skip (n_then (ref_seq (ref_block (ref_seq ?_))))
      refine ref_draw [0, 1, 2, 3, 4, 5, 6, 7, 8, 9] rfl (by kernel_rfl) (fun hok => ?_)
      refine a_rd (i := 0) hok rfl (by kernel_rfl) rfl (r_move rfl) rfl ?_
      refine a_rd (i := 1) hok rfl (by kernel_rfl) rfl (r_move rfl) rfl ?_
      refine pull fun t55 h_t55 => ?_
      refine a_rd (i := 2) hok rfl (by kernel_rfl) rfl (r_oindex h_t55 Tryz.underlying27 el_29 rfl (j := 0) rfl rfl) rfl ?_
      refine a_rd (i := 3) hok rfl (by kernel_rfl) rfl (r_oload h_t55 el_29 rfl (j := 0) rfl) rfl ?_
      refine a_rd (i := 4) hok rfl (by kernel_rfl) rfl (r_move rfl) rfl ?_
      refine a_rd (i := 5) hok rfl (by kernel_rfl) rfl (r_move rfl) rfl ?_
      refine a_rd (i := 6) hok rfl (by kernel_rfl) rfl (r_sub rfl rfl) rfl ?_
      refine pull fun t56 h_t56 => ?_
      refine a_rd (i := 7) hok rfl (by kernel_rfl) rfl (r_oindex h_t56 Tryz.underlying27 el_29 rfl (j := 0) rfl rfl) rfl ?_
      refine a_rd (i := 8) hok rfl (by kernel_rfl) rfl (r_oload h_t56 el_29 rfl (j := 0) rfl) rfl ?_
      refine a_rd (i := 9) hok rfl (by kernel_rfl) rfl (r_steql (u := t55) (v := t56) eq_29 rfl rfl rfl rfl) rfl ?_
      refine a_fin hok (by kernel_rfl) ?_
      refine n_then ?_
      refine ref_cond rfl (fun hb57 => ?_) (fun hb57 => ?_)
      · refine ref_seq (ref_region ?_)
        refine mv1 rfl rfl ?_
        refine mv1 rfl rfl ?_
        refine pull fun s258 h_s258 => ?_
        refine s_rd (r_osub h_s258 Tryz.underlying27 el_29 rfl (j := 0) rfl (.of rfl) .dft) rfl ?_
        refine as1 rfl rfl ?_
        refine l_nil (n_then (ref_seq (ref_seq (ref_region ?_))))
        refine as1 rfl rfl ?_
        refine l_nil (n_then ?_)
        refine ref_loopB (f := (slices_Compact_api_Literal_api_Literal_l2 s_0 s52)) (Γl := (fun (s85 : Int × Int × (List T_api_Literal)) (x86 : Unit) => [(0, pv h_0.1), (3, iv .i64 s85.1), (4, pv (subV h_0.1 (rT_api_Literal).size (Int.toNat s52) (Int.toNat (s_0.length : Int)))), (5, iv .i64 s85.2.1)])) (Ωl := (fun (s85 : Int × Int × (List T_api_Literal)) (x86 : Unit) => [oa rT_api_Literal h_0.1 h_0.2 s85.2.2])) (Γb := (fun (q99 : (List T_api_Literal) × Int) (y100 : Unit) => [(0, pv h_0.1), (3, iv .i64 q99.2)])) (Ωb := (fun (q99 : (List T_api_Literal) × Int) (y100 : Unit) => [oa rT_api_Literal h_0.1 h_0.2 q99.1])) (s52, 1, s_0) () (weak [0] ⟨rfl, rfl, rfl, rfl, trivial⟩ ⟨rfl, trivial⟩) (fun s85 x86 => ?_) (fun q99 y100 => ?_)
        · unfold slices_Compact_api_Literal_api_Literal_l2
          refine ref_seq (ref_seq (ref_region ?_))
          refine mv1 rfl rfl ?_
          refine mv1 rfl rfl ?_
          refine s_rd (r_vlen Tryz.underlying27 rfl (j := 0) rfl) rfl ?_
          refine s_rd (r_lss rfl rfl) rfl ?_
          refine l_nil (n_then ?_)
          refine ref_cond rfl (fun hb87 => ?_) (fun hb87 => ?_)
          · refine ref_skip (n_then (ref_seq (ref_block (ref_seq ?_))))
            refine ref_draw [0, 1, 2, 3, 4, 5, 6, 7, 8, 9] rfl (by kernel_rfl) (fun hok => ?_)
            refine a_rd (i := 0) hok rfl (by kernel_rfl) rfl (r_move rfl) rfl ?_
            refine a_rd (i := 1) hok rfl (by kernel_rfl) rfl (r_move rfl) rfl ?_
            refine pull fun n89 h_n89 => ?_
            refine pull fun t88 h_t88 => ?_
            refine a_rd (i := 2) hok rfl (by kernel_rfl) rfl (r_vindex h_n89 h_t88 Tryz.underlying27 el_29 rfl (j := 0) rfl rfl) rfl ?_
            refine a_rd (i := 3) hok rfl (by kernel_rfl) rfl (r_oload h_t88 el_29 rfl (j := 0) rfl) rfl ?_
            refine a_rd (i := 4) hok rfl (by kernel_rfl) rfl (r_move rfl) rfl ?_
            refine a_rd (i := 5) hok rfl (by kernel_rfl) rfl (r_move rfl) rfl ?_
            refine a_rd (i := 6) hok rfl (by kernel_rfl) rfl (r_sub rfl rfl) rfl ?_
            refine pull fun n91 h_n91 => ?_
            refine pull fun t90 h_t90 => ?_
            refine a_rd (i := 7) hok rfl (by kernel_rfl) rfl (r_vindex h_n91 h_t90 Tryz.underlying27 el_29 rfl (j := 0) rfl rfl) rfl ?_
            refine a_rd (i := 8) hok rfl (by kernel_rfl) rfl (r_oload h_t90 el_29 rfl (j := 0) rfl) rfl ?_
            refine a_rd (i := 9) hok rfl (by kernel_rfl) rfl (r_stneq (u := t88) (v := t90) eq_29 rfl rfl rfl rfl) rfl ?_
            refine a_fin hok (by kernel_rfl) ?_
            refine n_then ?_
            refine ref_cond rfl (fun hb92 => ?_) (fun hb92 => ?_)
            · refine ref_seq (ref_region ?_)
              refine mv1 rfl rfl ?_
              refine mv1 rfl rfl ?_
              refine mv1 rfl rfl ?_
              refine mv1 rfl rfl ?_
              refine pull fun n94 h_n94 => ?_
              refine pull fun t93 h_t93 => ?_
              refine s_rd (r_vindex h_n94 h_t93 Tryz.underlying27 el_29 rfl (j := 0) rfl rfl) rfl ?_
              refine s_rd (r_oload h_t93 el_29 rfl (j := 0) rfl) rfl ?_
              refine pull fun t95 h_t95 => ?_
              refine s_rd (r_oindex h_t95 Tryz.underlying27 el_29 rfl (j := 0) rfl rfl) rfl ?_
              refine s_st0 (s_ostore (u := t93) h_t95 el_29 rfl (j := 0) rfl (part_agO (ψs := [bv t93.Neg, sv t93.Name]) rfl ⟨.inl bv_at, .inl sv_at, trivial⟩)) (fun _ => ?_)
              refine l_nil (n_then (ref_region ?_))
              refine mv1 rfl rfl ?_
              refine s_rd (r_add rfl rfl) rfl ?_
              refine as1 rfl rfl ?_
              refine b_let (f := iv .i64) (t := 3) rfl fun k96 => ?_
              refine l_nil (n_block (n_then (ref_region ?_)))
              refine mv1 rfl rfl ?_
              refine s_rd (r_add rfl rfl) rfl ?_
              refine as1 rfl rfl ?_
              refine b_let (f := iv .i64) (t := 5) rfl fun k297 => ?_
              refine l_nil ?_
              exact goB () (weak [0] ⟨rfl, rfl, rfl, rfl, trivial⟩ ⟨rfl, trivial⟩)
            refine ref_skip (n_block (n_then (ref_region ?_)))
            refine mv1 rfl rfl ?_
            refine s_rd (r_add rfl rfl) rfl ?_
            refine as1 rfl rfl ?_
            refine b_let (f := iv .i64) (t := 5) rfl fun k298 => ?_
            refine l_nil ?_
            exact goB () (weak [0] ⟨rfl, rfl, rfl, rfl, trivial⟩ ⟨rfl, trivial⟩)
          refine ref_exit (x_then ?_)
          exact brkB () (weak [0] ⟨rfl, rfl, trivial⟩ ⟨rfl, trivial⟩)
        refine n_then (ref_seq (ref_region ?_))
        refine mv1 rfl rfl ?_
        refine mv1 rfl rfl ?_
        refine pull fun t101 h_t101 => ?_
        refine s_rd (r_osub h_t101 Tryz.underlying27 el_29 rfl (j := 0) rfl (.of rfl) .dft) rfl ?_
        refine s_st0 (s_clear h_t101 Tryz.underlying27 el_29 ze_29 rfl (j := 0) rfl) (fun _ => ?_)
        refine l_nil (n_then (ref_seq (ref_region ?_)))
        refine mv1 rfl rfl ?_
        refine mv1 rfl rfl ?_
        refine b_of (frzL [0, 54, 57] (j := 0) rfl ⟨rfl, rfl, rfl, trivial⟩) ?_
        refine pull fun t102 h_t102 => ?_
        refine s_rd (r_slice h_t102 Tryz.underlying27 el_29 rfl .dft (.of rfl)) rfl ?_
        refine as1 rfl rfl ?_
        refine l_nil (n_then (ref_ret (r_block (r_then ?_))))
        refine retX ?_
        refine r_block (r_then ?_)
        exact fin1 (.inl rfl) () [] rfl trivial rfl (rv_tmp rfl)
      refine ref_skip (n_block (n_then (ref_region ?_)))
      refine mv1 rfl rfl ?_
      refine s_rd (r_add rfl rfl) rfl ?_
      refine as1 rfl rfl ?_
      refine b_let (f := iv .i64) (t := 3) rfl fun k103 => ?_
      refine l_nil ?_
      exact goX () (weak [0] ⟨rfl, rfl, trivial⟩ ⟨rfl, trivial⟩)
    refine ref_exit (x_then ?_)
    exact brkX () (weak [0] ⟨rfl, trivial⟩ ⟨rfl, trivial⟩)
  refine n_then (ref_seq (ref_region ?_))
  refine mv1 rfl rfl ?_
  refine as1 rfl rfl ?_
  refine l_nil (n_then (ref_ret ?_))
  refine b_of (frzL [0, 60, 2] (j := 0) rfl ⟨rfl, rfl, rfl, trivial⟩) ?_
  exact fin1 (.inl rfl) () [] rfl trivial rfl (rv_tmp rfl)

/-! slices.SortFunc[[]deliberation/api.Literal,deliberation/api.Literal] -/
def enc_29 (x : T_api_Literal) : List Value := [.bool x.Neg, .string x.Name]
theorem enc_29_t : EncT rT_api_Literal enc_29 2 where
  size := rfl
  pos := by decide
  agg := rfl
  len := fun x => rfl
  one := fun x v hv => by simp only [enc_29, List.mem_cons, List.not_mem_nil, or_false] at hv; rcases hv with rfl | rfl <;> rfl
  to := fun x F w cs h => by
    match cs, h with
    | [v0, v1], ⟨h0, h1, _⟩ => cases (show v0 = .bool x.Neg from h0); cases (show v1 = .string x.Name from h1); rfl
  of := fun x F w => ⟨rfl, rfl, trivial⟩
instance : Inhabited T_api_Literal := ⟨(T_api_Literal.mk false ByteArray.empty)⟩

theorem slices_SortFunc_api_Literal_api_Literal_literal_Compare_ok {s_0 r : List T_api_Literal} (hm : sortFM literal_Compare_m s_0 = some r) {h_0 : Value × List Nat} :
    FnOk prog 63 [pv h_0.1, pv (.func (.func 64) #[] #[])] [oa rT_api_Literal h_0.1 h_0.2 s_0] (fun _ : Unit => []) (fun _ : Unit => [oa rT_api_Literal h_0.1 h_0.2 r]) :=
  sort_fnF enc_29_t (X := Unit) (fun x y r h => literal_Compare_ok h)
    (fun hO blk off cap d w hc hH hb hs hT => AnyQ.slices_SortFunc_total sortFA 2 Tryz.isAgg29 Tryz.sizeOf29 enc_29 (fun _ => rfl) enc_29_t.one _ hO 64 #[] blk off cap d w (enters_of Tryz.func64 (by kernel_rfl) rfl) hc hH hb hs hT)
    (fun p cap fv w => AnyF.slices_SortFunc_none sortFA p cap fv w) hm

/-! deliberation/literal.Normal -/
noncomputable def literal_Normal_m (l_0 : (List T_api_Literal)) : Option (List T_api_Literal) :=
  Option.bind (slices_Clone_api_Literal_api_Literal_m l_0) fun out1 =>
  Option.bind ((sortFM literal_Compare_m) out1) fun t3 =>
  Option.bind (slices_Compact_api_Literal_api_Literal_m t3) fun t4 =>
  some t4

theorem literal_Normal_ok {l_0 : (List T_api_Literal)} {r : List T_api_Literal} (hm : literal_Normal_m l_0 = some r) :
    FnOk prog 40 [slv rT_api_Literal l_0] [] (fun (x : Unit) => [slv rT_api_Literal r]) (fun (x : Unit) => []) := by
  refine fn_ok (fn := Tryz.f40) (N := 10) (res := fun r x => [slv rT_api_Literal r]) (Ω1 := fun r x => []) Tryz.func40 rfl rfl hm rfl (fun E hM => ?_)
  unfold literal_Normal_m
  refine ref_seq (ref_region ?_)
  refine as1 rfl rfl ?_
  refine l_nil (n_then (ref_seq (ref_region ?_)))
  refine mv1 rfl rfl ?_
  refine pull fun out1 h_out1 => ?_
  refine s_st (s_call (ψ := fun (x2 : (Value × List Nat)) => pv x2.1) (args := [.tmp 4]) Tryz.call62 rfl (slices_Clone_api_Literal_api_Literal_ok h_out1) ⟨arg rfl, trivial⟩ (fun _ _ _ _ h => h)) rfl (fun x2 => ?_)
  refine as1 rfl rfl ?_
  refine l_nil (n_then (ref_seq (ref_region ?_)))
  refine mv1 rfl rfl ?_
  refine pull fun t3 h_t3 => ?_
  refine s_st (s_callC [0] [true] (fun (_ : Unit) => [oa rT_api_Literal x2.1 x2.2 t3]) (fun (_ : Unit) => []) (fun (_ : Unit) => tup []) (args := [.tmp 6, .func 64]) (caps := []) Tryz.call63 rfl (slices_SortFunc_api_Literal_api_Literal_literal_Compare_ok h_t3) ⟨rfl, rfl, trivial⟩ (fun _ => rfl) (fun _ => trivial) (fun _ => rfl) ⟨arg rfl, arg rfl, trivial⟩ (fun _ _ _ _ h => h)) rfl (fun _ => ?_)
  refine l_nil (n_then (ref_seq (ref_region ?_)))
  refine mv1 rfl rfl ?_
  refine pull fun t4 h_t4 => ?_
  refine s_st (s_callC [0] [false] (fun (_ : Unit) => [dead]) (fun (_ : Unit) => []) (fun (_ : Unit) => slv rT_api_Literal t4) (args := [.tmp 8]) (caps := []) Tryz.call65 rfl (slices_Compact_api_Literal_api_Literal_ok h_t4) ⟨rfl, rfl, trivial⟩ (fun _ => rfl) (fun _ => ⟨rfl, trivial⟩) (fun _ => rfl) ⟨arg rfl, trivial⟩ (fun _ _ _ _ h => h)) rfl (fun _ => ?_)
  refine as1 rfl rfl ?_
  refine l_nil (n_then (ref_ret ?_))
  exact fin1 (.inl rfl) () [] rfl trivial rfl (rv_tmp rfl)

/-! deliberation/strict.Closure$1 -/
noncomputable def strict_Closure_1_m (x_0 : T_api_Literal) (e_1 : (List (T_api_Literal × T_anon71))) : Option (Bool) :=
  letM (!(mapHas e_1 x_0)) fun t3 =>
  some t3

theorem strict_Closure_1_ok {x_0 : T_api_Literal} {e_1 : (List (T_api_Literal × T_anon71))} {b_1 : Nat} {be_1 : Nat} {r : Bool} (hm : strict_Closure_1_m x_0 e_1 = some r) :
    FnOk prog 38 [ag [bv x_0.Neg, sv x_0.Name], pv (ptr b_1 0)] [oc b_1 [pv (.map (some be_1))], om rT_api_Literal rT_anon71 be_1 e_1] (fun (x : Unit) => [bv r]) (fun (x : Unit) => [oc b_1 [pv (.map (some be_1))], om rT_api_Literal rT_anon71 be_1 e_1]) := by
  refine fn_ok (fn := Tryz.f38) (N := 14) (res := fun r x => [bv r]) (Ω1 := fun r x => [oc b_1 [pv (.map (some be_1))], om rT_api_Literal rT_anon71 be_1 e_1]) Tryz.func38 rfl rfl hm rfl (fun E hM => ?_)
  unfold strict_Closure_1_m
  refine ref_seq (ref_region ?_)
  refine s_st (s_box (part_agO (ψs := [bv x_0.Neg, sv x_0.Name]) rfl ⟨.inl bv_at, .inl sv_at, trivial⟩)) rfl (fun b1 => ?_)
  refine as1 rfl rfl ?_
  refine l_nil (n_then (ref_seq (ref_region ?_)))
  refine s_rd (r_cload Tryz.isAgg70 rfl (j := 0) rfl rfl) rfl ?_
  refine s_rd (r_cloadS Tryz.isAgg29 Tryz.sizeOf29 rfl (j := 2) rfl rfl rfl) rfl ?_
  refine s_rd (r_mget (x := x_0) (z := (T_anon71.mk )) Tryz.underlying70 key_29 mz_71 rfl (j := 1) rfl rfl) rfl ?_
  refine mv1 rfl rfl ?_
  refine s_rd (r_extract rfl rfl) rfl ?_
  refine s_rd (r_extract rfl rfl) rfl ?_
  refine s_st (s_alloc zt_71) rfl (fun b2 => ?_)
  refine s_st0 (s_cstore (out := []) Tryz.sizeOf71 rfl (j := 3) rfl (part_agO (ψs := []) rfl trivial) rfl rfl rfl) (fun _ => ?_)
  refine as1 rfl rfl ?_
  refine l_nil (n_then (ref_seq (ref_region ?_)))
  refine mv1 rfl rfl ?_
  refine s_rd (r_not rfl) rfl ?_
  refine as1 rfl rfl ?_
  refine b_let (f := bv) (t := 3) rfl fun t3 => ?_
  refine l_nil (n_then (ref_ret ?_))
  exact fin1 (.inl rfl) () [0, 1] rfl ⟨rfl, rfl, trivial⟩ rfl (rv_tmp rfl)

/-! slices.IndexFunc[[]deliberation/api.Literal,deliberation/api.Literal] -/
noncomputable def slices_IndexFunc_api_Literal_api_Literal_l1 (s_0 : (List T_api_Literal)) (e_1 : (List (T_api_Literal × T_anon71))) (s7 : Int) : Option (Sum ((Sum (Int) (Unit))) (Int)) :=
  bif decide (s7 < (s_0.length : Int)) then
    Option.bind (idxM s_0 s7) fun t10 =>
    Option.bind (strict_Closure_1_m t10 e_1) fun t11 =>
    bif t11 then
      some (Sum.inl (Sum.inl s7))
    else
      some (Sum.inr (iadd .i64 s7 1))
  else
    some (Sum.inl (Sum.inr ()))

noncomputable def slices_IndexFunc_api_Literal_api_Literal_m (s_0 : (List T_api_Literal)) (e_1 : (List (T_api_Literal × T_anon71))) : Option (Int) :=
  Option.bind (loopC (slices_IndexFunc_api_Literal_api_Literal_l1 s_0 e_1) 0) (sumK (fun a : Int => some a) fun q13 : Unit =>
    some (-1))

theorem slices_IndexFunc_api_Literal_api_Literal_ok {s_0 : (List T_api_Literal)} {e_1 : (List (T_api_Literal × T_anon71))} {be_0 : Nat} {be_1 : Nat} {r : Int} (hm : slices_IndexFunc_api_Literal_api_Literal_m s_0 e_1 = some r) :
    FnOk prog 61 [slv rT_api_Literal s_0, pv (.func (.func 38) #[] #[(ptr be_0 0)])] [oc be_0 [pv (.map (some be_1))], om rT_api_Literal rT_anon71 be_1 e_1] (fun (x : Unit) => [iv .i64 r]) (fun (x : Unit) => [oc be_0 [pv (.map (some be_1))], om rT_api_Literal rT_anon71 be_1 e_1]) := by
  refine fn_ok (fn := Tryz.f61) (N := 19) (res := fun r x => [iv .i64 r]) (Ω1 := fun r x => [oc be_0 [pv (.map (some be_1))], om rT_api_Literal rT_anon71 be_1 e_1]) Tryz.func61 rfl rfl hm rfl (fun E hM => ?_)
  unfold slices_IndexFunc_api_Literal_api_Literal_m
  refine ref_seq (ref_region ?_)
  refine as1 rfl rfl ?_
  refine l_nil (n_then (ref_seq (ref_seq (ref_region ?_))))
  refine mv1 rfl rfl ?_
  refine s_rd (r_len Tryz.underlying27 rfl) rfl ?_
  refine mv1 rfl rfl ?_
  refine l_nil (n_then ?_)
  refine ref_loopX (f := (slices_IndexFunc_api_Literal_api_Literal_l1 s_0 e_1)) (Γl := (fun (s7 : Int) (x8 : Unit) => [(0, slv rT_api_Literal s_0), (1, pv (.func (.func 38) #[] #[(ptr be_0 0)])), (7, iv .i64 (s_0.length : Int)), (8, iv .i64 s7)])) (Ωl := (fun (s7 : Int) (x8 : Unit) => [oc be_0 [pv (.map (some be_1))], om rT_api_Literal rT_anon71 be_1 e_1])) (Γb := (fun (q13 : Unit) (y14 : Unit) => [(1, pv (.func (.func 38) #[] #[(ptr be_0 0)]))])) (Ωb := (fun (q13 : Unit) (y14 : Unit) => [oc be_0 [pv (.map (some be_1))], om rT_api_Literal rT_anon71 be_1 e_1])) (kr := (fun a : Int => some a)) 0 () (weak [0, 1] ⟨rfl, rfl, rfl, rfl, trivial⟩ ⟨rfl, rfl, trivial⟩) (fun s7 x8 => ?_) (fun q13 y14 => ?_)
  · unfold slices_IndexFunc_api_Literal_api_Literal_l1
    refine ref_seq (ref_region ?_)
    refine s_rd (r_lss rfl rfl) rfl ?_
    refine l_nil (n_then (ref_seq ?_))
    refine ref_cond rfl (fun hb9 => ?_) (fun hb9 => ?_)
    · refine ref_skip (n_then (ref_seq (ref_block (ref_seq (ref_region ?_)))))
      refine mv1 rfl rfl ?_
      refine as1 rfl rfl ?_
      refine l_nil (n_then (ref_seq (ref_region ?_)))
      refine mv1 rfl rfl ?_
      refine mv1 rfl rfl ?_
      refine mv1 rfl rfl ?_
      refine pull fun t10 h_t10 => ?_
      refine s_rd (r_index h_t10 Tryz.underlying27 el_29 rfl rfl) rfl ?_
      refine s_rd (r_load el_29 rfl) rfl ?_
      refine pull fun t11 h_t11 => ?_
      refine s_st (s_callC [0, 1] [true, true] (fun (_ : Unit) => [oc be_0 [pv (.map (some be_1))], om rT_api_Literal rT_anon71 be_1 e_1]) (fun (_ : Unit) => []) (fun (_ : Unit) => bv t11) (args := [.tmp 15]) (caps := [(ptr be_0 0)]) Tryz.call38 rfl (strict_Closure_1_ok h_t11) ⟨rfl, rfl, ⟨rfl, rfl, trivial⟩⟩ (fun _ => rfl) (fun _ => trivial) (fun _ => rfl) ⟨arg rfl, arg rfl, trivial⟩ (fun _ _ _ _ h => h)) rfl (fun _ => ?_)
      refine l_nil (n_then ?_)
      refine ref_cond rfl (fun hb12 => ?_) (fun hb12 => ?_)
      · refine ref_seq (ref_region ?_)
        refine mv1 rfl rfl ?_
        refine as1 rfl rfl ?_
        refine l_nil (n_then (ref_ret (r_block (r_then ?_))))
        refine retX ?_
        refine r_block (r_then ?_)
        exact fin1 (.inl rfl) () [0, 1] rfl ⟨rfl, rfl, trivial⟩ rfl (rv_tmp rfl)
      refine ref_skip (n_block (n_then (ref_region ?_)))
      refine s_rd (r_add rfl rfl) rfl ?_
      refine mv1 rfl rfl ?_
      refine l_nil ?_
      exact goX () (weak [0, 1] ⟨rfl, rfl, rfl, rfl, trivial⟩ ⟨rfl, rfl, trivial⟩)
    refine ref_exit (x_then ?_)
    exact brkX () (weak [0, 1] ⟨rfl, trivial⟩ ⟨rfl, rfl, trivial⟩)
  refine n_then (ref_seq (ref_region ?_))
  refine as1 rfl rfl ?_
  refine l_nil (n_then (ref_ret ?_))
  exact fin1 (.inl rfl) () [0, 1] rfl ⟨rfl, rfl, trivial⟩ rfl (rv_tmp rfl)

/-! slices.ContainsFunc[[]deliberation/api.Literal,deliberation/api.Literal] -/
noncomputable def slices_ContainsFunc_api_Literal_api_Literal_m (s_0 : (List T_api_Literal)) (e_1 : (List (T_api_Literal × T_anon71))) : Option (Bool) :=
  Option.bind (slices_IndexFunc_api_Literal_api_Literal_m s_0 e_1) fun t1 =>
  letM (decide (t1 ≥ 0)) fun t2 =>
  some t2

theorem slices_ContainsFunc_api_Literal_api_Literal_ok {s_0 : (List T_api_Literal)} {e_1 : (List (T_api_Literal × T_anon71))} {be_0 : Nat} {be_1 : Nat} {r : Bool} (hm : slices_ContainsFunc_api_Literal_api_Literal_m s_0 e_1 = some r) :
    FnOk prog 39 [slv rT_api_Literal s_0, pv (.func (.func 38) #[] #[(ptr be_0 0)])] [oc be_0 [pv (.map (some be_1))], om rT_api_Literal rT_anon71 be_1 e_1] (fun (x : Unit) => [bv r]) (fun (x : Unit) => [oc be_0 [pv (.map (some be_1))], om rT_api_Literal rT_anon71 be_1 e_1]) := by
  refine fn_ok (fn := Tryz.f39) (N := 9) (res := fun r x => [bv r]) (Ω1 := fun r x => [oc be_0 [pv (.map (some be_1))], om rT_api_Literal rT_anon71 be_1 e_1]) Tryz.func39 rfl rfl hm rfl (fun E hM => ?_)
  unfold slices_ContainsFunc_api_Literal_api_Literal_m
  refine ref_seq (ref_region ?_)
  refine as1 rfl rfl ?_
  refine l_nil (n_then (ref_seq (ref_region ?_)))
  refine mv1 rfl rfl ?_
  refine mv1 rfl rfl ?_
  refine pull fun t1 h_t1 => ?_
  refine s_st (s_callC [0, 1] [true, true] (fun (_ : Unit) => [oc be_0 [pv (.map (some be_1))], om rT_api_Literal rT_anon71 be_1 e_1]) (fun (_ : Unit) => []) (fun (_ : Unit) => iv .i64 t1) (args := [.tmp 5, .tmp 6]) (caps := []) Tryz.call61 rfl (slices_IndexFunc_api_Literal_api_Literal_ok h_t1) ⟨rfl, rfl, ⟨rfl, rfl, trivial⟩⟩ (fun _ => rfl) (fun _ => trivial) (fun _ => rfl) ⟨arg rfl, arg rfl, trivial⟩ (fun _ _ _ _ h => h)) rfl (fun _ => ?_)
  refine s_rd (r_geq rfl rfl) rfl ?_
  refine as1 rfl rfl ?_
  refine b_let (f := bv) (t := 4) rfl fun t2 => ?_
  refine l_nil (n_then (ref_ret ?_))
  exact fin1 (.inl rfl) () [0, 1] rfl ⟨rfl, rfl, trivial⟩ rfl (rv_tmp rfl)

/-! deliberation/strict.Closure -/
noncomputable def strict_Closure_l1 (l_1 : (List T_api_Literal)) (s14 : Int × (List (T_api_Literal × T_anon71))) : Option (Sum ((List (T_api_Literal × T_anon71))) (Int × (List (T_api_Literal × T_anon71)))) :=
  bif decide (s14.1 < (l_1.length : Int)) then
    Option.bind (idxM l_1 s14.1) fun t17 =>
    some (Sum.inr (iadd .i64 s14.1 1, mapPut s14.2 t17 (T_anon71.mk )))
  else
    some (Sum.inl s14.2)

noncomputable def strict_Closure_l3 (b_0 : T_api_Base) (s121 : Bool × Int × (List (T_api_Literal × T_anon71))) : Option (Sum ((List (T_api_Literal × T_anon71)) × Bool) (Bool × Int × (List (T_api_Literal × T_anon71)))) :=
  bif decide (s121.2.1 < (b_0.Rules.length : Int)) then
    Option.bind (idxM b_0.Rules s121.2.1) fun t124 =>
    joinM (fun j128 : Bool =>
        bif j128 then
          some (Sum.inr (true, iadd .i64 s121.2.1 1, mapPut s121.2.2 t124.Head (T_anon71.mk )))
        else
          some (Sum.inr (s121.1, iadd .i64 s121.2.1 1, s121.2.2))) fun k130 =>
    bif t124.Strict then
      Option.bind (strict_Closure_1_m t124.Head s121.2.2) fun t126 =>
      bif t126 then
        Option.bind (slices_ContainsFunc_api_Literal_api_Literal_m t124.Body s121.2.2) fun t127 =>
        k130 (!t127)
      else
        k130 false
    else
      k130 false
  else
    some (Sum.inl (s121.2.2, s121.1))

noncomputable def strict_Closure_l2 (b_0 : T_api_Base) (s96 : Bool × (List (T_api_Literal × T_anon71))) : Option (Sum ((List (T_api_Literal × T_anon71))) (Bool × (List (T_api_Literal × T_anon71)))) :=
  bif s96.1 then
    Option.bind (loopC (strict_Closure_l3 b_0) (false, 0, s96.2)) fun q132 : (List (T_api_Literal × T_anon71)) × Bool =>
    some (Sum.inr (q132.2, q132.1))
  else
    some (Sum.inl s96.2)

noncomputable def strict_Closure_l4  (s144 : (List T_api_Literal)) (q144 : T_api_Literal × T_anon71) : Option ((List T_api_Literal)) :=
  Option.bind (appM 24 s144 [q144.1]) fun out147 =>
  some out147

noncomputable def strict_Closure_m (b_0 : T_api_Base) (l_1 : (List T_api_Literal)) : Option (List T_api_Literal) :=
  Option.bind (loopC (strict_Closure_l1 l_1) (0, [])) fun q19 : (List (T_api_Literal × T_anon71)) =>
  Option.bind (loopC (strict_Closure_l2 b_0) (true, q19)) fun q134 : (List (T_api_Literal × T_anon71)) =>
  Option.bind (capM 24 (q134.length : Int)) fun u136 =>
  rngM q134 (strict_Closure_l4) [] fun q149 : (List T_api_Literal) =>
  Option.bind (literal_Normal_m q149) fun t150 =>
  some t150

theorem strict_Closure_ok {b_0 : T_api_Base} {l_1 : (List T_api_Literal)} {r : List T_api_Literal} (hm : strict_Closure_m b_0 l_1 = some r) :
    FnOk prog 13 [ag [slv rT_api_Premise b_0.Premises, slv rT_api_Rule b_0.Rules, slv rT_api_Promotion b_0.Promotions], slv rT_api_Literal l_1] [] (fun (x : Unit) => [slv rT_api_Literal r]) (fun (x : Unit) => []) := by
  refine fn_ok (fn := Tryz.f13) (N := 69) (res := fun r x => [slv rT_api_Literal r]) (Ω1 := fun r x => []) Tryz.func13 rfl rfl hm rfl (fun E hM => ?_)
  unfold strict_Closure_m
  refine ref_seq (ref_region ?_)
  refine s_st (s_box (part_agO (ψs := [slv rT_api_Premise b_0.Premises, slv rT_api_Rule b_0.Rules, slv rT_api_Promotion b_0.Promotions]) rfl ⟨.inl slv_at, .inl slv_at, .inl slv_at, trivial⟩)) rfl (fun b1 => ?_)
  refine as1 rfl rfl ?_
  refine l_nil (n_then (ref_seq (ref_region ?_)))
  refine s_st (s_mkmap rT_api_Literal rT_anon71) rfl (fun b2 => ?_)
  refine s_st (s_alloc zt_70) rfl (fun b3 => ?_)
  refine s_st0 (s_cstore (out := [pv (.map (some b2))]) Tryz.sizeOf70 rfl (j := 2) rfl (part_at (φ := pv (.map (some b2))) rfl (pv_at rfl)) rfl rfl rfl) (fun _ => ?_)
  refine l_nil ?_
  refine b_of (nrm [oc b1 [slv rT_api_Premise b_0.Premises, slv rT_api_Rule b_0.Rules, slv rT_api_Promotion b_0.Promotions], om rT_api_Literal rT_anon71 b2 [], oc b3 [pv (.map (some b2))]] rfl) ?_
  refine n_then (ref_seq (ref_seq (ref_region ?_)))
  refine mv1 rfl rfl ?_
  refine s_rd (r_len Tryz.underlying27 rfl) rfl ?_
  refine mv1 rfl rfl ?_
  refine l_nil (n_then ?_)
  refine ref_loopB (f := (strict_Closure_l1 l_1)) (Γl := (fun (s14 : Int × (List (T_api_Literal × T_anon71))) (x15 : Unit) => [(2, pv (ptr b1 0)), (5, pv (ptr b3 0)), (15, slv rT_api_Literal l_1), (16, iv .i64 (l_1.length : Int)), (17, iv .i64 s14.1)])) (Ωl := (fun (s14 : Int × (List (T_api_Literal × T_anon71))) (x15 : Unit) => [oc b1 [slv rT_api_Premise b_0.Premises, slv rT_api_Rule b_0.Rules, slv rT_api_Promotion b_0.Promotions], oc b3 [pv (.map (some b2))], om rT_api_Literal rT_anon71 b2 s14.2])) (Γb := (fun (q19 : (List (T_api_Literal × T_anon71))) (y20 : Unit) => [(2, pv (ptr b1 0)), (5, pv (ptr b3 0))])) (Ωb := (fun (q19 : (List (T_api_Literal × T_anon71))) (y20 : Unit) => [oc b1 [slv rT_api_Premise b_0.Premises, slv rT_api_Rule b_0.Rules, slv rT_api_Promotion b_0.Promotions], oc b3 [pv (.map (some b2))], om rT_api_Literal rT_anon71 b2 q19])) (0, []) () (weak [0, 2, 1] ⟨rfl, rfl, rfl, rfl, rfl, trivial⟩ ⟨rfl, rfl, rfl, trivial⟩) (fun s14 x15 => ?_) (fun q19 y20 => ?_)
  · unfold strict_Closure_l1
    refine ref_seq (ref_region ?_)
    refine s_rd (r_lss rfl rfl) rfl ?_
    refine l_nil (n_then (ref_seq ?_))
    refine ref_cond rfl (fun hb16 => ?_) (fun hb16 => ?_)
    · refine ref_skip (n_then (ref_seq (ref_block (ref_seq (ref_region ?_)))))
      refine pull fun t17 h_t17 => ?_
      refine s_rd (r_index h_t17 Tryz.underlying27 el_29 rfl rfl) rfl ?_
      refine s_rd (r_load el_29 rfl) rfl ?_
      refine s_st (s_alloc zt_29) rfl (fun b18 => ?_)
      refine s_st0 (s_cstore (out := [bv t17.Neg, sv t17.Name]) Tryz.sizeOf29 rfl (j := 3) rfl (part_agO (ψs := [bv t17.Neg, sv t17.Name]) rfl ⟨.inl bv_at, .inl sv_at, trivial⟩) rfl rfl rfl) (fun _ => ?_)
      refine l_nil (n_then (ref_region ?_))
      refine s_rd (r_cload Tryz.isAgg70 rfl (j := 1) rfl rfl) rfl ?_
      refine s_rd (r_cloadS Tryz.isAgg29 Tryz.sizeOf29 rfl (j := 3) rfl rfl rfl) rfl ?_
      refine s_rd (r_build (ps := []) (rs := []) st_71 zs_71 trivial rfl rfl) rfl ?_
      refine s_st0 (s_mput (x := t17) (y := (T_anon71.mk )) Tryz.underlying70 key_29 rfl (j := 2) rfl rfl rfl) (fun _ => ?_)
      refine l_nil (n_block (n_then (ref_region ?_)))
      refine s_rd (r_add rfl rfl) rfl ?_
      refine mv1 rfl rfl ?_
      refine l_nil ?_
      exact goB () (weak [0, 1, 2] ⟨rfl, rfl, rfl, rfl, rfl, trivial⟩ ⟨rfl, rfl, rfl, trivial⟩)
    refine ref_exit (x_then ?_)
    exact brkB () (weak [0, 1, 2] ⟨rfl, rfl, trivial⟩ ⟨rfl, rfl, rfl, trivial⟩)
  refine n_then (ref_seq (ref_region ?_))
  refine s_rd (r_mkfn (xs := [.tmp 5]) (vs := [(ptr b3 0)]) ⟨rfl, trivial⟩) rfl ?_
  refine as1 rfl rfl ?_
  refine l_nil (n_then (ref_seq (ref_seq (ref_region ?_))))
  refine as1 rfl rfl ?_
  refine l_nil (n_then ?_)
  refine ref_loopB (f := (strict_Closure_l2 b_0)) (Γl := (fun (s96 : Bool × (List (T_api_Literal × T_anon71))) (x97 : Unit) => [(2, pv (ptr b1 0)), (5, pv (ptr b3 0)), (8, pv (.func (.func 38) #[] #[(ptr b3 0)])), (9, bv s96.1)])) (Ωl := (fun (s96 : Bool × (List (T_api_Literal × T_anon71))) (x97 : Unit) => [oc b1 [slv rT_api_Premise b_0.Premises, slv rT_api_Rule b_0.Rules, slv rT_api_Promotion b_0.Promotions], oc b3 [pv (.map (some b2))], om rT_api_Literal rT_anon71 b2 s96.2])) (Γb := (fun (q134 : (List (T_api_Literal × T_anon71))) (y135 : Unit) => [(5, pv (ptr b3 0))])) (Ωb := (fun (q134 : (List (T_api_Literal × T_anon71))) (y135 : Unit) => [oc b3 [pv (.map (some b2))], om rT_api_Literal rT_anon71 b2 q134])) (true, q19) () (weak [0, 1, 2] ⟨rfl, rfl, rfl, rfl, trivial⟩ ⟨rfl, rfl, rfl, trivial⟩) (fun s96 x97 => ?_) (fun q134 y135 => ?_)
  · unfold strict_Closure_l2
    refine ref_seq (ref_seq (ref_region ?_))
    refine mv1 rfl rfl ?_
    refine l_nil (n_then ?_)
    refine ref_cond rfl (fun hb98 => ?_) (fun hb98 => ?_)
    · refine ref_skip (n_then (ref_block (ref_seq (ref_region ?_))))
      refine as1 rfl rfl ?_
      refine l_nil (n_then (ref_seq (ref_region ?_)))
      refine s_rd (r_faddr (fo := 1) Tryz.underlying26 rfl rfl Tryz.sizeOf23 rfl) rfl ?_
      refine s_rd (r_cload Tryz.isAgg23 rfl (j := 0) rfl rfl) rfl ?_
      refine s_rd (r_len Tryz.underlying23 rfl) rfl ?_
      refine mv1 rfl rfl ?_
      refine l_nil (n_then ?_)
      refine ref_loopB (f := (strict_Closure_l3 b_0)) (Γl := (fun (s121 : Bool × Int × (List (T_api_Literal × T_anon71))) (x122 : Unit) => [(2, pv (ptr b1 0)), (5, pv (ptr b3 0)), (8, pv (.func (.func 38) #[] #[(ptr b3 0)])), (9, bv s121.1), (28, slv rT_api_Rule b_0.Rules), (29, iv .i64 (b_0.Rules.length : Int)), (30, iv .i64 s121.2.1)])) (Ωl := (fun (s121 : Bool × Int × (List (T_api_Literal × T_anon71))) (x122 : Unit) => [oc b1 [slv rT_api_Premise b_0.Premises, slv rT_api_Rule b_0.Rules, slv rT_api_Promotion b_0.Promotions], oc b3 [pv (.map (some b2))], om rT_api_Literal rT_anon71 b2 s121.2.2])) (Γb := (fun (q132 : (List (T_api_Literal × T_anon71)) × Bool) (y133 : Unit) => [(2, pv (ptr b1 0)), (5, pv (ptr b3 0)), (8, pv (.func (.func 38) #[] #[(ptr b3 0)])), (9, bv q132.2)])) (Ωb := (fun (q132 : (List (T_api_Literal × T_anon71)) × Bool) (y133 : Unit) => [oc b1 [slv rT_api_Premise b_0.Premises, slv rT_api_Rule b_0.Rules, slv rT_api_Promotion b_0.Promotions], oc b3 [pv (.map (some b2))], om rT_api_Literal rT_anon71 b2 q132.1])) (false, 0, s96.2) () (weak [0, 1, 2] ⟨rfl, rfl, rfl, rfl, rfl, rfl, rfl, trivial⟩ ⟨rfl, rfl, rfl, trivial⟩) (fun s121 x122 => ?_) (fun q132 y133 => ?_)
      · unfold strict_Closure_l3
        refine ref_seq (ref_region ?_)
        refine s_rd (r_lss rfl rfl) rfl ?_
        refine l_nil (n_then (ref_seq ?_))
        refine ref_cond rfl (fun hb123 => ?_) (fun hb123 => ?_)
        · refine ref_skip (n_then (ref_seq (ref_block (ref_seq (ref_region ?_)))))
          refine pull fun t124 h_t124 => ?_
          refine s_rd (r_index h_t124 Tryz.underlying23 el_60 rfl rfl) rfl ?_
          refine s_rd (r_load el_60 rfl) rfl ?_
          refine s_st (s_alloc zt_60) rfl (fun b125 => ?_)
          refine s_st0 (s_cstore (out := [sv t124.Name, bv t124.Strict, iv .i64 t124.Rank, slv rT_api_Literal t124.Body, bv t124.Head.Neg, sv t124.Head.Name]) Tryz.sizeOf60 rfl (j := 3) rfl (part_agO (ψs := [sv t124.Name, bv t124.Strict, iv .i64 t124.Rank, slv rT_api_Literal t124.Body, bv t124.Head.Neg, sv t124.Head.Name]) rfl ⟨.inl sv_at, .inl bv_at, .inl iv_at, .inl slv_at, .inl bv_at, .inl sv_at, trivial⟩) rfl rfl rfl) (fun _ => ?_)
          refine l_nil (n_then (ref_seq ?_))
          refine ref_join (fun (j128 : Bool) (x129 : Unit) => [(2, pv (ptr b1 0)), (5, pv (ptr b3 0)), (8, pv (.func (.func 38) #[] #[(ptr b3 0)])), (9, bv s121.1), (11, pv (ptr b125 0)), (28, slv rT_api_Rule b_0.Rules), (29, iv .i64 (b_0.Rules.length : Int)), (30, iv .i64 s121.2.1), (48, bv j128)]) (fun (j128 : Bool) (x129 : Unit) => [oc b1 [slv rT_api_Premise b_0.Premises, slv rT_api_Rule b_0.Rules, slv rT_api_Promotion b_0.Promotions], oc b3 [pv (.map (some b2))], om rT_api_Literal rT_anon71 b2 s121.2.2, oc b125 [sv t124.Name, bv t124.Strict, iv .i64 t124.Rank, slv rT_api_Literal t124.Body, bv t124.Head.Neg, sv t124.Head.Name]]) (fun k130 hk130 => ?_) (fun j128 x129 => ?_)
          · refine ref_region ?_
            refine s_rd (r_faddr (fo := 1) Tryz.underlying60 rfl rfl Tryz.sizeOf4 rfl) rfl ?_
            refine s_rd (r_cload Tryz.isAgg4 rfl (j := 3) rfl rfl) rfl ?_
            refine mv1 rfl rfl ?_
            refine b_split (t := 36) rfl (fun _ => ?_) (fun _ => ?_)
            · refine s_on rfl rfl rfl ?_
              refine mv1 rfl rfl ?_
              refine s_on rfl rfl rfl ?_
              refine s_rd (r_faddr (fo := 4) Tryz.underlying60 rfl rfl Tryz.sizeOf29 rfl) rfl ?_
              refine s_on rfl rfl rfl ?_
              refine s_rd (r_cloadS Tryz.isAgg29 Tryz.sizeOf29 rfl (j := 3) rfl rfl rfl) rfl ?_
              refine s_on rfl rfl rfl ?_
              refine pull fun t126 h_t126 => ?_
              refine s_st (s_callC [1, 2] [true, true] (fun (_ : Unit) => [oc b3 [pv (.map (some b2))], om rT_api_Literal rT_anon71 b2 s121.2.2]) (fun (_ : Unit) => []) (fun (_ : Unit) => bv t126) (args := [.tmp 39]) (caps := [(ptr b3 0)]) Tryz.call38 rfl (strict_Closure_1_ok h_t126) ⟨rfl, rfl, ⟨rfl, rfl, trivial⟩⟩ (fun _ => rfl) (fun _ => trivial) (fun _ => rfl) ⟨arg rfl, arg rfl, trivial⟩ (fun _ _ _ _ h => h)) rfl (fun _ => ?_)
              refine s_rd (r_pickT rfl rfl) rfl ?_
              refine mv1 rfl rfl ?_
              refine b_split (t := 42) rfl (fun _ => ?_) (fun _ => ?_)
              · refine s_on rfl rfl rfl ?_
                refine s_rd (r_faddr (fo := 3) Tryz.underlying60 rfl rfl Tryz.sizeOf27 rfl) rfl ?_
                refine s_on rfl rfl rfl ?_
                refine s_rd (r_cload Tryz.isAgg27 rfl (j := 3) rfl rfl) rfl ?_
                refine s_on rfl rfl rfl ?_
                refine mv1 rfl rfl ?_
                refine s_on rfl rfl rfl ?_
                refine pull fun t127 h_t127 => ?_
                refine s_st (s_callC [1, 2] [true, true] (fun (_ : Unit) => [oc b3 [pv (.map (some b2))], om rT_api_Literal rT_anon71 b2 s121.2.2]) (fun (_ : Unit) => []) (fun (_ : Unit) => bv t127) (args := [.tmp 44, .tmp 45]) (caps := []) Tryz.call39 rfl (slices_ContainsFunc_api_Literal_api_Literal_ok h_t127) ⟨rfl, rfl, ⟨rfl, rfl, trivial⟩⟩ (fun _ => rfl) (fun _ => trivial) (fun _ => rfl) ⟨arg rfl, arg rfl, trivial⟩ (fun _ _ _ _ h => h)) rfl (fun _ => ?_)
                refine s_on rfl rfl rfl ?_
                refine s_rd (r_not rfl) rfl ?_
                refine s_rd (r_pickT rfl rfl) rfl ?_
                refine l_nil ?_
                refine b_of (nrm [oc b1 [slv rT_api_Premise b_0.Premises, slv rT_api_Rule b_0.Rules, slv rT_api_Promotion b_0.Promotions], oc b3 [pv (.map (some b2))], om rT_api_Literal rT_anon71 b2 s121.2.2, oc b125 [sv t124.Name, bv t124.Strict, iv .i64 t124.Rank, slv rT_api_Literal t124.Body, bv t124.Head.Neg, sv t124.Head.Name]] rfl) ?_
                exact b_to (hk130 (!t127) ()) (weak [0, 1, 2, 3] ⟨rfl, rfl, rfl, rfl, rfl, rfl, rfl, rfl, rfl, trivial⟩ ⟨rfl, rfl, rfl, rfl, trivial⟩)
              refine s_off rfl rfl rfl rfl rfl ?_
              refine s_off rfl rfl rfl rfl rfl ?_
              refine s_off rfl rfl rfl rfl rfl ?_
              refine s_off rfl rfl rfl rfl rfl ?_
              refine s_off rfl rfl rfl rfl rfl ?_
              refine s_rd (r_pickF rfl rfl) rfl ?_
              refine l_nil ?_
              exact b_to (hk130 false ()) (weak [0, 1, 2, 3] ⟨rfl, rfl, rfl, rfl, rfl, rfl, rfl, rfl, rfl, trivial⟩ ⟨rfl, rfl, rfl, rfl, trivial⟩)
            refine s_off rfl rfl rfl rfl rfl ?_
            refine s_off rfl rfl rfl rfl rfl ?_
            refine s_off rfl rfl rfl rfl rfl ?_
            refine s_off rfl rfl rfl rfl rfl ?_
            refine s_rd (r_pickF rfl rfl) rfl ?_
            refine mv1 rfl rfl ?_
            refine s_off rfl rfl rfl rfl rfl ?_
            refine s_off rfl rfl rfl rfl rfl ?_
            refine s_off rfl rfl rfl rfl rfl ?_
            refine s_off rfl rfl rfl rfl rfl ?_
            refine s_off rfl rfl rfl rfl rfl ?_
            refine s_rd (r_pickF rfl rfl) rfl ?_
            refine l_nil ?_
            exact b_to (hk130 false ()) (weak [0, 1, 2, 3] ⟨rfl, rfl, rfl, rfl, rfl, rfl, rfl, rfl, rfl, trivial⟩ ⟨rfl, rfl, rfl, rfl, trivial⟩)
          refine n_then ?_
          refine ref_cond rfl (fun hb131 => ?_) (fun hb131 => ?_)
          · refine ref_seq (ref_region ?_)
            refine s_rd (r_cload Tryz.isAgg70 rfl (j := 1) rfl rfl) rfl ?_
            refine s_rd (r_faddr (fo := 4) Tryz.underlying60 rfl rfl Tryz.sizeOf29 rfl) rfl ?_
            refine s_rd (r_cloadS Tryz.isAgg29 Tryz.sizeOf29 rfl (j := 3) rfl rfl rfl) rfl ?_
            refine s_rd (r_build (ps := []) (rs := []) st_71 zs_71 trivial rfl rfl) rfl ?_
            refine s_st0 (s_mput (x := t124.Head) (y := (T_anon71.mk )) Tryz.underlying70 key_29 rfl (j := 2) rfl rfl rfl) (fun _ => ?_)
            refine l_nil (n_then (ref_region ?_))
            refine as1 rfl rfl ?_
            refine l_nil (n_block (n_then (ref_region ?_)))
            refine s_rd (r_add rfl rfl) rfl ?_
            refine mv1 rfl rfl ?_
            refine l_nil ?_
            exact goB () (weak [0, 1, 2] ⟨rfl, rfl, rfl, rfl, rfl, rfl, rfl, trivial⟩ ⟨rfl, rfl, rfl, trivial⟩)
          refine ref_skip (n_block (n_then (ref_region ?_)))
          refine s_rd (r_add rfl rfl) rfl ?_
          refine mv1 rfl rfl ?_
          refine l_nil ?_
          exact goB () (weak [0, 1, 2] ⟨rfl, rfl, rfl, rfl, rfl, rfl, rfl, trivial⟩ ⟨rfl, rfl, rfl, trivial⟩)
        refine ref_exit (x_then ?_)
        exact brkB () (weak [0, 1, 2] ⟨rfl, rfl, rfl, rfl, trivial⟩ ⟨rfl, rfl, rfl, trivial⟩)
      refine n_block ?_
      exact goB () (weak [0, 1, 2] ⟨rfl, rfl, rfl, rfl, trivial⟩ ⟨rfl, rfl, rfl, trivial⟩)
    refine ref_exit (x_then ?_)
    exact brkB () (weak [1, 2] ⟨rfl, trivial⟩ ⟨rfl, rfl, trivial⟩)
  refine n_then (ref_seq (ref_region ?_))
  refine s_rd (r_cload Tryz.isAgg70 rfl (j := 0) rfl rfl) rfl ?_
  refine s_rd (r_mlen (κ := rT_api_Literal) (ν := rT_anon71) Tryz.underlying70 rfl (j := 1) rfl) rfl ?_
  refine pull fun u136 h_u136 => ?_
  refine s_st (s_makeC h_u136 Tryz.underlying27 el_29 rfl rfl) rfl (fun o137 => ?_)
  refine as1 rfl rfl ?_
  refine l_nil (n_then (ref_seq (ref_seq (ref_region ?_))))
  refine s_rd (r_cload Tryz.isAgg70 rfl (j := 0) rfl rfl) rfl ?_
  refine s_st (s_range Tryz.underlying70 rfl (j := 1) rfl) rfl (fun it138 => ?_)
  refine l_nil (n_then ?_)
  refine ref_rng (f := (strict_Closure_l4)) (Γl := (fun (s144 : (List T_api_Literal)) (x144 : (Value × List Nat)) => [(12, pv x144.1), (58, pv (ptr it138 0))])) (Ωl := (fun (s144 : (List T_api_Literal)) (x144 : (Value × List Nat)) (ix144 : List Nat) => [oa rT_api_Literal x144.1 x144.2 s144, omi rT_api_Literal rT_anon71 b2 it138 q134 ix144])) (Γb := (fun (q149 : (List T_api_Literal)) (y149 : (Value × List Nat)) => [(12, pv y149.1), (58, pv (ptr it138 0))])) (Ωb := (fun (q149 : (List T_api_Literal)) (y149 : (Value × List Nat)) (ix144 : List Nat) => [oa rT_api_Literal y149.1 y149.2 q149, omi rT_api_Literal rT_anon71 b2 it138 q134 ix144])) [] o137 (weak [2, 1] ⟨rfl, rfl, trivial⟩ ⟨rfl, rfl, trivial⟩) (fun ix144 s144 x144 H144 => ?_) (fun q149 y149 ix144 => ?_)
  · refine ref_seq (ref_region ?_)
    refine s_st (s_next rfl (j := 1) rfl) rfl (fun o145 => ?_)
    refine s_rd (r_nxt0 rfl) rfl ?_
    refine l_nil (n_then (ref_seq ?_))
    obtain ⟨_ | ⟨i144, q144⟩, ho144⟩ := o145
    · refine ref_condF rfl rfl (ref_exit (x_then ?_))
      exact rng_over ho144 x144 (weak [0, 1] ⟨rfl, rfl, trivial⟩ ⟨rfl, rfl, trivial⟩)
    refine ref_condT rfl rfl (ref_skip (n_then ?_))
    refine rng_pick H144 ho144.1 ho144.2 ?_
    unfold strict_Closure_l4
    refine ref_block (ref_seq (ref_region ?_))
    refine s_rd (r_entry (ix := ix144) (i := i144) (u := q144.1) (v := q144.2) rfl (j := 1) rfl ho144.2) rfl ?_
    refine s_rd (r_extract rfl rfl) rfl ?_
    refine s_st (s_alloc zt_29) rfl (fun b146 => ?_)
    refine s_st0 (s_cstore (out := [bv q144.1.Neg, sv q144.1.Name]) Tryz.sizeOf29 rfl (j := 2) rfl (part_agO (ψs := [bv q144.1.Neg, sv q144.1.Name]) rfl ⟨.inl bv_at, .inl sv_at, trivial⟩) rfl rfl rfl) (fun _ => ?_)
    refine l_nil ?_
    refine b_of (nrm [oa rT_api_Literal x144.1 x144.2 s144, omi rT_api_Literal rT_anon71 b2 it138 q134 (ix144 ++ [i144]), oc b146 [bv q144.1.Neg, sv q144.1.Name]] rfl) ?_
    refine n_then (ref_region ?_)
    refine mv1 rfl rfl ?_
    refine s_rd (r_cloadS Tryz.isAgg29 Tryz.sizeOf29 rfl (j := 2) rfl rfl rfl) rfl ?_
    refine s_st (s_bslice (xs := [.tmp 64]) (ds := [q144.1]) Tryz.underlying27 el_29 rfl (Nat.le_of_ble_eq_true rfl) ⟨(part_agO (ψs := [bv q144.1.Neg, sv q144.1.Name]) rfl ⟨.inl bv_at, .inl sv_at, trivial⟩), trivial⟩) rfl (fun _ => ?_)
    refine pull fun out147 h_out147 => ?_
    refine s_st (s_append h_out147 Tryz.underlying27 el_29 rfl (j := 0) rfl rfl) rfl (fun o148 => ?_)
    refine as1 rfl rfl ?_
    refine l_nil (n_block ?_)
    exact rng_go o148 (weak [0, 1] ⟨rfl, rfl, trivial⟩ ⟨rfl, rfl, trivial⟩)
  refine n_then (ref_seq (ref_region ?_))
  refine mv1 rfl rfl ?_
  refine b_of (frzL [12, 67] (j := 0) rfl ⟨rfl, rfl, trivial⟩) ?_
  refine pull fun t150 h_t150 => ?_
  refine s_st (s_call (ψ := fun (_ : Unit) => slv rT_api_Literal t150) (args := [.tmp 67]) Tryz.call40 rfl (literal_Normal_ok h_t150) ⟨arg rfl, trivial⟩ (fun _ _ _ _ h => h)) rfl (fun _ => ?_)
  refine as1 rfl rfl ?_
  refine l_nil (n_then (ref_ret ?_))
  exact fin1 (.inl rfl) () [] rfl trivial rfl (rv_tmp rfl)

/-! deliberation/deliberationref01.Has -/
noncomputable def ref01_Has_l1 (l_0 : (List T_api_Literal)) (x_1 : T_api_Literal) (s7 : Int) : Option (Sum ((Sum (Bool) (Unit))) (Int)) :=
  bif decide (s7 < (l_0.length : Int)) then
    Option.bind (idxM l_0 s7) fun t10 =>
    bif decide (t10 = x_1) then
      some (Sum.inl (Sum.inl true))
    else
      some (Sum.inr (iadd .i64 s7 1))
  else
    some (Sum.inl (Sum.inr ()))

noncomputable def ref01_Has_m (l_0 : (List T_api_Literal)) (x_1 : T_api_Literal) : Option (Bool) :=
  Option.bind (loopC (ref01_Has_l1 l_0 x_1) 0) (sumK (fun a : Bool => some a) fun q12 : Unit =>
    some false)

theorem ref01_Has_ok {l_0 : (List T_api_Literal)} {x_1 : T_api_Literal} {r : Bool} (hm : ref01_Has_m l_0 x_1 = some r) :
    FnOk prog 42 [slv rT_api_Literal l_0, ag [bv x_1.Neg, sv x_1.Name]] [] (fun (x : Unit) => [bv r]) (fun (x : Unit) => []) := by
  refine fn_ok (fn := Tryz.f42) (N := 18) (res := fun r x => [bv r]) (Ω1 := fun r x => []) Tryz.func42 rfl rfl hm rfl (fun E hM => ?_)
  unfold ref01_Has_m
  refine ref_seq (ref_region ?_)
  refine s_st (s_box (part_agO (ψs := [bv x_1.Neg, sv x_1.Name]) rfl ⟨.inl bv_at, .inl sv_at, trivial⟩)) rfl (fun b1 => ?_)
  refine as1 rfl rfl ?_
  refine l_nil (n_then (ref_seq (ref_seq (ref_region ?_))))
  refine as1 rfl rfl ?_
  refine l_nil (n_then ?_)
  refine ref_loopX (f := (ref01_Has_l1 l_0 x_1)) (Γl := (fun (s7 : Int) (x8 : Unit) => [(0, slv rT_api_Literal l_0), (3, pv (ptr b1 0)), (5, iv .i64 s7)])) (Ωl := (fun (s7 : Int) (x8 : Unit) => [oc b1 [bv x_1.Neg, sv x_1.Name]])) (Γb := (fun (q12 : Unit) (y13 : Unit) => [])) (Ωb := (fun (q12 : Unit) (y13 : Unit) => [])) (kr := (fun a : Bool => some a)) 0 () (weak [0] ⟨rfl, rfl, rfl, trivial⟩ ⟨rfl, trivial⟩) (fun s7 x8 => ?_) (fun q12 y13 => ?_)
  · unfold ref01_Has_l1
    refine ref_seq (ref_seq (ref_region ?_))
    refine mv1 rfl rfl ?_
    refine mv1 rfl rfl ?_
    refine s_rd (r_len Tryz.underlying27 rfl) rfl ?_
    refine s_rd (r_lss rfl rfl) rfl ?_
    refine l_nil (n_then ?_)
    refine ref_cond rfl (fun hb9 => ?_) (fun hb9 => ?_)
    · refine ref_skip (n_then (ref_seq (ref_block (ref_seq ?_))))
      refine ref_draw [0, 1, 2, 3, 4, 5] rfl (by kernel_rfl) (fun hok => ?_)
      refine a_rd (i := 0) hok rfl (by kernel_rfl) rfl (r_move rfl) rfl ?_
      refine a_rd (i := 1) hok rfl (by kernel_rfl) rfl (r_move rfl) rfl ?_
      refine pull fun t10 h_t10 => ?_
      refine a_rd (i := 2) hok rfl (by kernel_rfl) rfl (r_index h_t10 Tryz.underlying27 el_29 rfl rfl) rfl ?_
      refine a_rd (i := 3) hok rfl (by kernel_rfl) rfl (r_load el_29 rfl) rfl ?_
      refine a_rd (i := 4) hok rfl (by kernel_rfl) rfl (r_cloadS Tryz.isAgg29 Tryz.sizeOf29 rfl (j := 0) rfl rfl rfl) rfl ?_
      refine a_rd (i := 5) hok rfl (by kernel_rfl) rfl (r_steql (u := t10) (v := x_1) eq_29 rfl rfl rfl rfl) rfl ?_
      refine a_fin hok (by kernel_rfl) ?_
      refine n_then ?_
      refine ref_cond rfl (fun hb11 => ?_) (fun hb11 => ?_)
      · refine ref_seq (ref_region ?_)
        refine as1 rfl rfl ?_
        refine l_nil (n_then (ref_ret (r_block (r_then ?_))))
        refine retX ?_
        refine r_block (r_then ?_)
        exact fin1 (.inl rfl) () [] rfl trivial rfl (rv_tmp rfl)
      refine ref_skip (n_block (n_then (ref_region ?_)))
      refine mv1 rfl rfl ?_
      refine s_rd (r_add rfl rfl) rfl ?_
      refine as1 rfl rfl ?_
      refine l_nil ?_
      exact goX () (weak [0] ⟨rfl, rfl, rfl, trivial⟩ ⟨rfl, trivial⟩)
    refine ref_exit (x_then ?_)
    exact brkX () (weak [] trivial trivial)
  refine n_then (ref_seq (ref_region ?_))
  refine as1 rfl rfl ?_
  refine l_nil (n_then (ref_ret ?_))
  exact fin1 (.inl rfl) () [] rfl trivial rfl (rv_tmp rfl)

/-! deliberation/deliberationref06.all -/
noncomputable def ref06_all_l1 (l_0 : (List T_api_Literal)) (body_1 : (List T_api_Literal)) (s7 : Int) : Option (Sum ((Sum (Bool) (Unit))) (Int)) :=
  bif decide (s7 < (body_1.length : Int)) then
    Option.bind (idxM body_1 s7) fun t10 =>
    Option.bind (ref01_Has_m l_0 t10) fun t11 =>
    bif !t11 then
      some (Sum.inl (Sum.inl false))
    else
      some (Sum.inr (iadd .i64 s7 1))
  else
    some (Sum.inl (Sum.inr ()))

noncomputable def ref06_all_m (l_0 : (List T_api_Literal)) (body_1 : (List T_api_Literal)) : Option (Bool) :=
  Option.bind (loopC (ref06_all_l1 l_0 body_1) 0) (sumK (fun a : Bool => some a) fun q13 : Unit =>
    some true)

theorem ref06_all_ok {l_0 : (List T_api_Literal)} {body_1 : (List T_api_Literal)} {r : Bool} (hm : ref06_all_m l_0 body_1 = some r) :
    FnOk prog 41 [slv rT_api_Literal l_0, slv rT_api_Literal body_1] [] (fun (x : Unit) => [bv r]) (fun (x : Unit) => []) := by
  refine fn_ok (fn := Tryz.f41) (N := 19) (res := fun r x => [bv r]) (Ω1 := fun r x => []) Tryz.func41 rfl rfl hm rfl (fun E hM => ?_)
  unfold ref06_all_m
  refine ref_seq (ref_region ?_)
  refine as1 rfl rfl ?_
  refine l_nil (n_then (ref_seq (ref_seq (ref_region ?_))))
  refine as1 rfl rfl ?_
  refine l_nil (n_then ?_)
  refine ref_loopX (f := (ref06_all_l1 l_0 body_1)) (Γl := (fun (s7 : Int) (x8 : Unit) => [(0, slv rT_api_Literal l_0), (1, slv rT_api_Literal body_1), (5, iv .i64 s7)])) (Ωl := (fun (s7 : Int) (x8 : Unit) => [])) (Γb := (fun (q13 : Unit) (y14 : Unit) => [])) (Ωb := (fun (q13 : Unit) (y14 : Unit) => [])) (kr := (fun a : Bool => some a)) 0 () (weak [] ⟨rfl, rfl, rfl, trivial⟩ trivial) (fun s7 x8 => ?_) (fun q13 y14 => ?_)
  · unfold ref06_all_l1
    refine ref_seq (ref_seq (ref_region ?_))
    refine mv1 rfl rfl ?_
    refine mv1 rfl rfl ?_
    refine s_rd (r_len Tryz.underlying27 rfl) rfl ?_
    refine s_rd (r_lss rfl rfl) rfl ?_
    refine l_nil (n_then ?_)
    refine ref_cond rfl (fun hb9 => ?_) (fun hb9 => ?_)
    · refine ref_skip (n_then (ref_seq (ref_block (ref_seq (ref_region ?_)))))
      refine mv1 rfl rfl ?_
      refine mv1 rfl rfl ?_
      refine mv1 rfl rfl ?_
      refine pull fun t10 h_t10 => ?_
      refine s_rd (r_index h_t10 Tryz.underlying27 el_29 rfl rfl) rfl ?_
      refine s_rd (r_load el_29 rfl) rfl ?_
      refine pull fun t11 h_t11 => ?_
      refine s_st (s_call (ψ := fun (_ : Unit) => bv t11) (args := [.tmp 12, .tmp 16]) Tryz.call42 rfl (ref01_Has_ok h_t11) ⟨arg rfl, arg rfl, trivial⟩ (fun _ _ _ _ h => h)) rfl (fun _ => ?_)
      refine s_rd (r_not rfl) rfl ?_
      refine l_nil (n_then ?_)
      refine ref_cond rfl (fun hb12 => ?_) (fun hb12 => ?_)
      · refine ref_seq (ref_region ?_)
        refine as1 rfl rfl ?_
        refine l_nil (n_then (ref_ret (r_block (r_then ?_))))
        refine retX ?_
        refine r_block (r_then ?_)
        exact fin1 (.inl rfl) () [] rfl trivial rfl (rv_tmp rfl)
      refine ref_skip (n_block (n_then (ref_region ?_)))
      refine mv1 rfl rfl ?_
      refine s_rd (r_add rfl rfl) rfl ?_
      refine as1 rfl rfl ?_
      refine l_nil ?_
      exact goX () (weak [] ⟨rfl, rfl, rfl, trivial⟩ trivial)
    refine ref_exit (x_then ?_)
    exact brkX () (weak [] trivial trivial)
  refine n_then (ref_seq (ref_region ?_))
  refine as1 rfl rfl ?_
  refine l_nil (n_then (ref_ret ?_))
  exact fin1 (.inl rfl) () [] rfl trivial rfl (rv_tmp rfl)

/-! deliberation/deliberationref06.Closure -/
noncomputable def ref06_Closure_l2 (b_0 : T_api_Base) (s48 : (List T_api_Literal) × Bool × Int) : Option (Sum ((List T_api_Literal) × Bool) ((List T_api_Literal) × Bool × Int)) :=
  bif decide (s48.2.2 < (b_0.Rules.length : Int)) then
    Option.bind (idxM b_0.Rules s48.2.2) fun t51 =>
    joinM (fun j55 : Bool =>
        bif j55 then
          Option.bind (ref01_Insert_m s48.1 t51.Head) fun out59 =>
          letM (iadd .i64 s48.2.2 1) fun i60 =>
          some (Sum.inr (out59, true, i60))
        else
          letM (iadd .i64 s48.2.2 1) fun i61 =>
          some (Sum.inr (s48.1, s48.2.1, i61))) fun k57 =>
    bif t51.Strict then
      Option.bind (ref06_all_m s48.1 t51.Body) fun t53 =>
      bif t53 then
        Option.bind (ref01_Has_m s48.1 t51.Head) fun t54 =>
        k57 (!t54)
      else
        k57 false
    else
      k57 false
  else
    some (Sum.inl (s48.1, s48.2.1))

noncomputable def ref06_Closure_l1 (b_0 : T_api_Base) (s33 : (List T_api_Literal) × Bool) : Option (Sum ((List T_api_Literal)) ((List T_api_Literal) × Bool)) :=
  bif s33.2 then
    Option.bind (loopC (ref06_Closure_l2 b_0) (s33.1, false, 0)) fun q62 : (List T_api_Literal) × Bool =>
    some (Sum.inr (q62.1, q62.2))
  else
    some (Sum.inl s33.1)

noncomputable def ref06_Closure_m (b_0 : T_api_Base) (l_1 : (List T_api_Literal)) : Option (List T_api_Literal) :=
  Option.bind (ref01_Normal_m l_1) fun out2 =>
  Option.bind (loopC (ref06_Closure_l1 b_0) (out2, true)) fun q64 : (List T_api_Literal) =>
  some q64

theorem ref06_Closure_ok {b_0 : T_api_Base} {l_1 : (List T_api_Literal)} {r : List T_api_Literal} (hm : ref06_Closure_m b_0 l_1 = some r) :
    FnOk prog 14 [ag [slv rT_api_Premise b_0.Premises, slv rT_api_Rule b_0.Rules, slv rT_api_Promotion b_0.Promotions], slv rT_api_Literal l_1] [] (fun (x : Unit) => [slv rT_api_Literal r]) (fun (x : Unit) => []) := by
  refine fn_ok (fn := Tryz.f14) (N := 44) (res := fun r x => [slv rT_api_Literal r]) (Ω1 := fun r x => []) Tryz.func14 rfl rfl hm rfl (fun E hM => ?_)
  unfold ref06_Closure_m
  refine ref_seq (ref_region ?_)
  refine s_st (s_box (part_agO (ψs := [slv rT_api_Premise b_0.Premises, slv rT_api_Rule b_0.Rules, slv rT_api_Promotion b_0.Promotions]) rfl ⟨.inl slv_at, .inl slv_at, .inl slv_at, trivial⟩)) rfl (fun b1 => ?_)
  refine as1 rfl rfl ?_
  refine l_nil (n_then (ref_seq (ref_region ?_)))
  refine mv1 rfl rfl ?_
  refine pull fun out2 h_out2 => ?_
  refine s_st (s_call (ψ := fun (_ : Unit) => slv rT_api_Literal out2) (args := [.tmp 9]) Tryz.call30 rfl (ref01_Normal_ok h_out2) ⟨arg rfl, trivial⟩ (fun _ _ _ _ h => h)) rfl (fun _ => ?_)
  refine as1 rfl rfl ?_
  refine l_nil (n_then (ref_seq (ref_seq (ref_region ?_))))
  refine as1 rfl rfl ?_
  refine l_nil (n_then ?_)
  refine ref_loopB (f := (ref06_Closure_l1 b_0)) (Γl := (fun (s33 : (List T_api_Literal) × Bool) (x34 : Unit) => [(2, pv (ptr b1 0)), (5, slv rT_api_Literal s33.1), (6, bv s33.2)])) (Ωl := (fun (s33 : (List T_api_Literal) × Bool) (x34 : Unit) => [oc b1 [slv rT_api_Premise b_0.Premises, slv rT_api_Rule b_0.Rules, slv rT_api_Promotion b_0.Promotions]])) (Γb := (fun (q64 : (List T_api_Literal)) (y65 : Unit) => [(5, slv rT_api_Literal q64)])) (Ωb := (fun (q64 : (List T_api_Literal)) (y65 : Unit) => [])) (out2, true) () (weak [0] ⟨rfl, rfl, rfl, trivial⟩ ⟨rfl, trivial⟩) (fun s33 x34 => ?_) (fun q64 y65 => ?_)
  · unfold ref06_Closure_l1
    refine ref_seq (ref_seq (ref_region ?_))
    refine mv1 rfl rfl ?_
    refine l_nil (n_then ?_)
    refine ref_cond rfl (fun hb35 => ?_) (fun hb35 => ?_)
    · refine ref_skip (n_then (ref_block (ref_seq (ref_region ?_))))
      refine as1 rfl rfl ?_
      refine l_nil (n_then (ref_seq (ref_region ?_)))
      refine as1 rfl rfl ?_
      refine l_nil (n_then ?_)
      refine ref_loopB (f := (ref06_Closure_l2 b_0)) (Γl := (fun (s48 : (List T_api_Literal) × Bool × Int) (x49 : Unit) => [(2, pv (ptr b1 0)), (5, slv rT_api_Literal s48.1), (6, bv s48.2.1), (7, iv .i64 s48.2.2)])) (Ωl := (fun (s48 : (List T_api_Literal) × Bool × Int) (x49 : Unit) => [oc b1 [slv rT_api_Premise b_0.Premises, slv rT_api_Rule b_0.Rules, slv rT_api_Promotion b_0.Promotions]])) (Γb := (fun (q62 : (List T_api_Literal) × Bool) (y63 : Unit) => [(2, pv (ptr b1 0)), (5, slv rT_api_Literal q62.1), (6, bv q62.2)])) (Ωb := (fun (q62 : (List T_api_Literal) × Bool) (y63 : Unit) => [oc b1 [slv rT_api_Premise b_0.Premises, slv rT_api_Rule b_0.Rules, slv rT_api_Promotion b_0.Promotions]])) (s33.1, false, 0) () (weak [0] ⟨rfl, rfl, rfl, rfl, trivial⟩ ⟨rfl, trivial⟩) (fun s48 x49 => ?_) (fun q62 y63 => ?_)
      · unfold ref06_Closure_l2
        refine ref_seq (ref_seq (ref_region ?_))
        refine mv1 rfl rfl ?_
        refine s_rd (r_faddr (fo := 1) Tryz.underlying26 rfl rfl Tryz.sizeOf23 rfl) rfl ?_
        refine s_rd (r_cload Tryz.isAgg23 rfl (j := 0) rfl rfl) rfl ?_
        refine s_rd (r_len Tryz.underlying23 rfl) rfl ?_
        refine s_rd (r_lss rfl rfl) rfl ?_
        refine l_nil (n_then ?_)
        refine ref_cond rfl (fun hb50 => ?_) (fun hb50 => ?_)
        · refine ref_skip (n_then (ref_seq (ref_block (ref_seq (ref_region ?_)))))
          refine s_rd (r_faddr (fo := 1) Tryz.underlying26 rfl rfl Tryz.sizeOf23 rfl) rfl ?_
          refine s_rd (r_cload Tryz.isAgg23 rfl (j := 0) rfl rfl) rfl ?_
          refine mv1 rfl rfl ?_
          refine pull fun t51 h_t51 => ?_
          refine s_rd (r_index h_t51 Tryz.underlying23 el_60 rfl rfl) rfl ?_
          refine s_rd (r_load el_60 rfl) rfl ?_
          refine s_st (s_alloc zt_60) rfl (fun b52 => ?_)
          refine s_st0 (s_cstore (out := [sv t51.Name, bv t51.Strict, iv .i64 t51.Rank, slv rT_api_Literal t51.Body, bv t51.Head.Neg, sv t51.Head.Name]) Tryz.sizeOf60 rfl (j := 1) rfl (part_agO (ψs := [sv t51.Name, bv t51.Strict, iv .i64 t51.Rank, slv rT_api_Literal t51.Body, bv t51.Head.Neg, sv t51.Head.Name]) rfl ⟨.inl sv_at, .inl bv_at, .inl iv_at, .inl slv_at, .inl bv_at, .inl sv_at, trivial⟩) rfl rfl rfl) (fun _ => ?_)
          refine l_nil ?_
          refine b_of (nrm [oc b1 [slv rT_api_Premise b_0.Premises, slv rT_api_Rule b_0.Rules, slv rT_api_Promotion b_0.Promotions], oc b52 [sv t51.Name, bv t51.Strict, iv .i64 t51.Rank, slv rT_api_Literal t51.Body, bv t51.Head.Neg, sv t51.Head.Name]] rfl) ?_
          refine n_then (ref_seq ?_)
          refine ref_join (fun (j55 : Bool) (x56 : Unit) => [(2, pv (ptr b1 0)), (5, slv rT_api_Literal s48.1), (6, bv s48.2.1), (7, iv .i64 s48.2.2), (8, pv (ptr b52 0)), (38, bv j55)]) (fun (j55 : Bool) (x56 : Unit) => [oc b1 [slv rT_api_Premise b_0.Premises, slv rT_api_Rule b_0.Rules, slv rT_api_Promotion b_0.Promotions], oc b52 [sv t51.Name, bv t51.Strict, iv .i64 t51.Rank, slv rT_api_Literal t51.Body, bv t51.Head.Neg, sv t51.Head.Name]]) (fun k57 hk57 => ?_) (fun j55 x56 => ?_)
          · refine ref_region ?_
            refine s_rd (r_faddr (fo := 1) Tryz.underlying60 rfl rfl Tryz.sizeOf4 rfl) rfl ?_
            refine s_rd (r_cload Tryz.isAgg4 rfl (j := 1) rfl rfl) rfl ?_
            refine mv1 rfl rfl ?_
            refine b_split (t := 26) rfl (fun _ => ?_) (fun _ => ?_)
            · refine s_on rfl rfl rfl ?_
              refine mv1 rfl rfl ?_
              refine s_on rfl rfl rfl ?_
              refine s_rd (r_faddr (fo := 3) Tryz.underlying60 rfl rfl Tryz.sizeOf27 rfl) rfl ?_
              refine s_on rfl rfl rfl ?_
              refine s_rd (r_cload Tryz.isAgg27 rfl (j := 1) rfl rfl) rfl ?_
              refine s_on rfl rfl rfl ?_
              refine pull fun t53 h_t53 => ?_
              refine s_st (s_call (ψ := fun (_ : Unit) => bv t53) (args := [.tmp 27, .tmp 29]) Tryz.call41 rfl (ref06_all_ok h_t53) ⟨arg rfl, arg rfl, trivial⟩ (fun _ _ _ _ h => h)) rfl (fun _ => ?_)
              refine s_rd (r_pickT rfl rfl) rfl ?_
              refine mv1 rfl rfl ?_
              refine b_split (t := 32) rfl (fun _ => ?_) (fun _ => ?_)
              · refine s_on rfl rfl rfl ?_
                refine mv1 rfl rfl ?_
                refine s_on rfl rfl rfl ?_
                refine s_rd (r_faddr (fo := 4) Tryz.underlying60 rfl rfl Tryz.sizeOf29 rfl) rfl ?_
                refine s_on rfl rfl rfl ?_
                refine s_rd (r_cloadS Tryz.isAgg29 Tryz.sizeOf29 rfl (j := 1) rfl rfl rfl) rfl ?_
                refine s_on rfl rfl rfl ?_
                refine pull fun t54 h_t54 => ?_
                refine s_st (s_call (ψ := fun (_ : Unit) => bv t54) (args := [.tmp 33, .tmp 35]) Tryz.call42 rfl (ref01_Has_ok h_t54) ⟨arg rfl, arg rfl, trivial⟩ (fun _ _ _ _ h => h)) rfl (fun _ => ?_)
                refine s_on rfl rfl rfl ?_
                refine s_rd (r_not rfl) rfl ?_
                refine s_rd (r_pickT rfl rfl) rfl ?_
                refine l_nil ?_
                exact b_to (hk57 (!t54) ()) (weak [0, 1] ⟨rfl, rfl, rfl, rfl, rfl, rfl, trivial⟩ ⟨rfl, rfl, trivial⟩)
              refine s_off rfl rfl rfl rfl rfl ?_
              refine s_off rfl rfl rfl rfl rfl ?_
              refine s_off rfl rfl rfl rfl rfl ?_
              refine s_off rfl rfl rfl rfl rfl ?_
              refine s_off rfl rfl rfl rfl rfl ?_
              refine s_rd (r_pickF rfl rfl) rfl ?_
              refine l_nil ?_
              exact b_to (hk57 false ()) (weak [0, 1] ⟨rfl, rfl, rfl, rfl, rfl, rfl, trivial⟩ ⟨rfl, rfl, trivial⟩)
            refine s_off rfl rfl rfl rfl rfl ?_
            refine s_off rfl rfl rfl rfl rfl ?_
            refine s_off rfl rfl rfl rfl rfl ?_
            refine s_off rfl rfl rfl rfl rfl ?_
            refine s_rd (r_pickF rfl rfl) rfl ?_
            refine mv1 rfl rfl ?_
            refine s_off rfl rfl rfl rfl rfl ?_
            refine s_off rfl rfl rfl rfl rfl ?_
            refine s_off rfl rfl rfl rfl rfl ?_
            refine s_off rfl rfl rfl rfl rfl ?_
            refine s_off rfl rfl rfl rfl rfl ?_
            refine s_rd (r_pickF rfl rfl) rfl ?_
            refine l_nil ?_
            exact b_to (hk57 false ()) (weak [0, 1] ⟨rfl, rfl, rfl, rfl, rfl, rfl, trivial⟩ ⟨rfl, rfl, trivial⟩)
          refine n_then ?_
          refine ref_cond rfl (fun hb58 => ?_) (fun hb58 => ?_)
          · refine ref_region ?_
            refine mv1 rfl rfl ?_
            refine s_rd (r_faddr (fo := 4) Tryz.underlying60 rfl rfl Tryz.sizeOf29 rfl) rfl ?_
            refine s_rd (r_cloadS Tryz.isAgg29 Tryz.sizeOf29 rfl (j := 1) rfl rfl rfl) rfl ?_
            refine pull fun out59 h_out59 => ?_
            refine s_st (s_call (ψ := fun (_ : Unit) => slv rT_api_Literal out59) (args := [.tmp 39, .tmp 41]) Tryz.call43 rfl (ref01_Insert_ok h_out59) ⟨arg rfl, arg rfl, trivial⟩ (fun _ _ _ _ h => h)) rfl (fun _ => ?_)
            refine as1 rfl rfl ?_
            refine as1 rfl rfl ?_
            refine l_nil (n_block (n_then (ref_region ?_)))
            refine mv1 rfl rfl ?_
            refine s_rd (r_add rfl rfl) rfl ?_
            refine as1 rfl rfl ?_
            refine b_let (f := iv .i64) (t := 7) rfl fun i60 => ?_
            refine l_nil ?_
            exact goB () (weak [0] ⟨rfl, rfl, rfl, rfl, trivial⟩ ⟨rfl, trivial⟩)
          refine ref_skip (n_block (n_then (ref_region ?_)))
          refine mv1 rfl rfl ?_
          refine s_rd (r_add rfl rfl) rfl ?_
          refine as1 rfl rfl ?_
          refine b_let (f := iv .i64) (t := 7) rfl fun i61 => ?_
          refine l_nil ?_
          exact goB () (weak [0] ⟨rfl, rfl, rfl, rfl, trivial⟩ ⟨rfl, trivial⟩)
        refine ref_exit (x_then ?_)
        exact brkB () (weak [0] ⟨rfl, rfl, rfl, trivial⟩ ⟨rfl, trivial⟩)
      refine n_block ?_
      exact goB () (weak [0] ⟨rfl, rfl, rfl, trivial⟩ ⟨rfl, trivial⟩)
    refine ref_exit (x_then ?_)
    exact brkB () (weak [] ⟨rfl, trivial⟩ trivial)
  refine n_then (ref_seq (ref_region ?_))
  refine mv1 rfl rfl ?_
  refine as1 rfl rfl ?_
  refine l_nil (n_then (ref_ret ?_))
  exact fin1 (.inl rfl) () [] rfl trivial rfl (rv_tmp rfl)

/-! slices.Index[[]deliberation/api.Literal,deliberation/api.Literal] -/
noncomputable def slices_Index_api_Literal_api_Literal_l1 (s_0 : (List T_api_Literal)) (v_1 : T_api_Literal) (s7 : Int) : Option (Sum ((Sum (Int) (Unit))) (Int)) :=
  bif decide (s7 < (s_0.length : Int)) then
    Option.bind (idxM s_0 s7) fun t10 =>
    bif decide (v_1 = t10) then
      some (Sum.inl (Sum.inl s7))
    else
      some (Sum.inr (iadd .i64 s7 1))
  else
    some (Sum.inl (Sum.inr ()))

noncomputable def slices_Index_api_Literal_api_Literal_m (s_0 : (List T_api_Literal)) (v_1 : T_api_Literal) : Option (Int) :=
  Option.bind (loopC (slices_Index_api_Literal_api_Literal_l1 s_0 v_1) 0) (sumK (fun a : Int => some a) fun q12 : Unit =>
    some (-1))

theorem slices_Index_api_Literal_api_Literal_ok {s_0 : (List T_api_Literal)} {v_1 : T_api_Literal} {r : Int} (hm : slices_Index_api_Literal_api_Literal_m s_0 v_1 = some r) :
    FnOk prog 88 [slv rT_api_Literal s_0, ag [bv v_1.Neg, sv v_1.Name]] [] (fun (x : Unit) => [iv .i64 r]) (fun (x : Unit) => []) := by
  refine fn_ok (fn := Tryz.f88) (N := 19) (res := fun r x => [iv .i64 r]) (Ω1 := fun r x => []) Tryz.func88 rfl rfl hm rfl (fun E hM => ?_)
  unfold slices_Index_api_Literal_api_Literal_m
  refine ref_seq (ref_region ?_)
  refine s_st (s_box (part_agO (ψs := [bv v_1.Neg, sv v_1.Name]) rfl ⟨.inl bv_at, .inl sv_at, trivial⟩)) rfl (fun b1 => ?_)
  refine as1 rfl rfl ?_
  refine l_nil (n_then (ref_seq (ref_seq (ref_region ?_))))
  refine mv1 rfl rfl ?_
  refine s_rd (r_len Tryz.underlying27 rfl) rfl ?_
  refine mv1 rfl rfl ?_
  refine l_nil (n_then ?_)
  refine ref_loopX (f := (slices_Index_api_Literal_api_Literal_l1 s_0 v_1)) (Γl := (fun (s7 : Int) (x8 : Unit) => [(0, slv rT_api_Literal s_0), (3, pv (ptr b1 0)), (7, iv .i64 (s_0.length : Int)), (8, iv .i64 s7)])) (Ωl := (fun (s7 : Int) (x8 : Unit) => [oc b1 [bv v_1.Neg, sv v_1.Name]])) (Γb := (fun (q12 : Unit) (y13 : Unit) => [])) (Ωb := (fun (q12 : Unit) (y13 : Unit) => [])) (kr := (fun a : Int => some a)) 0 () (weak [0] ⟨rfl, rfl, rfl, rfl, trivial⟩ ⟨rfl, trivial⟩) (fun s7 x8 => ?_) (fun q12 y13 => ?_)
  · unfold slices_Index_api_Literal_api_Literal_l1
    refine ref_seq (ref_region ?_)
    refine s_rd (r_lss rfl rfl) rfl ?_
    refine l_nil (n_then (ref_seq ?_))
    refine ref_cond rfl (fun hb9 => ?_) (fun hb9 => ?_)
    · refine ref_skip (n_then (ref_seq (ref_block (ref_seq (ref_region ?_)))))
      refine mv1 rfl rfl ?_
      refine as1 rfl rfl ?_
      refine l_nil (n_then (ref_seq ?_))
      refine ref_draw [0, 1, 2, 3, 4, 5] rfl (by kernel_rfl) (fun hok => ?_)
      refine a_rd (i := 0) hok rfl (by kernel_rfl) rfl (r_cloadS Tryz.isAgg29 Tryz.sizeOf29 rfl (j := 0) rfl rfl rfl) rfl ?_
      refine a_rd (i := 1) hok rfl (by kernel_rfl) rfl (r_move rfl) rfl ?_
      refine a_rd (i := 2) hok rfl (by kernel_rfl) rfl (r_move rfl) rfl ?_
      refine pull fun t10 h_t10 => ?_
      refine a_rd (i := 3) hok rfl (by kernel_rfl) rfl (r_index h_t10 Tryz.underlying27 el_29 rfl rfl) rfl ?_
      refine a_rd (i := 4) hok rfl (by kernel_rfl) rfl (r_load el_29 rfl) rfl ?_
      refine a_rd (i := 5) hok rfl (by kernel_rfl) rfl (r_steql (u := v_1) (v := t10) eq_29 rfl rfl rfl rfl) rfl ?_
      refine a_fin hok (by kernel_rfl) ?_
      refine n_then ?_
      refine ref_cond rfl (fun hb11 => ?_) (fun hb11 => ?_)
      · refine ref_seq (ref_region ?_)
        refine mv1 rfl rfl ?_
        refine as1 rfl rfl ?_
        refine l_nil (n_then (ref_ret (r_block (r_then ?_))))
        refine retX ?_
        refine r_block (r_then ?_)
        exact fin1 (.inl rfl) () [] rfl trivial rfl (rv_tmp rfl)
      refine ref_skip (n_block (n_then (ref_region ?_)))
      refine s_rd (r_add rfl rfl) rfl ?_
      refine mv1 rfl rfl ?_
      refine l_nil ?_
      exact goX () (weak [0] ⟨rfl, rfl, rfl, rfl, trivial⟩ ⟨rfl, trivial⟩)
    refine ref_exit (x_then ?_)
    exact brkX () (weak [] trivial trivial)
  refine n_then (ref_seq (ref_region ?_))
  refine as1 rfl rfl ?_
  refine l_nil (n_then (ref_ret ?_))
  exact fin1 (.inl rfl) () [] rfl trivial rfl (rv_tmp rfl)

/-! slices.Contains[[]deliberation/api.Literal,deliberation/api.Literal] -/
noncomputable def slices_Contains_api_Literal_api_Literal_m (s_0 : (List T_api_Literal)) (v_1 : T_api_Literal) : Option (Bool) :=
  Option.bind (slices_Index_api_Literal_api_Literal_m s_0 v_1) fun t2 =>
  letM (decide (t2 ≥ 0)) fun t3 =>
  some t3

theorem slices_Contains_api_Literal_api_Literal_ok {s_0 : (List T_api_Literal)} {v_1 : T_api_Literal} {r : Bool} (hm : slices_Contains_api_Literal_api_Literal_m s_0 v_1 = some r) :
    FnOk prog 58 [slv rT_api_Literal s_0, ag [bv v_1.Neg, sv v_1.Name]] [] (fun (x : Unit) => [bv r]) (fun (x : Unit) => []) := by
  refine fn_ok (fn := Tryz.f58) (N := 9) (res := fun r x => [bv r]) (Ω1 := fun r x => []) Tryz.func58 rfl rfl hm rfl (fun E hM => ?_)
  unfold slices_Contains_api_Literal_api_Literal_m
  refine ref_seq (ref_region ?_)
  refine s_st (s_box (part_agO (ψs := [bv v_1.Neg, sv v_1.Name]) rfl ⟨.inl bv_at, .inl sv_at, trivial⟩)) rfl (fun b1 => ?_)
  refine as1 rfl rfl ?_
  refine l_nil (n_then (ref_seq (ref_region ?_)))
  refine mv1 rfl rfl ?_
  refine s_rd (r_cloadS Tryz.isAgg29 Tryz.sizeOf29 rfl (j := 0) rfl rfl rfl) rfl ?_
  refine pull fun t2 h_t2 => ?_
  refine s_st (s_call (ψ := fun (_ : Unit) => iv .i64 t2) (args := [.tmp 5, .tmp 6]) Tryz.call88 rfl (slices_Index_api_Literal_api_Literal_ok h_t2) ⟨arg rfl, arg rfl, trivial⟩ (fun _ _ _ _ h => h)) rfl (fun _ => ?_)
  refine s_rd (r_geq rfl rfl) rfl ?_
  refine as1 rfl rfl ?_
  refine b_let (f := bv) (t := 4) rfl fun t3 => ?_
  refine l_nil (n_then (ref_ret ?_))
  exact fin1 (.inl rfl) () [] rfl trivial rfl (rv_tmp rfl)

/-! deliberation/literal.Has -/
noncomputable def literal_Has_m (l_0 : (List T_api_Literal)) (x_1 : T_api_Literal) : Option (Bool) :=
  Option.bind (slices_Contains_api_Literal_api_Literal_m l_0 x_1) fun t2 =>
  some t2

theorem literal_Has_ok {l_0 : (List T_api_Literal)} {x_1 : T_api_Literal} {r : Bool} (hm : literal_Has_m l_0 x_1 = some r) :
    FnOk prog 32 [slv rT_api_Literal l_0, ag [bv x_1.Neg, sv x_1.Name]] [] (fun (x : Unit) => [bv r]) (fun (x : Unit) => []) := by
  refine fn_ok (fn := Tryz.f32) (N := 8) (res := fun r x => [bv r]) (Ω1 := fun r x => []) Tryz.func32 rfl rfl hm rfl (fun E hM => ?_)
  unfold literal_Has_m
  refine ref_seq (ref_region ?_)
  refine s_st (s_box (part_agO (ψs := [bv x_1.Neg, sv x_1.Name]) rfl ⟨.inl bv_at, .inl sv_at, trivial⟩)) rfl (fun b1 => ?_)
  refine as1 rfl rfl ?_
  refine l_nil (n_then (ref_seq (ref_region ?_)))
  refine mv1 rfl rfl ?_
  refine s_rd (r_cloadS Tryz.isAgg29 Tryz.sizeOf29 rfl (j := 0) rfl rfl rfl) rfl ?_
  refine pull fun t2 h_t2 => ?_
  refine s_st (s_call (ψ := fun (_ : Unit) => bv t2) (args := [.tmp 5, .tmp 6]) Tryz.call58 rfl (slices_Contains_api_Literal_api_Literal_ok h_t2) ⟨arg rfl, arg rfl, trivial⟩ (fun _ _ _ _ h => h)) rfl (fun _ => ?_)
  refine as1 rfl rfl ?_
  refine l_nil (n_then (ref_ret ?_))
  exact fin1 (.inl rfl) () [] rfl trivial rfl (rv_tmp rfl)

/-! deliberation/strict.Derives -/
noncomputable def strict_Derives_m (b_0 : T_api_Base) (l_1 : (List T_api_Literal)) (x_2 : T_api_Literal) : Option (Bool) :=
  Option.bind (strict_Closure_m b_0 l_1) fun t3 =>
  Option.bind (literal_Has_m t3 x_2) fun t4 =>
  some t4

theorem strict_Derives_ok {b_0 : T_api_Base} {l_1 : (List T_api_Literal)} {x_2 : T_api_Literal} {r : Bool} (hm : strict_Derives_m b_0 l_1 x_2 = some r) :
    FnOk prog 15 [ag [slv rT_api_Premise b_0.Premises, slv rT_api_Rule b_0.Rules, slv rT_api_Promotion b_0.Promotions], slv rT_api_Literal l_1, ag [bv x_2.Neg, sv x_2.Name]] [] (fun (x : Unit) => [bv r]) (fun (x : Unit) => []) := by
  refine fn_ok (fn := Tryz.f15) (N := 12) (res := fun r x => [bv r]) (Ω1 := fun r x => []) Tryz.func15 rfl rfl hm rfl (fun E hM => ?_)
  unfold strict_Derives_m
  refine ref_seq (ref_region ?_)
  refine s_st (s_box (part_agO (ψs := [slv rT_api_Premise b_0.Premises, slv rT_api_Rule b_0.Rules, slv rT_api_Promotion b_0.Promotions]) rfl ⟨.inl slv_at, .inl slv_at, .inl slv_at, trivial⟩)) rfl (fun b1 => ?_)
  refine s_st (s_box (part_agO (ψs := [bv x_2.Neg, sv x_2.Name]) rfl ⟨.inl bv_at, .inl sv_at, trivial⟩)) rfl (fun b2 => ?_)
  refine as1 rfl rfl ?_
  refine l_nil (n_then (ref_seq ?_))
  refine ref_draw [0, 1, 3] rfl (by kernel_rfl) (fun hok => ?_)
  refine a_rd (i := 0) hok rfl (by kernel_rfl) rfl (r_cloadS Tryz.isAgg26 Tryz.sizeOf26 rfl (j := 0) rfl rfl rfl) rfl ?_
  refine a_rd (i := 1) hok rfl (by kernel_rfl) rfl (r_move rfl) rfl ?_
  refine a_rd (i := 3) hok rfl (by kernel_rfl) rfl (r_cloadS Tryz.isAgg29 Tryz.sizeOf29 rfl (j := 1) rfl rfl rfl) rfl ?_
  refine pull fun t3 h_t3 => ?_
  refine a_next hok 2 [] (by kernel_rfl) ?_ trivial
  refine a_st (i := 2) hok rfl rfl (s_call (ψ := fun (_ : Unit) => slv rT_api_Literal t3) (args := [.tmp 7, .tmp 8]) Tryz.call13 rfl (strict_Closure_ok h_t3) ⟨arg rfl, arg rfl, trivial⟩ (fun _ _ _ _ h => h)) (by intro _ h; cases h; rfl) (fun _ => ⟨⟨⟨rfl, rfl⟩, trivial⟩, ⟨trivial, ⟨trivial, trivial⟩⟩⟩) (fun _ => ?_)
  refine pull fun t4 h_t4 => ?_
  refine a_next hok 4 [] (by kernel_rfl) ?_ trivial
  refine a_st (i := 4) hok rfl rfl (s_call (ψ := fun (_ : Unit) => bv t4) (args := [.tmp 9, .tmp 10]) Tryz.call32 rfl (literal_Has_ok h_t4) ⟨arg rfl, arg rfl, trivial⟩ (fun _ _ _ _ h => h)) (by intro _ h; cases h; rfl) (fun _ => ⟨trivial, ⟨trivial, ⟨⟨⟨rfl, rfl⟩, trivial⟩, trivial⟩⟩⟩) (fun _ => ?_)
  refine a_next hok 5 [] (by kernel_rfl) ?_ trivial
  refine a_st (i := 5) hok rfl rfl (St.ofRd (r_assign rfl)) (by intro _ h; cases h; rfl) (fun _ => ⟨trivial, ⟨trivial, ⟨trivial, trivial⟩⟩⟩) (fun _ => ?_)
  refine a_fin hok (by kernel_rfl) ?_
  refine b_of (nrm [oc b1 [slv rT_api_Premise b_0.Premises, slv rT_api_Rule b_0.Rules, slv rT_api_Promotion b_0.Promotions], oc b2 [bv x_2.Neg, sv x_2.Name]] rfl) ?_
  refine n_then (ref_ret ?_)
  exact fin1 (.inl rfl) () [] rfl trivial rfl (rv_tmp rfl)

/-! deliberation/deliberationref06.Derives -/
noncomputable def ref06_Derives_m (b_0 : T_api_Base) (l_1 : (List T_api_Literal)) (x_2 : T_api_Literal) : Option (Bool) :=
  Option.bind (ref06_Closure_m b_0 l_1) fun t3 =>
  Option.bind (ref01_Has_m t3 x_2) fun t4 =>
  some t4

theorem ref06_Derives_ok {b_0 : T_api_Base} {l_1 : (List T_api_Literal)} {x_2 : T_api_Literal} {r : Bool} (hm : ref06_Derives_m b_0 l_1 x_2 = some r) :
    FnOk prog 16 [ag [slv rT_api_Premise b_0.Premises, slv rT_api_Rule b_0.Rules, slv rT_api_Promotion b_0.Promotions], slv rT_api_Literal l_1, ag [bv x_2.Neg, sv x_2.Name]] [] (fun (x : Unit) => [bv r]) (fun (x : Unit) => []) := by
  refine fn_ok (fn := Tryz.f16) (N := 12) (res := fun r x => [bv r]) (Ω1 := fun r x => []) Tryz.func16 rfl rfl hm rfl (fun E hM => ?_)
  unfold ref06_Derives_m
  refine ref_seq (ref_region ?_)
  refine s_st (s_box (part_agO (ψs := [slv rT_api_Premise b_0.Premises, slv rT_api_Rule b_0.Rules, slv rT_api_Promotion b_0.Promotions]) rfl ⟨.inl slv_at, .inl slv_at, .inl slv_at, trivial⟩)) rfl (fun b1 => ?_)
  refine s_st (s_box (part_agO (ψs := [bv x_2.Neg, sv x_2.Name]) rfl ⟨.inl bv_at, .inl sv_at, trivial⟩)) rfl (fun b2 => ?_)
  refine as1 rfl rfl ?_
  refine l_nil (n_then (ref_seq ?_))
  refine ref_draw [0, 1, 3] rfl (by kernel_rfl) (fun hok => ?_)
  refine a_rd (i := 0) hok rfl (by kernel_rfl) rfl (r_cloadS Tryz.isAgg26 Tryz.sizeOf26 rfl (j := 0) rfl rfl rfl) rfl ?_
  refine a_rd (i := 1) hok rfl (by kernel_rfl) rfl (r_move rfl) rfl ?_
  refine a_rd (i := 3) hok rfl (by kernel_rfl) rfl (r_cloadS Tryz.isAgg29 Tryz.sizeOf29 rfl (j := 1) rfl rfl rfl) rfl ?_
  refine pull fun t3 h_t3 => ?_
  refine a_next hok 2 [] (by kernel_rfl) ?_ trivial
  refine a_st (i := 2) hok rfl rfl (s_call (ψ := fun (_ : Unit) => slv rT_api_Literal t3) (args := [.tmp 7, .tmp 8]) Tryz.call14 rfl (ref06_Closure_ok h_t3) ⟨arg rfl, arg rfl, trivial⟩ (fun _ _ _ _ h => h)) (by intro _ h; cases h; rfl) (fun _ => ⟨⟨⟨rfl, rfl⟩, trivial⟩, ⟨trivial, ⟨trivial, trivial⟩⟩⟩) (fun _ => ?_)
  refine pull fun t4 h_t4 => ?_
  refine a_next hok 4 [] (by kernel_rfl) ?_ trivial
  refine a_st (i := 4) hok rfl rfl (s_call (ψ := fun (_ : Unit) => bv t4) (args := [.tmp 9, .tmp 10]) Tryz.call42 rfl (ref01_Has_ok h_t4) ⟨arg rfl, arg rfl, trivial⟩ (fun _ _ _ _ h => h)) (by intro _ h; cases h; rfl) (fun _ => ⟨trivial, ⟨trivial, ⟨⟨⟨rfl, rfl⟩, trivial⟩, trivial⟩⟩⟩) (fun _ => ?_)
  refine a_next hok 5 [] (by kernel_rfl) ?_ trivial
  refine a_st (i := 5) hok rfl rfl (St.ofRd (r_assign rfl)) (by intro _ h; cases h; rfl) (fun _ => ⟨trivial, ⟨trivial, ⟨trivial, trivial⟩⟩⟩) (fun _ => ?_)
  refine a_fin hok (by kernel_rfl) ?_
  refine b_of (nrm [oc b1 [slv rT_api_Premise b_0.Premises, slv rT_api_Rule b_0.Rules, slv rT_api_Promotion b_0.Promotions], oc b2 [bv x_2.Neg, sv x_2.Name]] rfl) ?_
  refine n_then (ref_ret ?_)
  exact fin1 (.inl rfl) () [] rfl trivial rfl (rv_tmp rfl)

/-! deliberation/strict.Axioms -/
noncomputable def strict_Axioms_l1 (b_0 : T_api_Base) (s18 : Int × (List T_api_Literal)) : Option (Sum ((List T_api_Literal)) (Int × (List T_api_Literal))) :=
  bif decide (s18.1 < (b_0.Premises.length : Int)) then
    Option.bind (idxM b_0.Premises s18.1) fun t21 =>
    bif t21.Kind == 1 then
      Option.bind (appM 24 s18.2 [t21.Literal]) fun out24 =>
      some (Sum.inr (iadd .i64 s18.1 1, out24))
    else
      some (Sum.inr (iadd .i64 s18.1 1, s18.2))
  else
    some (Sum.inl s18.2)

noncomputable def strict_Axioms_m (b_0 : T_api_Base) : Option (List T_api_Literal) :=
  Option.bind (loopC (strict_Axioms_l1 b_0) (0, [])) fun q26 : (List T_api_Literal) =>
  Option.bind (literal_Normal_m q26) fun t28 =>
  some t28

theorem strict_Axioms_ok {b_0 : T_api_Base} {r : List T_api_Literal} (hm : strict_Axioms_m b_0 = some r) :
    FnOk prog 18 [ag [slv rT_api_Premise b_0.Premises, slv rT_api_Rule b_0.Rules, slv rT_api_Promotion b_0.Promotions]] [] (fun (x : Unit) => [slv rT_api_Literal r]) (fun (x : Unit) => []) := by
  refine fn_ok (fn := Tryz.f18) (N := 24) (res := fun r x => [slv rT_api_Literal r]) (Ω1 := fun r x => []) Tryz.func18 rfl rfl hm rfl (fun E hM => ?_)
  unfold strict_Axioms_m
  refine ref_seq (ref_region ?_)
  refine s_st (s_box (part_agO (ψs := [slv rT_api_Premise b_0.Premises, slv rT_api_Rule b_0.Rules, slv rT_api_Promotion b_0.Promotions]) rfl ⟨.inl slv_at, .inl slv_at, .inl slv_at, trivial⟩)) rfl (fun b1 => ?_)
  refine as1 rfl rfl ?_
  refine l_nil (n_then (ref_seq (ref_region ?_)))
  refine as1 rfl rfl ?_
  refine l_nil (n_then (ref_seq (ref_seq (ref_region ?_))))
  refine s_rd (r_faddr (fo := 0) Tryz.underlying26 rfl rfl Tryz.sizeOf22 rfl) rfl ?_
  refine s_rd (r_cload Tryz.isAgg22 rfl (j := 0) rfl rfl) rfl ?_
  refine s_rd (r_len Tryz.underlying22 rfl) rfl ?_
  refine mv1 rfl rfl ?_
  refine l_nil (n_then ?_)
  refine b_of (own_nil rT_api_Literal) ?_
  refine ref_loopB (f := (strict_Axioms_l1 b_0)) (Γl := (fun (s18 : Int × (List T_api_Literal)) (x19 : (Value × List Nat)) => [(3, pv x19.1), (7, slv rT_api_Premise b_0.Premises), (8, iv .i64 (b_0.Premises.length : Int)), (9, iv .i64 s18.1)])) (Ωl := (fun (s18 : Int × (List T_api_Literal)) (x19 : (Value × List Nat)) => [oa rT_api_Literal x19.1 x19.2 s18.2])) (Γb := (fun (q26 : (List T_api_Literal)) (y27 : (Value × List Nat)) => [(3, pv y27.1)])) (Ωb := (fun (q26 : (List T_api_Literal)) (y27 : (Value × List Nat)) => [oa rT_api_Literal y27.1 y27.2 q26])) (0, []) ((.slice none 0 0), []) (weak [1] ⟨rfl, rfl, rfl, rfl, trivial⟩ ⟨rfl, trivial⟩) (fun s18 x19 => ?_) (fun q26 y27 => ?_)
  · unfold strict_Axioms_l1
    refine ref_seq (ref_region ?_)
    refine s_rd (r_lss rfl rfl) rfl ?_
    refine l_nil (n_then (ref_seq ?_))
    refine ref_cond rfl (fun hb20 => ?_) (fun hb20 => ?_)
    · refine ref_skip (n_then (ref_seq (ref_block (ref_seq (ref_region ?_)))))
      refine pull fun t21 h_t21 => ?_
      refine s_rd (r_index h_t21 Tryz.underlying22 el_58 rfl rfl) rfl ?_
      refine s_rd (r_load el_58 rfl) rfl ?_
      refine s_st (s_alloc zt_58) rfl (fun b22 => ?_)
      refine s_st0 (s_cstore (out := [bv t21.Literal.Neg, sv t21.Literal.Name, iv .i64 t21.Kind, iv .i64 t21.Rank, sv t21.Source]) Tryz.sizeOf58 rfl (j := 1) rfl (part_agO (ψs := [bv t21.Literal.Neg, sv t21.Literal.Name, iv .i64 t21.Kind, iv .i64 t21.Rank, sv t21.Source]) rfl ⟨.inl bv_at, .inl sv_at, .inl iv_at, .inl iv_at, .inl sv_at, trivial⟩) rfl rfl rfl) (fun _ => ?_)
      refine l_nil (n_then (ref_seq (ref_region ?_)))
      refine s_rd (r_faddr (fo := 2) Tryz.underlying58 rfl rfl Tryz.sizeOf3 rfl) rfl ?_
      refine s_rd (r_cload Tryz.isAgg3 rfl (j := 1) rfl rfl) rfl ?_
      refine s_rd (r_eql rfl rfl) rfl ?_
      refine l_nil (n_then ?_)
      refine ref_cond rfl (fun hb23 => ?_) (fun hb23 => ?_)
      · refine ref_region ?_
        refine mv1 rfl rfl ?_
        refine s_rd (r_faddr (fo := 0) Tryz.underlying58 rfl rfl Tryz.sizeOf29 rfl) rfl ?_
        refine s_rd (r_cloadS Tryz.isAgg29 Tryz.sizeOf29 rfl (j := 1) rfl rfl rfl) rfl ?_
        refine s_st (s_bslice (xs := [.tmp 18]) (ds := [t21.Literal]) Tryz.underlying27 el_29 rfl (Nat.le_of_ble_eq_true rfl) ⟨(part_agO (ψs := [bv t21.Literal.Neg, sv t21.Literal.Name]) rfl ⟨.inl bv_at, .inl sv_at, trivial⟩), trivial⟩) rfl (fun _ => ?_)
        refine pull fun out24 h_out24 => ?_
        refine s_st (s_append h_out24 Tryz.underlying27 el_29 rfl (j := 0) rfl rfl) rfl (fun o25 => ?_)
        refine as1 rfl rfl ?_
        refine l_nil ?_
        refine b_of (nrm [oa rT_api_Literal o25.1 o25.2 out24, oc b22 [bv t21.Literal.Neg, sv t21.Literal.Name, iv .i64 t21.Kind, iv .i64 t21.Rank, sv t21.Source]] rfl) ?_
        refine n_block (n_then (ref_region ?_))
        refine s_rd (r_add rfl rfl) rfl ?_
        refine mv1 rfl rfl ?_
        refine l_nil ?_
        exact goB o25 (weak [0] ⟨rfl, rfl, rfl, rfl, trivial⟩ ⟨rfl, trivial⟩)
      refine ref_skip (n_block (n_then (ref_region ?_)))
      refine s_rd (r_add rfl rfl) rfl ?_
      refine mv1 rfl rfl ?_
      refine l_nil ?_
      exact goB x19 (weak [0] ⟨rfl, rfl, rfl, rfl, trivial⟩ ⟨rfl, trivial⟩)
    refine ref_exit (x_then ?_)
    exact brkB x19 (weak [0] ⟨rfl, trivial⟩ ⟨rfl, trivial⟩)
  refine n_then (ref_seq (ref_region ?_))
  refine mv1 rfl rfl ?_
  refine b_of (frzL [3, 22] (j := 0) rfl ⟨rfl, rfl, trivial⟩) ?_
  refine pull fun t28 h_t28 => ?_
  refine s_st (s_call (ψ := fun (_ : Unit) => slv rT_api_Literal t28) (args := [.tmp 22]) Tryz.call40 rfl (literal_Normal_ok h_t28) ⟨arg rfl, trivial⟩ (fun _ _ _ _ h => h)) rfl (fun _ => ?_)
  refine as1 rfl rfl ?_
  refine l_nil (n_then (ref_ret ?_))
  exact fin1 (.inl rfl) () [] rfl trivial rfl (rv_tmp rfl)

/-! deliberation/deliberationref06.Axioms -/
noncomputable def ref06_Axioms_l1 (b_0 : T_api_Base) (s16 : (List T_api_Literal) × Int) : Option (Sum ((List T_api_Literal)) ((List T_api_Literal) × Int)) :=
  bif decide (s16.2 < (b_0.Premises.length : Int)) then
    Option.bind (idxM b_0.Premises s16.2) fun t19 =>
    bif t19.Kind == 1 then
      Option.bind (idxM b_0.Premises s16.2) fun t21 =>
      Option.bind (ref01_Insert_m s16.1 t21.Literal) fun out22 =>
      letM (iadd .i64 s16.2 1) fun i23 =>
      some (Sum.inr (out22, i23))
    else
      letM (iadd .i64 s16.2 1) fun i24 =>
      some (Sum.inr (s16.1, i24))
  else
    some (Sum.inl s16.1)

noncomputable def ref06_Axioms_m (b_0 : T_api_Base) : Option (List T_api_Literal) :=
  Option.bind (loopC (ref06_Axioms_l1 b_0) ([], 0)) fun q25 : (List T_api_Literal) =>
  some q25

theorem ref06_Axioms_ok {b_0 : T_api_Base} {r : List T_api_Literal} (hm : ref06_Axioms_m b_0 = some r) :
    FnOk prog 19 [ag [slv rT_api_Premise b_0.Premises, slv rT_api_Rule b_0.Rules, slv rT_api_Promotion b_0.Promotions]] [] (fun (x : Unit) => [slv rT_api_Literal r]) (fun (x : Unit) => []) := by
  refine fn_ok (fn := Tryz.f19) (N := 28) (res := fun r x => [slv rT_api_Literal r]) (Ω1 := fun r x => []) Tryz.func19 rfl rfl hm rfl (fun E hM => ?_)
  unfold ref06_Axioms_m
  refine ref_seq (ref_region ?_)
  refine s_st (s_box (part_agO (ψs := [slv rT_api_Premise b_0.Premises, slv rT_api_Rule b_0.Rules, slv rT_api_Promotion b_0.Promotions]) rfl ⟨.inl slv_at, .inl slv_at, .inl slv_at, trivial⟩)) rfl (fun b1 => ?_)
  refine as1 rfl rfl ?_
  refine l_nil (n_then (ref_seq (ref_region ?_)))
  refine as1 rfl rfl ?_
  refine l_nil (n_then (ref_seq (ref_seq (ref_region ?_))))
  refine as1 rfl rfl ?_
  refine l_nil (n_then ?_)
  refine b_of (sl_nil rT_api_Literal (t := 3) rfl) ?_
  refine ref_loopB (f := (ref06_Axioms_l1 b_0)) (Γl := (fun (s16 : (List T_api_Literal) × Int) (x17 : Unit) => [(1, pv (ptr b1 0)), (3, slv rT_api_Literal s16.1), (4, iv .i64 s16.2)])) (Ωl := (fun (s16 : (List T_api_Literal) × Int) (x17 : Unit) => [oc b1 [slv rT_api_Premise b_0.Premises, slv rT_api_Rule b_0.Rules, slv rT_api_Promotion b_0.Promotions]])) (Γb := (fun (q25 : (List T_api_Literal)) (y26 : Unit) => [(3, slv rT_api_Literal q25)])) (Ωb := (fun (q25 : (List T_api_Literal)) (y26 : Unit) => [])) ([], 0) () (weak [0] ⟨rfl, rfl, rfl, trivial⟩ ⟨rfl, trivial⟩) (fun s16 x17 => ?_) (fun q25 y26 => ?_)
  · unfold ref06_Axioms_l1
    refine ref_seq (ref_seq (ref_region ?_))
    refine mv1 rfl rfl ?_
    refine s_rd (r_faddr (fo := 0) Tryz.underlying26 rfl rfl Tryz.sizeOf22 rfl) rfl ?_
    refine s_rd (r_cload Tryz.isAgg22 rfl (j := 0) rfl rfl) rfl ?_
    refine s_rd (r_len Tryz.underlying22 rfl) rfl ?_
    refine s_rd (r_lss rfl rfl) rfl ?_
    refine l_nil (n_then ?_)
    refine ref_cond rfl (fun hb18 => ?_) (fun hb18 => ?_)
    · refine ref_skip (n_then (ref_seq (ref_block (ref_seq (ref_region ?_)))))
      refine s_rd (r_faddr (fo := 0) Tryz.underlying26 rfl rfl Tryz.sizeOf22 rfl) rfl ?_
      refine s_rd (r_cload Tryz.isAgg22 rfl (j := 0) rfl rfl) rfl ?_
      refine mv1 rfl rfl ?_
      refine pull fun t19 h_t19 => ?_
      refine s_rd (r_index h_t19 Tryz.underlying22 el_58 rfl rfl) rfl ?_
      refine s_rd (r_fea (fo := 2) (ρ := rT_api_Premise) (y := t19) (ρ' := (rI .i64)) (z := t19.Kind) Tryz.underlying58 rfl rfl Tryz.sizeOf3 rfl rfl rfl) rfl ?_
      refine s_rd (r_load el_3 rfl) rfl ?_
      refine s_rd (r_eql rfl rfl) rfl ?_
      refine l_nil (n_then ?_)
      refine ref_cond rfl (fun hb20 => ?_) (fun hb20 => ?_)
      · refine ref_region ?_
        refine mv1 rfl rfl ?_
        refine s_rd (r_faddr (fo := 0) Tryz.underlying26 rfl rfl Tryz.sizeOf22 rfl) rfl ?_
        refine s_rd (r_cload Tryz.isAgg22 rfl (j := 0) rfl rfl) rfl ?_
        refine mv1 rfl rfl ?_
        refine pull fun t21 h_t21 => ?_
        refine s_rd (r_index h_t21 Tryz.underlying22 el_58 rfl rfl) rfl ?_
        refine s_rd (r_fea (fo := 0) (ρ := rT_api_Premise) (y := t21) (ρ' := rT_api_Literal) (z := t21.Literal) Tryz.underlying58 rfl rfl Tryz.sizeOf29 rfl rfl rfl) rfl ?_
        refine s_rd (r_load el_29 rfl) rfl ?_
        refine pull fun out22 h_out22 => ?_
        refine s_st (s_call (ψ := fun (_ : Unit) => slv rT_api_Literal out22) (args := [.tmp 19, .tmp 25]) Tryz.call43 rfl (ref01_Insert_ok h_out22) ⟨arg rfl, arg rfl, trivial⟩ (fun _ _ _ _ h => h)) rfl (fun _ => ?_)
        refine as1 rfl rfl ?_
        refine l_nil (n_block (n_then (ref_region ?_)))
        refine mv1 rfl rfl ?_
        refine s_rd (r_add rfl rfl) rfl ?_
        refine as1 rfl rfl ?_
        refine b_let (f := iv .i64) (t := 4) rfl fun i23 => ?_
        refine l_nil ?_
        exact goB () (weak [0] ⟨rfl, rfl, rfl, trivial⟩ ⟨rfl, trivial⟩)
      refine ref_skip (n_block (n_then (ref_region ?_)))
      refine mv1 rfl rfl ?_
      refine s_rd (r_add rfl rfl) rfl ?_
      refine as1 rfl rfl ?_
      refine b_let (f := iv .i64) (t := 4) rfl fun i24 => ?_
      refine l_nil ?_
      exact goB () (weak [0] ⟨rfl, rfl, rfl, trivial⟩ ⟨rfl, trivial⟩)
    refine ref_exit (x_then ?_)
    exact brkB () (weak [] ⟨rfl, trivial⟩ trivial)
  refine n_then (ref_seq (ref_region ?_))
  refine mv1 rfl rfl ?_
  refine as1 rfl rfl ?_
  refine l_nil (n_then (ref_ret ?_))
  exact fin1 (.inl rfl) () [] rfl trivial rfl (rv_tmp rfl)

/-! deliberation/deliberationlaw06.one -/
noncomputable def law06_one_m  : Option (T_api_Base) :=
  some (T_api_Base.mk [] [(T_api_Rule.mk (ByteArray.mk #[115]) true 0 [(T_api_Literal.mk false (ByteArray.mk #[112])), (T_api_Literal.mk false (ByteArray.mk #[113]))] (T_api_Literal.mk false (ByteArray.mk #[114])))] [])

theorem law06_one_ok  {r : T_api_Base} (hm : law06_one_m  = some r) :
    FnOk prog 44 [] [] (fun (x : Unit) => [ag [slv rT_api_Premise r.Premises, slv rT_api_Rule r.Rules, slv rT_api_Promotion r.Promotions]]) (fun (x : Unit) => []) := by
  refine fn_ok (fn := Tryz.f44) (N := 14) (res := fun r x => [ag [slv rT_api_Premise r.Premises, slv rT_api_Rule r.Rules, slv rT_api_Promotion r.Promotions]]) (Ω1 := fun r x => []) Tryz.func44 rfl rfl hm rfl (fun E hM => ?_)
  unfold law06_one_m
  refine ref_seq (ref_region ?_)
  refine s_st (s_alloc zt_26) rfl (fun b1 => ?_)
  refine l_nil (n_then (ref_seq (ref_region ?_)))
  refine s_rd (r_build (ps := [(1, .const (.string (ByteArray.mk #[112])))]) (rs := [(1, [sv (ByteArray.mk #[112])])]) st_29 zs_29 ⟨rfl, (part_at rfl sv_at), trivial⟩ rfl rfl) rfl ?_
  refine s_rd (r_build (ps := [(1, .const (.string (ByteArray.mk #[113])))]) (rs := [(1, [sv (ByteArray.mk #[113])])]) st_29 zs_29 ⟨rfl, (part_at rfl sv_at), trivial⟩ rfl rfl) rfl ?_
  refine s_rd (r_build (ps := [(1, .const (.string (ByteArray.mk #[114])))]) (rs := [(1, [sv (ByteArray.mk #[114])])]) st_29 zs_29 ⟨rfl, (part_at rfl sv_at), trivial⟩ rfl rfl) rfl ?_
  refine s_st (s_alloc zt_29) rfl (fun b2 => ?_)
  refine s_st (s_alloc zt_29) rfl (fun b3 => ?_)
  refine s_st (s_alloc zt_29) rfl (fun b4 => ?_)
  refine s_st0 (s_cstore (out := [bv false, sv (ByteArray.mk #[112])]) Tryz.sizeOf29 rfl (j := 1) rfl (part_agO (ψs := [bv false, sv (ByteArray.mk #[112])]) rfl ⟨.inl bv_at, .inl sv_at, trivial⟩) rfl rfl rfl) (fun _ => ?_)
  refine s_st0 (s_cstore (out := [bv false, sv (ByteArray.mk #[113])]) Tryz.sizeOf29 rfl (j := 2) rfl (part_agO (ψs := [bv false, sv (ByteArray.mk #[113])]) rfl ⟨.inl bv_at, .inl sv_at, trivial⟩) rfl rfl rfl) (fun _ => ?_)
  refine s_st0 (s_cstore (out := [bv false, sv (ByteArray.mk #[114])]) Tryz.sizeOf29 rfl (j := 3) rfl (part_agO (ψs := [bv false, sv (ByteArray.mk #[114])]) rfl ⟨.inl bv_at, .inl sv_at, trivial⟩) rfl rfl rfl) (fun _ => ?_)
  refine l_nil ?_
  refine b_of (nrm [oc b1 [pv (.slice none 0 0), pv (.slice none 0 0), pv (.slice none 0 0)], oc b2 [bv false, sv (ByteArray.mk #[112])], oc b3 [bv false, sv (ByteArray.mk #[113])], oc b4 [bv false, sv (ByteArray.mk #[114])]] rfl) ?_
  refine n_then (ref_seq (ref_region ?_))
  refine s_rd (r_cloadS Tryz.isAgg29 Tryz.sizeOf29 rfl (j := 1) rfl rfl rfl) rfl ?_
  refine s_rd (r_cloadS Tryz.isAgg29 Tryz.sizeOf29 rfl (j := 2) rfl rfl rfl) rfl ?_
  refine s_st (s_bslice (xs := [.tmp 7, .tmp 8]) (ds := [(T_api_Literal.mk false (ByteArray.mk #[112])), (T_api_Literal.mk false (ByteArray.mk #[113]))]) Tryz.underlying27 el_29 rfl (Nat.le_of_ble_eq_true rfl) ⟨(part_agO (ψs := [bv false, sv (ByteArray.mk #[112])]) rfl ⟨.inl bv_at, .inl sv_at, trivial⟩), ⟨(part_agO (ψs := [bv false, sv (ByteArray.mk #[113])]) rfl ⟨.inl bv_at, .inl sv_at, trivial⟩), trivial⟩⟩) rfl (fun _ => ?_)
  refine s_rd (r_cloadS Tryz.isAgg29 Tryz.sizeOf29 rfl (j := 3) rfl rfl rfl) rfl ?_
  refine s_rd (r_build (ps := [(0, .const (.string (ByteArray.mk #[115]))), (1, .const (.bool true)), (3, .tmp 9), (4, .tmp 10)]) (rs := [(0, [sv (ByteArray.mk #[115])]), (1, [bv true]), (3, [slv rT_api_Literal [(T_api_Literal.mk false (ByteArray.mk #[112])), (T_api_Literal.mk false (ByteArray.mk #[113]))]]), (4, [bv false, sv (ByteArray.mk #[114])])]) st_60 zs_60 ⟨rfl, (part_at rfl sv_at), ⟨rfl, (part_at rfl bv_at), ⟨rfl, (part_at rfl slv_at), ⟨rfl, (part_agO (ψs := [bv false, sv (ByteArray.mk #[114])]) rfl ⟨.inl bv_at, .inl sv_at, trivial⟩), trivial⟩⟩⟩⟩ rfl rfl) rfl ?_
  refine s_st (s_bslice (xs := [.tmp 11]) (ds := [(T_api_Rule.mk (ByteArray.mk #[115]) true 0 [(T_api_Literal.mk false (ByteArray.mk #[112])), (T_api_Literal.mk false (ByteArray.mk #[113]))] (T_api_Literal.mk false (ByteArray.mk #[114])))]) Tryz.underlying23 el_60 rfl (Nat.le_of_ble_eq_true rfl) ⟨(part_agO (ψs := [sv (ByteArray.mk #[115]), bv true, iv .i64 0, slv rT_api_Literal [(T_api_Literal.mk false (ByteArray.mk #[112])), (T_api_Literal.mk false (ByteArray.mk #[113]))], bv false, sv (ByteArray.mk #[114])]) rfl ⟨.inl sv_at, .inl bv_at, .inl iv_at, .inl slv_at, .inl bv_at, .inl sv_at, trivial⟩), trivial⟩) rfl (fun _ => ?_)
  refine s_rd (r_build (ps := [(1, .tmp 12)]) (rs := [(1, [slv rT_api_Rule [(T_api_Rule.mk (ByteArray.mk #[115]) true 0 [(T_api_Literal.mk false (ByteArray.mk #[112])), (T_api_Literal.mk false (ByteArray.mk #[113]))] (T_api_Literal.mk false (ByteArray.mk #[114])))]])]) st_26 zs_26 ⟨rfl, (part_at rfl slv_at), trivial⟩ rfl rfl) rfl ?_
  refine s_st0 (s_cstore (out := [pv (.slice none 0 0), slv rT_api_Rule [(T_api_Rule.mk (ByteArray.mk #[115]) true 0 [(T_api_Literal.mk false (ByteArray.mk #[112])), (T_api_Literal.mk false (ByteArray.mk #[113]))] (T_api_Literal.mk false (ByteArray.mk #[114])))], pv (.slice none 0 0)]) Tryz.sizeOf26 rfl (j := 0) rfl (part_agO (ψs := [pv (.slice none 0 0), slv rT_api_Rule [(T_api_Rule.mk (ByteArray.mk #[115]) true 0 [(T_api_Literal.mk false (ByteArray.mk #[112])), (T_api_Literal.mk false (ByteArray.mk #[113]))] (T_api_Literal.mk false (ByteArray.mk #[114])))], pv (.slice none 0 0)]) rfl ⟨.inl (pv_at rfl), .inl slv_at, .inl (pv_at rfl), trivial⟩) rfl rfl rfl) (fun _ => ?_)
  refine l_nil (n_then (ref_ret ?_))
  refine b_of (ocW 0 [slv rT_api_Premise [], slv rT_api_Rule [(T_api_Rule.mk (ByteArray.mk #[115]) true 0 [(T_api_Literal.mk false (ByteArray.mk #[112])), (T_api_Literal.mk false (ByteArray.mk #[113]))] (T_api_Literal.mk false (ByteArray.mk #[114])))], slv rT_api_Promotion []] rfl ⟨nil_sl, imp_rfl, nil_sl, trivial⟩) ?_
  exact fin1 (.inl rfl) () [] rfl trivial rfl (rv_cell rfl (j := 0) rfl Tryz.isAgg26 Tryz.sizeOf26 rfl rfl)

/-! deliberation/rulebase.ranked -/
noncomputable def rulebase_ranked_m (n_0 : Int) : Option (Bool) :=
  bif decide (n_0 ≥ 0) then
    letM (decide (n_0 ≤ 9)) fun t1 =>
    some t1
  else
    some false

theorem rulebase_ranked_ok {n_0 : Int} {r : Bool} (hm : rulebase_ranked_m n_0 = some r) :
    FnOk prog 92 [iv .i64 n_0] [] (fun (x : Unit) => [bv r]) (fun (x : Unit) => []) := by
  refine fn_ok (fn := Tryz.f92) (N := 9) (res := fun r x => [bv r]) (Ω1 := fun r x => []) Tryz.func92 rfl rfl hm rfl (fun E hM => ?_)
  unfold rulebase_ranked_m
  refine ref_seq (ref_region ?_)
  refine as1 rfl rfl ?_
  refine l_nil (n_then (ref_seq (ref_region ?_)))
  refine mv1 rfl rfl ?_
  refine s_rd (r_geq rfl rfl) rfl ?_
  refine mv1 rfl rfl ?_
  refine b_split (t := 5) rfl (fun _ => ?_) (fun _ => ?_)
  · refine s_on rfl rfl rfl ?_
    refine mv1 rfl rfl ?_
    refine s_on rfl rfl rfl ?_
    refine s_rd (r_leq rfl rfl) rfl ?_
    refine s_rd (r_pickT rfl rfl) rfl ?_
    refine as1 rfl rfl ?_
    refine b_let (f := bv) (t := 2) rfl fun t1 => ?_
    refine l_nil (n_then (ref_ret ?_))
    exact fin1 (.inl rfl) () [] rfl trivial rfl (rv_tmp rfl)
  refine s_off rfl rfl rfl rfl rfl ?_
  refine s_off rfl rfl rfl rfl rfl ?_
  refine s_rd (r_pickF rfl rfl) rfl ?_
  refine as1 rfl rfl ?_
  refine l_nil (n_then (ref_ret ?_))
  exact fin1 (.inl rfl) () [] rfl trivial rfl (rv_tmp rfl)

/-! deliberation/literal.ValidName -/
noncomputable def literal_ValidName_l1 (s_0 : ByteArray) (s13 : Int) : Option (Sum ((Sum (Bool) (Unit))) (Int)) :=
  bif decide (s13 < (s_0.size : Int)) then
    Option.bind (sidxM s_0 s13) fun c16 =>
    joinM (fun j18 : Bool =>
        bif j18 then
          some (Sum.inr (iadd .i64 s13 1))
        else
          bif decide (s13 > 0) then
            bif decide (c16 ≥ 48) then
              bif decide (c16 ≤ 57) then
                some (Sum.inr (iadd .i64 s13 1))
              else
                bif c16 == 95 then
                  some (Sum.inr (iadd .i64 s13 1))
                else
                  some (Sum.inl (Sum.inl false))
            else
              bif c16 == 95 then
                some (Sum.inr (iadd .i64 s13 1))
              else
                some (Sum.inl (Sum.inl false))
          else
            some (Sum.inl (Sum.inl false))) fun k20 =>
    bif decide (c16 ≥ 97) then
      letM (decide (c16 ≤ 122)) fun t17 =>
      k20 t17
    else
      k20 false
  else
    some (Sum.inl (Sum.inr ()))

noncomputable def literal_ValidName_m (s_0 : ByteArray) : Option (Bool) :=
  bif (s_0.size : Int) == 0 then
    some false
  else
    bif decide ((s_0.size : Int) > 12) then
      some false
    else
      Option.bind (loopC (literal_ValidName_l1 s_0) 0) (sumK (fun a : Bool => some a) fun q24 : Unit =>
        some true)

theorem literal_ValidName_ok {s_0 : ByteArray} {r : Bool} (hm : literal_ValidName_m s_0 = some r) :
    FnOk prog 97 [sv s_0] [] (fun (x : Unit) => [bv r]) (fun (x : Unit) => []) := by
  refine fn_ok (fn := Tryz.f97) (N := 44) (res := fun r x => [bv r]) (Ω1 := fun r x => []) Tryz.func97 rfl rfl hm rfl (fun E hM => ?_)
  unfold literal_ValidName_m
  refine ref_seq (ref_region ?_)
  refine as1 rfl rfl ?_
  refine l_nil (n_then (ref_seq (ref_seq (ref_region ?_))))
  refine mv1 rfl rfl ?_
  refine s_rd (r_slen Tryz.underlying9 rfl) rfl ?_
  refine s_rd (r_eql rfl rfl) rfl ?_
  refine mv1 rfl rfl ?_
  refine b_split (t := 8) rfl (fun _ => ?_) (fun _ => ?_)
  · refine s_off rfl rfl rfl rfl rfl ?_
    refine s_off rfl rfl rfl rfl rfl ?_
    refine s_off rfl rfl rfl rfl rfl ?_
    refine s_rd (r_pickT rfl rfl) rfl ?_
    refine l_nil (n_then ?_)
    refine ref_condT rfl rfl ?_
    refine ref_seq (ref_region ?_)
    refine as1 rfl rfl ?_
    refine l_nil (n_then (ref_ret (r_then ?_)))
    exact fin1 (.inl rfl) () [] rfl trivial rfl (rv_tmp rfl)
  refine s_on rfl rfl rfl ?_
  refine mv1 rfl rfl ?_
  refine s_on rfl rfl rfl ?_
  refine s_rd (r_slen Tryz.underlying9 rfl) rfl ?_
  refine s_on rfl rfl rfl ?_
  refine s_rd (r_gtr rfl rfl) rfl ?_
  refine s_rd (r_pickF rfl rfl) rfl ?_
  refine l_nil (n_then ?_)
  refine ref_cond rfl (fun hb1 => ?_) (fun hb1 => ?_)
  · refine ref_seq (ref_region ?_)
    refine as1 rfl rfl ?_
    refine l_nil (n_then (ref_ret (r_then ?_)))
    exact fin1 (.inl rfl) () [] rfl trivial rfl (rv_tmp rfl)
  refine ref_skip (n_then (ref_seq (ref_seq (ref_region ?_))))
  refine mv1 rfl rfl ?_
  refine s_rd (r_slen Tryz.underlying9 rfl) rfl ?_
  refine mv1 rfl rfl ?_
  refine l_nil (n_then ?_)
  refine ref_loopX (f := (literal_ValidName_l1 s_0)) (Γl := (fun (s13 : Int) (x14 : Unit) => [(0, sv s_0), (14, iv .i64 (s_0.size : Int)), (15, iv .i64 s13)])) (Ωl := (fun (s13 : Int) (x14 : Unit) => [])) (Γb := (fun (q24 : Unit) (y25 : Unit) => [])) (Ωb := (fun (q24 : Unit) (y25 : Unit) => [])) (kr := (fun a : Bool => some a)) 0 () (weak [] ⟨rfl, rfl, rfl, trivial⟩ trivial) (fun s13 x14 => ?_) (fun q24 y25 => ?_)
  · unfold literal_ValidName_l1
    refine ref_seq (ref_region ?_)
    refine s_rd (r_lss rfl rfl) rfl ?_
    refine l_nil (n_then (ref_seq ?_))
    refine ref_cond rfl (fun hb15 => ?_) (fun hb15 => ?_)
    · refine ref_skip (n_then (ref_seq (ref_block (ref_seq (ref_region ?_)))))
      refine mv1 rfl rfl ?_
      refine as1 rfl rfl ?_
      refine l_nil (n_then (ref_seq (ref_region ?_)))
      refine mv1 rfl rfl ?_
      refine mv1 rfl rfl ?_
      refine pull fun c16 h_c16 => ?_
      refine s_rd (r_sidx h_c16 Tryz.underlying9 rfl rfl) rfl ?_
      refine as1 rfl rfl ?_
      refine l_nil (n_then (ref_block (ref_seq ?_)))
      refine ref_join (fun (j18 : Bool) (x19 : Unit) => [(0, sv s_0), (3, iv .i64 s13), (4, iv .u8 c16), (14, iv .i64 (s_0.size : Int)), (15, iv .i64 s13), (21, bv j18)]) (fun (j18 : Bool) (x19 : Unit) => []) (fun k20 hk20 => ?_) (fun j18 x19 => ?_)
      · refine ref_region ?_
        refine mv1 rfl rfl ?_
        refine s_rd (r_geq rfl rfl) rfl ?_
        refine mv1 rfl rfl ?_
        refine b_split (t := 24) rfl (fun _ => ?_) (fun _ => ?_)
        · refine s_on rfl rfl rfl ?_
          refine mv1 rfl rfl ?_
          refine s_on rfl rfl rfl ?_
          refine s_rd (r_leq rfl rfl) rfl ?_
          refine s_rd (r_pickT rfl rfl) rfl ?_
          refine as1 rfl rfl ?_
          refine b_let (f := bv) (t := 21) rfl fun t17 => ?_
          refine l_nil ?_
          exact b_to (hk20 t17 ()) (weak [] ⟨rfl, rfl, rfl, rfl, rfl, rfl, trivial⟩ trivial)
        refine s_off rfl rfl rfl rfl rfl ?_
        refine s_off rfl rfl rfl rfl rfl ?_
        refine s_rd (r_pickF rfl rfl) rfl ?_
        refine as1 rfl rfl ?_
        refine l_nil ?_
        exact b_to (hk20 false ()) (weak [] ⟨rfl, rfl, rfl, rfl, rfl, rfl, trivial⟩ trivial)
      refine n_then ?_
      refine ref_cond rfl (fun hb21 => ?_) (fun hb21 => ?_)
      · refine ref_skip (n_block (n_block (n_then (ref_region ?_))))
        refine s_rd (r_add rfl rfl) rfl ?_
        refine mv1 rfl rfl ?_
        refine l_nil ?_
        exact goX () (weak [] ⟨rfl, rfl, rfl, trivial⟩ trivial)
      refine ref_seq (ref_region ?_)
      refine mv1 rfl rfl ?_
      refine s_rd (r_gtr rfl rfl) rfl ?_
      refine mv1 rfl rfl ?_
      refine b_split (t := 31) rfl (fun _ => ?_) (fun _ => ?_)
      · refine s_on rfl rfl rfl ?_
        refine mv1 rfl rfl ?_
        refine s_on rfl rfl rfl ?_
        refine s_rd (r_geq rfl rfl) rfl ?_
        refine s_on rfl rfl rfl ?_
        refine mv1 rfl rfl ?_
        refine b_split (t := 34) rfl (fun _ => ?_) (fun _ => ?_)
        · refine s_on rfl rfl rfl ?_
          refine mv1 rfl rfl ?_
          refine s_on rfl rfl rfl ?_
          refine s_rd (r_leq rfl rfl) rfl ?_
          refine s_on rfl rfl rfl ?_
          refine s_rd (r_pickT rfl rfl) rfl ?_
          refine s_on rfl rfl rfl ?_
          refine mv1 rfl rfl ?_
          refine b_split (t := 38) rfl (fun _ => ?_) (fun _ => ?_)
          · refine s_off rfl rfl rfl rfl rfl ?_
            refine s_off rfl rfl rfl rfl rfl ?_
            refine s_on rfl rfl rfl ?_
            refine s_rd (r_pickT rfl rfl) rfl ?_
            refine s_rd (r_pickT rfl rfl) rfl ?_
            refine as1 rfl rfl ?_
            refine l_nil (n_then ?_)
            refine ref_condT rfl rfl ?_
            refine ref_skip (n_block (n_block (n_then (ref_region ?_))))
            refine s_rd (r_add rfl rfl) rfl ?_
            refine mv1 rfl rfl ?_
            refine l_nil ?_
            exact goX () (weak [] ⟨rfl, rfl, rfl, trivial⟩ trivial)
          refine s_on rfl rfl rfl ?_
          refine mv1 rfl rfl ?_
          refine s_on rfl rfl rfl ?_
          refine s_rd (r_eql rfl rfl) rfl ?_
          refine s_on rfl rfl rfl ?_
          refine s_rd (r_pickF rfl rfl) rfl ?_
          refine s_rd (r_pickT rfl rfl) rfl ?_
          refine as1 rfl rfl ?_
          refine l_nil (n_then ?_)
          refine ref_cond rfl (fun hb22 => ?_) (fun hb22 => ?_)
          · refine ref_skip (n_block (n_block (n_then (ref_region ?_))))
            refine s_rd (r_add rfl rfl) rfl ?_
            refine mv1 rfl rfl ?_
            refine l_nil ?_
            exact goX () (weak [] ⟨rfl, rfl, rfl, trivial⟩ trivial)
          refine ref_seq (ref_region ?_)
          refine as1 rfl rfl ?_
          refine l_nil (n_then (ref_ret (r_block (r_block (r_then ?_)))))
          refine retX ?_
          refine r_block (r_then ?_)
          exact fin1 (.inl rfl) () [] rfl trivial rfl (rv_tmp rfl)
        refine s_off rfl rfl rfl rfl rfl ?_
        refine s_off rfl rfl rfl rfl rfl ?_
        refine s_on rfl rfl rfl ?_
        refine s_rd (r_pickF rfl rfl) rfl ?_
        refine s_on rfl rfl rfl ?_
        refine mv1 rfl rfl ?_
        refine s_on rfl rfl rfl ?_
        refine mv1 rfl rfl ?_
        refine s_on rfl rfl rfl ?_
        refine s_rd (r_eql rfl rfl) rfl ?_
        refine s_on rfl rfl rfl ?_
        refine s_rd (r_pickF rfl rfl) rfl ?_
        refine s_rd (r_pickT rfl rfl) rfl ?_
        refine as1 rfl rfl ?_
        refine l_nil (n_then ?_)
        refine ref_cond rfl (fun hb23 => ?_) (fun hb23 => ?_)
        · refine ref_skip (n_block (n_block (n_then (ref_region ?_))))
          refine s_rd (r_add rfl rfl) rfl ?_
          refine mv1 rfl rfl ?_
          refine l_nil ?_
          exact goX () (weak [] ⟨rfl, rfl, rfl, trivial⟩ trivial)
        refine ref_seq (ref_region ?_)
        refine as1 rfl rfl ?_
        refine l_nil (n_then (ref_ret (r_block (r_block (r_then ?_)))))
        refine retX ?_
        refine r_block (r_then ?_)
        exact fin1 (.inl rfl) () [] rfl trivial rfl (rv_tmp rfl)
      refine s_off rfl rfl rfl rfl rfl ?_
      refine s_off rfl rfl rfl rfl rfl ?_
      refine s_off rfl rfl rfl rfl rfl ?_
      refine s_offU rfl rfl rfl ?_
      refine s_offU rfl rfl rfl ?_
      refine s_off rfl rfl rfl rfl rfl ?_
      refine s_off rfl rfl rfl rfl rfl ?_
      refine s_offU rfl rfl rfl ?_
      refine s_offU rfl rfl rfl ?_
      refine s_off rfl rfl rfl rfl rfl ?_
      refine s_rd (r_pickF rfl rfl) rfl ?_
      refine as1 rfl rfl ?_
      refine l_nil (n_then ?_)
      refine ref_condF rfl rfl ?_
      refine ref_seq (ref_region ?_)
      refine as1 rfl rfl ?_
      refine l_nil (n_then (ref_ret (r_block (r_block (r_then ?_)))))
      refine retX ?_
      refine r_block (r_then ?_)
      exact fin1 (.inl rfl) () [] rfl trivial rfl (rv_tmp rfl)
    refine ref_exit (x_then ?_)
    exact brkX () (weak [] trivial trivial)
  refine n_then (ref_seq (ref_region ?_))
  refine as1 rfl rfl ?_
  refine l_nil (n_then (ref_ret ?_))
  exact fin1 (.inl rfl) () [] rfl trivial rfl (rv_tmp rfl)

/-! deliberation/literal.Valid -/
noncomputable def literal_Valid_m (x_0 : T_api_Literal) : Option (Bool) :=
  Option.bind (literal_ValidName_m x_0.Name) fun t2 =>
  some t2

theorem literal_Valid_ok {x_0 : T_api_Literal} {r : Bool} (hm : literal_Valid_m x_0 = some r) :
    FnOk prog 93 [ag [bv x_0.Neg, sv x_0.Name]] [] (fun (x : Unit) => [bv r]) (fun (x : Unit) => []) := by
  refine fn_ok (fn := Tryz.f93) (N := 6) (res := fun r x => [bv r]) (Ω1 := fun r x => []) Tryz.func93 rfl rfl hm rfl (fun E hM => ?_)
  unfold literal_Valid_m
  refine ref_seq (ref_region ?_)
  refine s_st (s_box (part_agO (ψs := [bv x_0.Neg, sv x_0.Name]) rfl ⟨.inl bv_at, .inl sv_at, trivial⟩)) rfl (fun b1 => ?_)
  refine as1 rfl rfl ?_
  refine l_nil (n_then (ref_seq (ref_region ?_)))
  refine s_rd (r_faddr (fo := 1) Tryz.underlying29 rfl rfl Tryz.sizeOf9 rfl) rfl ?_
  refine s_rd (r_cload Tryz.isAgg9 rfl (j := 0) rfl rfl) rfl ?_
  refine pull fun t2 h_t2 => ?_
  refine s_st (s_call (ψ := fun (_ : Unit) => bv t2) (args := [.tmp 4]) Tryz.call97 rfl (literal_ValidName_ok h_t2) ⟨arg rfl, trivial⟩ (fun _ _ _ _ h => h)) rfl (fun _ => ?_)
  refine as1 rfl rfl ?_
  refine l_nil (n_then (ref_ret ?_))
  exact fin1 (.inl rfl) () [] rfl trivial rfl (rv_tmp rfl)

/-! deliberation/rulebase.sourced -/
noncomputable def rulebase_sourced_m (s_0 : ByteArray) : Option (Bool) :=
  bif s_0.toList == (ByteArray.mk #[]).toList then
    some true
  else
    Option.bind (literal_ValidName_m s_0) fun t1 =>
    some t1

theorem rulebase_sourced_ok {s_0 : ByteArray} {r : Bool} (hm : rulebase_sourced_m s_0 = some r) :
    FnOk prog 94 [sv s_0] [] (fun (x : Unit) => [bv r]) (fun (x : Unit) => []) := by
  refine fn_ok (fn := Tryz.f94) (N := 9) (res := fun r x => [bv r]) (Ω1 := fun r x => []) Tryz.func94 rfl rfl hm rfl (fun E hM => ?_)
  unfold rulebase_sourced_m
  refine ref_seq (ref_region ?_)
  refine as1 rfl rfl ?_
  refine l_nil (n_then (ref_seq (ref_region ?_)))
  refine mv1 rfl rfl ?_
  refine s_rd (r_seql rfl rfl) rfl ?_
  refine mv1 rfl rfl ?_
  refine b_split (t := 5) rfl (fun _ => ?_) (fun _ => ?_)
  · refine s_off rfl rfl rfl rfl rfl ?_
    refine s_off rfl rfl rfl rfl rfl ?_
    refine s_rd (r_pickT rfl rfl) rfl ?_
    refine as1 rfl rfl ?_
    refine l_nil (n_then (ref_ret ?_))
    exact fin1 (.inl rfl) () [] rfl trivial rfl (rv_tmp rfl)
  refine s_on rfl rfl rfl ?_
  refine mv1 rfl rfl ?_
  refine s_on rfl rfl rfl ?_
  refine pull fun t1 h_t1 => ?_
  refine s_st (s_call (ψ := fun (_ : Unit) => bv t1) (args := [.tmp 6]) Tryz.call97 rfl (literal_ValidName_ok h_t1) ⟨arg rfl, trivial⟩ (fun _ _ _ _ h => h)) rfl (fun _ => ?_)
  refine s_rd (r_pickF rfl rfl) rfl ?_
  refine as1 rfl rfl ?_
  refine l_nil (n_then (ref_ret ?_))
  exact fin1 (.inl rfl) () [] rfl trivial rfl (rv_tmp rfl)

/-! deliberation/rulebase.premise -/
noncomputable def rulebase_premise_m (p_0 : T_api_Premise) : Option (Int) :=
  joinM (fun j11 : Unit =>
      Option.bind (literal_Valid_m p_0.Literal) fun t14 =>
      bif !t14 then
        some 1
      else
        Option.bind (rulebase_sourced_m p_0.Source) fun t15 =>
        bif !t15 then
          some 1
        else
          some 0) fun k13 =>
  joinM (fun j3 : Bool =>
      bif j3 then
        bif p_0.Rank != 0 then
          some 1
        else
          k13 ()
      else
        bif p_0.Kind == 2 then
          Option.bind (rulebase_ranked_m p_0.Rank) fun t9 =>
          bif !t9 then
            some 1
          else
            k13 ()
        else
          some 4) fun k5 =>
  bif p_0.Kind == 1 then
    k5 (p_0.Kind == 1)
  else
    k5 (p_0.Kind == 3)

theorem rulebase_premise_ok {p_0 : T_api_Premise} {r : Int} (hm : rulebase_premise_m p_0 = some r) :
    FnOk prog 67 [ag [bv p_0.Literal.Neg, sv p_0.Literal.Name, iv .i64 p_0.Kind, iv .i64 p_0.Rank, sv p_0.Source]] [] (fun (x : Unit) => [iv .i64 r]) (fun (x : Unit) => []) := by
  refine fn_ok (fn := Tryz.f67) (N := 27) (res := fun r x => [iv .i64 r]) (Ω1 := fun r x => []) Tryz.func67 rfl rfl hm rfl (fun E hM => ?_)
  unfold rulebase_premise_m
  refine ref_seq (ref_region ?_)
  refine s_st (s_box (part_agO (ψs := [bv p_0.Literal.Neg, sv p_0.Literal.Name, iv .i64 p_0.Kind, iv .i64 p_0.Rank, sv p_0.Source]) rfl ⟨.inl bv_at, .inl sv_at, .inl iv_at, .inl iv_at, .inl sv_at, trivial⟩)) rfl (fun b1 => ?_)
  refine as1 rfl rfl ?_
  refine l_nil (n_then (ref_seq ?_))
  refine ref_join (fun (j11 : Unit) (x12 : Unit) => [(1, pv (ptr b1 0))]) (fun (j11 : Unit) (x12 : Unit) => [oc b1 [bv p_0.Literal.Neg, sv p_0.Literal.Name, iv .i64 p_0.Kind, iv .i64 p_0.Rank, sv p_0.Source]]) (fun k13 hk13 => ?_) (fun j11 x12 => ?_)
  · refine ref_seq (ref_region ?_)
    refine s_rd (r_faddr (fo := 2) Tryz.underlying58 rfl rfl Tryz.sizeOf3 rfl) rfl ?_
    refine s_rd (r_cload Tryz.isAgg3 rfl (j := 0) rfl rfl) rfl ?_
    refine l_nil (n_then (ref_block (ref_seq ?_)))
    refine ref_join (fun (j3 : Bool) (x4 : Unit) => [(1, pv (ptr b1 0)), (4, iv .i64 p_0.Kind), (5, bv j3)]) (fun (j3 : Bool) (x4 : Unit) => [oc b1 [bv p_0.Literal.Neg, sv p_0.Literal.Name, iv .i64 p_0.Kind, iv .i64 p_0.Rank, sv p_0.Source]]) (fun k5 hk5 => ?_) (fun j3 x4 => ?_)
    · refine ref_seq (ref_region ?_)
      refine s_rd (r_eql rfl rfl) rfl ?_
      refine as1 rfl rfl ?_
      refine l_nil (n_then ?_)
      refine ref_cond rfl (fun hb2 => ?_) (fun hb2 => ?_)
      · refine ref_skip ?_
        exact b_to (hk5 (p_0.Kind == 1) ()) (weak [0] ⟨rfl, rfl, rfl, trivial⟩ ⟨rfl, trivial⟩)
      refine ref_region ?_
      refine s_rd (r_eql rfl rfl) rfl ?_
      refine as1 rfl rfl ?_
      refine l_nil ?_
      exact b_to (hk5 (p_0.Kind == 3) ()) (weak [0] ⟨rfl, rfl, rfl, trivial⟩ ⟨rfl, trivial⟩)
    refine n_then ?_
    refine ref_cond rfl (fun hb6 => ?_) (fun hb6 => ?_)
    · refine ref_seq (ref_region ?_)
      refine s_rd (r_faddr (fo := 3) Tryz.underlying58 rfl rfl Tryz.sizeOf3 rfl) rfl ?_
      refine s_rd (r_cload Tryz.isAgg3 rfl (j := 0) rfl rfl) rfl ?_
      refine s_rd (r_neq rfl rfl) rfl ?_
      refine l_nil (n_then ?_)
      refine ref_cond rfl (fun hb7 => ?_) (fun hb7 => ?_)
      · refine ref_seq (ref_region ?_)
        refine as1 rfl rfl ?_
        refine l_nil (n_then (ref_ret (r_block (r_then ?_))))
        exact fin1 (.inl rfl) () [] rfl trivial rfl (rv_tmp rfl)
      refine ref_skip (n_block ?_)
      exact b_to (hk13 () ()) (weak [0] ⟨rfl, trivial⟩ ⟨rfl, trivial⟩)
    refine ref_seq (ref_region ?_)
    refine s_rd (r_eql rfl rfl) rfl ?_
    refine as1 rfl rfl ?_
    refine l_nil (n_then ?_)
    refine ref_cond rfl (fun hb8 => ?_) (fun hb8 => ?_)
    · refine ref_seq (ref_region ?_)
      refine s_rd (r_faddr (fo := 3) Tryz.underlying58 rfl rfl Tryz.sizeOf3 rfl) rfl ?_
      refine s_rd (r_cload Tryz.isAgg3 rfl (j := 0) rfl rfl) rfl ?_
      refine pull fun t9 h_t9 => ?_
      refine s_st (s_call (ψ := fun (_ : Unit) => bv t9) (args := [.tmp 14]) Tryz.call92 rfl (rulebase_ranked_ok h_t9) ⟨arg rfl, trivial⟩ (fun _ _ _ _ h => h)) rfl (fun _ => ?_)
      refine s_rd (r_not rfl) rfl ?_
      refine l_nil (n_then ?_)
      refine ref_cond rfl (fun hb10 => ?_) (fun hb10 => ?_)
      · refine ref_seq (ref_region ?_)
        refine as1 rfl rfl ?_
        refine l_nil (n_then (ref_ret (r_block (r_then ?_))))
        exact fin1 (.inl rfl) () [] rfl trivial rfl (rv_tmp rfl)
      refine ref_skip (n_block ?_)
      exact b_to (hk13 () ()) (weak [0] ⟨rfl, trivial⟩ ⟨rfl, trivial⟩)
    refine ref_seq (ref_region ?_)
    refine as1 rfl rfl ?_
    refine l_nil (n_then (ref_ret (r_block (r_then ?_))))
    exact fin1 (.inl rfl) () [] rfl trivial rfl (rv_tmp rfl)
  refine n_then (ref_seq (ref_seq (ref_region ?_)))
  refine s_rd (r_faddr (fo := 0) Tryz.underlying58 rfl rfl Tryz.sizeOf29 rfl) rfl ?_
  refine s_rd (r_cloadS Tryz.isAgg29 Tryz.sizeOf29 rfl (j := 0) rfl rfl rfl) rfl ?_
  refine pull fun t14 h_t14 => ?_
  refine s_st (s_call (ψ := fun (_ : Unit) => bv t14) (args := [.tmp 18]) Tryz.call93 rfl (literal_Valid_ok h_t14) ⟨arg rfl, trivial⟩ (fun _ _ _ _ h => h)) rfl (fun _ => ?_)
  refine s_rd (r_not rfl) rfl ?_
  refine mv1 rfl rfl ?_
  refine b_split (t := 21) rfl (fun _ => ?_) (fun _ => ?_)
  · refine s_off rfl rfl rfl rfl rfl ?_
    refine s_off rfl rfl rfl rfl rfl ?_
    refine s_off rfl rfl rfl rfl rfl ?_
    refine s_off rfl rfl rfl rfl rfl ?_
    refine s_rd (r_pickT rfl rfl) rfl ?_
    refine l_nil (n_then ?_)
    refine ref_condT rfl rfl ?_
    refine ref_seq (ref_region ?_)
    refine as1 rfl rfl ?_
    refine l_nil (n_then (ref_ret (r_then ?_)))
    exact fin1 (.inl rfl) () [] rfl trivial rfl (rv_tmp rfl)
  refine s_on rfl rfl rfl ?_
  refine s_rd (r_faddr (fo := 4) Tryz.underlying58 rfl rfl Tryz.sizeOf9 rfl) rfl ?_
  refine s_on rfl rfl rfl ?_
  refine s_rd (r_cload Tryz.isAgg9 rfl (j := 0) rfl rfl) rfl ?_
  refine s_on rfl rfl rfl ?_
  refine pull fun t15 h_t15 => ?_
  refine s_st (s_call (ψ := fun (_ : Unit) => bv t15) (args := [.tmp 23]) Tryz.call94 rfl (rulebase_sourced_ok h_t15) ⟨arg rfl, trivial⟩ (fun _ _ _ _ h => h)) rfl (fun _ => ?_)
  refine s_on rfl rfl rfl ?_
  refine s_rd (r_not rfl) rfl ?_
  refine s_rd (r_pickF rfl rfl) rfl ?_
  refine l_nil (n_then ?_)
  refine ref_cond rfl (fun hb16 => ?_) (fun hb16 => ?_)
  · refine ref_seq (ref_region ?_)
    refine as1 rfl rfl ?_
    refine l_nil (n_then (ref_ret (r_then ?_)))
    exact fin1 (.inl rfl) () [] rfl trivial rfl (rv_tmp rfl)
  refine ref_skip (n_then (ref_seq (ref_region ?_)))
  refine as1 rfl rfl ?_
  refine l_nil (n_then (ref_ret ?_))
  exact fin1 (.inl rfl) () [] rfl trivial rfl (rv_tmp rfl)

/-! deliberation/rulebase.Premise$1 -/
noncomputable def rulebase_Premise_1_m (p_0 : T_api_Premise) (p_1 : T_api_Literal) : Option (Bool) :=
  letM (decide (p_0.Literal = p_1)) fun t2 =>
  some t2

theorem rulebase_Premise_1_ok {p_0 : T_api_Premise} {p_1 : T_api_Literal} {b_1 : Nat} {r : Bool} (hm : rulebase_Premise_1_m p_0 p_1 = some r) :
    FnOk prog 96 [ag [bv p_0.Literal.Neg, sv p_0.Literal.Name, iv .i64 p_0.Kind, iv .i64 p_0.Rank, sv p_0.Source], pv (ptr b_1 0)] [oc b_1 [bv p_1.Neg, sv p_1.Name]] (fun (x : Unit) => [bv r]) (fun (x : Unit) => [oc b_1 [bv p_1.Neg, sv p_1.Name]]) := by
  refine fn_ok (fn := Tryz.f96) (N := 8) (res := fun r x => [bv r]) (Ω1 := fun r x => [oc b_1 [bv p_1.Neg, sv p_1.Name]]) Tryz.func96 rfl rfl hm rfl (fun E hM => ?_)
  unfold rulebase_Premise_1_m
  refine ref_seq (ref_region ?_)
  refine s_st (s_box (part_agO (ψs := [bv p_0.Literal.Neg, sv p_0.Literal.Name, iv .i64 p_0.Kind, iv .i64 p_0.Rank, sv p_0.Source]) rfl ⟨.inl bv_at, .inl sv_at, .inl iv_at, .inl iv_at, .inl sv_at, trivial⟩)) rfl (fun b1 => ?_)
  refine as1 rfl rfl ?_
  refine l_nil (n_then (ref_seq (ref_region ?_)))
  refine s_rd (r_faddr (fo := 0) Tryz.underlying58 rfl rfl Tryz.sizeOf29 rfl) rfl ?_
  refine s_rd (r_cloadS Tryz.isAgg29 Tryz.sizeOf29 rfl (j := 1) rfl rfl rfl) rfl ?_
  refine s_rd (r_cloadS Tryz.isAgg29 Tryz.sizeOf29 rfl (j := 0) rfl rfl rfl) rfl ?_
  refine s_rd (r_steql (u := p_0.Literal) (v := p_1) eq_29 rfl rfl rfl rfl) rfl ?_
  refine as1 rfl rfl ?_
  refine b_let (f := bv) (t := 3) rfl fun t2 => ?_
  refine l_nil (n_then (ref_ret ?_))
  exact fin1 (.inl rfl) () [0] rfl ⟨rfl, trivial⟩ rfl (rv_tmp rfl)

end Go.Dc
