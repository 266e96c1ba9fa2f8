/- Part LAW08R.A1 of a proof: lemmas. -/
import Derived.Test.YtofcoilhjmkejaaLAW08RA0
import Derived.Test.YtofcoilhjmkejaaProg
set_option linter.unusedVariables false
set_option maxRecDepth 100000
set_option maxHeartbeats 4000000
namespace Go.Dc
open Go.Proofs
open Go.Proofs.Try (prog)

/-! deliberation/deliberationref07.Defeasible -/
noncomputable def ref07_Defeasible_l1 (b_0 : T_api_Base) (l_1 : (List T_api_Argument)) (t2 : List Int) (s29 : (List Int) × Int) : Option (Sum ((List Int)) ((List Int) × Int)) :=
  bif decide (s29.2 < (t2.length : Int)) then
    Option.bind (idxM t2 s29.2) fun k32 =>
    joinM (fun j36 : Bool =>
        bif j36 then
          Option.bind (idxM l_1 k32) fun t40 =>
          Option.bind (ref07_insert_m s29.1 t40.Rule) fun out41 =>
          some (Sum.inr (out41, iadd .i64 s29.2 1))
        else
          some (Sum.inr (s29.1, iadd .i64 s29.2 1))) fun k38 =>
    Option.bind (idxM l_1 k32) fun t33 =>
    bif decide (t33.Rule ≥ 0) then
      Option.bind (idxM l_1 k32) fun t34 =>
      Option.bind (idxM b_0.Rules t34.Rule) fun t35 =>
      k38 (!t35.Strict)
    else
      k38 false
  else
    some (Sum.inl s29.1)

noncomputable def ref07_Defeasible_m (b_0 : T_api_Base) (l_1 : (List T_api_Argument)) (i_2 : Int) : Option (List Int) :=
  Option.bind (ref07_Subs_m l_1 i_2) fun t2 =>
  Option.bind (loopC (ref07_Defeasible_l1 b_0 l_1 t2) ([], 0)) fun q42 : (List Int) =>
  some q42

theorem ref07_Defeasible_ok {b_0 : T_api_Base} {l_1 : (List T_api_Argument)} {i_2 : Int} {r : List Int} (hm : ref07_Defeasible_m b_0 l_1 i_2 = some r) :
    FnOk prog 37 [ag [slv rT_api_Premise b_0.Premises, slv rT_api_Rule b_0.Rules, slv rT_api_Promotion b_0.Promotions], slv rT_api_Argument l_1, iv .i64 i_2] [] (fun (x : Unit) => [slv (rI .i64) r]) (fun (x : Unit) => []) := by
  refine fn_ok (fn := Try.f37) (N := 46) (res := fun r x => [slv (rI .i64) r]) (Ω1 := fun r x => []) Try.func37 rfl rfl hm rfl (fun E hM => ?_)
  unfold ref07_Defeasible_m
  refine ref_seq (ref_region ?_)
  refine s_st (s_box (part_agO (ψs := [slv rT_api_Premise b_0.Premises, slv rT_api_Rule b_0.Rules, slv rT_api_Promotion b_0.Promotions]) rfl ⟨.inl slv_at, .inl slv_at, .inl slv_at, trivial⟩)) rfl (fun b1 => ?_)
  refine as1 rfl rfl ?_
  refine l_nil (n_then (ref_seq (ref_region ?_)))
  refine as1 rfl rfl ?_
  refine l_nil (n_then (ref_seq (ref_seq (ref_region ?_))))
  refine mv1 rfl rfl ?_
  refine mv1 rfl rfl ?_
  refine pull fun t2 h_t2 => ?_
  refine s_st (s_call (ψ := fun (_ : Unit) => slv (rI .i64) t2) (args := [.tmp 10, .tmp 11]) Try.call58 rfl (ref07_Subs_ok h_t2) ⟨arg rfl, arg rfl, trivial⟩ (fun _ _ _ _ h => h)) rfl (fun _ => ?_)
  refine s_rd (r_len Try.underlying22 rfl) rfl ?_
  refine mv1 rfl rfl ?_
  refine l_nil (n_then ?_)
  refine b_of (sl_nil (rI .i64) (t := 7) rfl) ?_
  refine ref_loopB (f := (ref07_Defeasible_l1 b_0 l_1 t2)) (Γl := (fun (s29 : (List Int) × Int) (x30 : Unit) => [(1, slv rT_api_Argument l_1), (3, pv (ptr b1 0)), (7, slv (rI .i64) s29.1), (12, slv (rI .i64) t2), (13, iv .i64 (t2.length : Int)), (14, iv .i64 s29.2)])) (Ωl := (fun (s29 : (List Int) × Int) (x30 : Unit) => [oc b1 [slv rT_api_Premise b_0.Premises, slv rT_api_Rule b_0.Rules, slv rT_api_Promotion b_0.Promotions]])) (Γb := (fun (q42 : (List Int)) (y43 : Unit) => [(7, slv (rI .i64) q42)])) (Ωb := (fun (q42 : (List Int)) (y43 : Unit) => [])) ([], 0) () (weak [0] ⟨rfl, rfl, rfl, rfl, rfl, rfl, trivial⟩ ⟨rfl, trivial⟩) (fun s29 x30 => ?_) (fun q42 y43 => ?_)
  · unfold ref07_Defeasible_l1
    refine ref_seq (ref_region ?_)
    refine s_rd (r_lss rfl rfl) rfl ?_
    refine l_nil (n_then (ref_seq ?_))
    refine ref_cond rfl (fun hb31 => ?_) (fun hb31 => ?_)
    · refine ref_skip (n_then (ref_seq (ref_block (ref_seq (ref_region ?_)))))
      refine pull fun k32 h_k32 => ?_
      refine s_rd (r_index h_k32 Try.underlying22 el_3 rfl rfl) rfl ?_
      refine s_rd (r_load el_3 rfl) rfl ?_
      refine as1 rfl rfl ?_
      refine l_nil (n_then (ref_seq ?_))
      refine ref_join (fun (j36 : Bool) (x37 : Unit) => [(1, slv rT_api_Argument l_1), (3, pv (ptr b1 0)), (7, slv (rI .i64) s29.1), (9, iv .i64 k32), (12, slv (rI .i64) t2), (13, iv .i64 (t2.length : Int)), (14, iv .i64 s29.2), (36, bv j36)]) (fun (j36 : Bool) (x37 : Unit) => [oc b1 [slv rT_api_Premise b_0.Premises, slv rT_api_Rule b_0.Rules, slv rT_api_Promotion b_0.Promotions]]) (fun k38 hk38 => ?_) (fun j36 x37 => ?_)
      · refine ref_draw [0, 1, 2, 3, 4, 5, 6, 7, 8, 9, 10, 11, 12, 13, 14, 15, 16, 17, 18] rfl (by kernel_rfl) (fun hok => ?_)
        refine a_rd (i := 0) hok rfl (by kernel_rfl) rfl (r_move rfl) rfl ?_
        refine a_rd (i := 1) hok rfl (by kernel_rfl) rfl (r_move rfl) rfl ?_
        refine pull fun t33 h_t33 => ?_
        refine a_rd (i := 2) hok rfl (by kernel_rfl) rfl (r_index h_t33 Try.underlying35 el_52 rfl rfl) rfl ?_
        refine a_rd (i := 3) hok rfl (by kernel_rfl) rfl (r_fea (fo := 1) (ρ := rT_api_Argument) (y := t33) (ρ' := (rI .i64)) (z := t33.Rule) Try.underlying52 rfl rfl Try.sizeOf3 rfl rfl rfl) rfl ?_
        refine a_rd (i := 4) hok rfl (by kernel_rfl) rfl (r_load el_3 rfl) rfl ?_
        refine a_rd (i := 5) hok rfl (by kernel_rfl) rfl (r_geq rfl rfl) rfl ?_
        refine a_rd (i := 6) hok rfl (by kernel_rfl) rfl (r_move rfl) rfl ?_
        refine b_split (t := 24) rfl (fun _ => ?_) (fun _ => ?_)
        · refine a_rdOn (i := 7) hok rfl rfl rfl rfl (by kernel_rfl) rfl (r_faddr (fo := 1) Try.underlying34 rfl rfl Try.sizeOf31 rfl) rfl ?_
          refine a_rdOn (i := 8) hok rfl rfl rfl rfl (by kernel_rfl) rfl (r_cload Try.isAgg31 rfl (j := 0) rfl rfl) rfl ?_
          refine a_rdOn (i := 9) hok rfl rfl rfl rfl (by kernel_rfl) rfl (r_move rfl) rfl ?_
          refine a_rdOn (i := 10) hok rfl rfl rfl rfl (by kernel_rfl) rfl (r_move rfl) rfl ?_
          refine pull fun t34 h_t34 => ?_
          refine a_rdOn (i := 11) hok rfl rfl rfl rfl (by kernel_rfl) rfl (r_index h_t34 Try.underlying35 el_52 rfl rfl) rfl ?_
          refine a_rdOn (i := 12) hok rfl rfl rfl rfl (by kernel_rfl) rfl (r_fea (fo := 1) (ρ := rT_api_Argument) (y := t34) (ρ' := (rI .i64)) (z := t34.Rule) Try.underlying52 rfl rfl Try.sizeOf3 rfl rfl rfl) rfl ?_
          refine a_rdOn (i := 13) hok rfl rfl rfl rfl (by kernel_rfl) rfl (r_load el_3 rfl) rfl ?_
          refine pull fun t35 h_t35 => ?_
          refine a_rdOn (i := 14) hok rfl rfl rfl rfl (by kernel_rfl) rfl (r_index h_t35 Try.underlying31 el_55 rfl rfl) rfl ?_
          refine a_rdOn (i := 15) hok rfl rfl rfl rfl (by kernel_rfl) rfl (r_fea (fo := 1) (ρ := rT_api_Rule) (y := t35) (ρ' := rB) (z := t35.Strict) Try.underlying55 rfl rfl Try.sizeOf4 rfl rfl rfl) rfl ?_
          refine a_rdOn (i := 16) hok rfl rfl rfl rfl (by kernel_rfl) rfl (r_load el_4 rfl) rfl ?_
          refine a_rdOn (i := 17) hok rfl rfl rfl rfl (by kernel_rfl) rfl (r_not rfl) rfl ?_
          refine a_rd (i := 18) hok rfl (by kernel_rfl) rfl (r_pickT rfl rfl) rfl ?_
          refine a_fin hok (by kernel_rfl) ?_
          exact b_to (hk38 (!t35.Strict) ()) (weak [0] ⟨rfl, rfl, rfl, rfl, rfl, rfl, rfl, rfl, trivial⟩ ⟨rfl, trivial⟩)
        refine a_off (i := 7) hok rfl rfl rfl rfl rfl (by kernel_rfl) rfl rfl ?_
        refine a_off (i := 8) hok rfl rfl rfl rfl rfl (by kernel_rfl) rfl rfl ?_
        refine a_off (i := 9) hok rfl rfl rfl rfl rfl (by kernel_rfl) rfl rfl ?_
        refine a_off (i := 10) hok rfl rfl rfl rfl rfl (by kernel_rfl) rfl rfl ?_
        refine a_off (i := 11) hok rfl rfl rfl rfl rfl (by kernel_rfl) rfl rfl ?_
        refine a_off (i := 12) hok rfl rfl rfl rfl rfl (by kernel_rfl) rfl rfl ?_
        refine a_off (i := 13) hok rfl rfl rfl rfl rfl (by kernel_rfl) rfl rfl ?_
        refine a_off (i := 14) hok rfl rfl rfl rfl rfl (by kernel_rfl) rfl rfl ?_
        refine a_off (i := 15) hok rfl rfl rfl rfl rfl (by kernel_rfl) rfl rfl ?_
        refine a_off (i := 16) hok rfl rfl rfl rfl rfl (by kernel_rfl) rfl rfl ?_
        refine a_off (i := 17) hok rfl rfl rfl rfl rfl (by kernel_rfl) rfl rfl ?_
        refine a_rd (i := 18) hok rfl (by kernel_rfl) rfl (r_pickF rfl rfl) rfl ?_
        refine a_fin hok (by kernel_rfl) ?_
        exact b_to (hk38 false ()) (weak [0] ⟨rfl, rfl, rfl, rfl, rfl, rfl, rfl, rfl, trivial⟩ ⟨rfl, trivial⟩)
      refine n_then ?_
      refine ref_cond rfl (fun hb39 => ?_) (fun hb39 => ?_)
      · refine ref_region ?_
        refine mv1 rfl rfl ?_
        refine mv1 rfl rfl ?_
        refine mv1 rfl rfl ?_
        refine pull fun t40 h_t40 => ?_
        refine s_rd (r_index h_t40 Try.underlying35 el_52 rfl rfl) rfl ?_
        refine s_rd (r_fea (fo := 1) (ρ := rT_api_Argument) (y := t40) (ρ' := (rI .i64)) (z := t40.Rule) Try.underlying52 rfl rfl Try.sizeOf3 rfl rfl rfl) rfl ?_
        refine s_rd (r_load el_3 rfl) rfl ?_
        refine pull fun out41 h_out41 => ?_
        refine s_st (s_call (ψ := fun (_ : Unit) => slv (rI .i64) out41) (args := [.tmp 37, .tmp 42]) Try.call59 rfl (ref07_insert_ok h_out41) ⟨arg rfl, arg rfl, trivial⟩ (fun _ _ _ _ h => h)) rfl (fun _ => ?_)
        refine as1 rfl rfl ?_
        refine l_nil (n_block (n_then (ref_region ?_)))
        refine s_rd (r_add rfl rfl) rfl ?_
        refine mv1 rfl rfl ?_
        refine l_nil ?_
        exact goB () (weak [0] ⟨rfl, rfl, rfl, rfl, rfl, rfl, trivial⟩ ⟨rfl, trivial⟩)
      refine ref_skip (n_block (n_then (ref_region ?_)))
      refine s_rd (r_add rfl rfl) rfl ?_
      refine mv1 rfl rfl ?_
      refine l_nil ?_
      exact goB () (weak [0] ⟨rfl, rfl, rfl, rfl, rfl, rfl, trivial⟩ ⟨rfl, trivial⟩)
    refine ref_exit (x_then ?_)
    exact brkB () (weak [] ⟨rfl, trivial⟩ trivial)
  refine n_then (ref_seq (ref_region ?_))
  refine mv1 rfl rfl ?_
  refine as1 rfl rfl ?_
  refine l_nil (n_then (ref_ret ?_))
  exact fin1 (.inl rfl) () [] rfl trivial rfl (rv_tmp rfl)

/-! deliberation/deliberationref07.in -/
noncomputable def ref07_in_l1 (l_0 : (List Int)) (x_1 : Int) (s6 : Int) : Option (Sum ((Sum (Bool) (Unit))) (Int)) :=
  bif decide (s6 < (l_0.length : Int)) then
    Option.bind (idxM l_0 s6) fun t9 =>
    bif t9 == x_1 then
      some (Sum.inl (Sum.inl true))
    else
      some (Sum.inr (iadd .i64 s6 1))
  else
    some (Sum.inl (Sum.inr ()))

noncomputable def ref07_in_m (l_0 : (List Int)) (x_1 : Int) : Option (Bool) :=
  Option.bind (loopC (ref07_in_l1 l_0 x_1) 0) (sumK (fun a : Bool => some a) fun q11 : Unit =>
    some false)

theorem ref07_in_ok {l_0 : (List Int)} {x_1 : Int} {r : Bool} (hm : ref07_in_m l_0 x_1 = some r) :
    FnOk prog 72 [slv (rI .i64) l_0, iv .i64 x_1] [] (fun (x : Unit) => [bv r]) (fun (x : Unit) => []) := by
  refine fn_ok (fn := Try.f72) (N := 18) (res := fun r x => [bv r]) (Ω1 := fun r x => []) Try.func72 rfl rfl hm rfl (fun E hM => ?_)
  unfold ref07_in_m
  refine ref_seq (ref_region ?_)
  refine as1 rfl rfl ?_
  refine l_nil (n_then (ref_seq (ref_seq (ref_region ?_))))
  refine as1 rfl rfl ?_
  refine l_nil (n_then ?_)
  refine ref_loopX (f := (ref07_in_l1 l_0 x_1)) (Γl := (fun (s6 : Int) (x7 : Unit) => [(0, slv (rI .i64) l_0), (1, iv .i64 x_1), (5, iv .i64 s6)])) (Ωl := (fun (s6 : Int) (x7 : Unit) => [])) (Γb := (fun (q11 : Unit) (y12 : Unit) => [])) (Ωb := (fun (q11 : Unit) (y12 : Unit) => [])) (kr := (fun a : Bool => some a)) 0 () (weak [] ⟨rfl, rfl, rfl, trivial⟩ trivial) (fun s6 x7 => ?_) (fun q11 y12 => ?_)
  · unfold ref07_in_l1
    refine ref_seq (ref_seq (ref_region ?_))
    refine mv1 rfl rfl ?_
    refine mv1 rfl rfl ?_
    refine s_rd (r_len Try.underlying22 rfl) rfl ?_
    refine s_rd (r_lss rfl rfl) rfl ?_
    refine l_nil (n_then ?_)
    refine ref_cond rfl (fun hb8 => ?_) (fun hb8 => ?_)
    · refine ref_skip (n_then (ref_seq (ref_block (ref_seq (ref_region ?_)))))
      refine mv1 rfl rfl ?_
      refine mv1 rfl rfl ?_
      refine pull fun t9 h_t9 => ?_
      refine s_rd (r_index h_t9 Try.underlying22 el_3 rfl rfl) rfl ?_
      refine s_rd (r_load el_3 rfl) rfl ?_
      refine mv1 rfl rfl ?_
      refine s_rd (r_eql rfl rfl) rfl ?_
      refine l_nil (n_then ?_)
      refine ref_cond rfl (fun hb10 => ?_) (fun hb10 => ?_)
      · refine ref_seq (ref_region ?_)
        refine as1 rfl rfl ?_
        refine l_nil (n_then (ref_ret (r_block (r_then ?_))))
        refine retX ?_
        refine r_block (r_then ?_)
        exact fin1 (.inl rfl) () [] rfl trivial rfl (rv_tmp rfl)
      refine ref_skip (n_block (n_then (ref_region ?_)))
      refine mv1 rfl rfl ?_
      refine s_rd (r_add rfl rfl) rfl ?_
      refine as1 rfl rfl ?_
      refine l_nil ?_
      exact goX () (weak [] ⟨rfl, rfl, rfl, trivial⟩ trivial)
    refine ref_exit (x_then ?_)
    exact brkX () (weak [] trivial trivial)
  refine n_then (ref_seq (ref_region ?_))
  refine as1 rfl rfl ?_
  refine l_nil (n_then (ref_ret ?_))
  exact fin1 (.inl rfl) () [] rfl trivial rfl (rv_tmp rfl)

/-! deliberation/deliberationref07.Within -/
noncomputable def ref07_Within_l1 (b_0 : T_api_Base) (l_1 : (List T_api_Argument)) (rule_2 : Int) (subs_3 : (List Int)) (t2 : T_api_Rule) (s19 : Int) : Option (Sum ((Sum (Bool) (Unit))) (Int)) :=
  bif decide (s19 < (subs_3.length : Int)) then
    bif t2.Strict then
      Option.bind (idxM subs_3 s19) fun t22 =>
      Option.bind (ref07_Run_m b_0 l_1 t22) fun t23 =>
      Option.bind (ref01_Has_m t23 t2.Head) fun t25 =>
      bif t25 then
        some (Sum.inl (Sum.inl false))
      else
        bif !t2.Strict then
          Option.bind (idxM subs_3 s19) fun t26 =>
          Option.bind (ref07_Defeasible_m b_0 l_1 t26) fun t27 =>
          Option.bind (ref07_in_m t27 rule_2) fun t28 =>
          bif t28 then
            some (Sum.inl (Sum.inl false))
          else
            letM (iadd .i64 s19 1) fun k34 =>
            some (Sum.inr k34)
        else
          letM (iadd .i64 s19 1) fun k35 =>
          some (Sum.inr k35)
    else
      bif !t2.Strict then
        Option.bind (idxM subs_3 s19) fun t29 =>
        Option.bind (ref07_Defeasible_m b_0 l_1 t29) fun t30 =>
        Option.bind (ref07_in_m t30 rule_2) fun t31 =>
        bif t31 then
          some (Sum.inl (Sum.inl false))
        else
          letM (iadd .i64 s19 1) fun k36 =>
          some (Sum.inr k36)
      else
        letM (iadd .i64 s19 1) fun k37 =>
        some (Sum.inr k37)
  else
    some (Sum.inl (Sum.inr ()))

noncomputable def ref07_Within_m (b_0 : T_api_Base) (l_1 : (List T_api_Argument)) (rule_2 : Int) (subs_3 : (List Int)) : Option (Bool) :=
  Option.bind (idxM b_0.Rules rule_2) fun t2 =>
  Option.bind (loopC (ref07_Within_l1 b_0 l_1 rule_2 subs_3 t2) 0) (sumK (fun a : Bool => some a) fun q38 : Unit =>
    some true)

theorem ref07_Within_ok {b_0 : T_api_Base} {l_1 : (List T_api_Argument)} {rule_2 : Int} {subs_3 : (List Int)} {r : Bool} (hm : ref07_Within_m b_0 l_1 rule_2 subs_3 = some r) :
    FnOk prog 49 [ag [slv rT_api_Premise b_0.Premises, slv rT_api_Rule b_0.Rules, slv rT_api_Promotion b_0.Promotions], slv rT_api_Argument l_1, iv .i64 rule_2, slv (rI .i64) subs_3] [] (fun (x : Unit) => [bv r]) (fun (x : Unit) => []) := by
  refine fn_ok (fn := Try.f49) (N := 52) (res := fun r x => [bv r]) (Ω1 := fun r x => []) Try.func49 rfl rfl hm rfl (fun E hM => ?_)
  unfold ref07_Within_m
  refine ref_seq (ref_region ?_)
  refine s_st (s_box (part_agO (ψs := [slv rT_api_Premise b_0.Premises, slv rT_api_Rule b_0.Rules, slv rT_api_Promotion b_0.Promotions]) rfl ⟨.inl slv_at, .inl slv_at, .inl slv_at, trivial⟩)) rfl (fun b1 => ?_)
  refine as1 rfl rfl ?_
  refine l_nil (n_then (ref_seq (ref_region ?_)))
  refine s_rd (r_faddr (fo := 1) Try.underlying34 rfl rfl Try.sizeOf31 rfl) rfl ?_
  refine s_rd (r_cload Try.isAgg31 rfl (j := 0) rfl rfl) rfl ?_
  refine mv1 rfl rfl ?_
  refine pull fun t2 h_t2 => ?_
  refine s_rd (r_index h_t2 Try.underlying31 el_55 rfl rfl) rfl ?_
  refine s_rd (r_load el_55 rfl) rfl ?_
  refine s_st (s_alloc zt_55) rfl (fun b3 => ?_)
  refine s_st0 (s_cstore (out := [sv t2.Name, bv t2.Strict, iv .i64 t2.Rank, slv rT_api_Literal t2.Body, bv t2.Head.Neg, sv t2.Head.Name]) Try.sizeOf55 rfl (j := 1) rfl (part_agO (ψs := [sv t2.Name, bv t2.Strict, iv .i64 t2.Rank, slv rT_api_Literal t2.Body, bv t2.Head.Neg, sv t2.Head.Name]) rfl ⟨.inl sv_at, .inl bv_at, .inl iv_at, .inl slv_at, .inl bv_at, .inl sv_at, trivial⟩) rfl rfl rfl) (fun _ => ?_)
  refine l_nil (n_then (ref_seq (ref_seq (ref_region ?_))))
  refine as1 rfl rfl ?_
  refine l_nil (n_then ?_)
  refine ref_loopX (f := (ref07_Within_l1 b_0 l_1 rule_2 subs_3 t2)) (Γl := (fun (s19 : Int) (x20 : Unit) => [(1, slv rT_api_Argument l_1), (2, iv .i64 rule_2), (3, slv (rI .i64) subs_3), (4, pv (ptr b1 0)), (9, pv (ptr b3 0)), (10, iv .i64 s19)])) (Ωl := (fun (s19 : Int) (x20 : Unit) => [oc b1 [slv rT_api_Premise b_0.Premises, slv rT_api_Rule b_0.Rules, slv rT_api_Promotion b_0.Promotions], oc b3 [sv t2.Name, bv t2.Strict, iv .i64 t2.Rank, slv rT_api_Literal t2.Body, bv t2.Head.Neg, sv t2.Head.Name]])) (Γb := (fun (q38 : Unit) (y39 : Unit) => [])) (Ωb := (fun (q38 : Unit) (y39 : Unit) => [])) (kr := (fun a : Bool => some a)) 0 () (weak [0, 1] ⟨rfl, rfl, rfl, rfl, rfl, rfl, trivial⟩ ⟨rfl, rfl, trivial⟩) (fun s19 x20 => ?_) (fun q38 y39 => ?_)
  · unfold ref07_Within_l1
    refine ref_seq (ref_seq (ref_region ?_))
    refine mv1 rfl rfl ?_
    refine mv1 rfl rfl ?_
    refine s_rd (r_len Try.underlying22 rfl) rfl ?_
    refine s_rd (r_lss rfl rfl) rfl ?_
    refine l_nil (n_then ?_)
    refine ref_cond rfl (fun hb21 => ?_) (fun hb21 => ?_)
    · refine ref_skip (n_then (ref_seq (ref_block (ref_seq ?_))))
      refine ref_draw [0, 1, 2, 3, 4, 5, 6, 7, 8, 10, 11, 13, 14, 15, 16, 17, 18, 19, 20, 21, 22, 23, 24, 26, 28, 29] rfl (by kernel_rfl) (fun hok => ?_)
      refine a_rd (i := 0) hok rfl (by kernel_rfl) rfl (r_faddr (fo := 1) Try.underlying55 rfl rfl Try.sizeOf4 rfl) rfl ?_
      refine a_rd (i := 1) hok rfl (by kernel_rfl) rfl (r_cload Try.isAgg4 rfl (j := 1) rfl rfl) rfl ?_
      refine a_rd (i := 2) hok rfl (by kernel_rfl) rfl (r_move rfl) rfl ?_
      refine b_split (t := 24) rfl (fun _ => ?_) (fun _ => ?_)
      · refine a_rdOn (i := 3) hok rfl rfl rfl rfl (by kernel_rfl) rfl (r_cloadS Try.isAgg34 Try.sizeOf34 rfl (j := 0) rfl rfl rfl) rfl ?_
        refine a_rdOn (i := 4) hok rfl rfl rfl rfl (by kernel_rfl) rfl (r_move rfl) rfl ?_
        refine a_rdOn (i := 5) hok rfl rfl rfl rfl (by kernel_rfl) rfl (r_move rfl) rfl ?_
        refine a_rdOn (i := 6) hok rfl rfl rfl rfl (by kernel_rfl) rfl (r_move rfl) rfl ?_
        refine pull fun t22 h_t22 => ?_
        refine a_rdOn (i := 7) hok rfl rfl rfl rfl (by kernel_rfl) rfl (r_index h_t22 Try.underlying22 el_3 rfl rfl) rfl ?_
        refine a_rdOn (i := 8) hok rfl rfl rfl rfl (by kernel_rfl) rfl (r_load el_3 rfl) rfl ?_
        refine a_rdOn (i := 10) hok rfl rfl rfl rfl (by kernel_rfl) rfl (r_faddr (fo := 4) Try.underlying55 rfl rfl Try.sizeOf50 rfl) rfl ?_
        refine a_rdOn (i := 11) hok rfl rfl rfl rfl (by kernel_rfl) rfl (r_cloadS Try.isAgg50 Try.sizeOf50 rfl (j := 1) rfl rfl rfl) rfl ?_
        refine pull fun t23 h_t23 => ?_
        refine a_next hok 9 [] (by kernel_rfl) ?_ trivial
        refine a_stOn (i := 9) hok rfl rfl rfl rfl rfl (s_call (ψ := fun (x24 : (Value × List Nat)) => pv x24.1) (args := [.tmp 25, .tmp 26, .tmp 30]) Try.call71 rfl (ref07_Run_ok h_t23) ⟨arg rfl, arg rfl, arg rfl, trivial⟩ (fun _ _ _ _ h => h)) (by intro _ h; cases h; rfl) (fun _ => ⟨⟨⟨rfl, rfl⟩, trivial⟩, ⟨trivial, ⟨trivial, ⟨trivial, ⟨trivial, ⟨trivial, ⟨trivial, ⟨trivial, ⟨trivial, ⟨⟨⟨rfl, rfl⟩, trivial⟩, ⟨trivial, trivial⟩⟩⟩⟩⟩⟩⟩⟩⟩⟩⟩) (fun x24 => ?_)
        refine pull fun t25 h_t25 => ?_
        refine a_next hok 12 [] (by kernel_rfl) ?_ trivial
        refine a_stOn (i := 12) hok rfl rfl rfl rfl rfl (s_callB (ψ := fun (_ : Unit) => bv t25) (args := [.tmp 31, .tmp 33]) Try.call70 rfl (ref01_Has_ok h_t25) ⟨argO rfl (j := 2) rfl, argB rfl, trivial⟩ (fun _ _ _ _ _ h => h)) (by intro _ h; cases h; rfl) (fun _ => ⟨trivial, ⟨trivial, ⟨trivial, ⟨trivial, ⟨trivial, ⟨trivial, ⟨trivial, ⟨⟨⟨rfl, rfl⟩, trivial⟩, ⟨trivial, ⟨⟨⟨rfl, rfl⟩, trivial⟩, ⟨trivial, trivial⟩⟩⟩⟩⟩⟩⟩⟩⟩⟩⟩) (fun _ => ?_)
        refine a_rd (i := 13) hok rfl (by kernel_rfl) rfl (r_pickT rfl rfl) rfl ?_
        refine a_rd (i := 14) hok rfl (by kernel_rfl) rfl (r_move rfl) rfl ?_
        refine b_split (t := 36) rfl (fun _ => ?_) (fun _ => ?_)
        · refine a_off (i := 15) hok rfl rfl rfl rfl rfl (by kernel_rfl) rfl rfl ?_
          refine a_off (i := 16) hok rfl rfl rfl rfl rfl (by kernel_rfl) rfl rfl ?_
          refine a_off (i := 17) hok rfl rfl rfl rfl rfl (by kernel_rfl) rfl rfl ?_
          refine a_off (i := 18) hok rfl rfl rfl rfl rfl (by kernel_rfl) rfl rfl ?_
          refine a_offU (i := 19) hok rfl rfl rfl (by kernel_rfl) rfl rfl ?_
          refine a_offU (i := 20) hok rfl rfl rfl (by kernel_rfl) rfl rfl ?_
          refine a_offU (i := 21) hok rfl rfl rfl (by kernel_rfl) rfl rfl ?_
          refine a_offU (i := 22) hok rfl rfl rfl (by kernel_rfl) rfl rfl ?_
          refine a_offU (i := 23) hok rfl rfl rfl (by kernel_rfl) rfl rfl ?_
          refine a_offU (i := 24) hok rfl rfl rfl (by kernel_rfl) rfl rfl ?_
          refine a_offU (i := 26) hok rfl rfl rfl (by kernel_rfl) rfl rfl ?_
          refine a_next hok 25 [] (by kernel_rfl) ?_ trivial
          refine a_stOffU (i := 25) hok rfl rfl rfl rfl (by intro _ h; cases h; rfl) ⟨trivial, ⟨trivial, ⟨trivial, ⟨trivial, ⟨trivial, ⟨trivial, ⟨trivial, ⟨trivial, ⟨trivial, ⟨trivial, ⟨trivial, ⟨trivial, ⟨trivial, ⟨⟨⟨rfl, rfl⟩, trivial⟩, ⟨trivial, ⟨trivial, ⟨trivial, ⟨trivial, ⟨trivial, ⟨trivial, ⟨⟨⟨rfl, rfl⟩, trivial⟩, ⟨trivial, ⟨⟨⟨rfl, rfl⟩, trivial⟩, ⟨trivial, trivial⟩⟩⟩⟩⟩⟩⟩⟩⟩⟩⟩⟩⟩⟩⟩⟩⟩⟩⟩⟩⟩⟩⟩⟩ ?_
          refine a_next hok 27 [] (by kernel_rfl) ?_ trivial
          refine a_stOffU (i := 27) hok rfl rfl rfl rfl (by intro _ h; cases h; rfl) ⟨trivial, ⟨trivial, ⟨trivial, ⟨trivial, ⟨trivial, ⟨trivial, ⟨trivial, ⟨trivial, ⟨trivial, ⟨trivial, ⟨trivial, ⟨trivial, ⟨trivial, ⟨⟨⟨rfl, rfl⟩, trivial⟩, ⟨trivial, ⟨trivial, ⟨trivial, ⟨trivial, ⟨trivial, ⟨trivial, ⟨⟨⟨rfl, rfl⟩, trivial⟩, ⟨trivial, ⟨⟨⟨rfl, rfl⟩, trivial⟩, ⟨trivial, trivial⟩⟩⟩⟩⟩⟩⟩⟩⟩⟩⟩⟩⟩⟩⟩⟩⟩⟩⟩⟩⟩⟩⟩⟩ ?_
          refine a_off (i := 28) hok rfl rfl rfl rfl rfl (by kernel_rfl) rfl rfl ?_
          refine a_rd (i := 29) hok rfl (by kernel_rfl) rfl (r_pickT rfl rfl) rfl ?_
          refine a_fin hok (by kernel_rfl) ?_
          refine b_of (nrm [oc b1 [slv rT_api_Premise b_0.Premises, slv rT_api_Rule b_0.Rules, slv rT_api_Promotion b_0.Promotions], oc b3 [sv t2.Name, bv t2.Strict, iv .i64 t2.Rank, slv rT_api_Literal t2.Body, bv t2.Head.Neg, sv t2.Head.Name], oa rT_api_Literal x24.1 x24.2 t23] rfl) ?_
          refine n_then ?_
          refine ref_condT rfl rfl ?_
          refine ref_seq (ref_region ?_)
          refine as1 rfl rfl ?_
          refine l_nil (n_then (ref_ret (r_block (r_then ?_))))
          refine retX ?_
          refine r_block (r_then ?_)
          exact fin1 (.inl rfl) () [] rfl trivial rfl (rv_tmp rfl)
        refine a_rdOn (i := 15) hok rfl rfl rfl rfl (by kernel_rfl) rfl (r_faddr (fo := 1) Try.underlying55 rfl rfl Try.sizeOf4 rfl) rfl ?_
        refine a_rdOn (i := 16) hok rfl rfl rfl rfl (by kernel_rfl) rfl (r_cload Try.isAgg4 rfl (j := 1) rfl rfl) rfl ?_
        refine a_rdOn (i := 17) hok rfl rfl rfl rfl (by kernel_rfl) rfl (r_not rfl) rfl ?_
        refine a_rdOn (i := 18) hok rfl rfl rfl rfl (by kernel_rfl) rfl (r_move rfl) rfl ?_
        refine b_split (t := 40) rfl (fun _ => ?_) (fun _ => ?_)
        · refine a_rdOn (i := 19) hok rfl rfl rfl rfl (by kernel_rfl) rfl (r_cloadS Try.isAgg34 Try.sizeOf34 rfl (j := 0) rfl rfl rfl) rfl ?_
          refine a_rdOn (i := 20) hok rfl rfl rfl rfl (by kernel_rfl) rfl (r_move rfl) rfl ?_
          refine a_rdOn (i := 21) hok rfl rfl rfl rfl (by kernel_rfl) rfl (r_move rfl) rfl ?_
          refine a_rdOn (i := 22) hok rfl rfl rfl rfl (by kernel_rfl) rfl (r_move rfl) rfl ?_
          refine pull fun t26 h_t26 => ?_
          refine a_rdOn (i := 23) hok rfl rfl rfl rfl (by kernel_rfl) rfl (r_index h_t26 Try.underlying22 el_3 rfl rfl) rfl ?_
          refine a_rdOn (i := 24) hok rfl rfl rfl rfl (by kernel_rfl) rfl (r_load el_3 rfl) rfl ?_
          refine a_rdOn (i := 26) hok rfl rfl rfl rfl (by kernel_rfl) rfl (r_move rfl) rfl ?_
          refine pull fun t27 h_t27 => ?_
          refine a_next hok 25 [] (by kernel_rfl) ?_ trivial
          refine a_stOn (i := 25) hok rfl rfl rfl rfl rfl (s_call (ψ := fun (_ : Unit) => slv (rI .i64) t27) (args := [.tmp 41, .tmp 42, .tmp 46]) Try.call37 rfl (ref07_Defeasible_ok h_t27) ⟨arg rfl, arg rfl, arg rfl, trivial⟩ (fun _ _ _ _ h => h)) (by intro _ h; cases h; rfl) (fun _ => ⟨trivial, ⟨trivial, ⟨trivial, ⟨trivial, ⟨trivial, ⟨trivial, ⟨trivial, ⟨trivial, ⟨trivial, ⟨⟨⟨rfl, rfl⟩, trivial⟩, ⟨trivial, ⟨trivial, ⟨trivial, ⟨⟨⟨rfl, rfl⟩, trivial⟩, ⟨trivial, ⟨trivial, ⟨trivial, ⟨trivial, ⟨trivial, ⟨trivial, ⟨⟨⟨rfl, rfl⟩, trivial⟩, ⟨trivial, ⟨⟨⟨rfl, rfl⟩, trivial⟩, ⟨trivial, trivial⟩⟩⟩⟩⟩⟩⟩⟩⟩⟩⟩⟩⟩⟩⟩⟩⟩⟩⟩⟩⟩⟩⟩⟩) (fun _ => ?_)
          refine pull fun t28 h_t28 => ?_
          refine a_next hok 27 [] (by kernel_rfl) ?_ trivial
          refine a_stOn (i := 27) hok rfl rfl rfl rfl rfl (s_call (ψ := fun (_ : Unit) => bv t28) (args := [.tmp 47, .tmp 48]) Try.call72 rfl (ref07_in_ok h_t28) ⟨arg rfl, arg rfl, trivial⟩ (fun _ _ _ _ h => h)) (by intro _ h; cases h; rfl) (fun _ => ⟨trivial, ⟨trivial, ⟨trivial, ⟨trivial, ⟨trivial, ⟨trivial, ⟨⟨⟨rfl, rfl⟩, trivial⟩, ⟨trivial, ⟨trivial, ⟨⟨⟨rfl, rfl⟩, trivial⟩, ⟨trivial, ⟨trivial, ⟨trivial, ⟨⟨⟨rfl, rfl⟩, trivial⟩, ⟨trivial, ⟨trivial, ⟨trivial, ⟨trivial, ⟨trivial, ⟨trivial, ⟨⟨⟨rfl, rfl⟩, trivial⟩, ⟨trivial, ⟨⟨⟨rfl, rfl⟩, trivial⟩, ⟨trivial, trivial⟩⟩⟩⟩⟩⟩⟩⟩⟩⟩⟩⟩⟩⟩⟩⟩⟩⟩⟩⟩⟩⟩⟩⟩) (fun _ => ?_)
          refine a_rdOn (i := 28) hok rfl rfl rfl rfl (by kernel_rfl) rfl (r_pickT rfl rfl) rfl ?_
          refine a_rd (i := 29) hok rfl (by kernel_rfl) rfl (r_pickF rfl rfl) rfl ?_
          refine a_fin hok (by kernel_rfl) ?_
          refine b_of (nrm [oc b1 [slv rT_api_Premise b_0.Premises, slv rT_api_Rule b_0.Rules, slv rT_api_Promotion b_0.Promotions], oc b3 [sv t2.Name, bv t2.Strict, iv .i64 t2.Rank, slv rT_api_Literal t2.Body, bv t2.Head.Neg, sv t2.Head.Name], oa rT_api_Literal x24.1 x24.2 t23] rfl) ?_
          refine n_then ?_
          refine ref_cond rfl (fun hb32 => ?_) (fun hb32 => ?_)
          · refine ref_seq (ref_region ?_)
            refine as1 rfl rfl ?_
            refine l_nil (n_then (ref_ret (r_block (r_then ?_))))
            refine retX ?_
            refine r_block (r_then ?_)
            exact fin1 (.inl rfl) () [] rfl trivial rfl (rv_tmp rfl)
          refine ref_skip (n_block (n_then (ref_region ?_)))
          refine mv1 rfl rfl ?_
          refine s_rd (r_add rfl rfl) rfl ?_
          refine as1 rfl rfl ?_
          refine b_let (f := iv .i64) (t := 10) rfl fun k34 => ?_
          refine l_nil ?_
          exact goX () (weak [0, 1] ⟨rfl, rfl, rfl, rfl, rfl, rfl, trivial⟩ ⟨rfl, rfl, trivial⟩)
        refine a_off (i := 19) hok rfl rfl rfl rfl rfl (by kernel_rfl) rfl rfl ?_
        refine a_off (i := 20) hok rfl rfl rfl rfl rfl (by kernel_rfl) rfl rfl ?_
        refine a_off (i := 21) hok rfl rfl rfl rfl rfl (by kernel_rfl) rfl rfl ?_
        refine a_off (i := 22) hok rfl rfl rfl rfl rfl (by kernel_rfl) rfl rfl ?_
        refine a_off (i := 23) hok rfl rfl rfl rfl rfl (by kernel_rfl) rfl rfl ?_
        refine a_off (i := 24) hok rfl rfl rfl rfl rfl (by kernel_rfl) rfl rfl ?_
        refine a_off (i := 26) hok rfl rfl rfl rfl rfl (by kernel_rfl) rfl rfl ?_
        refine a_next hok 25 [] (by kernel_rfl) ?_ trivial
        refine a_stOff (i := 25) hok rfl rfl rfl rfl rfl rfl (by intro _ h; cases h; rfl) ⟨trivial, ⟨trivial, ⟨trivial, ⟨trivial, ⟨trivial, ⟨trivial, ⟨trivial, ⟨trivial, ⟨trivial, ⟨⟨⟨rfl, rfl⟩, trivial⟩, ⟨trivial, ⟨trivial, ⟨trivial, ⟨⟨⟨rfl, rfl⟩, trivial⟩, ⟨trivial, ⟨trivial, ⟨trivial, ⟨trivial, ⟨trivial, ⟨trivial, ⟨⟨⟨rfl, rfl⟩, trivial⟩, ⟨trivial, ⟨⟨⟨rfl, rfl⟩, trivial⟩, ⟨trivial, trivial⟩⟩⟩⟩⟩⟩⟩⟩⟩⟩⟩⟩⟩⟩⟩⟩⟩⟩⟩⟩⟩⟩⟩⟩ ?_
        refine a_next hok 27 [] (by kernel_rfl) ?_ trivial
        refine a_stOff (i := 27) hok rfl rfl rfl rfl rfl rfl (by intro _ h; cases h; rfl) ⟨trivial, ⟨trivial, ⟨trivial, ⟨trivial, ⟨trivial, ⟨trivial, ⟨trivial, ⟨trivial, ⟨trivial, ⟨⟨⟨rfl, rfl⟩, trivial⟩, ⟨trivial, ⟨trivial, ⟨trivial, ⟨⟨⟨rfl, rfl⟩, trivial⟩, ⟨trivial, ⟨trivial, ⟨trivial, ⟨trivial, ⟨trivial, ⟨trivial, ⟨⟨⟨rfl, rfl⟩, trivial⟩, ⟨trivial, ⟨⟨⟨rfl, rfl⟩, trivial⟩, ⟨trivial, trivial⟩⟩⟩⟩⟩⟩⟩⟩⟩⟩⟩⟩⟩⟩⟩⟩⟩⟩⟩⟩⟩⟩⟩⟩ ?_
        refine a_rdOn (i := 28) hok rfl rfl rfl rfl (by kernel_rfl) rfl (r_pickF rfl rfl) rfl ?_
        refine a_rd (i := 29) hok rfl (by kernel_rfl) rfl (r_pickF rfl rfl) rfl ?_
        refine a_fin hok (by kernel_rfl) ?_
        refine b_of (nrm [oc b1 [slv rT_api_Premise b_0.Premises, slv rT_api_Rule b_0.Rules, slv rT_api_Promotion b_0.Promotions], oc b3 [sv t2.Name, bv t2.Strict, iv .i64 t2.Rank, slv rT_api_Literal t2.Body, bv t2.Head.Neg, sv t2.Head.Name], oa rT_api_Literal x24.1 x24.2 t23] rfl) ?_
        refine n_then ?_
        refine ref_condF rfl rfl ?_
        refine ref_skip (n_block (n_then (ref_region ?_)))
        refine mv1 rfl rfl ?_
        refine s_rd (r_add rfl rfl) rfl ?_
        refine as1 rfl rfl ?_
        refine b_let (f := iv .i64) (t := 10) rfl fun k35 => ?_
        refine l_nil ?_
        exact goX () (weak [0, 1] ⟨rfl, rfl, rfl, rfl, rfl, rfl, trivial⟩ ⟨rfl, rfl, trivial⟩)
      refine a_off (i := 3) hok rfl rfl rfl rfl rfl (by kernel_rfl) rfl rfl ?_
      refine a_off (i := 4) hok rfl rfl rfl rfl rfl (by kernel_rfl) rfl rfl ?_
      refine a_off (i := 5) hok rfl rfl rfl rfl rfl (by kernel_rfl) rfl rfl ?_
      refine a_off (i := 6) hok rfl rfl rfl rfl rfl (by kernel_rfl) rfl rfl ?_
      refine a_off (i := 7) hok rfl rfl rfl rfl rfl (by kernel_rfl) rfl rfl ?_
      refine a_off (i := 8) hok rfl rfl rfl rfl rfl (by kernel_rfl) rfl rfl ?_
      refine a_off (i := 10) hok rfl rfl rfl rfl rfl (by kernel_rfl) rfl rfl ?_
      refine a_off (i := 11) hok rfl rfl rfl rfl rfl (by kernel_rfl) rfl rfl ?_
      refine a_next hok 9 [] (by kernel_rfl) ?_ trivial
      refine a_stOff (i := 9) hok rfl rfl rfl rfl rfl rfl (by intro _ h; cases h; rfl) ⟨trivial, ⟨trivial, ⟨trivial, ⟨trivial, ⟨trivial, ⟨trivial, ⟨trivial, ⟨trivial, ⟨trivial, ⟨⟨⟨rfl, rfl⟩, trivial⟩, ⟨trivial, trivial⟩⟩⟩⟩⟩⟩⟩⟩⟩⟩⟩ ?_
      refine a_next hok 12 [] (by kernel_rfl) ?_ trivial
      refine a_stOff (i := 12) hok rfl rfl rfl rfl rfl rfl (by intro _ h; cases h; rfl) ⟨trivial, ⟨trivial, ⟨trivial, ⟨trivial, ⟨trivial, ⟨trivial, ⟨trivial, ⟨trivial, ⟨trivial, ⟨⟨⟨rfl, rfl⟩, trivial⟩, ⟨trivial, trivial⟩⟩⟩⟩⟩⟩⟩⟩⟩⟩⟩ ?_
      refine a_rd (i := 13) hok rfl (by kernel_rfl) rfl (r_pickF rfl rfl) rfl ?_
      refine a_rd (i := 14) hok rfl (by kernel_rfl) rfl (r_move rfl) rfl ?_
      refine a_rdOn (i := 15) hok rfl rfl rfl rfl (by kernel_rfl) rfl (r_faddr (fo := 1) Try.underlying55 rfl rfl Try.sizeOf4 rfl) rfl ?_
      refine a_rdOn (i := 16) hok rfl rfl rfl rfl (by kernel_rfl) rfl (r_cload Try.isAgg4 rfl (j := 1) rfl rfl) rfl ?_
      refine a_rdOn (i := 17) hok rfl rfl rfl rfl (by kernel_rfl) rfl (r_not rfl) rfl ?_
      refine a_rdOn (i := 18) hok rfl rfl rfl rfl (by kernel_rfl) rfl (r_move rfl) rfl ?_
      refine b_split (t := 40) rfl (fun _ => ?_) (fun _ => ?_)
      · refine a_rdOn (i := 19) hok rfl rfl rfl rfl (by kernel_rfl) rfl (r_cloadS Try.isAgg34 Try.sizeOf34 rfl (j := 0) rfl rfl rfl) rfl ?_
        refine a_rdOn (i := 20) hok rfl rfl rfl rfl (by kernel_rfl) rfl (r_move rfl) rfl ?_
        refine a_rdOn (i := 21) hok rfl rfl rfl rfl (by kernel_rfl) rfl (r_move rfl) rfl ?_
        refine a_rdOn (i := 22) hok rfl rfl rfl rfl (by kernel_rfl) rfl (r_move rfl) rfl ?_
        refine pull fun t29 h_t29 => ?_
        refine a_rdOn (i := 23) hok rfl rfl rfl rfl (by kernel_rfl) rfl (r_index h_t29 Try.underlying22 el_3 rfl rfl) rfl ?_
        refine a_rdOn (i := 24) hok rfl rfl rfl rfl (by kernel_rfl) rfl (r_load el_3 rfl) rfl ?_
        refine a_rdOn (i := 26) hok rfl rfl rfl rfl (by kernel_rfl) rfl (r_move rfl) rfl ?_
        refine pull fun t30 h_t30 => ?_
        refine a_next hok 25 [] (by kernel_rfl) ?_ trivial
        refine a_stOn (i := 25) hok rfl rfl rfl rfl rfl (s_call (ψ := fun (_ : Unit) => slv (rI .i64) t30) (args := [.tmp 41, .tmp 42, .tmp 46]) Try.call37 rfl (ref07_Defeasible_ok h_t30) ⟨arg rfl, arg rfl, arg rfl, trivial⟩ (fun _ _ _ _ h => h)) (by intro _ h; cases h; rfl) (fun _ => ⟨trivial, ⟨trivial, ⟨trivial, ⟨trivial, ⟨trivial, ⟨trivial, ⟨trivial, ⟨trivial, ⟨trivial, ⟨⟨⟨rfl, rfl⟩, trivial⟩, ⟨trivial, ⟨trivial, ⟨trivial, ⟨trivial, ⟨trivial, ⟨trivial, ⟨trivial, ⟨trivial, ⟨trivial, ⟨trivial, ⟨trivial, ⟨trivial, ⟨⟨⟨rfl, rfl⟩, trivial⟩, ⟨trivial, trivial⟩⟩⟩⟩⟩⟩⟩⟩⟩⟩⟩⟩⟩⟩⟩⟩⟩⟩⟩⟩⟩⟩⟩⟩) (fun _ => ?_)
        refine pull fun t31 h_t31 => ?_
        refine a_next hok 27 [] (by kernel_rfl) ?_ trivial
        refine a_stOn (i := 27) hok rfl rfl rfl rfl rfl (s_call (ψ := fun (_ : Unit) => bv t31) (args := [.tmp 47, .tmp 48]) Try.call72 rfl (ref07_in_ok h_t31) ⟨arg rfl, arg rfl, trivial⟩ (fun _ _ _ _ h => h)) (by intro _ h; cases h; rfl) (fun _ => ⟨trivial, ⟨trivial, ⟨trivial, ⟨trivial, ⟨trivial, ⟨trivial, ⟨⟨⟨rfl, rfl⟩, trivial⟩, ⟨trivial, ⟨trivial, ⟨⟨⟨rfl, rfl⟩, trivial⟩, ⟨trivial, ⟨trivial, ⟨trivial, ⟨trivial, ⟨trivial, ⟨trivial, ⟨trivial, ⟨trivial, ⟨trivial, ⟨trivial, ⟨trivial, ⟨trivial, ⟨⟨⟨rfl, rfl⟩, trivial⟩, ⟨trivial, trivial⟩⟩⟩⟩⟩⟩⟩⟩⟩⟩⟩⟩⟩⟩⟩⟩⟩⟩⟩⟩⟩⟩⟩⟩) (fun _ => ?_)
        refine a_rdOn (i := 28) hok rfl rfl rfl rfl (by kernel_rfl) rfl (r_pickT rfl rfl) rfl ?_
        refine a_rd (i := 29) hok rfl (by kernel_rfl) rfl (r_pickF rfl rfl) rfl ?_
        refine a_fin hok (by kernel_rfl) ?_
        refine b_of (nrm [oc b1 [slv rT_api_Premise b_0.Premises, slv rT_api_Rule b_0.Rules, slv rT_api_Promotion b_0.Promotions], oc b3 [sv t2.Name, bv t2.Strict, iv .i64 t2.Rank, slv rT_api_Literal t2.Body, bv t2.Head.Neg, sv t2.Head.Name]] rfl) ?_
        refine n_then ?_
        refine ref_cond rfl (fun hb33 => ?_) (fun hb33 => ?_)
        · refine ref_seq (ref_region ?_)
          refine as1 rfl rfl ?_
          refine l_nil (n_then (ref_ret (r_block (r_then ?_))))
          refine retX ?_
          refine r_block (r_then ?_)
          exact fin1 (.inl rfl) () [] rfl trivial rfl (rv_tmp rfl)
        refine ref_skip (n_block (n_then (ref_region ?_)))
        refine mv1 rfl rfl ?_
        refine s_rd (r_add rfl rfl) rfl ?_
        refine as1 rfl rfl ?_
        refine b_let (f := iv .i64) (t := 10) rfl fun k36 => ?_
        refine l_nil ?_
        exact goX () (weak [0, 1] ⟨rfl, rfl, rfl, rfl, rfl, rfl, trivial⟩ ⟨rfl, rfl, trivial⟩)
      refine a_off (i := 19) hok rfl rfl rfl rfl rfl (by kernel_rfl) rfl rfl ?_
      refine a_off (i := 20) hok rfl rfl rfl rfl rfl (by kernel_rfl) rfl rfl ?_
      refine a_off (i := 21) hok rfl rfl rfl rfl rfl (by kernel_rfl) rfl rfl ?_
      refine a_off (i := 22) hok rfl rfl rfl rfl rfl (by kernel_rfl) rfl rfl ?_
      refine a_off (i := 23) hok rfl rfl rfl rfl rfl (by kernel_rfl) rfl rfl ?_
      refine a_off (i := 24) hok rfl rfl rfl rfl rfl (by kernel_rfl) rfl rfl ?_
      refine a_off (i := 26) hok rfl rfl rfl rfl rfl (by kernel_rfl) rfl rfl ?_
      refine a_next hok 25 [] (by kernel_rfl) ?_ trivial
      refine a_stOff (i := 25) hok rfl rfl rfl rfl rfl rfl (by intro _ h; cases h; rfl) ⟨trivial, ⟨trivial, ⟨trivial, ⟨trivial, ⟨trivial, ⟨trivial, ⟨trivial, ⟨trivial, ⟨trivial, ⟨⟨⟨rfl, rfl⟩, trivial⟩, ⟨trivial, ⟨trivial, ⟨trivial, ⟨trivial, ⟨trivial, ⟨trivial, ⟨trivial, ⟨trivial, ⟨trivial, ⟨trivial, ⟨trivial, ⟨trivial, ⟨⟨⟨rfl, rfl⟩, trivial⟩, ⟨trivial, trivial⟩⟩⟩⟩⟩⟩⟩⟩⟩⟩⟩⟩⟩⟩⟩⟩⟩⟩⟩⟩⟩⟩⟩⟩ ?_
      refine a_next hok 27 [] (by kernel_rfl) ?_ trivial
      refine a_stOff (i := 27) hok rfl rfl rfl rfl rfl rfl (by intro _ h; cases h; rfl) ⟨trivial, ⟨trivial, ⟨trivial, ⟨trivial, ⟨trivial, ⟨trivial, ⟨trivial, ⟨trivial, ⟨trivial, ⟨⟨⟨rfl, rfl⟩, trivial⟩, ⟨trivial, ⟨trivial, ⟨trivial, ⟨trivial, ⟨trivial, ⟨trivial, ⟨trivial, ⟨trivial, ⟨trivial, ⟨trivial, ⟨trivial, ⟨trivial, ⟨⟨⟨rfl, rfl⟩, trivial⟩, ⟨trivial, trivial⟩⟩⟩⟩⟩⟩⟩⟩⟩⟩⟩⟩⟩⟩⟩⟩⟩⟩⟩⟩⟩⟩⟩⟩ ?_
      refine a_rdOn (i := 28) hok rfl rfl rfl rfl (by kernel_rfl) rfl (r_pickF rfl rfl) rfl ?_
      refine a_rd (i := 29) hok rfl (by kernel_rfl) rfl (r_pickF rfl rfl) rfl ?_
      refine a_fin hok (by kernel_rfl) ?_
      refine n_then ?_
      refine ref_condF rfl rfl ?_
      refine ref_skip (n_block (n_then (ref_region ?_)))
      refine mv1 rfl rfl ?_
      refine s_rd (r_add rfl rfl) rfl ?_
      refine as1 rfl rfl ?_
      refine b_let (f := iv .i64) (t := 10) rfl fun k37 => ?_
      refine l_nil ?_
      exact goX () (weak [0, 1] ⟨rfl, rfl, rfl, rfl, rfl, rfl, trivial⟩ ⟨rfl, rfl, trivial⟩)
    refine ref_exit (x_then ?_)
    exact brkX () (weak [] trivial trivial)
  refine n_then (ref_seq (ref_region ?_))
  refine as1 rfl rfl ?_
  refine l_nil (n_then (ref_ret ?_))
  exact fin1 (.inl rfl) () [] rfl trivial rfl (rv_tmp rfl)

/-! deliberation/deliberationref07.choices -/
noncomputable def ref07_choices_1_l1 (l_0 : (List T_api_Argument)) (n_1 : Int) (body_2 : (List T_api_Literal)) (sofar_3 : (List Int)) (rec_ : (List T_api_Argument) → Int → (List T_api_Literal) → (List Int) → Option (List (List Int))) (s29 : Int × (List (List Int))) : Option (Sum ((List (List Int))) (Int × (List (List Int)))) :=
  bif decide (s29.1 < n_1) then
    Option.bind (idxM l_0 s29.1) fun t32 =>
    Option.bind (idxM body_2 (sofar_3.length : Int)) fun t33 =>
    bif decide (t32.Conclusion = t33) then
      Option.bind (appM 8 sofar_3 [s29.1]) fun t35 =>
      Option.bind (rec_ l_0 n_1 body_2 t35) fun t37 =>
      Option.bind (appM 24 s29.2 t37) fun out38 =>
      letM (iadd .i64 s29.1 1) fun i40 =>
      some (Sum.inr (i40, out38))
    else
      letM (iadd .i64 s29.1 1) fun i41 =>
      some (Sum.inr (i41, s29.2))
  else
    some (Sum.inl s29.2)

noncomputable def ref07_choices_1_b (rec_ : (List T_api_Argument) → Int → (List T_api_Literal) → (List Int) → Option (List (List Int))) (l_0 : (List T_api_Argument)) (n_1 : Int) (body_2 : (List T_api_Literal)) (sofar_3 : (List Int)) : Option (List (List Int)) :=
  bif (sofar_3.length : Int) == (body_2.length : Int) then
    Option.bind (appM 8 [] sofar_3) fun t3 =>
    some [t3]
  else
    Option.bind (loopC (ref07_choices_1_l1 l_0 n_1 body_2 sofar_3 rec_) (0, [])) fun q42 : (List (List Int)) =>
    some q42

noncomputable def ref07_choices_1_n : Nat → (List T_api_Argument) → Int → (List T_api_Literal) → (List Int) → Option (List (List Int))
  | 0 => fun _ _ _ _ => none
  | n_ + 1 => ref07_choices_1_b (ref07_choices_1_n n_)

noncomputable def ref07_choices_1_m (l_0 : (List T_api_Argument)) (n_1 : Int) (body_2 : (List T_api_Literal)) (sofar_3 : (List Int)) : Option (List (List Int)) := recC fun n_ => ref07_choices_1_n n_ l_0 n_1 body_2 sofar_3

theorem ref07_choices_1_step (rec_ : (List T_api_Argument) → Int → (List T_api_Literal) → (List Int) → Option (List (List Int))) (ih : ∀ {l_0 : (List T_api_Argument)} {n_1 : Int} {body_2 : (List T_api_Literal)} {sofar_3 : (List Int)} {h_0 : Value × List Nat} {h_1 : Value × List Nat} {r : List (List Int)}, rec_ l_0 n_1 body_2 sofar_3 = some r →
    FnOk prog 47 [pv h_0.1, iv .i64 n_1, slv rT_api_Literal body_2, pv h_1.1] [oa rT_api_Argument h_0.1 h_0.2 l_0, oa (rI .i64) h_1.1 h_1.2 sofar_3] (fun (x : Unit) => [slv (rSl (rI .i64)) r]) (fun (x : Unit) => [oa rT_api_Argument h_0.1 h_0.2 l_0])) {l_0 : (List T_api_Argument)} {n_1 : Int} {body_2 : (List T_api_Literal)} {sofar_3 : (List Int)} {h_0 : Value × List Nat} {h_1 : Value × List Nat} {r : List (List Int)} (hm : ref07_choices_1_b rec_ l_0 n_1 body_2 sofar_3 = some r) :
    FnOk prog 47 [pv h_0.1, iv .i64 n_1, slv rT_api_Literal body_2, pv h_1.1] [oa rT_api_Argument h_0.1 h_0.2 l_0, oa (rI .i64) h_1.1 h_1.2 sofar_3] (fun (x : Unit) => [slv (rSl (rI .i64)) r]) (fun (x : Unit) => [oa rT_api_Argument h_0.1 h_0.2 l_0]) := by
  refine fn_ok (fn := Try.f47) (N := 52) (res := fun r x => [slv (rSl (rI .i64)) r]) (Ω1 := fun r x => [oa rT_api_Argument h_0.1 h_0.2 l_0]) Try.func47 rfl rfl hm rfl (fun E hM => ?_)
  unfold ref07_choices_1_b
  refine ref_seq (ref_region ?_)
  refine as1 rfl rfl ?_
  refine l_nil (n_then (ref_seq (ref_seq (ref_region ?_))))
  refine mv1 rfl rfl ?_
  refine s_rd (r_olen Try.underlying22 rfl (j := 1) rfl) rfl ?_
  refine mv1 rfl rfl ?_
  refine s_rd (r_len Try.underlying53 rfl) rfl ?_
  refine s_rd (r_eql rfl rfl) rfl ?_
  refine l_nil (n_then ?_)
  refine ref_cond rfl (fun hb1 => ?_) (fun hb1 => ?_)
  · refine ref_seq (ref_region ?_)
    refine s_st (s_bsliceO (xs := []) (ds := []) Try.underlying22 el_3 rfl (Nat.le_of_ble_eq_true rfl) trivial) rfl (fun o2 => ?_)
    refine mv1 rfl rfl ?_
    refine b_of (frzL [3, 11, 17] (j := 1) rfl ⟨rfl, rfl, rfl, trivial⟩) ?_
    refine pull fun t3 h_t3 => ?_
    refine s_st (s_append h_t3 Try.underlying22 el_3 rfl (j := 2) rfl rfl) rfl (fun o4 => ?_)
    refine b_of (frzL [18] (j := 2) rfl ⟨rfl, trivial⟩) ?_
    refine s_st (s_bslice (xs := [.tmp 18]) (ds := [t3]) Try.underlying26 el_22 rfl (Nat.le_of_ble_eq_true rfl) ⟨(part_at rfl slv_at), trivial⟩) rfl (fun _ => ?_)
    refine as1 rfl rfl ?_
    refine l_nil (n_then (ref_ret (r_then ?_)))
    exact fin1 (.inl rfl) () [0] rfl ⟨rfl, trivial⟩ rfl (rv_tmp rfl)
  refine ref_skip (n_then (ref_seq (ref_region ?_)))
  refine as1 rfl rfl ?_
  refine l_nil (n_then (ref_seq (ref_seq (ref_region ?_))))
  refine as1 rfl rfl ?_
  refine l_nil (n_then ?_)
  refine b_of (frzL [3, 11] (j := 1) rfl ⟨rfl, rfl, trivial⟩) ?_
  refine b_of (own_nil (rSl (rI .i64))) ?_
  refine ref_loopB (f := (ref07_choices_1_l1 l_0 n_1 body_2 sofar_3 rec_)) (Γl := (fun (s29 : Int × (List (List Int))) (x30 : (Value × List Nat)) => [(0, pv h_0.1), (1, iv .i64 n_1), (2, slv rT_api_Literal body_2), (3, slv (rI .i64) sofar_3), (9, pv x30.1), (10, iv .i64 s29.1)])) (Ωl := (fun (s29 : Int × (List (List Int))) (x30 : (Value × List Nat)) => [oa rT_api_Argument h_0.1 h_0.2 l_0, oa (rSl (rI .i64)) x30.1 x30.2 s29.2])) (Γb := (fun (q42 : (List (List Int))) (y43 : (Value × List Nat)) => [(0, pv h_0.1), (3, slv (rI .i64) sofar_3), (9, pv y43.1)])) (Ωb := (fun (q42 : (List (List Int))) (y43 : (Value × List Nat)) => [oa rT_api_Argument h_0.1 h_0.2 l_0, oa (rSl (rI .i64)) y43.1 y43.2 q42])) (0, []) ((.slice none 0 0), []) (weak [0, 2] ⟨rfl, rfl, rfl, rfl, rfl, rfl, trivial⟩ ⟨rfl, rfl, trivial⟩) (fun s29 x30 => ?_) (fun q42 y43 => ?_)
  · unfold ref07_choices_1_l1
    refine ref_seq (ref_seq (ref_region ?_))
    refine mv1 rfl rfl ?_
    refine mv1 rfl rfl ?_
    refine s_rd (r_lss rfl rfl) rfl ?_
    refine l_nil (n_then ?_)
    refine ref_cond rfl (fun hb31 => ?_) (fun hb31 => ?_)
    · refine ref_skip (n_then (ref_seq (ref_block (ref_seq ?_))))
      refine ref_draw [0, 1, 2, 3, 4, 5, 6, 7, 8, 9, 10] rfl (by kernel_rfl) (fun hok => ?_)
      refine a_rd (i := 0) hok rfl (by kernel_rfl) rfl (r_move rfl) rfl ?_
      refine a_rd (i := 1) hok rfl (by kernel_rfl) rfl (r_move rfl) rfl ?_
      refine pull fun t32 h_t32 => ?_
      refine a_rd (i := 2) hok rfl (by kernel_rfl) rfl (r_oindex h_t32 Try.underlying35 el_52 rfl (j := 0) rfl rfl) rfl ?_
      refine a_rd (i := 3) hok rfl (by kernel_rfl) rfl (r_foea (ρ := rT_api_Argument) (fo := 3) h_t32 Try.underlying52 rfl rfl Try.sizeOf50 rfl (j := 0) rfl) rfl ?_
      refine a_rd (i := 4) hok rfl (by kernel_rfl) rfl (r_foload (ρ := rT_api_Argument) (y := t32) (ρ' := rT_api_Literal) (z := t32.Conclusion) h_t32 el_50 rfl (j := 0) rfl rfl rfl) rfl ?_
      refine a_rd (i := 5) hok rfl (by kernel_rfl) rfl (r_move rfl) rfl ?_
      refine a_rd (i := 6) hok rfl (by kernel_rfl) rfl (r_move rfl) rfl ?_
      refine a_rd (i := 7) hok rfl (by kernel_rfl) rfl (r_len Try.underlying22 rfl) rfl ?_
      refine pull fun t33 h_t33 => ?_
      refine a_rd (i := 8) hok rfl (by kernel_rfl) rfl (r_index h_t33 Try.underlying53 el_50 rfl rfl) rfl ?_
      refine a_rd (i := 9) hok rfl (by kernel_rfl) rfl (r_load el_50 rfl) rfl ?_
      refine a_rd (i := 10) hok rfl (by kernel_rfl) rfl (r_steql (u := t32.Conclusion) (v := t33) eq_50 rfl rfl rfl rfl) rfl ?_
      refine a_fin hok (by kernel_rfl) ?_
      refine n_then ?_
      refine ref_cond rfl (fun hb34 => ?_) (fun hb34 => ?_)
      · refine ref_region ?_
        refine mv1 rfl rfl ?_
        refine mv1 rfl rfl ?_
        refine mv1 rfl rfl ?_
        refine mv1 rfl rfl ?_
        refine mv1 rfl rfl ?_
        refine mv1 rfl rfl ?_
        refine s_rd (r_len Try.underlying22 rfl) rfl ?_
        refine mv1 rfl rfl ?_
        refine s_rd (r_len Try.underlying22 rfl) rfl ?_
        refine s_rd (r_full Try.underlying22 el_3 rfl rfl rfl) rfl ?_
        refine mv1 rfl rfl ?_
        refine s_st (s_bslice (xs := [.tmp 46]) (ds := [s29.1]) Try.underlying22 el_3 rfl (Nat.le_of_ble_eq_true rfl) ⟨(part_at rfl iv_at), trivial⟩) rfl (fun _ => ?_)
        refine pull fun t35 h_t35 => ?_
        refine s_st (s_appendF h_t35 rfl Try.underlying22 el_3 rfl rfl) rfl (fun o36 => ?_)
        refine pull fun t37 h_t37 => ?_
        refine s_st (s_callC [0, 2] [true, false] (fun (_ : Unit) => [oa rT_api_Argument h_0.1 h_0.2 l_0, dead]) (fun (_ : Unit) => []) (fun (_ : Unit) => slv (rSl (rI .i64)) t37) (args := [.tmp 37, .tmp 38, .tmp 39, .tmp 48]) (caps := []) Try.call47 rfl (ih h_t37) ⟨rfl, rfl, ⟨rfl, rfl, trivial⟩⟩ (fun _ => rfl) (fun _ => ⟨rfl, trivial⟩) (fun _ => rfl) ⟨arg rfl, arg rfl, arg rfl, arg rfl, trivial⟩ (fun _ _ _ _ h => h)) rfl (fun _ => ?_)
        refine pull fun out38 h_out38 => ?_
        refine s_st (s_append h_out38 Try.underlying26 el_22 rfl (j := 1) rfl rfl) rfl (fun o39 => ?_)
        refine as1 rfl rfl ?_
        refine l_nil ?_
        refine b_of (nrm [oa rT_api_Argument h_0.1 h_0.2 l_0, oa (rSl (rI .i64)) o39.1 o39.2 out38, dead] rfl) ?_
        refine n_block (n_then (ref_region ?_))
        refine mv1 rfl rfl ?_
        refine s_rd (r_add rfl rfl) rfl ?_
        refine as1 rfl rfl ?_
        refine b_let (f := iv .i64) (t := 10) rfl fun i40 => ?_
        refine l_nil ?_
        exact goB o39 (weak [0, 1] ⟨rfl, rfl, rfl, rfl, rfl, rfl, trivial⟩ ⟨rfl, rfl, trivial⟩)
      refine ref_skip (n_block (n_then (ref_region ?_)))
      refine mv1 rfl rfl ?_
      refine s_rd (r_add rfl rfl) rfl ?_
      refine as1 rfl rfl ?_
      refine b_let (f := iv .i64) (t := 10) rfl fun i41 => ?_
      refine l_nil ?_
      exact goB x30 (weak [0, 1] ⟨rfl, rfl, rfl, rfl, rfl, rfl, trivial⟩ ⟨rfl, rfl, trivial⟩)
    refine ref_exit (x_then ?_)
    exact brkB x30 (weak [0, 1] ⟨rfl, rfl, rfl, trivial⟩ ⟨rfl, rfl, trivial⟩)
  refine n_then (ref_seq (ref_region ?_))
  refine mv1 rfl rfl ?_
  refine as1 rfl rfl ?_
  refine l_nil (n_then (ref_ret ?_))
  refine b_of (frzL [9, 51, 8] (j := 1) rfl ⟨rfl, rfl, rfl, trivial⟩) ?_
  exact fin1 (.inl rfl) () [0] rfl ⟨rfl, trivial⟩ rfl (rv_tmp rfl)

theorem ref07_choices_1_n_ok : ∀ (n_ : Nat) {l_0 : (List T_api_Argument)} {n_1 : Int} {body_2 : (List T_api_Literal)} {sofar_3 : (List Int)} {h_0 : Value × List Nat} {h_1 : Value × List Nat} {r : List (List Int)}, ref07_choices_1_n n_ l_0 n_1 body_2 sofar_3 = some r →
    FnOk prog 47 [pv h_0.1, iv .i64 n_1, slv rT_api_Literal body_2, pv h_1.1] [oa rT_api_Argument h_0.1 h_0.2 l_0, oa (rI .i64) h_1.1 h_1.2 sofar_3] (fun (x : Unit) => [slv (rSl (rI .i64)) r]) (fun (x : Unit) => [oa rT_api_Argument h_0.1 h_0.2 l_0]) := by
  intro n_
  induction n_ with
  | zero => intros; rename_i h; cases h
  | succ n_ ih => intros; rename_i h; exact ref07_choices_1_step _ @ih h

theorem ref07_choices_1_ok {l_0 : (List T_api_Argument)} {n_1 : Int} {body_2 : (List T_api_Literal)} {sofar_3 : (List Int)} {h_0 : Value × List Nat} {h_1 : Value × List Nat} {r : List (List Int)} (hm : ref07_choices_1_m l_0 n_1 body_2 sofar_3 = some r) :
    FnOk prog 47 [pv h_0.1, iv .i64 n_1, slv rT_api_Literal body_2, pv h_1.1] [oa rT_api_Argument h_0.1 h_0.2 l_0, oa (rI .i64) h_1.1 h_1.2 sofar_3] (fun (x : Unit) => [slv (rSl (rI .i64)) r]) (fun (x : Unit) => [oa rT_api_Argument h_0.1 h_0.2 l_0]) := by
  obtain ⟨n_, h⟩ := recC_some hm
  exact ref07_choices_1_n_ok n_ h

theorem ref07_choices_1_l1_le {rec_ rec_' : (List T_api_Argument) → Int → (List T_api_Literal) → (List Int) → Option (List (List Int))} (h : ∀ l_0 n_1 body_2 sofar_3, Le (rec_ l_0 n_1 body_2 sofar_3) (rec_' l_0 n_1 body_2 sofar_3)) {l_0 : (List T_api_Argument)} {n_1 : Int} {body_2 : (List T_api_Literal)} {sofar_3 : (List Int)} {s29 : Int × (List (List Int))}  : Le (ref07_choices_1_l1 l_0 n_1 body_2 sofar_3 rec_ s29) (ref07_choices_1_l1 l_0 n_1 body_2 sofar_3 rec_' s29) := by
  unfold ref07_choices_1_l1
  repeat' with_reducible (first | exact Le.refl _ | exact h _ _ _ _ | refine Le.bind ?_ (Le.sumK fun _ => ?_) | refine Le.bind ?_ (fun _ => ?_) | refine Le.cond ?_ ?_ | refine Le.letM (fun _ => ?_) | refine Le.join (fun _ => ?_) (fun _ _ hj => ?_) | exact hj _)

theorem ref07_choices_1_b_le {rec_ rec_' : (List T_api_Argument) → Int → (List T_api_Literal) → (List Int) → Option (List (List Int))} (h : ∀ l_0 n_1 body_2 sofar_3, Le (rec_ l_0 n_1 body_2 sofar_3) (rec_' l_0 n_1 body_2 sofar_3)) {l_0 : (List T_api_Argument)} {n_1 : Int} {body_2 : (List T_api_Literal)} {sofar_3 : (List Int)} : Le (ref07_choices_1_b rec_ l_0 n_1 body_2 sofar_3) (ref07_choices_1_b rec_' l_0 n_1 body_2 sofar_3) := by
  unfold ref07_choices_1_b
  repeat' with_reducible (first | exact Le.refl _ | exact h _ _ _ _ | refine Le.loopC (fun _ => ref07_choices_1_l1_le h) | refine Le.bind ?_ (Le.sumK fun _ => ?_) | refine Le.bind ?_ (fun _ => ?_) | refine Le.cond ?_ ?_ | refine Le.letM (fun _ => ?_) | refine Le.join (fun _ => ?_) (fun _ _ hj => ?_) | exact hj _)

theorem ref07_choices_1_n_le : ∀ (n_ : Nat) (l_0 : (List T_api_Argument)) (n_1 : Int) (body_2 : (List T_api_Literal)) (sofar_3 : (List Int)), Le (ref07_choices_1_n n_ l_0 n_1 body_2 sofar_3) (ref07_choices_1_n (n_ + 1) l_0 n_1 body_2 sofar_3)
  | 0, _, _, _, _ => fun _ h => by cases h
  | n_ + 1, _, _, _, _ => ref07_choices_1_b_le (ref07_choices_1_n_le n_)

/-! deliberation/deliberationref07.choices -/
noncomputable def ref07_choices_l1 (l_0 : (List T_api_Argument)) (n_1 : Int) (body_2 : (List T_api_Literal)) (sofar_3 : (List Int)) (s29 : Int × (List (List Int))) : Option (Sum ((List (List Int))) (Int × (List (List Int)))) :=
  bif decide (s29.1 < n_1) then
    Option.bind (idxM l_0 s29.1) fun t32 =>
    Option.bind (idxM body_2 (sofar_3.length : Int)) fun t33 =>
    bif decide (t32.Conclusion = t33) then
      Option.bind (appM 8 sofar_3 [s29.1]) fun t35 =>
      Option.bind (ref07_choices_1_m l_0 n_1 body_2 t35) fun t37 =>
      Option.bind (appM 24 s29.2 t37) fun out38 =>
      letM (iadd .i64 s29.1 1) fun i40 =>
      some (Sum.inr (i40, out38))
    else
      letM (iadd .i64 s29.1 1) fun i41 =>
      some (Sum.inr (i41, s29.2))
  else
    some (Sum.inl s29.2)

noncomputable def ref07_choices_m (l_0 : (List T_api_Argument)) (n_1 : Int) (body_2 : (List T_api_Literal)) (sofar_3 : (List Int)) : Option (List (List Int)) :=
  bif (sofar_3.length : Int) == (body_2.length : Int) then
    Option.bind (appM 8 [] sofar_3) fun t3 =>
    some [t3]
  else
    Option.bind (loopC (ref07_choices_l1 l_0 n_1 body_2 sofar_3) (0, [])) fun q42 : (List (List Int)) =>
    some q42

theorem ref07_choices_ok {l_0 : (List T_api_Argument)} {n_1 : Int} {body_2 : (List T_api_Literal)} {sofar_3 : (List Int)} {h_0 : Value × List Nat} {r : List (List Int)} (hm : ref07_choices_m l_0 n_1 body_2 sofar_3 = some r) :
    FnOk prog 47 [pv h_0.1, iv .i64 n_1, slv rT_api_Literal body_2, slv (rI .i64) sofar_3] [oa rT_api_Argument h_0.1 h_0.2 l_0] (fun (x : Unit) => [slv (rSl (rI .i64)) r]) (fun (x : Unit) => [oa rT_api_Argument h_0.1 h_0.2 l_0]) := by
  refine fn_ok (fn := Try.f47) (N := 52) (res := fun r x => [slv (rSl (rI .i64)) r]) (Ω1 := fun r x => [oa rT_api_Argument h_0.1 h_0.2 l_0]) Try.func47 rfl rfl hm rfl (fun E hM => ?_)
  unfold ref07_choices_m
  refine ref_seq (ref_region ?_)
  refine as1 rfl rfl ?_
  refine l_nil (n_then (ref_seq (ref_seq (ref_region ?_))))
  refine mv1 rfl rfl ?_
  refine s_rd (r_len Try.underlying22 rfl) rfl ?_
  refine mv1 rfl rfl ?_
  refine s_rd (r_len Try.underlying53 rfl) rfl ?_
  refine s_rd (r_eql rfl rfl) rfl ?_
  refine l_nil (n_then ?_)
  refine ref_cond rfl (fun hb1 => ?_) (fun hb1 => ?_)
  · refine ref_seq (ref_region ?_)
    refine s_st (s_bsliceO (xs := []) (ds := []) Try.underlying22 el_3 rfl (Nat.le_of_ble_eq_true rfl) trivial) rfl (fun o2 => ?_)
    refine mv1 rfl rfl ?_
    refine pull fun t3 h_t3 => ?_
    refine s_st (s_append h_t3 Try.underlying22 el_3 rfl (j := 1) rfl rfl) rfl (fun o4 => ?_)
    refine b_of (frzL [18] (j := 1) rfl ⟨rfl, trivial⟩) ?_
    refine s_st (s_bslice (xs := [.tmp 18]) (ds := [t3]) Try.underlying26 el_22 rfl (Nat.le_of_ble_eq_true rfl) ⟨(part_at rfl slv_at), trivial⟩) rfl (fun _ => ?_)
    refine as1 rfl rfl ?_
    refine l_nil (n_then (ref_ret (r_then ?_)))
    exact fin1 (.inl rfl) () [0] rfl ⟨rfl, trivial⟩ rfl (rv_tmp rfl)
  refine ref_skip (n_then (ref_seq (ref_region ?_)))
  refine as1 rfl rfl ?_
  refine l_nil (n_then (ref_seq (ref_seq (ref_region ?_))))
  refine as1 rfl rfl ?_
  refine l_nil (n_then ?_)
  refine b_of (own_nil (rSl (rI .i64))) ?_
  refine ref_loopB (f := (ref07_choices_l1 l_0 n_1 body_2 sofar_3)) (Γl := (fun (s29 : Int × (List (List Int))) (x30 : (Value × List Nat)) => [(0, pv h_0.1), (1, iv .i64 n_1), (2, slv rT_api_Literal body_2), (3, slv (rI .i64) sofar_3), (9, pv x30.1), (10, iv .i64 s29.1)])) (Ωl := (fun (s29 : Int × (List (List Int))) (x30 : (Value × List Nat)) => [oa rT_api_Argument h_0.1 h_0.2 l_0, oa (rSl (rI .i64)) x30.1 x30.2 s29.2])) (Γb := (fun (q42 : (List (List Int))) (y43 : (Value × List Nat)) => [(0, pv h_0.1), (9, pv y43.1)])) (Ωb := (fun (q42 : (List (List Int))) (y43 : (Value × List Nat)) => [oa rT_api_Argument h_0.1 h_0.2 l_0, oa (rSl (rI .i64)) y43.1 y43.2 q42])) (0, []) ((.slice none 0 0), []) (weak [0, 1] ⟨rfl, rfl, rfl, rfl, rfl, rfl, trivial⟩ ⟨rfl, rfl, trivial⟩) (fun s29 x30 => ?_) (fun q42 y43 => ?_)
  · unfold ref07_choices_l1
    refine ref_seq (ref_seq (ref_region ?_))
    refine mv1 rfl rfl ?_
    refine mv1 rfl rfl ?_
    refine s_rd (r_lss rfl rfl) rfl ?_
    refine l_nil (n_then ?_)
    refine ref_cond rfl (fun hb31 => ?_) (fun hb31 => ?_)
    · refine ref_skip (n_then (ref_seq (ref_block (ref_seq ?_))))
      refine ref_draw [0, 1, 2, 3, 4, 5, 6, 7, 8, 9, 10] rfl (by kernel_rfl) (fun hok => ?_)
      refine a_rd (i := 0) hok rfl (by kernel_rfl) rfl (r_move rfl) rfl ?_
      refine a_rd (i := 1) hok rfl (by kernel_rfl) rfl (r_move rfl) rfl ?_
      refine pull fun t32 h_t32 => ?_
      refine a_rd (i := 2) hok rfl (by kernel_rfl) rfl (r_oindex h_t32 Try.underlying35 el_52 rfl (j := 0) rfl rfl) rfl ?_
      refine a_rd (i := 3) hok rfl (by kernel_rfl) rfl (r_foea (ρ := rT_api_Argument) (fo := 3) h_t32 Try.underlying52 rfl rfl Try.sizeOf50 rfl (j := 0) rfl) rfl ?_
      refine a_rd (i := 4) hok rfl (by kernel_rfl) rfl (r_foload (ρ := rT_api_Argument) (y := t32) (ρ' := rT_api_Literal) (z := t32.Conclusion) h_t32 el_50 rfl (j := 0) rfl rfl rfl) rfl ?_
      refine a_rd (i := 5) hok rfl (by kernel_rfl) rfl (r_move rfl) rfl ?_
      refine a_rd (i := 6) hok rfl (by kernel_rfl) rfl (r_move rfl) rfl ?_
      refine a_rd (i := 7) hok rfl (by kernel_rfl) rfl (r_len Try.underlying22 rfl) rfl ?_
      refine pull fun t33 h_t33 => ?_
      refine a_rd (i := 8) hok rfl (by kernel_rfl) rfl (r_index h_t33 Try.underlying53 el_50 rfl rfl) rfl ?_
      refine a_rd (i := 9) hok rfl (by kernel_rfl) rfl (r_load el_50 rfl) rfl ?_
      refine a_rd (i := 10) hok rfl (by kernel_rfl) rfl (r_steql (u := t32.Conclusion) (v := t33) eq_50 rfl rfl rfl rfl) rfl ?_
      refine a_fin hok (by kernel_rfl) ?_
      refine n_then ?_
      refine ref_cond rfl (fun hb34 => ?_) (fun hb34 => ?_)
      · refine ref_region ?_
        refine mv1 rfl rfl ?_
        refine mv1 rfl rfl ?_
        refine mv1 rfl rfl ?_
        refine mv1 rfl rfl ?_
        refine mv1 rfl rfl ?_
        refine mv1 rfl rfl ?_
        refine s_rd (r_len Try.underlying22 rfl) rfl ?_
        refine mv1 rfl rfl ?_
        refine s_rd (r_len Try.underlying22 rfl) rfl ?_
        refine s_rd (r_full Try.underlying22 el_3 rfl rfl rfl) rfl ?_
        refine mv1 rfl rfl ?_
        refine s_st (s_bslice (xs := [.tmp 46]) (ds := [s29.1]) Try.underlying22 el_3 rfl (Nat.le_of_ble_eq_true rfl) ⟨(part_at rfl iv_at), trivial⟩) rfl (fun _ => ?_)
        refine pull fun t35 h_t35 => ?_
        refine s_st (s_appendF h_t35 rfl Try.underlying22 el_3 rfl rfl) rfl (fun o36 => ?_)
        refine pull fun t37 h_t37 => ?_
        refine s_st (s_callC [0, 2] [true, false] (fun (_ : Unit) => [oa rT_api_Argument h_0.1 h_0.2 l_0, dead]) (fun (_ : Unit) => []) (fun (_ : Unit) => slv (rSl (rI .i64)) t37) (args := [.tmp 37, .tmp 38, .tmp 39, .tmp 48]) (caps := []) Try.call47 rfl (ref07_choices_1_ok h_t37) ⟨rfl, rfl, ⟨rfl, rfl, trivial⟩⟩ (fun _ => rfl) (fun _ => ⟨rfl, trivial⟩) (fun _ => rfl) ⟨arg rfl, arg rfl, arg rfl, arg rfl, trivial⟩ (fun _ _ _ _ h => h)) rfl (fun _ => ?_)
        refine pull fun out38 h_out38 => ?_
        refine s_st (s_append h_out38 Try.underlying26 el_22 rfl (j := 1) rfl rfl) rfl (fun o39 => ?_)
        refine as1 rfl rfl ?_
        refine l_nil ?_
        refine b_of (nrm [oa rT_api_Argument h_0.1 h_0.2 l_0, oa (rSl (rI .i64)) o39.1 o39.2 out38, dead] rfl) ?_
        refine n_block (n_then (ref_region ?_))
        refine mv1 rfl rfl ?_
        refine s_rd (r_add rfl rfl) rfl ?_
        refine as1 rfl rfl ?_
        refine b_let (f := iv .i64) (t := 10) rfl fun i40 => ?_
        refine l_nil ?_
        exact goB o39 (weak [0, 1] ⟨rfl, rfl, rfl, rfl, rfl, rfl, trivial⟩ ⟨rfl, rfl, trivial⟩)
      refine ref_skip (n_block (n_then (ref_region ?_)))
      refine mv1 rfl rfl ?_
      refine s_rd (r_add rfl rfl) rfl ?_
      refine as1 rfl rfl ?_
      refine b_let (f := iv .i64) (t := 10) rfl fun i41 => ?_
      refine l_nil ?_
      exact goB x30 (weak [0, 1] ⟨rfl, rfl, rfl, rfl, rfl, rfl, trivial⟩ ⟨rfl, rfl, trivial⟩)
    refine ref_exit (x_then ?_)
    exact brkB x30 (weak [0, 1] ⟨rfl, rfl, trivial⟩ ⟨rfl, rfl, trivial⟩)
  refine n_then (ref_seq (ref_region ?_))
  refine mv1 rfl rfl ?_
  refine as1 rfl rfl ?_
  refine l_nil (n_then (ref_ret ?_))
  refine b_of (frzL [9, 51, 8] (j := 1) rfl ⟨rfl, rfl, rfl, trivial⟩) ?_
  exact fin1 (.inl rfl) () [0] rfl ⟨rfl, trivial⟩ rfl (rv_tmp rfl)

/-! deliberation/deliberationref07.Build -/
noncomputable def ref07_Build_l1 (b_0 : T_api_Base) (s17 : Int × (List T_api_Argument)) : Option (Sum ((List T_api_Argument)) (Int × (List T_api_Argument))) :=
  bif decide (s17.1 < (b_0.Premises.length : Int)) then
    Option.bind (idxM b_0.Premises s17.1) fun t20 =>
    Option.bind (appM 64 s17.2 [(T_api_Argument.mk s17.1 (-1) [] t20.Literal)]) fun l21 =>
    letM (iadd .i64 s17.1 1) fun i23 =>
    some (Sum.inr (i23, l21))
  else
    some (Sum.inl s17.2)

noncomputable def ref07_Build_l4 (b_0 : T_api_Base) (s283 : Int × Int × (List T_api_Argument)) (s369 : Int × (List T_api_Argument)) (t373 : List (List Int)) (s390 : Int × (List T_api_Argument)) : Option (Sum ((Sum (List T_api_Argument × Int) ((List T_api_Argument)))) (Int × (List T_api_Argument))) :=
  bif decide (s390.1 < (t373.length : Int)) then
    Option.bind (idxM t373 s390.1) fun subs393 =>
    joinM (fun j399 : Bool × Bool =>
        Option.bind (idxM b_0.Rules s369.1) fun t402 =>
        Option.bind (appM 64 s390.2 [(T_api_Argument.mk (-1) s369.1 subs393 t402.Head)]) fun l403 =>
        bif decide ((l403.length : Int) > 40) then
          some (Sum.inl (Sum.inl ([], 2)))
        else
          some (Sum.inr (iadd .i64 s390.1 1, l403))) fun k401 =>
    Option.bind (ref07_recent_m subs393 s283.1) fun t394 =>
    bif !t394 then
      bif decide (s283.2.1 > 1) then
        some (Sum.inr (iadd .i64 s390.1 1, s390.2))
      else
        bif decide ((subs393.length : Int) > 0) then
          some (Sum.inr (iadd .i64 s390.1 1, s390.2))
        else
          Option.bind (ref07_Within_m b_0 s390.2 s369.1 subs393) fun t395 =>
          bif !t395 then
            some (Sum.inr (iadd .i64 s390.1 1, s390.2))
          else
            k401 (t395, !t395)
    else
      Option.bind (ref07_Within_m b_0 s390.2 s369.1 subs393) fun t396 =>
      bif !t396 then
        some (Sum.inr (iadd .i64 s390.1 1, s390.2))
      else
        k401 (t396, !t396)
  else
    some (Sum.inl (Sum.inr s390.2))

noncomputable def ref07_Build_l3 (b_0 : T_api_Base) (s283 : Int × Int × (List T_api_Argument)) (n289 : Int) (s369 : Int × (List T_api_Argument)) : Option (Sum ((Sum (List T_api_Argument × Int) ((List T_api_Argument)))) (Int × (List T_api_Argument))) :=
  bif decide (s369.1 < (b_0.Rules.length : Int)) then
    Option.bind (idxM b_0.Rules s369.1) fun t372 =>
    Option.bind (ref07_choices_m s369.2 n289 t372.Body []) fun t373 =>
    Option.bind (loopC (ref07_Build_l4 b_0 s283 s369 t373) (0, s369.2)) (sumK (fun a : List T_api_Argument × Int => some (Sum.inl (Sum.inl a))) fun q406 : (List T_api_Argument) =>
      letM (iadd .i64 s369.1 1) fun i408 =>
      some (Sum.inr (i408, q406)))
  else
    some (Sum.inl (Sum.inr s369.2))

noncomputable def ref07_Build_l2 (b_0 : T_api_Base) (s283 : Int × Int × (List T_api_Argument)) : Option (Sum ((Sum (List T_api_Argument × Int) ((List T_api_Argument)))) (Int × Int × (List T_api_Argument))) :=
  joinM (fun j286 : Unit =>
      letM ((s283.2.2.length : Int)) fun n289 =>
      Option.bind (loopC (ref07_Build_l3 b_0 s283 n289) (0, s283.2.2)) (sumK (fun a : List T_api_Argument × Int => some (Sum.inl (Sum.inl a))) fun q409 : (List T_api_Argument) =>
        letM (iadd .i64 s283.2.1 1) fun round411 =>
        some (Sum.inr (n289, round411, q409)))) fun k288 =>
  bif s283.2.1 == 1 then
    k288 ()
  else
    bif decide (s283.1 < (s283.2.2.length : Int)) then
      k288 ()
    else
      some (Sum.inl (Sum.inr s283.2.2))

noncomputable def ref07_Build_m (b_0 : T_api_Base) : Option (List T_api_Argument × Int) :=
  Option.bind (ref05_Validate_m b_0) fun e2 =>
  bif e2 != 0 then
    some ([], e2)
  else
    Option.bind (loopC (ref07_Build_l1 b_0) (0, [])) fun q24 : (List T_api_Argument) =>
    Option.bind (loopC (ref07_Build_l2 b_0) (0, 1, q24)) (sumK (fun a : List T_api_Argument × Int => some a) fun q412 : (List T_api_Argument) =>
      some (q412, 0))

theorem ref07_Build_ok {b_0 : T_api_Base} {r : List T_api_Argument × Int} (hm : ref07_Build_m b_0 = some r) :
    FnOk prog 31 [ag [slv rT_api_Premise b_0.Premises, slv rT_api_Rule b_0.Rules, slv rT_api_Promotion b_0.Promotions]] [] (fun (x : (Value × List Nat)) => [pv x.1, iv .i64 r.2]) (fun (x : (Value × List Nat)) => [oa rT_api_Argument x.1 x.2 r.1]) := by
  refine fn_ok (X := (Value × List Nat)) (fn := Try.f31) (N := 108) (res := fun r x => [pv x.1, iv .i64 r.2]) (Ω1 := fun r x => [oa rT_api_Argument x.1 x.2 r.1]) Try.func31 rfl rfl hm rfl (fun E hM => ?_)
  unfold ref07_Build_m
  refine ref_seq (ref_region ?_)
  refine s_st (s_box (part_agO (ψs := [slv rT_api_Premise b_0.Premises, slv rT_api_Rule b_0.Rules, slv rT_api_Promotion b_0.Promotions]) rfl ⟨.inl slv_at, .inl slv_at, .inl slv_at, trivial⟩)) rfl (fun b1 => ?_)
  refine as1 rfl rfl ?_
  refine as1 rfl rfl ?_
  refine l_nil (n_then (ref_seq (ref_seq (ref_region ?_))))
  refine s_rd (r_cloadS Try.isAgg34 Try.sizeOf34 rfl (j := 0) rfl rfl rfl) rfl ?_
  refine pull fun e2 h_e2 => ?_
  refine s_st (s_call (ψ := fun (_ : Unit) => iv .i64 e2) (args := [.tmp 13]) Try.call46 rfl (ref05_Validate_ok h_e2) ⟨arg rfl, trivial⟩ (fun _ _ _ _ h => h)) rfl (fun _ => ?_)
  refine as1 rfl rfl ?_
  refine l_nil (n_then (ref_seq (ref_region ?_)))
  refine mv1 rfl rfl ?_
  refine s_rd (r_neq rfl rfl) rfl ?_
  refine l_nil (n_then ?_)
  refine ref_cond rfl (fun hb3 => ?_) (fun hb3 => ?_)
  · refine ref_seq (ref_region ?_)
    refine mv1 rfl rfl ?_
    refine as1 rfl rfl ?_
    refine as1 rfl rfl ?_
    refine l_nil (n_then (ref_ret (r_then ?_)))
    refine b_of (own_nil rT_api_Argument) ?_
    exact fin2 (.inl rfl) ((.slice none 0 0), []) [1] rfl ⟨rfl, trivial⟩ rfl (rv_tmp rfl) (rv_tmp rfl)
  refine ref_skip (n_then (ref_seq (ref_region ?_)))
  refine as1 rfl rfl ?_
  refine l_nil (n_then (ref_seq (ref_seq (ref_region ?_))))
  refine as1 rfl rfl ?_
  refine l_nil (n_then ?_)
  refine b_of (own_nil rT_api_Argument) ?_
  refine ref_loopB (f := (ref07_Build_l1 b_0)) (Γl := (fun (s17 : Int × (List T_api_Argument)) (x18 : (Value × List Nat)) => [(1, pv (ptr b1 0)), (5, pv x18.1), (6, iv .i64 s17.1)])) (Ωl := (fun (s17 : Int × (List T_api_Argument)) (x18 : (Value × List Nat)) => [oc b1 [slv rT_api_Premise b_0.Premises, slv rT_api_Rule b_0.Rules, slv rT_api_Promotion b_0.Promotions], oa rT_api_Argument x18.1 x18.2 s17.2])) (Γb := (fun (q24 : (List T_api_Argument)) (y25 : (Value × List Nat)) => [(1, pv (ptr b1 0)), (5, pv y25.1)])) (Ωb := (fun (q24 : (List T_api_Argument)) (y25 : (Value × List Nat)) => [oc b1 [slv rT_api_Premise b_0.Premises, slv rT_api_Rule b_0.Rules, slv rT_api_Promotion b_0.Promotions], oa rT_api_Argument y25.1 y25.2 q24])) (0, []) ((.slice none 0 0), []) (weak [0, 1] ⟨rfl, rfl, rfl, trivial⟩ ⟨rfl, rfl, trivial⟩) (fun s17 x18 => ?_) (fun q24 y25 => ?_)
  · unfold ref07_Build_l1
    refine ref_seq (ref_seq (ref_region ?_))
    refine mv1 rfl rfl ?_
    refine s_rd (r_faddr (fo := 0) Try.underlying34 rfl rfl Try.sizeOf30 rfl) rfl ?_
    refine s_rd (r_cload Try.isAgg30 rfl (j := 0) rfl rfl) rfl ?_
    refine s_rd (r_len Try.underlying30 rfl) rfl ?_
    refine s_rd (r_lss rfl rfl) rfl ?_
    refine l_nil (n_then ?_)
    refine ref_cond rfl (fun hb19 => ?_) (fun hb19 => ?_)
    · refine ref_skip (n_then (ref_seq (ref_block (ref_region ?_))))
      refine mv1 rfl rfl ?_
      refine mv1 rfl rfl ?_
      refine s_rd (r_faddr (fo := 0) Try.underlying34 rfl rfl Try.sizeOf30 rfl) rfl ?_
      refine s_rd (r_cload Try.isAgg30 rfl (j := 0) rfl rfl) rfl ?_
      refine mv1 rfl rfl ?_
      refine pull fun t20 h_t20 => ?_
      refine s_rd (r_index h_t20 Try.underlying30 el_64 rfl rfl) rfl ?_
      refine s_rd (r_fea (fo := 0) (ρ := rT_api_Premise) (y := t20) (ρ' := rT_api_Literal) (z := t20.Literal) Try.underlying64 rfl rfl Try.sizeOf50 rfl rfl rfl) rfl ?_
      refine s_rd (r_load el_50 rfl) rfl ?_
      refine s_rd (r_build (ps := [(0, .tmp 26), (1, .const (.int .i64 (-1))), (3, .tmp 32)]) (rs := [(0, [iv .i64 s17.1]), (1, [iv .i64 (-1)]), (3, [bv t20.Literal.Neg, sv t20.Literal.Name])]) st_52 zs_52 ⟨rfl, (part_at rfl iv_at), ⟨rfl, (part_at rfl iv_at), ⟨rfl, (part_agO (ψs := [bv t20.Literal.Neg, sv t20.Literal.Name]) rfl ⟨.inl bv_at, .inl sv_at, trivial⟩), trivial⟩⟩⟩ rfl rfl) rfl ?_
      refine b_of (nilG (rI .i64) [(33, ag [iv .i64 s17.1, iv .i64 (-1), slv (rI .i64) [], bv t20.Literal.Neg, sv t20.Literal.Name])] [] ⟨⟨_, rfl, .inr ⟨_, _, rfl, rfl, ⟨.inl rfl, .inl rfl, .inr ⟨rfl, rfl⟩, .inl rfl, .inl rfl, trivial⟩⟩⟩, trivial⟩ trivial) ?_
      refine s_st (s_bslice (xs := [.tmp 33]) (ds := [(T_api_Argument.mk s17.1 (-1) [] t20.Literal)]) Try.underlying35 el_52 rfl (Nat.le_of_ble_eq_true rfl) ⟨(part_agO (ψs := [iv .i64 s17.1, iv .i64 (-1), slv (rI .i64) [], bv t20.Literal.Neg, sv t20.Literal.Name]) rfl ⟨.inl iv_at, .inl iv_at, .inl slv_at, .inl bv_at, .inl sv_at, trivial⟩), trivial⟩) rfl (fun _ => ?_)
      refine pull fun l21 h_l21 => ?_
      refine s_st (s_append h_l21 Try.underlying35 el_52 rfl (j := 1) rfl rfl) rfl (fun o22 => ?_)
      refine as1 rfl rfl ?_
      refine l_nil ?_
      refine b_of (nrm [oc b1 [slv rT_api_Premise b_0.Premises, slv rT_api_Rule b_0.Rules, slv rT_api_Promotion b_0.Promotions], oa rT_api_Argument o22.1 o22.2 l21] rfl) ?_
      refine n_block (n_then (ref_region ?_))
      refine mv1 rfl rfl ?_
      refine s_rd (r_add rfl rfl) rfl ?_
      refine as1 rfl rfl ?_
      refine b_let (f := iv .i64) (t := 6) rfl fun i23 => ?_
      refine l_nil ?_
      exact goB o22 (weak [0, 1] ⟨rfl, rfl, rfl, trivial⟩ ⟨rfl, rfl, trivial⟩)
    refine ref_exit (x_then ?_)
    exact brkB x18 (weak [0, 1] ⟨rfl, rfl, trivial⟩ ⟨rfl, rfl, trivial⟩)
  refine n_then (ref_seq (ref_region ?_))
  refine as1 rfl rfl ?_
  refine l_nil (n_then (ref_seq (ref_seq (ref_region ?_))))
  refine as1 rfl rfl ?_
  refine l_nil (n_then ?_)
  refine ref_loopX (f := (ref07_Build_l2 b_0)) (Γl := (fun (s283 : Int × Int × (List T_api_Argument)) (x284 : (Value × List Nat)) => [(1, pv (ptr b1 0)), (5, pv x284.1), (7, iv .i64 s283.1), (8, iv .i64 s283.2.1)])) (Ωl := (fun (s283 : Int × Int × (List T_api_Argument)) (x284 : (Value × List Nat)) => [oc b1 [slv rT_api_Premise b_0.Premises, slv rT_api_Rule b_0.Rules, slv rT_api_Promotion b_0.Promotions], oa rT_api_Argument x284.1 x284.2 s283.2.2])) (Γb := (fun (q412 : (List T_api_Argument)) (y413 : (Value × List Nat)) => [(5, pv y413.1)])) (Ωb := (fun (q412 : (List T_api_Argument)) (y413 : (Value × List Nat)) => [oa rT_api_Argument y413.1 y413.2 q412])) (kr := (fun a : List T_api_Argument × Int => some a)) (0, 1, q24) y25 (weak [0, 1] ⟨rfl, rfl, rfl, rfl, trivial⟩ ⟨rfl, rfl, trivial⟩) (fun s283 x284 => ?_) (fun q412 y413 => ?_)
  · unfold ref07_Build_l2
    refine ref_seq ?_
    refine ref_join (fun (j286 : Unit) (x287 : Unit) => [(1, pv (ptr b1 0)), (5, pv x284.1), (7, iv .i64 s283.1), (8, iv .i64 s283.2.1)]) (fun (j286 : Unit) (x287 : Unit) => [oc b1 [slv rT_api_Premise b_0.Premises, slv rT_api_Rule b_0.Rules, slv rT_api_Promotion b_0.Promotions], oa rT_api_Argument x284.1 x284.2 s283.2.2]) (fun k288 hk288 => ?_) (fun j286 x287 => ?_)
    · refine ref_seq (ref_region ?_)
      refine mv1 rfl rfl ?_
      refine s_rd (r_eql rfl rfl) rfl ?_
      refine mv1 rfl rfl ?_
      refine b_split (t := 38) rfl (fun _ => ?_) (fun _ => ?_)
      · refine s_off rfl rfl rfl rfl rfl ?_
        refine s_off rfl rfl rfl rfl rfl ?_
        refine s_off rfl rfl rfl rfl rfl ?_
        refine s_off rfl rfl rfl rfl rfl ?_
        refine s_rd (r_pickT rfl rfl) rfl ?_
        refine l_nil (n_then ?_)
        refine ref_condT rfl rfl ?_
        refine ref_skip ?_
        exact b_to (hk288 () ()) (weak [0, 1] ⟨rfl, rfl, rfl, rfl, trivial⟩ ⟨rfl, rfl, trivial⟩)
      refine s_on rfl rfl rfl ?_
      refine mv1 rfl rfl ?_
      refine s_on rfl rfl rfl ?_
      refine mv1 rfl rfl ?_
      refine s_on rfl rfl rfl ?_
      refine s_rd (r_olen Try.underlying35 rfl (j := 1) rfl) rfl ?_
      refine s_on rfl rfl rfl ?_
      refine s_rd (r_lss rfl rfl) rfl ?_
      refine s_rd (r_pickF rfl rfl) rfl ?_
      refine l_nil (n_then ?_)
      refine ref_cond rfl (fun hb285 => ?_) (fun hb285 => ?_)
      · refine ref_skip ?_
        exact b_to (hk288 () ()) (weak [0, 1] ⟨rfl, rfl, rfl, rfl, trivial⟩ ⟨rfl, rfl, trivial⟩)
      refine ref_exit (x_then ?_)
      exact brkX x284 (weak [1] ⟨rfl, trivial⟩ ⟨rfl, trivial⟩)
    refine n_then (ref_seq (ref_block (ref_seq (ref_region ?_))))
    refine mv1 rfl rfl ?_
    refine s_rd (r_olen Try.underlying35 rfl (j := 1) rfl) rfl ?_
    refine as1 rfl rfl ?_
    refine b_let (f := iv .i64) (t := 9) rfl fun n289 => ?_
    refine l_nil (n_then (ref_seq (ref_seq (ref_region ?_))))
    refine as1 rfl rfl ?_
    refine l_nil (n_then ?_)
    refine ref_loopX (f := (ref07_Build_l3 b_0 s283 n289)) (Γl := (fun (s369 : Int × (List T_api_Argument)) (x370 : (Value × List Nat)) => [(1, pv (ptr b1 0)), (5, pv x370.1), (7, iv .i64 s283.1), (8, iv .i64 s283.2.1), (9, iv .i64 n289), (10, iv .i64 s369.1)])) (Ωl := (fun (s369 : Int × (List T_api_Argument)) (x370 : (Value × List Nat)) => [oc b1 [slv rT_api_Premise b_0.Premises, slv rT_api_Rule b_0.Rules, slv rT_api_Promotion b_0.Promotions], oa rT_api_Argument x370.1 x370.2 s369.2])) (Γb := (fun (q409 : (List T_api_Argument)) (y410 : (Value × List Nat)) => [(1, pv (ptr b1 0)), (5, pv y410.1), (8, iv .i64 s283.2.1), (9, iv .i64 n289)])) (Ωb := (fun (q409 : (List T_api_Argument)) (y410 : (Value × List Nat)) => [oc b1 [slv rT_api_Premise b_0.Premises, slv rT_api_Rule b_0.Rules, slv rT_api_Promotion b_0.Promotions], oa rT_api_Argument y410.1 y410.2 q409])) (kr := (fun a : List T_api_Argument × Int => some (Sum.inl (Sum.inl a)))) (0, s283.2.2) x284 (weak [0, 1] ⟨rfl, rfl, rfl, rfl, rfl, rfl, trivial⟩ ⟨rfl, rfl, trivial⟩) (fun s369 x370 => ?_) (fun q409 y410 => ?_)
    · unfold ref07_Build_l3
      refine ref_seq (ref_seq (ref_region ?_))
      refine mv1 rfl rfl ?_
      refine s_rd (r_faddr (fo := 1) Try.underlying34 rfl rfl Try.sizeOf31 rfl) rfl ?_
      refine s_rd (r_cload Try.isAgg31 rfl (j := 0) rfl rfl) rfl ?_
      refine s_rd (r_len Try.underlying31 rfl) rfl ?_
      refine s_rd (r_lss rfl rfl) rfl ?_
      refine l_nil (n_then ?_)
      refine ref_cond rfl (fun hb371 => ?_) (fun hb371 => ?_)
      · refine ref_skip (n_then (ref_seq (ref_block (ref_seq (ref_region ?_)))))
        refine mv1 rfl rfl ?_
        refine mv1 rfl rfl ?_
        refine s_rd (r_faddr (fo := 1) Try.underlying34 rfl rfl Try.sizeOf31 rfl) rfl ?_
        refine s_rd (r_cload Try.isAgg31 rfl (j := 0) rfl rfl) rfl ?_
        refine mv1 rfl rfl ?_
        refine pull fun t372 h_t372 => ?_
        refine s_rd (r_index h_t372 Try.underlying31 el_55 rfl rfl) rfl ?_
        refine s_rd (r_fea (fo := 3) (ρ := rT_api_Rule) (y := t372) (ρ' := (rSl rT_api_Literal)) (z := t372.Body) Try.underlying55 rfl rfl Try.sizeOf53 rfl rfl rfl) rfl ?_
        refine s_rd (r_load el_53 rfl) rfl ?_
        refine pull fun t373 h_t373 => ?_
        refine s_st (s_callC [1] [true] (fun (_ : Unit) => [oa rT_api_Argument x370.1 x370.2 s369.2]) (fun (_ : Unit) => []) (fun (_ : Unit) => slv (rSl (rI .i64)) t373) (args := [.tmp 55, .tmp 56, .tmp 62, .const (.slice none 0 0)]) (caps := []) Try.call47 rfl (ref07_choices_ok h_t373) ⟨rfl, rfl, trivial⟩ (fun _ => rfl) (fun _ => trivial) (fun _ => rfl) ⟨arg rfl, arg rfl, arg rfl, arg_nil _ rfl, trivial⟩ (fun _ _ _ _ h => h)) rfl (fun _ => ?_)
        refine s_rd (r_len Try.underlying26 rfl) rfl ?_
        refine mv1 rfl rfl ?_
        refine l_nil (n_then ?_)
        refine ref_loopX (f := (ref07_Build_l4 b_0 s283 s369 t373)) (Γl := (fun (s390 : Int × (List T_api_Argument)) (x391 : (Value × List Nat)) => [(1, pv (ptr b1 0)), (5, pv x391.1), (7, iv .i64 s283.1), (8, iv .i64 s283.2.1), (9, iv .i64 n289), (10, iv .i64 s369.1), (63, slv (rSl (rI .i64)) t373), (64, iv .i64 (t373.length : Int)), (65, iv .i64 s390.1)])) (Ωl := (fun (s390 : Int × (List T_api_Argument)) (x391 : (Value × List Nat)) => [oc b1 [slv rT_api_Premise b_0.Premises, slv rT_api_Rule b_0.Rules, slv rT_api_Promotion b_0.Promotions], oa rT_api_Argument x391.1 x391.2 s390.2])) (Γb := (fun (q406 : (List T_api_Argument)) (y407 : (Value × List Nat)) => [(1, pv (ptr b1 0)), (5, pv y407.1), (7, iv .i64 s283.1), (8, iv .i64 s283.2.1), (9, iv .i64 n289), (10, iv .i64 s369.1)])) (Ωb := (fun (q406 : (List T_api_Argument)) (y407 : (Value × List Nat)) => [oc b1 [slv rT_api_Premise b_0.Premises, slv rT_api_Rule b_0.Rules, slv rT_api_Promotion b_0.Promotions], oa rT_api_Argument y407.1 y407.2 q406])) (kr := (fun a : List T_api_Argument × Int => some (Sum.inl (Sum.inl a)))) (0, s369.2) x370 (weak [0, 1] ⟨rfl, rfl, rfl, rfl, rfl, rfl, rfl, rfl, rfl, trivial⟩ ⟨rfl, rfl, trivial⟩) (fun s390 x391 => ?_) (fun q406 y407 => ?_)
        · unfold ref07_Build_l4
          refine ref_seq (ref_region ?_)
          refine s_rd (r_lss rfl rfl) rfl ?_
          refine l_nil (n_then (ref_seq ?_))
          refine ref_cond rfl (fun hb392 => ?_) (fun hb392 => ?_)
          · refine ref_skip (n_then (ref_seq (ref_block (ref_seq (ref_region ?_)))))
            refine pull fun subs393 h_subs393 => ?_
            refine s_rd (r_index h_subs393 Try.underlying26 el_22 rfl rfl) rfl ?_
            refine s_rd (r_load el_22 rfl) rfl ?_
            refine as1 rfl rfl ?_
            refine l_nil (n_then (ref_seq ?_))
            refine ref_join (fun (j399 : Bool × Bool) (x400 : Unit) => [(1, pv (ptr b1 0)), (5, pv x391.1), (7, iv .i64 s283.1), (8, iv .i64 s283.2.1), (9, iv .i64 n289), (10, iv .i64 s369.1), (12, slv (rI .i64) subs393), (63, slv (rSl (rI .i64)) t373), (64, iv .i64 (t373.length : Int)), (65, iv .i64 s390.1), (83, ag [slv rT_api_Premise b_0.Premises, slv rT_api_Rule b_0.Rules, slv rT_api_Promotion b_0.Promotions]), (84, pv x391.1), (85, iv .i64 s369.1), (86, slv (rI .i64) subs393), (87, bv j399.1), (88, bv j399.2)]) (fun (j399 : Bool × Bool) (x400 : Unit) => [oc b1 [slv rT_api_Premise b_0.Premises, slv rT_api_Rule b_0.Rules, slv rT_api_Promotion b_0.Promotions], oa rT_api_Argument x391.1 x391.2 s390.2]) (fun k401 hk401 => ?_) (fun j399 x400 => ?_)
            · refine ref_seq (ref_region ?_)
              refine mv1 rfl rfl ?_
              refine mv1 rfl rfl ?_
              refine pull fun t394 h_t394 => ?_
              refine s_st (s_call (ψ := fun (_ : Unit) => bv t394) (args := [.tmp 69, .tmp 70]) Try.call48 rfl (ref07_recent_ok h_t394) ⟨arg rfl, arg rfl, trivial⟩ (fun _ _ _ _ h => h)) rfl (fun _ => ?_)
              refine s_rd (r_not rfl) rfl ?_
              refine mv1 rfl rfl ?_
              refine b_split (t := 73) rfl (fun _ => ?_) (fun _ => ?_)
              · refine s_on rfl rfl rfl ?_
                refine mv1 rfl rfl ?_
                refine s_on rfl rfl rfl ?_
                refine s_rd (r_gtr rfl rfl) rfl ?_
                refine s_on rfl rfl rfl ?_
                refine mv1 rfl rfl ?_
                refine b_split (t := 76) rfl (fun _ => ?_) (fun _ => ?_)
                · refine s_off rfl rfl rfl rfl rfl ?_
                  refine s_off rfl rfl rfl rfl rfl ?_
                  refine s_off rfl rfl rfl rfl rfl ?_
                  refine s_on rfl rfl rfl ?_
                  refine s_rd (r_pickT rfl rfl) rfl ?_
                  refine s_rd (r_pickT rfl rfl) rfl ?_
                  refine mv1 rfl rfl ?_
                  refine s_off rfl rfl rfl rfl rfl ?_
                  refine s_off rfl rfl rfl rfl rfl ?_
                  refine s_off rfl rfl rfl rfl rfl ?_
                  refine s_off rfl rfl rfl rfl rfl ?_
                  refine s_off rfl rfl rfl rfl rfl ?_
                  refine s_off rfl rfl rfl rfl rfl ?_
                  refine s_rd (r_pickT rfl rfl) rfl ?_
                  refine l_nil (n_then ?_)
                  refine ref_condT rfl rfl ?_
                  refine ref_exit (x_then (x_eq (n_then (ref_region ?_))))
                  refine s_rd (r_add rfl rfl) rfl ?_
                  refine mv1 rfl rfl ?_
                  refine l_nil ?_
                  exact goX x391 (weak [0, 1] ⟨rfl, rfl, rfl, rfl, rfl, rfl, rfl, rfl, rfl, trivial⟩ ⟨rfl, rfl, trivial⟩)
                refine s_on rfl rfl rfl ?_
                refine mv1 rfl rfl ?_
                refine s_on rfl rfl rfl ?_
                refine s_rd (r_len Try.underlying22 rfl) rfl ?_
                refine s_on rfl rfl rfl ?_
                refine s_rd (r_gtr rfl rfl) rfl ?_
                refine s_on rfl rfl rfl ?_
                refine s_rd (r_pickF rfl rfl) rfl ?_
                refine s_rd (r_pickT rfl rfl) rfl ?_
                refine mv1 rfl rfl ?_
                refine b_split (t := 82) rfl (fun _ => ?_) (fun _ => ?_)
                · refine s_off rfl rfl rfl rfl rfl ?_
                  refine s_off rfl rfl rfl rfl rfl ?_
                  refine s_off rfl rfl rfl rfl rfl ?_
                  refine s_off rfl rfl rfl rfl rfl ?_
                  refine s_off rfl rfl rfl rfl rfl ?_
                  refine s_off rfl rfl rfl rfl rfl ?_
                  refine s_rd (r_pickT rfl rfl) rfl ?_
                  refine l_nil (n_then ?_)
                  refine ref_condT rfl rfl ?_
                  refine ref_exit (x_then (x_eq (n_then (ref_region ?_))))
                  refine s_rd (r_add rfl rfl) rfl ?_
                  refine mv1 rfl rfl ?_
                  refine l_nil ?_
                  exact goX x391 (weak [0, 1] ⟨rfl, rfl, rfl, rfl, rfl, rfl, rfl, rfl, rfl, trivial⟩ ⟨rfl, rfl, trivial⟩)
                refine s_on rfl rfl rfl ?_
                refine s_rd (r_cloadS Try.isAgg34 Try.sizeOf34 rfl (j := 0) rfl rfl rfl) rfl ?_
                refine s_on rfl rfl rfl ?_
                refine mv1 rfl rfl ?_
                refine s_on rfl rfl rfl ?_
                refine mv1 rfl rfl ?_
                refine s_on rfl rfl rfl ?_
                refine mv1 rfl rfl ?_
                refine s_on rfl rfl rfl ?_
                refine pull fun t395 h_t395 => ?_
                refine s_st (s_callB (ψ := fun (_ : Unit) => bv t395) (args := [.tmp 83, .tmp 84, .tmp 85, .tmp 86]) Try.call49 rfl (ref07_Within_ok h_t395) ⟨argB rfl, argO rfl (j := 1) rfl, argB rfl, argB rfl, trivial⟩ (fun _ _ _ _ _ h => h)) rfl (fun _ => ?_)
                refine s_on rfl rfl rfl ?_
                refine s_rd (r_not rfl) rfl ?_
                refine s_rd (r_pickF rfl rfl) rfl ?_
                refine l_nil (n_then ?_)
                refine ref_cond rfl (fun hb397 => ?_) (fun hb397 => ?_)
                · refine ref_exit (x_then (x_eq (n_then (ref_region ?_))))
                  refine s_rd (r_add rfl rfl) rfl ?_
                  refine mv1 rfl rfl ?_
                  refine l_nil ?_
                  exact goX x391 (weak [0, 1] ⟨rfl, rfl, rfl, rfl, rfl, rfl, rfl, rfl, rfl, trivial⟩ ⟨rfl, rfl, trivial⟩)
                refine ref_skip ?_
                exact b_to (hk401 (t395, !t395) ()) (weak [0, 1] ⟨rfl, rfl, rfl, rfl, rfl, rfl, rfl, rfl, rfl, rfl, rfl, rfl, rfl, rfl, rfl, rfl, trivial⟩ ⟨rfl, rfl, trivial⟩)
              refine s_off rfl rfl rfl rfl rfl ?_
              refine s_off rfl rfl rfl rfl rfl ?_
              refine s_off rfl rfl rfl rfl rfl ?_
              refine s_offU rfl rfl rfl ?_
              refine s_offU rfl rfl rfl ?_
              refine s_offU rfl rfl rfl ?_
              refine s_off rfl rfl rfl rfl rfl ?_
              refine s_rd (r_pickF rfl rfl) rfl ?_
              refine mv1 rfl rfl ?_
              refine s_on rfl rfl rfl ?_
              refine s_rd (r_cloadS Try.isAgg34 Try.sizeOf34 rfl (j := 0) rfl rfl rfl) rfl ?_
              refine s_on rfl rfl rfl ?_
              refine mv1 rfl rfl ?_
              refine s_on rfl rfl rfl ?_
              refine mv1 rfl rfl ?_
              refine s_on rfl rfl rfl ?_
              refine mv1 rfl rfl ?_
              refine s_on rfl rfl rfl ?_
              refine pull fun t396 h_t396 => ?_
              refine s_st (s_callB (ψ := fun (_ : Unit) => bv t396) (args := [.tmp 83, .tmp 84, .tmp 85, .tmp 86]) Try.call49 rfl (ref07_Within_ok h_t396) ⟨argB rfl, argO rfl (j := 1) rfl, argB rfl, argB rfl, trivial⟩ (fun _ _ _ _ _ h => h)) rfl (fun _ => ?_)
              refine s_on rfl rfl rfl ?_
              refine s_rd (r_not rfl) rfl ?_
              refine s_rd (r_pickF rfl rfl) rfl ?_
              refine l_nil (n_then ?_)
              refine ref_cond rfl (fun hb398 => ?_) (fun hb398 => ?_)
              · refine ref_exit (x_then (x_eq (n_then (ref_region ?_))))
                refine s_rd (r_add rfl rfl) rfl ?_
                refine mv1 rfl rfl ?_
                refine l_nil ?_
                exact goX x391 (weak [0, 1] ⟨rfl, rfl, rfl, rfl, rfl, rfl, rfl, rfl, rfl, trivial⟩ ⟨rfl, rfl, trivial⟩)
              refine ref_skip ?_
              exact b_to (hk401 (t396, !t396) ()) (weak [0, 1] ⟨rfl, rfl, rfl, rfl, rfl, rfl, rfl, rfl, rfl, rfl, rfl, rfl, rfl, rfl, rfl, rfl, trivial⟩ ⟨rfl, rfl, trivial⟩)
            refine n_then (ref_seq (ref_region ?_))
            refine mv1 rfl rfl ?_
            refine mv1 rfl rfl ?_
            refine mv1 rfl rfl ?_
            refine s_rd (r_faddr (fo := 1) Try.underlying34 rfl rfl Try.sizeOf31 rfl) rfl ?_
            refine s_rd (r_cload Try.isAgg31 rfl (j := 0) rfl rfl) rfl ?_
            refine mv1 rfl rfl ?_
            refine pull fun t402 h_t402 => ?_
            refine s_rd (r_index h_t402 Try.underlying31 el_55 rfl rfl) rfl ?_
            refine s_rd (r_fea (fo := 4) (ρ := rT_api_Rule) (y := t402) (ρ' := rT_api_Literal) (z := t402.Head) Try.underlying55 rfl rfl Try.sizeOf50 rfl rfl rfl) rfl ?_
            refine s_rd (r_load el_50 rfl) rfl ?_
            refine s_rd (r_build (ps := [(0, .const (.int .i64 (-1))), (1, .tmp 91), (2, .tmp 92), (3, .tmp 98)]) (rs := [(0, [iv .i64 (-1)]), (1, [iv .i64 s369.1]), (2, [slv (rI .i64) subs393]), (3, [bv t402.Head.Neg, sv t402.Head.Name])]) st_52 zs_52 ⟨rfl, (part_at rfl iv_at), ⟨rfl, (part_at rfl iv_at), ⟨rfl, (part_at rfl slv_at), ⟨rfl, (part_agO (ψs := [bv t402.Head.Neg, sv t402.Head.Name]) rfl ⟨.inl bv_at, .inl sv_at, trivial⟩), trivial⟩⟩⟩⟩ rfl rfl) rfl ?_
            refine s_st (s_bslice (xs := [.tmp 99]) (ds := [(T_api_Argument.mk (-1) s369.1 subs393 t402.Head)]) Try.underlying35 el_52 rfl (Nat.le_of_ble_eq_true rfl) ⟨(part_agO (ψs := [iv .i64 (-1), iv .i64 s369.1, slv (rI .i64) subs393, bv t402.Head.Neg, sv t402.Head.Name]) rfl ⟨.inl iv_at, .inl iv_at, .inl slv_at, .inl bv_at, .inl sv_at, trivial⟩), trivial⟩) rfl (fun _ => ?_)
            refine pull fun l403 h_l403 => ?_
            refine s_st (s_append h_l403 Try.underlying35 el_52 rfl (j := 1) rfl rfl) rfl (fun o404 => ?_)
            refine as1 rfl rfl ?_
            refine l_nil (n_then (ref_seq (ref_region ?_)))
            refine mv1 rfl rfl ?_
            refine s_rd (r_olen Try.underlying35 rfl (j := 1) rfl) rfl ?_
            refine s_rd (r_gtr rfl rfl) rfl ?_
            refine l_nil (n_then ?_)
            refine ref_cond rfl (fun hb405 => ?_) (fun hb405 => ?_)
            · refine ref_seq (ref_region ?_)
              refine as1 rfl rfl ?_
              refine as1 rfl rfl ?_
              refine l_nil (n_then (ref_ret (r_block (r_then ?_))))
              refine retX ?_
              refine r_block (r_block (r_then ?_))
              refine retX ?_
              refine r_block (r_then (r_block (r_then ?_)))
              refine retX ?_
              refine r_block (r_then ?_)
              refine b_of (own_nil rT_api_Argument) ?_
              exact fin2 (.inl rfl) ((.slice none 0 0), []) [2] rfl ⟨rfl, trivial⟩ rfl (rv_tmp rfl) (rv_tmp rfl)
            refine ref_skip (n_block (n_then (ref_region ?_)))
            refine s_rd (r_add rfl rfl) rfl ?_
            refine mv1 rfl rfl ?_
            refine l_nil ?_
            exact goX o404 (weak [0, 1] ⟨rfl, rfl, rfl, rfl, rfl, rfl, rfl, rfl, rfl, trivial⟩ ⟨rfl, rfl, trivial⟩)
          refine ref_exit (x_then ?_)
          exact brkX x391 (weak [0, 1] ⟨rfl, rfl, rfl, rfl, rfl, rfl, trivial⟩ ⟨rfl, rfl, trivial⟩)
        refine n_block (n_then (ref_region ?_))
        refine mv1 rfl rfl ?_
        refine s_rd (r_add rfl rfl) rfl ?_
        refine as1 rfl rfl ?_
        refine b_let (f := iv .i64) (t := 10) rfl fun i408 => ?_
        refine l_nil ?_
        exact goX y407 (weak [0, 1] ⟨rfl, rfl, rfl, rfl, rfl, rfl, trivial⟩ ⟨rfl, rfl, trivial⟩)
      refine ref_exit (x_then ?_)
      exact brkX x370 (weak [0, 1] ⟨rfl, rfl, rfl, rfl, trivial⟩ ⟨rfl, rfl, trivial⟩)
    refine n_then (ref_region ?_)
    refine mv1 rfl rfl ?_
    refine as1 rfl rfl ?_
    refine l_nil (n_block (n_then (ref_region ?_)))
    refine mv1 rfl rfl ?_
    refine s_rd (r_add rfl rfl) rfl ?_
    refine as1 rfl rfl ?_
    refine b_let (f := iv .i64) (t := 8) rfl fun round411 => ?_
    refine l_nil ?_
    exact goX y410 (weak [0, 1] ⟨rfl, rfl, rfl, rfl, trivial⟩ ⟨rfl, rfl, trivial⟩)
  refine n_then (ref_seq (ref_region ?_))
  refine mv1 rfl rfl ?_
  refine as1 rfl rfl ?_
  refine as1 rfl rfl ?_
  refine l_nil (n_then (ref_ret ?_))
  exact fin2 (.inl rfl) y413 [0] rfl ⟨rfl, trivial⟩ rfl (rv_tmp rfl) (rv_tmp rfl)

/-! deliberation/deliberationlaw08.built -/
noncomputable def law08_built_m (s_0 : T_deliberationkeep_Src) (n_1 : Int) (premises_2 : Int) (rules_3 : Int) : Option (T_api_Base × List T_api_Argument × T_deliberationkeep_Src) :=
  Option.bind (keep_Src_Base_m s_0 n_1 premises_2 rules_3) fun t2 =>
  Option.bind (ref07_Build_m t2.1) fun t4 =>
  bif t4.2 != 0 then
    Option.bind (slM t2.1.Rules 0 (imin (t2.1.Rules.length : Int) 2)) fun t7 =>
    Option.bind (ref07_Build_m (T_api_Base.mk t2.1.Premises t7 [])) fun t8 =>
    some ((T_api_Base.mk t2.1.Premises t7 []), t8.1, t2.2)
  else
    some (t2.1, t4.1, t2.2)

theorem law08_built_ok {s_0 : T_deliberationkeep_Src} {n_1 : Int} {premises_2 : Int} {rules_3 : Int} {b_0 : Nat} {r : T_api_Base × List T_api_Argument × T_deliberationkeep_Src} (hm : law08_built_m s_0 n_1 premises_2 rules_3 = some r) :
    FnOk prog 13 [pv (ptr b_0 0), iv .i64 n_1, iv .i64 premises_2, iv .i64 rules_3] [oc b_0 [slv (rI .i64) s_0.L, iv .i64 s_0.At]] (fun (x : (Value × List Nat)) => [ag [slv rT_api_Premise r.1.Premises, slv rT_api_Rule r.1.Rules, slv rT_api_Promotion r.1.Promotions], pv x.1]) (fun (x : (Value × List Nat)) => [oc b_0 [slv (rI .i64) r.2.2.L, iv .i64 r.2.2.At], oa rT_api_Argument x.1 x.2 r.2.1]) := by
  refine fn_ok (X := (Value × List Nat)) (fn := Try.f13) (N := 41) (res := fun r x => [ag [slv rT_api_Premise r.1.Premises, slv rT_api_Rule r.1.Rules, slv rT_api_Promotion r.1.Promotions], pv x.1]) (Ω1 := fun r x => [oc b_0 [slv (rI .i64) r.2.2.L, iv .i64 r.2.2.At], oa rT_api_Argument x.1 x.2 r.2.1]) Try.func13 rfl rfl hm rfl (fun E hM => ?_)
  unfold law08_built_m
  refine ref_seq (ref_region ?_)
  refine s_st (s_alloc zt_34) rfl (fun b1 => ?_)
  refine as1 rfl rfl ?_
  refine l_nil (n_then (ref_seq (ref_region ?_)))
  refine mv1 rfl rfl ?_
  refine mv1 rfl rfl ?_
  refine mv1 rfl rfl ?_
  refine mv1 rfl rfl ?_
  refine pull fun t2 h_t2 => ?_
  refine s_st (s_callC [0] [true] (fun (_ : Unit) => [oc b_0 [slv (rI .i64) t2.2.L, iv .i64 t2.2.At]]) (fun (_ : Unit) => []) (fun (_ : Unit) => ag [slv rT_api_Premise t2.1.Premises, slv rT_api_Rule t2.1.Rules, slv rT_api_Promotion t2.1.Promotions]) (args := [.tmp 13, .tmp 14, .tmp 15, .tmp 16]) (caps := []) Try.call32 rfl (keep_Src_Base_ok h_t2) ⟨rfl, rfl, trivial⟩ (fun _ => rfl) (fun _ => trivial) (fun _ => rfl) ⟨arg rfl, arg rfl, arg rfl, arg rfl, trivial⟩ (fun _ _ _ _ h => h)) rfl (fun _ => ?_)
  refine s_st (s_alloc zt_34) rfl (fun b3 => ?_)
  refine s_st0 (s_cstore (out := [slv rT_api_Premise t2.1.Premises, slv rT_api_Rule t2.1.Rules, slv rT_api_Promotion t2.1.Promotions]) Try.sizeOf34 rfl (j := 2) rfl (part_agO (ψs := [slv rT_api_Premise t2.1.Premises, slv rT_api_Rule t2.1.Rules, slv rT_api_Promotion t2.1.Promotions]) rfl ⟨.inl slv_at, .inl slv_at, .inl slv_at, trivial⟩) rfl rfl rfl) (fun _ => ?_)
  refine l_nil ?_
  refine b_of (nrm [oc b_0 [slv (rI .i64) t2.2.L, iv .i64 t2.2.At], oc b1 [pv (.slice none 0 0), pv (.slice none 0 0), pv (.slice none 0 0)], oc b3 [slv rT_api_Premise t2.1.Premises, slv rT_api_Rule t2.1.Rules, slv rT_api_Promotion t2.1.Promotions]] rfl) ?_
  refine n_then (ref_seq (ref_region ?_))
  refine s_rd (r_cloadS Try.isAgg34 Try.sizeOf34 rfl (j := 2) rfl rfl rfl) rfl ?_
  refine pull fun t4 h_t4 => ?_
  refine s_st (s_call (ψ := fun (x5 : (Value × List Nat)) => tup [pv x5.1, iv .i64 t4.2]) (args := [.tmp 19]) Try.call31 rfl (ref07_Build_ok h_t4) ⟨arg rfl, trivial⟩ (fun _ _ _ _ h => h)) rfl (fun x5 => ?_)
  refine mv1 rfl rfl ?_
  refine s_rd (r_extract rfl rfl) rfl ?_
  refine s_rd (r_extract rfl rfl) rfl ?_
  refine as1 rfl rfl ?_
  refine as1 rfl rfl ?_
  refine l_nil (n_then (ref_seq (ref_seq (ref_region ?_))))
  refine mv1 rfl rfl ?_
  refine s_rd (r_neq rfl rfl) rfl ?_
  refine l_nil (n_then ?_)
  refine ref_cond rfl (fun hb6 => ?_) (fun hb6 => ?_)
  · refine ref_seq (ref_region ?_)
    refine s_rd (r_faddr (fo := 1) Try.underlying34 rfl rfl Try.sizeOf31 rfl) rfl ?_
    refine s_rd (r_cload Try.isAgg31 rfl (j := 2) rfl rfl) rfl ?_
    refine s_rd (r_faddr (fo := 1) Try.underlying34 rfl rfl Try.sizeOf31 rfl) rfl ?_
    refine s_rd (r_cload Try.isAgg31 rfl (j := 2) rfl rfl) rfl ?_
    refine s_rd (r_len Try.underlying31 rfl) rfl ?_
    refine s_rd (r_min rfl rfl) rfl ?_
    refine pull fun t7 h_t7 => ?_
    refine s_rd (r_slice h_t7 Try.underlying31 el_55 rfl .dft (.of rfl)) rfl ?_
    refine s_rd (r_faddr (fo := 1) Try.underlying34 rfl rfl Try.sizeOf31 rfl) rfl ?_
    refine s_st0 (s_cstore (out := [slv rT_api_Premise t2.1.Premises, slv rT_api_Rule t7, slv rT_api_Promotion t2.1.Promotions]) Try.sizeOf31 rfl (j := 2) rfl (part_at rfl slv_at) rfl rfl rfl) (fun _ => ?_)
    refine l_nil (n_then (ref_seq (ref_region ?_)))
    refine s_rd (r_faddr (fo := 2) Try.underlying34 rfl rfl Try.sizeOf32 rfl) rfl ?_
    refine s_st0 (s_cstore (out := [slv rT_api_Premise t2.1.Premises, slv rT_api_Rule t7, pv (.slice none 0 0)]) Try.sizeOf32 rfl (j := 2) rfl (part_at (φ := pv (.slice none 0 0)) rfl (pv_at rfl)) rfl rfl rfl) (fun _ => ?_)
    refine l_nil (n_then (ref_region ?_))
    refine s_rd (r_cloadS Try.isAgg34 Try.sizeOf34 rfl (j := 2) rfl rfl rfl) rfl ?_
    refine b_of (nilG rT_api_Promotion [(35, ag [slv rT_api_Premise t2.1.Premises, slv rT_api_Rule t7, slv rT_api_Promotion []])] [] ⟨⟨_, rfl, .inr ⟨_, _, rfl, rfl, ⟨.inl rfl, .inl rfl, .inr ⟨rfl, rfl⟩, trivial⟩⟩⟩, trivial⟩ trivial) ?_
    refine pull fun t8 h_t8 => ?_
    refine s_st (s_call (ψ := fun (x9 : (Value × List Nat)) => tup [pv x9.1, iv .i64 t8.2]) (args := [.tmp 35]) Try.call31 rfl (ref07_Build_ok h_t8) ⟨arg rfl, trivial⟩ (fun _ _ _ _ h => h)) rfl (fun x9 => ?_)
    refine mv1 rfl rfl ?_
    refine s_rd (r_extract rfl rfl) rfl ?_
    refine s_rd (r_extract rfl rfl) rfl ?_
    refine as1 rfl rfl ?_
    refine l_nil ?_
    refine b_of (nrm [oc b_0 [slv (rI .i64) t2.2.L, iv .i64 t2.2.At], oc b1 [pv (.slice none 0 0), pv (.slice none 0 0), pv (.slice none 0 0)], oc b3 [slv rT_api_Premise t2.1.Premises, slv rT_api_Rule t7, pv (.slice none 0 0)], oa rT_api_Argument x5.1 x5.2 t4.1, oa rT_api_Argument x9.1 x9.2 t8.1] rfl) ?_
    refine n_then (ref_seq (ref_region ?_))
    refine s_rd (r_cloadS Try.isAgg34 Try.sizeOf34 rfl (j := 2) rfl rfl rfl) rfl ?_
    refine mv1 rfl rfl ?_
    refine s_st0 (s_cstore (out := [slv rT_api_Premise t2.1.Premises, slv rT_api_Rule t7, pv (.slice none 0 0)]) Try.sizeOf34 rfl (j := 1) rfl (part_agO (ψs := [slv rT_api_Premise t2.1.Premises, slv rT_api_Rule t7, pv (.slice none 0 0)]) rfl ⟨.inl slv_at, .inl slv_at, .inl (pv_at rfl), trivial⟩) rfl rfl rfl) (fun _ => ?_)
    refine as1 rfl rfl ?_
    refine l_nil (n_then (ref_ret ?_))
    refine b_of (ocW 1 [slv rT_api_Premise t2.1.Premises, slv rT_api_Rule t7, slv rT_api_Promotion []] rfl ⟨imp_rfl, imp_rfl, nil_sl, trivial⟩) ?_
    exact fin2 (.inl rfl) x9 [0, 4] rfl ⟨rfl, rfl, trivial⟩ rfl (rv_cell rfl (j := 1) rfl Try.isAgg34 Try.sizeOf34 rfl rfl) (rv_tmp rfl)
  refine ref_skip (n_then (ref_seq (ref_region ?_)))
  refine s_rd (r_cloadS Try.isAgg34 Try.sizeOf34 rfl (j := 2) rfl rfl rfl) rfl ?_
  refine mv1 rfl rfl ?_
  refine s_st0 (s_cstore (out := [slv rT_api_Premise t2.1.Premises, slv rT_api_Rule t2.1.Rules, slv rT_api_Promotion t2.1.Promotions]) Try.sizeOf34 rfl (j := 1) rfl (part_agO (ψs := [slv rT_api_Premise t2.1.Premises, slv rT_api_Rule t2.1.Rules, slv rT_api_Promotion t2.1.Promotions]) rfl ⟨.inl slv_at, .inl slv_at, .inl slv_at, trivial⟩) rfl rfl rfl) (fun _ => ?_)
  refine as1 rfl rfl ?_
  refine l_nil (n_then (ref_ret ?_))
  exact fin2 (.inl rfl) x5 [0, 3] rfl ⟨rfl, rfl, trivial⟩ rfl (rv_cell rfl (j := 1) rfl Try.isAgg34 Try.sizeOf34 rfl rfl) (rv_tmp rfl)

/-! deliberation/argument.inside -/
noncomputable def argument_inside_m (l_0 : (List T_api_Argument)) (i_1 : Int) : Option (Bool) :=
  bif decide (i_1 ≥ 0) then
    letM (decide (i_1 < (l_0.length : Int))) fun t1 =>
    some t1
  else
    some false

theorem argument_inside_ok {l_0 : (List T_api_Argument)} {i_1 : Int} {r : Bool} (hm : argument_inside_m l_0 i_1 = some r) :
    FnOk prog 61 [slv rT_api_Argument l_0, iv .i64 i_1] [] (fun (x : Unit) => [bv r]) (fun (x : Unit) => []) := by
  refine fn_ok (fn := Try.f61) (N := 13) (res := fun r x => [bv r]) (Ω1 := fun r x => []) Try.func61 rfl rfl hm rfl (fun E hM => ?_)
  unfold argument_inside_m
  refine ref_seq (ref_region ?_)
  refine as1 rfl rfl ?_
  refine l_nil (n_then (ref_seq (ref_region ?_)))
  refine mv1 rfl rfl ?_
  refine s_rd (r_geq rfl rfl) rfl ?_
  refine mv1 rfl rfl ?_
  refine b_split (t := 7) rfl (fun _ => ?_) (fun _ => ?_)
  · refine s_on rfl rfl rfl ?_
    refine mv1 rfl rfl ?_
    refine s_on rfl rfl rfl ?_
    refine mv1 rfl rfl ?_
    refine s_on rfl rfl rfl ?_
    refine s_rd (r_len Try.underlying35 rfl) rfl ?_
    refine s_on rfl rfl rfl ?_
    refine s_rd (r_lss rfl rfl) rfl ?_
    refine s_rd (r_pickT rfl rfl) rfl ?_
    refine as1 rfl rfl ?_
    refine b_let (f := bv) (t := 4) rfl fun t1 => ?_
    refine l_nil (n_then (ref_ret ?_))
    exact fin1 (.inl rfl) () [] rfl trivial rfl (rv_tmp rfl)
  refine s_off rfl rfl rfl rfl rfl ?_
  refine s_off rfl rfl rfl rfl rfl ?_
  refine s_off rfl rfl rfl rfl rfl ?_
  refine s_off rfl rfl rfl rfl rfl ?_
  refine s_rd (r_pickF rfl rfl) rfl ?_
  refine as1 rfl rfl ?_
  refine l_nil (n_then (ref_ret ?_))
  exact fin1 (.inl rfl) () [] rfl trivial rfl (rv_tmp rfl)

/-! deliberation/argument.Subs -/
noncomputable def argument_Subs_l1 (l_0 : (List T_api_Argument)) (t4 : T_api_Argument) (rec_ : (List T_api_Argument) → Int → Option (List Int)) (s21 : Int × (List Int)) : Option (Sum ((List Int)) (Int × (List Int))) :=
  bif decide (s21.1 < (t4.Subs.length : Int)) then
    Option.bind (idxM t4.Subs s21.1) fun k24 =>
    Option.bind (rec_ l_0 k24) fun t25 =>
    Option.bind (appM 8 s21.2 t25) fun out27 =>
    some (Sum.inr (iadd .i64 s21.1 1, out27))
  else
    some (Sum.inl s21.2)

noncomputable def argument_Subs_b (rec_ : (List T_api_Argument) → Int → Option (List Int)) (l_0 : (List T_api_Argument)) (i_1 : Int) : Option (List Int) :=
  Option.bind (argument_inside_m l_0 i_1) fun t1 =>
  bif !t1 then
    some []
  else
    Option.bind (idxM l_0 i_1) fun t4 =>
    Option.bind (loopC (argument_Subs_l1 l_0 t4 rec_) (0, [i_1])) fun q29 : (List Int) =>
    Option.bind (sortedM q29) fun t31 =>
    Option.bind (compactM t31) fun t32 =>
    some t32

noncomputable def argument_Subs_n : Nat → (List T_api_Argument) → Int → Option (List Int)
  | 0 => fun _ _ => none
  | n_ + 1 => argument_Subs_b (argument_Subs_n n_)

noncomputable def argument_Subs_m (l_0 : (List T_api_Argument)) (i_1 : Int) : Option (List Int) := recC fun n_ => argument_Subs_n n_ l_0 i_1

theorem argument_Subs_step (rec_ : (List T_api_Argument) → Int → Option (List Int)) (ih : ∀ {l_0 : (List T_api_Argument)} {i_1 : Int} {r : List Int}, rec_ l_0 i_1 = some r →
    FnOk prog 56 [slv rT_api_Argument l_0, iv .i64 i_1] [] (fun (x : (Value × List Nat)) => [pv x.1]) (fun (x : (Value × List Nat)) => [oa (rI .i64) x.1 x.2 r])) {l_0 : (List T_api_Argument)} {i_1 : Int} {r : List Int} (hm : argument_Subs_b rec_ l_0 i_1 = some r) :
    FnOk prog 56 [slv rT_api_Argument l_0, iv .i64 i_1] [] (fun (x : (Value × List Nat)) => [pv x.1]) (fun (x : (Value × List Nat)) => [oa (rI .i64) x.1 x.2 r]) := by
  refine fn_ok (X := (Value × List Nat)) (fn := Try.f56) (N := 34) (res := fun r x => [pv x.1]) (Ω1 := fun r x => [oa (rI .i64) x.1 x.2 r]) Try.func56 rfl rfl hm rfl (fun E hM => ?_)
  unfold argument_Subs_b
  refine ref_seq (ref_region ?_)
  refine as1 rfl rfl ?_
  refine l_nil (n_then (ref_seq (ref_seq (ref_region ?_))))
  refine mv1 rfl rfl ?_
  refine mv1 rfl rfl ?_
  refine pull fun t1 h_t1 => ?_
  refine s_st (s_call (ψ := fun (_ : Unit) => bv t1) (args := [.tmp 8, .tmp 9]) Try.call61 rfl (argument_inside_ok h_t1) ⟨arg rfl, arg rfl, trivial⟩ (fun _ _ _ _ h => h)) rfl (fun _ => ?_)
  refine s_rd (r_not rfl) rfl ?_
  refine l_nil (n_then ?_)
  refine ref_cond rfl (fun hb2 => ?_) (fun hb2 => ?_)
  · refine ref_seq (ref_region ?_)
    refine as1 rfl rfl ?_
    refine l_nil (n_then (ref_ret (r_then ?_)))
    refine b_of (own_nil (rI .i64)) ?_
    exact fin1 (.inl rfl) ((.slice none 0 0), []) [0] rfl ⟨rfl, trivial⟩ rfl (rv_tmp rfl)
  refine ref_skip (n_then (ref_seq (ref_region ?_)))
  refine mv1 rfl rfl ?_
  refine s_st (s_bsliceO (xs := [.tmp 12]) (ds := [i_1]) Try.underlying22 el_3 rfl (Nat.le_of_ble_eq_true rfl) ⟨(part_at rfl iv_at), trivial⟩) rfl (fun o3 => ?_)
  refine as1 rfl rfl ?_
  refine l_nil (n_then (ref_seq (ref_seq (ref_region ?_))))
  refine mv1 rfl rfl ?_
  refine mv1 rfl rfl ?_
  refine pull fun t4 h_t4 => ?_
  refine s_rd (r_index h_t4 Try.underlying35 el_52 rfl rfl) rfl ?_
  refine s_rd (r_fea (fo := 2) (ρ := rT_api_Argument) (y := t4) (ρ' := (rSl (rI .i64))) (z := t4.Subs) Try.underlying52 rfl rfl Try.sizeOf22 rfl rfl rfl) rfl ?_
  refine s_rd (r_load el_22 rfl) rfl ?_
  refine s_rd (r_len Try.underlying22 rfl) rfl ?_
  refine mv1 rfl rfl ?_
  refine l_nil (n_then ?_)
  refine ref_loopB (f := (argument_Subs_l1 l_0 t4 rec_)) (Γl := (fun (s21 : Int × (List Int)) (x22 : (Value × List Nat)) => [(0, slv rT_api_Argument l_0), (5, pv x22.1), (18, slv (rI .i64) t4.Subs), (19, iv .i64 (t4.Subs.length : Int)), (20, iv .i64 s21.1)])) (Ωl := (fun (s21 : Int × (List Int)) (x22 : (Value × List Nat)) => [oa (rI .i64) x22.1 x22.2 s21.2])) (Γb := (fun (q29 : (List Int)) (y30 : (Value × List Nat)) => [(5, pv y30.1)])) (Ωb := (fun (q29 : (List Int)) (y30 : (Value × List Nat)) => [oa (rI .i64) y30.1 y30.2 q29])) (0, [i_1]) o3 (weak [0] ⟨rfl, rfl, rfl, rfl, rfl, trivial⟩ ⟨rfl, trivial⟩) (fun s21 x22 => ?_) (fun q29 y30 => ?_)
  · unfold argument_Subs_l1
    refine ref_seq (ref_region ?_)
    refine s_rd (r_lss rfl rfl) rfl ?_
    refine l_nil (n_then (ref_seq ?_))
    refine ref_cond rfl (fun hb23 => ?_) (fun hb23 => ?_)
    · refine ref_skip (n_then (ref_seq (ref_block (ref_seq (ref_region ?_)))))
      refine pull fun k24 h_k24 => ?_
      refine s_rd (r_index h_k24 Try.underlying22 el_3 rfl rfl) rfl ?_
      refine s_rd (r_load el_3 rfl) rfl ?_
      refine as1 rfl rfl ?_
      refine l_nil (n_then (ref_region ?_))
      refine mv1 rfl rfl ?_
      refine mv1 rfl rfl ?_
      refine mv1 rfl rfl ?_
      refine pull fun t25 h_t25 => ?_
      refine s_st (s_call (ψ := fun (x26 : (Value × List Nat)) => pv x26.1) (args := [.tmp 25, .tmp 26]) Try.call56 rfl (ih h_t25) ⟨arg rfl, arg rfl, trivial⟩ (fun _ _ _ _ h => h)) rfl (fun x26 => ?_)
      refine b_of (frzL [27] (j := 1) rfl ⟨rfl, trivial⟩) ?_
      refine pull fun out27 h_out27 => ?_
      refine s_st (s_append h_out27 Try.underlying22 el_3 rfl (j := 0) rfl rfl) rfl (fun o28 => ?_)
      refine as1 rfl rfl ?_
      refine l_nil ?_
      refine b_of (nrm [oa (rI .i64) o28.1 o28.2 out27, dead] rfl) ?_
      refine n_block (n_then (ref_region ?_))
      refine s_rd (r_add rfl rfl) rfl ?_
      refine mv1 rfl rfl ?_
      refine l_nil ?_
      exact goB o28 (weak [0] ⟨rfl, rfl, rfl, rfl, rfl, trivial⟩ ⟨rfl, trivial⟩)
    refine ref_exit (x_then ?_)
    exact brkB x22 (weak [0] ⟨rfl, trivial⟩ ⟨rfl, trivial⟩)
  refine n_then (ref_seq (ref_region ?_))
  refine mv1 rfl rfl ?_
  refine pull fun t31 h_t31 => ?_
  refine s_st (s_callC [0] [true] (fun (_ : Unit) => [oa (rI .i64) y30.1 y30.2 t31]) (fun (_ : Unit) => []) (fun (_ : Unit) => tup []) (args := [.tmp 30]) (caps := []) Try.call57 rfl (slices_Sort_ok h_t31) ⟨rfl, rfl, trivial⟩ (fun _ => rfl) (fun _ => trivial) (fun _ => rfl) ⟨arg rfl, trivial⟩ (fun _ _ _ _ h => h)) rfl (fun _ => ?_)
  refine l_nil (n_then (ref_seq (ref_region ?_)))
  refine mv1 rfl rfl ?_
  refine pull fun t32 h_t32 => ?_
  refine s_st (s_callC [0] [false] (fun (x33 : (Value × List Nat)) => [dead]) (fun (x33 : (Value × List Nat)) => [oa (rI .i64) x33.1 x33.2 t32]) (fun (x33 : (Value × List Nat)) => pv x33.1) (args := [.tmp 32]) (caps := []) Try.call60 rfl (slices_Compact_ok h_t32) ⟨rfl, rfl, trivial⟩ (fun _ => rfl) (fun _ => ⟨rfl, trivial⟩) (fun _ => rfl) ⟨arg rfl, trivial⟩ (fun _ _ _ _ h => h)) rfl (fun x33 => ?_)
  refine as1 rfl rfl ?_
  refine l_nil (n_then (ref_ret ?_))
  exact fin1 (.inl rfl) x33 [1] rfl ⟨rfl, trivial⟩ rfl (rv_tmp rfl)

theorem argument_Subs_n_ok : ∀ (n_ : Nat) {l_0 : (List T_api_Argument)} {i_1 : Int} {r : List Int}, argument_Subs_n n_ l_0 i_1 = some r →
    FnOk prog 56 [slv rT_api_Argument l_0, iv .i64 i_1] [] (fun (x : (Value × List Nat)) => [pv x.1]) (fun (x : (Value × List Nat)) => [oa (rI .i64) x.1 x.2 r]) := by
  intro n_
  induction n_ with
  | zero => intros; rename_i h; cases h
  | succ n_ ih => intros; rename_i h; exact argument_Subs_step _ @ih h

theorem argument_Subs_ok {l_0 : (List T_api_Argument)} {i_1 : Int} {r : List Int} (hm : argument_Subs_m l_0 i_1 = some r) :
    FnOk prog 56 [slv rT_api_Argument l_0, iv .i64 i_1] [] (fun (x : (Value × List Nat)) => [pv x.1]) (fun (x : (Value × List Nat)) => [oa (rI .i64) x.1 x.2 r]) := by
  obtain ⟨n_, h⟩ := recC_some hm
  exact argument_Subs_n_ok n_ h

theorem argument_Subs_l1_le {rec_ rec_' : (List T_api_Argument) → Int → Option (List Int)} (h : ∀ l_0 i_1, Le (rec_ l_0 i_1) (rec_' l_0 i_1)) {l_0 : (List T_api_Argument)} {t4 : T_api_Argument} {s21 : Int × (List Int)}  : Le (argument_Subs_l1 l_0 t4 rec_ s21) (argument_Subs_l1 l_0 t4 rec_' s21) := by
  unfold argument_Subs_l1
  repeat' with_reducible (first | exact Le.refl _ | exact h _ _ | refine Le.bind ?_ (Le.sumK fun _ => ?_) | refine Le.bind ?_ (fun _ => ?_) | refine Le.cond ?_ ?_ | refine Le.letM (fun _ => ?_) | refine Le.join (fun _ => ?_) (fun _ _ hj => ?_) | exact hj _)

theorem argument_Subs_b_le {rec_ rec_' : (List T_api_Argument) → Int → Option (List Int)} (h : ∀ l_0 i_1, Le (rec_ l_0 i_1) (rec_' l_0 i_1)) {l_0 : (List T_api_Argument)} {i_1 : Int} : Le (argument_Subs_b rec_ l_0 i_1) (argument_Subs_b rec_' l_0 i_1) := by
  unfold argument_Subs_b
  repeat' with_reducible (first | exact Le.refl _ | exact h _ _ | refine Le.loopC (fun _ => argument_Subs_l1_le h) | refine Le.bind ?_ (Le.sumK fun _ => ?_) | refine Le.bind ?_ (fun _ => ?_) | refine Le.cond ?_ ?_ | refine Le.letM (fun _ => ?_) | refine Le.join (fun _ => ?_) (fun _ _ hj => ?_) | exact hj _)

theorem argument_Subs_n_le : ∀ (n_ : Nat) (l_0 : (List T_api_Argument)) (i_1 : Int), Le (argument_Subs_n n_ l_0 i_1) (argument_Subs_n (n_ + 1) l_0 i_1)
  | 0, _, _ => fun _ h => by cases h
  | n_ + 1, _, _ => argument_Subs_b_le (argument_Subs_n_le n_)

/-! deliberation/argument.Premises -/
noncomputable def argument_Premises_l1 (l_0 : (List T_api_Argument)) (t1 : List Int) (s21 : Int × (List Int)) : Option (Sum ((List Int)) (Int × (List Int))) :=
  bif decide (s21.1 < (t1.length : Int)) then
    Option.bind (idxM t1 s21.1) fun k24 =>
    Option.bind (idxM l_0 k24) fun t25 =>
    bif decide (t25.Premise ≥ 0) then
      Option.bind (idxM l_0 k24) fun t27 =>
      Option.bind (appM 8 s21.2 [t27.Premise]) fun out28 =>
      some (Sum.inr (iadd .i64 s21.1 1, out28))
    else
      some (Sum.inr (iadd .i64 s21.1 1, s21.2))
  else
    some (Sum.inl s21.2)

noncomputable def argument_Premises_m (l_0 : (List T_api_Argument)) (i_1 : Int) : Option (List Int) :=
  Option.bind (argument_Subs_m l_0 i_1) fun t1 =>
  Option.bind (loopC (argument_Premises_l1 l_0 t1) (0, [])) fun q30 : (List Int) =>
  Option.bind (sortedM q30) fun t32 =>
  some t32

theorem argument_Premises_ok {l_0 : (List T_api_Argument)} {i_1 : Int} {r : List Int} (hm : argument_Premises_m l_0 i_1 = some r) :
    FnOk prog 33 [slv rT_api_Argument l_0, iv .i64 i_1] [] (fun (x : (Value × List Nat)) => [pv x.1]) (fun (x : (Value × List Nat)) => [oa (rI .i64) x.1 x.2 r]) := by
  refine fn_ok (X := (Value × List Nat)) (fn := Try.f33) (N := 34) (res := fun r x => [pv x.1]) (Ω1 := fun r x => [oa (rI .i64) x.1 x.2 r]) Try.func33 rfl rfl hm rfl (fun E hM => ?_)
  unfold argument_Premises_m
  refine ref_seq (ref_region ?_)
  refine as1 rfl rfl ?_
  refine l_nil (n_then (ref_seq (ref_region ?_)))
  refine as1 rfl rfl ?_
  refine l_nil (n_then (ref_seq (ref_seq (ref_region ?_))))
  refine mv1 rfl rfl ?_
  refine mv1 rfl rfl ?_
  refine pull fun t1 h_t1 => ?_
  refine s_st (s_call (ψ := fun (x2 : (Value × List Nat)) => pv x2.1) (args := [.tmp 8, .tmp 9]) Try.call56 rfl (argument_Subs_ok h_t1) ⟨arg rfl, arg rfl, trivial⟩ (fun _ _ _ _ h => h)) rfl (fun x2 => ?_)
  refine s_rd (r_olen Try.underlying22 rfl (j := 0) rfl) rfl ?_
  refine mv1 rfl rfl ?_
  refine l_nil (n_then ?_)
  refine b_of (own_nil (rI .i64)) ?_
  refine ref_loopB (f := (argument_Premises_l1 l_0 t1)) (Γl := (fun (s21 : Int × (List Int)) (x22 : (Value × List Nat)) => [(0, slv rT_api_Argument l_0), (5, pv x22.1), (10, pv x2.1), (11, iv .i64 (t1.length : Int)), (12, iv .i64 s21.1)])) (Ωl := (fun (s21 : Int × (List Int)) (x22 : (Value × List Nat)) => [oa (rI .i64) x22.1 x22.2 s21.2, oa (rI .i64) x2.1 x2.2 t1])) (Γb := (fun (q30 : (List Int)) (y31 : (Value × List Nat)) => [(5, pv y31.1)])) (Ωb := (fun (q30 : (List Int)) (y31 : (Value × List Nat)) => [oa (rI .i64) y31.1 y31.2 q30])) (0, []) ((.slice none 0 0), []) (weak [1, 0] ⟨rfl, rfl, rfl, rfl, rfl, trivial⟩ ⟨rfl, rfl, trivial⟩) (fun s21 x22 => ?_) (fun q30 y31 => ?_)
  · unfold argument_Premises_l1
    refine ref_seq (ref_region ?_)
    refine s_rd (r_lss rfl rfl) rfl ?_
    refine l_nil (n_then (ref_seq ?_))
    refine ref_cond rfl (fun hb23 => ?_) (fun hb23 => ?_)
    · refine ref_skip (n_then (ref_seq (ref_block (ref_seq (ref_region ?_)))))
      refine pull fun k24 h_k24 => ?_
      refine s_rd (r_oindex h_k24 Try.underlying22 el_3 rfl (j := 1) rfl rfl) rfl ?_
      refine s_rd (r_oload h_k24 el_3 rfl (j := 1) rfl) rfl ?_
      refine as1 rfl rfl ?_
      refine l_nil (n_then (ref_seq (ref_region ?_)))
      refine mv1 rfl rfl ?_
      refine mv1 rfl rfl ?_
      refine pull fun t25 h_t25 => ?_
      refine s_rd (r_index h_t25 Try.underlying35 el_52 rfl rfl) rfl ?_
      refine s_rd (r_fea (fo := 0) (ρ := rT_api_Argument) (y := t25) (ρ' := (rI .i64)) (z := t25.Premise) Try.underlying52 rfl rfl Try.sizeOf3 rfl rfl rfl) rfl ?_
      refine s_rd (r_load el_3 rfl) rfl ?_
      refine s_rd (r_geq rfl rfl) rfl ?_
      refine l_nil (n_then ?_)
      refine ref_cond rfl (fun hb26 => ?_) (fun hb26 => ?_)
      · refine ref_region ?_
        refine mv1 rfl rfl ?_
        refine mv1 rfl rfl ?_
        refine mv1 rfl rfl ?_
        refine pull fun t27 h_t27 => ?_
        refine s_rd (r_index h_t27 Try.underlying35 el_52 rfl rfl) rfl ?_
        refine s_rd (r_fea (fo := 0) (ρ := rT_api_Argument) (y := t27) (ρ' := (rI .i64)) (z := t27.Premise) Try.underlying52 rfl rfl Try.sizeOf3 rfl rfl rfl) rfl ?_
        refine s_rd (r_load el_3 rfl) rfl ?_
        refine s_st (s_bslice (xs := [.tmp 27]) (ds := [t27.Premise]) Try.underlying22 el_3 rfl (Nat.le_of_ble_eq_true rfl) ⟨(part_at rfl iv_at), trivial⟩) rfl (fun _ => ?_)
        refine pull fun out28 h_out28 => ?_
        refine s_st (s_append h_out28 Try.underlying22 el_3 rfl (j := 0) rfl rfl) rfl (fun o29 => ?_)
        refine as1 rfl rfl ?_
        refine l_nil (n_block (n_then (ref_region ?_)))
        refine s_rd (r_add rfl rfl) rfl ?_
        refine mv1 rfl rfl ?_
        refine l_nil ?_
        exact goB o29 (weak [0, 1] ⟨rfl, rfl, rfl, rfl, rfl, trivial⟩ ⟨rfl, rfl, trivial⟩)
      refine ref_skip (n_block (n_then (ref_region ?_)))
      refine s_rd (r_add rfl rfl) rfl ?_
      refine mv1 rfl rfl ?_
      refine l_nil ?_
      exact goB x22 (weak [0, 1] ⟨rfl, rfl, rfl, rfl, rfl, trivial⟩ ⟨rfl, rfl, trivial⟩)
    refine ref_exit (x_then ?_)
    exact brkB x22 (weak [0] ⟨rfl, trivial⟩ ⟨rfl, trivial⟩)
  refine n_then (ref_seq (ref_region ?_))
  refine mv1 rfl rfl ?_
  refine pull fun t32 h_t32 => ?_
  refine s_st (s_callC [0] [true] (fun (_ : Unit) => [oa (rI .i64) y31.1 y31.2 t32]) (fun (_ : Unit) => []) (fun (_ : Unit) => tup []) (args := [.tmp 31]) (caps := []) Try.call57 rfl (slices_Sort_ok h_t32) ⟨rfl, rfl, trivial⟩ (fun _ => rfl) (fun _ => trivial) (fun _ => rfl) ⟨arg rfl, trivial⟩ (fun _ _ _ _ h => h)) rfl (fun _ => ?_)
  refine l_nil (n_then (ref_seq (ref_region ?_)))
  refine mv1 rfl rfl ?_
  refine as1 rfl rfl ?_
  refine l_nil (n_then (ref_ret ?_))
  exact fin1 (.inl rfl) y31 [0] rfl ⟨rfl, trivial⟩ rfl (rv_tmp rfl)

/-! deliberation/lift.PremiseRanks -/
noncomputable def lift_PremiseRanks_l1 (b_0 : T_api_Base) (t2 : List Int) (s28 : Int × (List Int)) : Option (Sum ((List Int)) (Int × (List Int))) :=
  bif decide (s28.1 < (t2.length : Int)) then
    Option.bind (idxM t2 s28.1) fun k31 =>
    Option.bind (idxM b_0.Premises k31) fun t32 =>
    bif t32.Kind == 2 then
      Option.bind (appM 8 s28.2 [t32.Rank]) fun out35 =>
      some (Sum.inr (iadd .i64 s28.1 1, out35))
    else
      bif t32.Kind == 3 then
        Option.bind (appM 8 s28.2 [(-1)]) fun out38 =>
        some (Sum.inr (iadd .i64 s28.1 1, out38))
      else
        some (Sum.inr (iadd .i64 s28.1 1, s28.2))
  else
    some (Sum.inl s28.2)

noncomputable def lift_PremiseRanks_m (b_0 : T_api_Base) (l_1 : (List T_api_Argument)) (i_2 : Int) : Option (List Int) :=
  Option.bind (argument_Premises_m l_1 i_2) fun t2 =>
  Option.bind (loopC (lift_PremiseRanks_l1 b_0 t2) (0, [])) fun q40 : (List Int) =>
  some q40

theorem lift_PremiseRanks_ok {b_0 : T_api_Base} {l_1 : (List T_api_Argument)} {i_2 : Int} {r : List Int} (hm : lift_PremiseRanks_m b_0 l_1 i_2 = some r) :
    FnOk prog 15 [ag [slv rT_api_Premise b_0.Premises, slv rT_api_Rule b_0.Rules, slv rT_api_Promotion b_0.Promotions], slv rT_api_Argument l_1, iv .i64 i_2] [] (fun (x : (Value × List Nat)) => [pv x.1]) (fun (x : (Value × List Nat)) => [oa (rI .i64) x.1 x.2 r]) := by
  refine fn_ok (X := (Value × List Nat)) (fn := Try.f15) (N := 40) (res := fun r x => [pv x.1]) (Ω1 := fun r x => [oa (rI .i64) x.1 x.2 r]) Try.func15 rfl rfl hm rfl (fun E hM => ?_)
  unfold lift_PremiseRanks_m
  refine ref_seq (ref_region ?_)
  refine s_st (s_box (part_agO (ψs := [slv rT_api_Premise b_0.Premises, slv rT_api_Rule b_0.Rules, slv rT_api_Promotion b_0.Promotions]) rfl ⟨.inl slv_at, .inl slv_at, .inl slv_at, trivial⟩)) rfl (fun b1 => ?_)
  refine as1 rfl rfl ?_
  refine l_nil (n_then (ref_seq (ref_region ?_)))
  refine as1 rfl rfl ?_
  refine l_nil (n_then (ref_seq (ref_seq (ref_region ?_))))
  refine mv1 rfl rfl ?_
  refine mv1 rfl rfl ?_
  refine pull fun t2 h_t2 => ?_
  refine s_st (s_call (ψ := fun (x3 : (Value × List Nat)) => pv x3.1) (args := [.tmp 11, .tmp 12]) Try.call33 rfl (argument_Premises_ok h_t2) ⟨arg rfl, arg rfl, trivial⟩ (fun _ _ _ _ h => h)) rfl (fun x3 => ?_)
  refine s_rd (r_olen Try.underlying22 rfl (j := 1) rfl) rfl ?_
  refine mv1 rfl rfl ?_
  refine l_nil (n_then ?_)
  refine b_of (own_nil (rI .i64)) ?_
  refine ref_loopB (f := (lift_PremiseRanks_l1 b_0 t2)) (Γl := (fun (s28 : Int × (List Int)) (x29 : (Value × List Nat)) => [(3, pv (ptr b1 0)), (7, pv x29.1), (13, pv x3.1), (14, iv .i64 (t2.length : Int)), (15, iv .i64 s28.1)])) (Ωl := (fun (s28 : Int × (List Int)) (x29 : (Value × List Nat)) => [oc b1 [slv rT_api_Premise b_0.Premises, slv rT_api_Rule b_0.Rules, slv rT_api_Promotion b_0.Promotions], oa (rI .i64) x29.1 x29.2 s28.2, oa (rI .i64) x3.1 x3.2 t2])) (Γb := (fun (q40 : (List Int)) (y41 : (Value × List Nat)) => [(7, pv y41.1)])) (Ωb := (fun (q40 : (List Int)) (y41 : (Value × List Nat)) => [oa (rI .i64) y41.1 y41.2 q40])) (0, []) ((.slice none 0 0), []) (weak [0, 2, 1] ⟨rfl, rfl, rfl, rfl, rfl, trivial⟩ ⟨rfl, rfl, rfl, trivial⟩) (fun s28 x29 => ?_) (fun q40 y41 => ?_)
  · unfold lift_PremiseRanks_l1
    refine ref_seq (ref_region ?_)
    refine s_rd (r_lss rfl rfl) rfl ?_
    refine l_nil (n_then (ref_seq ?_))
    refine ref_cond rfl (fun hb30 => ?_) (fun hb30 => ?_)
    · refine ref_skip (n_then (ref_seq (ref_block (ref_seq (ref_region ?_)))))
      refine pull fun k31 h_k31 => ?_
      refine s_rd (r_oindex h_k31 Try.underlying22 el_3 rfl (j := 2) rfl rfl) rfl ?_
      refine s_rd (r_oload h_k31 el_3 rfl (j := 2) rfl) rfl ?_
      refine as1 rfl rfl ?_
      refine l_nil (n_then (ref_seq (ref_region ?_)))
      refine s_rd (r_faddr (fo := 0) Try.underlying34 rfl rfl Try.sizeOf30 rfl) rfl ?_
      refine s_rd (r_cload Try.isAgg30 rfl (j := 0) rfl rfl) rfl ?_
      refine mv1 rfl rfl ?_
      refine pull fun t32 h_t32 => ?_
      refine s_rd (r_index h_t32 Try.underlying30 el_64 rfl rfl) rfl ?_
      refine s_rd (r_load el_64 rfl) rfl ?_
      refine s_st (s_alloc zt_64) rfl (fun b33 => ?_)
      refine s_st0 (s_cstore (out := [bv t32.Literal.Neg, sv t32.Literal.Name, iv .i64 t32.Kind, iv .i64 t32.Rank, sv t32.Source]) Try.sizeOf64 rfl (j := 3) rfl (part_agO (ψs := [bv t32.Literal.Neg, sv t32.Literal.Name, iv .i64 t32.Kind, iv .i64 t32.Rank, sv t32.Source]) rfl ⟨.inl bv_at, .inl sv_at, .inl iv_at, .inl iv_at, .inl sv_at, trivial⟩) rfl rfl rfl) (fun _ => ?_)
      refine l_nil ?_
      refine b_of (nrm [oc b1 [slv rT_api_Premise b_0.Premises, slv rT_api_Rule b_0.Rules, slv rT_api_Promotion b_0.Promotions], oa (rI .i64) x29.1 x29.2 s28.2, oa (rI .i64) x3.1 x3.2 t2, oc b33 [bv t32.Literal.Neg, sv t32.Literal.Name, iv .i64 t32.Kind, iv .i64 t32.Rank, sv t32.Source]] rfl) ?_
      refine n_then (ref_seq (ref_region ?_))
      refine s_rd (r_faddr (fo := 2) Try.underlying64 rfl rfl Try.sizeOf3 rfl) rfl ?_
      refine s_rd (r_cload Try.isAgg3 rfl (j := 3) rfl rfl) rfl ?_
      refine l_nil (n_then (ref_block (ref_seq (ref_region ?_))))
      refine s_rd (r_eql rfl rfl) rfl ?_
      refine as1 rfl rfl ?_
      refine l_nil (n_then ?_)
      refine ref_cond rfl (fun hb34 => ?_) (fun hb34 => ?_)
      · refine ref_region ?_
        refine mv1 rfl rfl ?_
        refine s_rd (r_faddr (fo := 3) Try.underlying64 rfl rfl Try.sizeOf3 rfl) rfl ?_
        refine s_rd (r_cload Try.isAgg3 rfl (j := 3) rfl rfl) rfl ?_
        refine s_st (s_bslice (xs := [.tmp 30]) (ds := [t32.Rank]) Try.underlying22 el_3 rfl (Nat.le_of_ble_eq_true rfl) ⟨(part_at rfl iv_at), trivial⟩) rfl (fun _ => ?_)
        refine pull fun out35 h_out35 => ?_
        refine s_st (s_append h_out35 Try.underlying22 el_3 rfl (j := 1) rfl rfl) rfl (fun o36 => ?_)
        refine as1 rfl rfl ?_
        refine l_nil (n_block (n_block (n_then (ref_region ?_))))
        refine s_rd (r_add rfl rfl) rfl ?_
        refine mv1 rfl rfl ?_
        refine l_nil ?_
        exact goB o36 (weak [0, 1, 2] ⟨rfl, rfl, rfl, rfl, rfl, trivial⟩ ⟨rfl, rfl, rfl, trivial⟩)
      refine ref_seq (ref_region ?_)
      refine s_rd (r_eql rfl rfl) rfl ?_
      refine as1 rfl rfl ?_
      refine l_nil (n_then ?_)
      refine ref_cond rfl (fun hb37 => ?_) (fun hb37 => ?_)
      · refine ref_region ?_
        refine mv1 rfl rfl ?_
        refine s_st (s_bslice (xs := [.const (.int .i64 (-1))]) (ds := [(-1)]) Try.underlying22 el_3 rfl (Nat.le_of_ble_eq_true rfl) ⟨(part_at rfl iv_at), trivial⟩) rfl (fun _ => ?_)
        refine pull fun out38 h_out38 => ?_
        refine s_st (s_append h_out38 Try.underlying22 el_3 rfl (j := 1) rfl rfl) rfl (fun o39 => ?_)
        refine as1 rfl rfl ?_
        refine l_nil (n_block (n_block (n_then (ref_region ?_))))
        refine s_rd (r_add rfl rfl) rfl ?_
        refine mv1 rfl rfl ?_
        refine l_nil ?_
        exact goB o39 (weak [0, 1, 2] ⟨rfl, rfl, rfl, rfl, rfl, trivial⟩ ⟨rfl, rfl, rfl, trivial⟩)
      refine ref_skip (n_block (n_block (n_then (ref_region ?_))))
      refine s_rd (r_add rfl rfl) rfl ?_
      refine mv1 rfl rfl ?_
      refine l_nil ?_
      exact goB x29 (weak [0, 1, 2] ⟨rfl, rfl, rfl, rfl, rfl, trivial⟩ ⟨rfl, rfl, rfl, trivial⟩)
    refine ref_exit (x_then ?_)
    exact brkB x29 (weak [1] ⟨rfl, trivial⟩ ⟨rfl, trivial⟩)
  refine n_then (ref_seq (ref_region ?_))
  refine mv1 rfl rfl ?_
  refine as1 rfl rfl ?_
  refine l_nil (n_then (ref_ret ?_))
  exact fin1 (.inl rfl) y41 [0] rfl ⟨rfl, trivial⟩ rfl (rv_tmp rfl)

/-! deliberation/deliberationref07.Premises -/
noncomputable def ref07_Premises_l1 (l_0 : (List T_api_Argument)) (t1 : List Int) (s18 : (List Int) × Int) : Option (Sum ((List Int)) ((List Int) × Int)) :=
  bif decide (s18.2 < (t1.length : Int)) then
    Option.bind (idxM t1 s18.2) fun k21 =>
    Option.bind (idxM l_0 k21) fun t22 =>
    bif decide (t22.Premise ≥ 0) then
      Option.bind (idxM l_0 k21) fun t24 =>
      Option.bind (ref07_insert_m s18.1 t24.Premise) fun out25 =>
      some (Sum.inr (out25, iadd .i64 s18.2 1))
    else
      some (Sum.inr (s18.1, iadd .i64 s18.2 1))
  else
    some (Sum.inl s18.1)

noncomputable def ref07_Premises_m (l_0 : (List T_api_Argument)) (i_1 : Int) : Option (List Int) :=
  Option.bind (ref07_Subs_m l_0 i_1) fun t1 =>
  Option.bind (loopC (ref07_Premises_l1 l_0 t1) ([], 0)) fun q26 : (List Int) =>
  some q26

theorem ref07_Premises_ok {l_0 : (List T_api_Argument)} {i_1 : Int} {r : List Int} (hm : ref07_Premises_m l_0 i_1 = some r) :
    FnOk prog 34 [slv rT_api_Argument l_0, iv .i64 i_1] [] (fun (x : Unit) => [slv (rI .i64) r]) (fun (x : Unit) => []) := by
  refine fn_ok (fn := Try.f34) (N := 31) (res := fun r x => [slv (rI .i64) r]) (Ω1 := fun r x => []) Try.func34 rfl rfl hm rfl (fun E hM => ?_)
  unfold ref07_Premises_m
  refine ref_seq (ref_region ?_)
  refine as1 rfl rfl ?_
  refine l_nil (n_then (ref_seq (ref_region ?_)))
  refine as1 rfl rfl ?_
  refine l_nil (n_then (ref_seq (ref_seq (ref_region ?_))))
  refine mv1 rfl rfl ?_
  refine mv1 rfl rfl ?_
  refine pull fun t1 h_t1 => ?_
  refine s_st (s_call (ψ := fun (_ : Unit) => slv (rI .i64) t1) (args := [.tmp 8, .tmp 9]) Try.call58 rfl (ref07_Subs_ok h_t1) ⟨arg rfl, arg rfl, trivial⟩ (fun _ _ _ _ h => h)) rfl (fun _ => ?_)
  refine s_rd (r_len Try.underlying22 rfl) rfl ?_
  refine mv1 rfl rfl ?_
  refine l_nil (n_then ?_)
  refine b_of (sl_nil (rI .i64) (t := 5) rfl) ?_
  refine ref_loopB (f := (ref07_Premises_l1 l_0 t1)) (Γl := (fun (s18 : (List Int) × Int) (x19 : Unit) => [(0, slv rT_api_Argument l_0), (5, slv (rI .i64) s18.1), (10, slv (rI .i64) t1), (11, iv .i64 (t1.length : Int)), (12, iv .i64 s18.2)])) (Ωl := (fun (s18 : (List Int) × Int) (x19 : Unit) => [])) (Γb := (fun (q26 : (List Int)) (y27 : Unit) => [(5, slv (rI .i64) q26)])) (Ωb := (fun (q26 : (List Int)) (y27 : Unit) => [])) ([], 0) () (weak [] ⟨rfl, rfl, rfl, rfl, rfl, trivial⟩ trivial) (fun s18 x19 => ?_) (fun q26 y27 => ?_)
  · unfold ref07_Premises_l1
    refine ref_seq (ref_region ?_)
    refine s_rd (r_lss rfl rfl) rfl ?_
    refine l_nil (n_then (ref_seq ?_))
    refine ref_cond rfl (fun hb20 => ?_) (fun hb20 => ?_)
    · refine ref_skip (n_then (ref_seq (ref_block (ref_seq (ref_region ?_)))))
      refine pull fun k21 h_k21 => ?_
      refine s_rd (r_index h_k21 Try.underlying22 el_3 rfl rfl) rfl ?_
      refine s_rd (r_load el_3 rfl) rfl ?_
      refine as1 rfl rfl ?_
      refine l_nil (n_then (ref_seq (ref_region ?_)))
      refine mv1 rfl rfl ?_
      refine mv1 rfl rfl ?_
      refine pull fun t22 h_t22 => ?_
      refine s_rd (r_index h_t22 Try.underlying35 el_52 rfl rfl) rfl ?_
      refine s_rd (r_fea (fo := 0) (ρ := rT_api_Argument) (y := t22) (ρ' := (rI .i64)) (z := t22.Premise) Try.underlying52 rfl rfl Try.sizeOf3 rfl rfl rfl) rfl ?_
      refine s_rd (r_load el_3 rfl) rfl ?_
      refine s_rd (r_geq rfl rfl) rfl ?_
      refine l_nil (n_then ?_)
      refine ref_cond rfl (fun hb23 => ?_) (fun hb23 => ?_)
      · refine ref_region ?_
        refine mv1 rfl rfl ?_
        refine mv1 rfl rfl ?_
        refine mv1 rfl rfl ?_
        refine pull fun t24 h_t24 => ?_
        refine s_rd (r_index h_t24 Try.underlying35 el_52 rfl rfl) rfl ?_
        refine s_rd (r_fea (fo := 0) (ρ := rT_api_Argument) (y := t24) (ρ' := (rI .i64)) (z := t24.Premise) Try.underlying52 rfl rfl Try.sizeOf3 rfl rfl rfl) rfl ?_
        refine s_rd (r_load el_3 rfl) rfl ?_
        refine pull fun out25 h_out25 => ?_
        refine s_st (s_call (ψ := fun (_ : Unit) => slv (rI .i64) out25) (args := [.tmp 22, .tmp 27]) Try.call59 rfl (ref07_insert_ok h_out25) ⟨arg rfl, arg rfl, trivial⟩ (fun _ _ _ _ h => h)) rfl (fun _ => ?_)
        refine as1 rfl rfl ?_
        refine l_nil (n_block (n_then (ref_region ?_)))
        refine s_rd (r_add rfl rfl) rfl ?_
        refine mv1 rfl rfl ?_
        refine l_nil ?_
        exact goB () (weak [] ⟨rfl, rfl, rfl, rfl, rfl, trivial⟩ trivial)
      refine ref_skip (n_block (n_then (ref_region ?_)))
      refine s_rd (r_add rfl rfl) rfl ?_
      refine mv1 rfl rfl ?_
      refine l_nil ?_
      exact goB () (weak [] ⟨rfl, rfl, rfl, rfl, rfl, trivial⟩ trivial)
    refine ref_exit (x_then ?_)
    exact brkB () (weak [] ⟨rfl, trivial⟩ trivial)
  refine n_then (ref_seq (ref_region ?_))
  refine mv1 rfl rfl ?_
  refine as1 rfl rfl ?_
  refine l_nil (n_then (ref_ret ?_))
  exact fin1 (.inl rfl) () [] rfl trivial rfl (rv_tmp rfl)

/-! deliberation/deliberationref08.PremiseRanks -/
noncomputable def ref08_PremiseRanks_l1 (b_0 : T_api_Base) (t2 : List Int) (s27 : Int × (List Int)) : Option (Sum ((List Int)) (Int × (List Int))) :=
  bif decide (s27.1 < (t2.length : Int)) then
    Option.bind (idxM t2 s27.1) fun p30 =>
    Option.bind (idxM b_0.Premises p30) fun t31 =>
    bif t31.Kind == 2 then
      Option.bind (idxM b_0.Premises p30) fun t33 =>
      Option.bind (appM 8 s27.2 [t33.Rank]) fun out34 =>
      some (Sum.inr (iadd .i64 s27.1 1, out34))
    else
      bif t31.Kind == 3 then
        Option.bind (appM 8 s27.2 [(-1)]) fun out37 =>
        some (Sum.inr (iadd .i64 s27.1 1, out37))
      else
        some (Sum.inr (iadd .i64 s27.1 1, s27.2))
  else
    some (Sum.inl s27.2)

noncomputable def ref08_PremiseRanks_m (b_0 : T_api_Base) (l_1 : (List T_api_Argument)) (i_2 : Int) : Option (List Int) :=
  Option.bind (ref07_Premises_m l_1 i_2) fun t2 =>
  Option.bind (loopC (ref08_PremiseRanks_l1 b_0 t2) (0, [])) fun q39 : (List Int) =>
  some q39

theorem ref08_PremiseRanks_ok {b_0 : T_api_Base} {l_1 : (List T_api_Argument)} {i_2 : Int} {r : List Int} (hm : ref08_PremiseRanks_m b_0 l_1 i_2 = some r) :
    FnOk prog 16 [ag [slv rT_api_Premise b_0.Premises, slv rT_api_Rule b_0.Rules, slv rT_api_Promotion b_0.Promotions], slv rT_api_Argument l_1, iv .i64 i_2] [] (fun (x : (Value × List Nat)) => [pv x.1]) (fun (x : (Value × List Nat)) => [oa (rI .i64) x.1 x.2 r]) := by
  refine fn_ok (X := (Value × List Nat)) (fn := Try.f16) (N := 42) (res := fun r x => [pv x.1]) (Ω1 := fun r x => [oa (rI .i64) x.1 x.2 r]) Try.func16 rfl rfl hm rfl (fun E hM => ?_)
  unfold ref08_PremiseRanks_m
  refine ref_seq (ref_region ?_)
  refine s_st (s_box (part_agO (ψs := [slv rT_api_Premise b_0.Premises, slv rT_api_Rule b_0.Rules, slv rT_api_Promotion b_0.Promotions]) rfl ⟨.inl slv_at, .inl slv_at, .inl slv_at, trivial⟩)) rfl (fun b1 => ?_)
  refine as1 rfl rfl ?_
  refine l_nil (n_then (ref_seq (ref_region ?_)))
  refine as1 rfl rfl ?_
  refine l_nil (n_then (ref_seq (ref_seq (ref_region ?_))))
  refine mv1 rfl rfl ?_
  refine mv1 rfl rfl ?_
  refine pull fun t2 h_t2 => ?_
  refine s_st (s_call (ψ := fun (_ : Unit) => slv (rI .i64) t2) (args := [.tmp 10, .tmp 11]) Try.call34 rfl (ref07_Premises_ok h_t2) ⟨arg rfl, arg rfl, trivial⟩ (fun _ _ _ _ h => h)) rfl (fun _ => ?_)
  refine s_rd (r_len Try.underlying22 rfl) rfl ?_
  refine mv1 rfl rfl ?_
  refine l_nil (n_then ?_)
  refine b_of (own_nil (rI .i64)) ?_
  refine ref_loopB (f := (ref08_PremiseRanks_l1 b_0 t2)) (Γl := (fun (s27 : Int × (List Int)) (x28 : (Value × List Nat)) => [(3, pv (ptr b1 0)), (7, pv x28.1), (12, slv (rI .i64) t2), (13, iv .i64 (t2.length : Int)), (14, iv .i64 s27.1)])) (Ωl := (fun (s27 : Int × (List Int)) (x28 : (Value × List Nat)) => [oc b1 [slv rT_api_Premise b_0.Premises, slv rT_api_Rule b_0.Rules, slv rT_api_Promotion b_0.Promotions], oa (rI .i64) x28.1 x28.2 s27.2])) (Γb := (fun (q39 : (List Int)) (y40 : (Value × List Nat)) => [(7, pv y40.1)])) (Ωb := (fun (q39 : (List Int)) (y40 : (Value × List Nat)) => [oa (rI .i64) y40.1 y40.2 q39])) (0, []) ((.slice none 0 0), []) (weak [0, 1] ⟨rfl, rfl, rfl, rfl, rfl, trivial⟩ ⟨rfl, rfl, trivial⟩) (fun s27 x28 => ?_) (fun q39 y40 => ?_)
  · unfold ref08_PremiseRanks_l1
    refine ref_seq (ref_region ?_)
    refine s_rd (r_lss rfl rfl) rfl ?_
    refine l_nil (n_then (ref_seq ?_))
    refine ref_cond rfl (fun hb29 => ?_) (fun hb29 => ?_)
    · refine ref_skip (n_then (ref_seq (ref_block (ref_seq (ref_region ?_)))))
      refine pull fun p30 h_p30 => ?_
      refine s_rd (r_index h_p30 Try.underlying22 el_3 rfl rfl) rfl ?_
      refine s_rd (r_load el_3 rfl) rfl ?_
      refine as1 rfl rfl ?_
      refine l_nil (n_then (ref_seq (ref_region ?_)))
      refine s_rd (r_faddr (fo := 0) Try.underlying34 rfl rfl Try.sizeOf30 rfl) rfl ?_
      refine s_rd (r_cload Try.isAgg30 rfl (j := 0) rfl rfl) rfl ?_
      refine mv1 rfl rfl ?_
      refine pull fun t31 h_t31 => ?_
      refine s_rd (r_index h_t31 Try.underlying30 el_64 rfl rfl) rfl ?_
      refine s_rd (r_fea (fo := 2) (ρ := rT_api_Premise) (y := t31) (ρ' := (rI .i64)) (z := t31.Kind) Try.underlying64 rfl rfl Try.sizeOf3 rfl rfl rfl) rfl ?_
      refine s_rd (r_load el_3 rfl) rfl ?_
      refine l_nil (n_then (ref_block (ref_seq (ref_region ?_))))
      refine s_rd (r_eql rfl rfl) rfl ?_
      refine as1 rfl rfl ?_
      refine l_nil (n_then ?_)
      refine ref_cond rfl (fun hb32 => ?_) (fun hb32 => ?_)
      · refine ref_region ?_
        refine mv1 rfl rfl ?_
        refine s_rd (r_faddr (fo := 0) Try.underlying34 rfl rfl Try.sizeOf30 rfl) rfl ?_
        refine s_rd (r_cload Try.isAgg30 rfl (j := 0) rfl rfl) rfl ?_
        refine mv1 rfl rfl ?_
        refine pull fun t33 h_t33 => ?_
        refine s_rd (r_index h_t33 Try.underlying30 el_64 rfl rfl) rfl ?_
        refine s_rd (r_fea (fo := 3) (ρ := rT_api_Premise) (y := t33) (ρ' := (rI .i64)) (z := t33.Rank) Try.underlying64 rfl rfl Try.sizeOf3 rfl rfl rfl) rfl ?_
        refine s_rd (r_load el_3 rfl) rfl ?_
        refine s_st (s_bslice (xs := [.tmp 32]) (ds := [t33.Rank]) Try.underlying22 el_3 rfl (Nat.le_of_ble_eq_true rfl) ⟨(part_at rfl iv_at), trivial⟩) rfl (fun _ => ?_)
        refine pull fun out34 h_out34 => ?_
        refine s_st (s_append h_out34 Try.underlying22 el_3 rfl (j := 1) rfl rfl) rfl (fun o35 => ?_)
        refine as1 rfl rfl ?_
        refine l_nil ?_
        refine b_of (nrm [oc b1 [slv rT_api_Premise b_0.Premises, slv rT_api_Rule b_0.Rules, slv rT_api_Promotion b_0.Promotions], oa (rI .i64) o35.1 o35.2 out34] rfl) ?_
        refine n_block (n_block (n_then (ref_region ?_)))
        refine s_rd (r_add rfl rfl) rfl ?_
        refine mv1 rfl rfl ?_
        refine l_nil ?_
        exact goB o35 (weak [0, 1] ⟨rfl, rfl, rfl, rfl, rfl, trivial⟩ ⟨rfl, rfl, trivial⟩)
      refine ref_seq (ref_region ?_)
      refine s_rd (r_eql rfl rfl) rfl ?_
      refine as1 rfl rfl ?_
      refine l_nil (n_then ?_)
      refine ref_cond rfl (fun hb36 => ?_) (fun hb36 => ?_)
      · refine ref_region ?_
        refine mv1 rfl rfl ?_
        refine s_st (s_bslice (xs := [.const (.int .i64 (-1))]) (ds := [(-1)]) Try.underlying22 el_3 rfl (Nat.le_of_ble_eq_true rfl) ⟨(part_at rfl iv_at), trivial⟩) rfl (fun _ => ?_)
        refine pull fun out37 h_out37 => ?_
        refine s_st (s_append h_out37 Try.underlying22 el_3 rfl (j := 1) rfl rfl) rfl (fun o38 => ?_)
        refine as1 rfl rfl ?_
        refine l_nil ?_
        refine b_of (nrm [oc b1 [slv rT_api_Premise b_0.Premises, slv rT_api_Rule b_0.Rules, slv rT_api_Promotion b_0.Promotions], oa (rI .i64) o38.1 o38.2 out37] rfl) ?_
        refine n_block (n_block (n_then (ref_region ?_)))
        refine s_rd (r_add rfl rfl) rfl ?_
        refine mv1 rfl rfl ?_
        refine l_nil ?_
        exact goB o38 (weak [0, 1] ⟨rfl, rfl, rfl, rfl, rfl, trivial⟩ ⟨rfl, rfl, trivial⟩)
      refine ref_skip (n_block (n_block (n_then (ref_region ?_))))
      refine s_rd (r_add rfl rfl) rfl ?_
      refine mv1 rfl rfl ?_
      refine l_nil ?_
      exact goB x28 (weak [0, 1] ⟨rfl, rfl, rfl, rfl, rfl, trivial⟩ ⟨rfl, rfl, trivial⟩)
    refine ref_exit (x_then ?_)
    exact brkB x28 (weak [1] ⟨rfl, trivial⟩ ⟨rfl, trivial⟩)
  refine n_then (ref_seq (ref_region ?_))
  refine mv1 rfl rfl ?_
  refine as1 rfl rfl ?_
  refine l_nil (n_then (ref_ret ?_))
  exact fin1 (.inl rfl) y40 [0] rfl ⟨rfl, trivial⟩ rfl (rv_tmp rfl)

/-! deliberation/deliberationkeep.Ints -/
noncomputable def keep_Ints_l1 (a__0 : (List Int)) (b_1 : (List Int)) (s8 : Int) : Option (Sum ((Sum (Bool) (Unit))) (Int)) :=
  bif decide (s8 < (a__0.length : Int)) then
    Option.bind (idxM a__0 s8) fun t11 =>
    Option.bind (idxM b_1 s8) fun t12 =>
    bif t11 != t12 then
      some (Sum.inl (Sum.inl false))
    else
      some (Sum.inr (iadd .i64 s8 1))
  else
    some (Sum.inl (Sum.inr ()))

noncomputable def keep_Ints_m (a__0 : (List Int)) (b_1 : (List Int)) : Option (Bool) :=
  bif (a__0.length : Int) != (b_1.length : Int) then
    some false
  else
    Option.bind (loopC (keep_Ints_l1 a__0 b_1) 0) (sumK (fun a : Bool => some a) fun q14 : Unit =>
      some true)

theorem keep_Ints_ok {a__0 : (List Int)} {b_1 : (List Int)} {r : Bool} (hm : keep_Ints_m a__0 b_1 = some r) :
    FnOk prog 14 [slv (rI .i64) a__0, slv (rI .i64) b_1] [] (fun (x : Unit) => [bv r]) (fun (x : Unit) => []) := by
  refine fn_ok (fn := Try.f14) (N := 26) (res := fun r x => [bv r]) (Ω1 := fun r x => []) Try.func14 rfl rfl hm rfl (fun E hM => ?_)
  unfold keep_Ints_m
  refine ref_seq (ref_region ?_)
  refine as1 rfl rfl ?_
  refine l_nil (n_then (ref_seq (ref_seq (ref_region ?_))))
  refine mv1 rfl rfl ?_
  refine s_rd (r_len Try.underlying22 rfl) rfl ?_
  refine mv1 rfl rfl ?_
  refine s_rd (r_len Try.underlying22 rfl) rfl ?_
  refine s_rd (r_neq rfl rfl) rfl ?_
  refine l_nil (n_then ?_)
  refine ref_cond rfl (fun hb1 => ?_) (fun hb1 => ?_)
  · refine ref_seq (ref_region ?_)
    refine as1 rfl rfl ?_
    refine l_nil (n_then (ref_ret (r_then ?_)))
    exact fin1 (.inl rfl) () [] rfl trivial rfl (rv_tmp rfl)
  refine ref_skip (n_then (ref_seq (ref_seq (ref_region ?_))))
  refine mv1 rfl rfl ?_
  refine s_rd (r_len Try.underlying22 rfl) rfl ?_
  refine mv1 rfl rfl ?_
  refine l_nil (n_then ?_)
  refine ref_loopX (f := (keep_Ints_l1 a__0 b_1)) (Γl := (fun (s8 : Int) (x9 : Unit) => [(0, slv (rI .i64) a__0), (1, slv (rI .i64) b_1), (12, iv .i64 (a__0.length : Int)), (13, iv .i64 s8)])) (Ωl := (fun (s8 : Int) (x9 : Unit) => [])) (Γb := (fun (q14 : Unit) (y15 : Unit) => [])) (Ωb := (fun (q14 : Unit) (y15 : Unit) => [])) (kr := (fun a : Bool => some a)) 0 () (weak [] ⟨rfl, rfl, rfl, rfl, trivial⟩ trivial) (fun s8 x9 => ?_) (fun q14 y15 => ?_)
  · unfold keep_Ints_l1
    refine ref_seq (ref_region ?_)
    refine s_rd (r_lss rfl rfl) rfl ?_
    refine l_nil (n_then (ref_seq ?_))
    refine ref_cond rfl (fun hb10 => ?_) (fun hb10 => ?_)
    · refine ref_skip (n_then (ref_seq (ref_block (ref_seq (ref_region ?_)))))
      refine mv1 rfl rfl ?_
      refine as1 rfl rfl ?_
      refine l_nil (n_then (ref_seq ?_))
      refine ref_draw [0, 1, 2, 3, 4, 5, 6, 7, 8] rfl (by kernel_rfl) (fun hok => ?_)
      refine a_rd (i := 0) hok rfl (by kernel_rfl) rfl (r_move rfl) rfl ?_
      refine a_rd (i := 1) hok rfl (by kernel_rfl) rfl (r_move rfl) rfl ?_
      refine pull fun t11 h_t11 => ?_
      refine a_rd (i := 2) hok rfl (by kernel_rfl) rfl (r_index h_t11 Try.underlying22 el_3 rfl rfl) rfl ?_
      refine a_rd (i := 3) hok rfl (by kernel_rfl) rfl (r_load el_3 rfl) rfl ?_
      refine a_rd (i := 4) hok rfl (by kernel_rfl) rfl (r_move rfl) rfl ?_
      refine a_rd (i := 5) hok rfl (by kernel_rfl) rfl (r_move rfl) rfl ?_
      refine pull fun t12 h_t12 => ?_
      refine a_rd (i := 6) hok rfl (by kernel_rfl) rfl (r_index h_t12 Try.underlying22 el_3 rfl rfl) rfl ?_
      refine a_rd (i := 7) hok rfl (by kernel_rfl) rfl (r_load el_3 rfl) rfl ?_
      refine a_rd (i := 8) hok rfl (by kernel_rfl) rfl (r_neq rfl rfl) rfl ?_
      refine a_fin hok (by kernel_rfl) ?_
      refine n_then ?_
      refine ref_cond rfl (fun hb13 => ?_) (fun hb13 => ?_)
      · refine ref_seq (ref_region ?_)
        refine as1 rfl rfl ?_
        refine l_nil (n_then (ref_ret (r_block (r_then ?_))))
        refine retX ?_
        refine r_block (r_then ?_)
        exact fin1 (.inl rfl) () [] rfl trivial rfl (rv_tmp rfl)
      refine ref_skip (n_block (n_then (ref_region ?_)))
      refine s_rd (r_add rfl rfl) rfl ?_
      refine mv1 rfl rfl ?_
      refine l_nil ?_
      exact goX () (weak [] ⟨rfl, rfl, rfl, rfl, trivial⟩ trivial)
    refine ref_exit (x_then ?_)
    exact brkX () (weak [] trivial trivial)
  refine n_then (ref_seq (ref_region ?_))
  refine as1 rfl rfl ?_
  refine l_nil (n_then (ref_ret ?_))
  exact fin1 (.inl rfl) () [] rfl trivial rfl (rv_tmp rfl)

/-! deliberation/argument.Defeasible -/
noncomputable def argument_Defeasible_l1 (b_0 : T_api_Base) (l_1 : (List T_api_Argument)) (t2 : List Int) (s28 : Int × (List Int)) : Option (Sum ((List Int)) (Int × (List Int))) :=
  bif decide (s28.1 < (t2.length : Int)) then
    Option.bind (idxM t2 s28.1) fun k31 =>
    Option.bind (idxM l_1 k31) fun t32 =>
    joinM (fun j34 : Bool =>
        bif j34 then
          Option.bind (appM 8 s28.2 [t32.Rule]) fun out38 =>
          some (Sum.inr (iadd .i64 s28.1 1, out38))
        else
          some (Sum.inr (iadd .i64 s28.1 1, s28.2))) fun k36 =>
    bif decide (t32.Rule ≥ 0) then
      Option.bind (idxM b_0.Rules t32.Rule) fun t33 =>
      k36 (!t33.Strict)
    else
      k36 false
  else
    some (Sum.inl s28.2)

noncomputable def argument_Defeasible_m (b_0 : T_api_Base) (l_1 : (List T_api_Argument)) (i_2 : Int) : Option (List Int) :=
  Option.bind (argument_Subs_m l_1 i_2) fun t2 =>
  Option.bind (loopC (argument_Defeasible_l1 b_0 l_1 t2) (0, [])) fun q40 : (List Int) =>
  Option.bind (sortedM q40) fun t42 =>
  Option.bind (compactM t42) fun t43 =>
  some t43

theorem argument_Defeasible_ok {b_0 : T_api_Base} {l_1 : (List T_api_Argument)} {i_2 : Int} {r : List Int} (hm : argument_Defeasible_m b_0 l_1 i_2 = some r) :
    FnOk prog 36 [ag [slv rT_api_Premise b_0.Premises, slv rT_api_Rule b_0.Rules, slv rT_api_Promotion b_0.Promotions], slv rT_api_Argument l_1, iv .i64 i_2] [] (fun (x : (Value × List Nat)) => [pv x.1]) (fun (x : (Value × List Nat)) => [oa (rI .i64) x.1 x.2 r]) := by
  refine fn_ok (X := (Value × List Nat)) (fn := Try.f36) (N := 44) (res := fun r x => [pv x.1]) (Ω1 := fun r x => [oa (rI .i64) x.1 x.2 r]) Try.func36 rfl rfl hm rfl (fun E hM => ?_)
  unfold argument_Defeasible_m
  refine ref_seq (ref_region ?_)
  refine s_st (s_box (part_agO (ψs := [slv rT_api_Premise b_0.Premises, slv rT_api_Rule b_0.Rules, slv rT_api_Promotion b_0.Promotions]) rfl ⟨.inl slv_at, .inl slv_at, .inl slv_at, trivial⟩)) rfl (fun b1 => ?_)
  refine as1 rfl rfl ?_
  refine l_nil (n_then (ref_seq (ref_region ?_)))
  refine as1 rfl rfl ?_
  refine l_nil (n_then (ref_seq (ref_seq (ref_region ?_))))
  refine mv1 rfl rfl ?_
  refine mv1 rfl rfl ?_
  refine pull fun t2 h_t2 => ?_
  refine s_st (s_call (ψ := fun (x3 : (Value × List Nat)) => pv x3.1) (args := [.tmp 11, .tmp 12]) Try.call56 rfl (argument_Subs_ok h_t2) ⟨arg rfl, arg rfl, trivial⟩ (fun _ _ _ _ h => h)) rfl (fun x3 => ?_)
  refine s_rd (r_olen Try.underlying22 rfl (j := 1) rfl) rfl ?_
  refine mv1 rfl rfl ?_
  refine l_nil (n_then ?_)
  refine b_of (own_nil (rI .i64)) ?_
  refine ref_loopB (f := (argument_Defeasible_l1 b_0 l_1 t2)) (Γl := (fun (s28 : Int × (List Int)) (x29 : (Value × List Nat)) => [(1, slv rT_api_Argument l_1), (3, pv (ptr b1 0)), (7, pv x29.1), (13, pv x3.1), (14, iv .i64 (t2.length : Int)), (15, iv .i64 s28.1)])) (Ωl := (fun (s28 : Int × (List Int)) (x29 : (Value × List Nat)) => [oc b1 [slv rT_api_Premise b_0.Premises, slv rT_api_Rule b_0.Rules, slv rT_api_Promotion b_0.Promotions], oa (rI .i64) x29.1 x29.2 s28.2, oa (rI .i64) x3.1 x3.2 t2])) (Γb := (fun (q40 : (List Int)) (y41 : (Value × List Nat)) => [(7, pv y41.1)])) (Ωb := (fun (q40 : (List Int)) (y41 : (Value × List Nat)) => [oa (rI .i64) y41.1 y41.2 q40])) (0, []) ((.slice none 0 0), []) (weak [0, 2, 1] ⟨rfl, rfl, rfl, rfl, rfl, rfl, trivial⟩ ⟨rfl, rfl, rfl, trivial⟩) (fun s28 x29 => ?_) (fun q40 y41 => ?_)
  · unfold argument_Defeasible_l1
    refine ref_seq (ref_region ?_)
    refine s_rd (r_lss rfl rfl) rfl ?_
    refine l_nil (n_then (ref_seq ?_))
    refine ref_cond rfl (fun hb30 => ?_) (fun hb30 => ?_)
    · refine ref_skip (n_then (ref_seq (ref_block (ref_seq (ref_region ?_)))))
      refine pull fun k31 h_k31 => ?_
      refine s_rd (r_oindex h_k31 Try.underlying22 el_3 rfl (j := 2) rfl rfl) rfl ?_
      refine s_rd (r_oload h_k31 el_3 rfl (j := 2) rfl) rfl ?_
      refine as1 rfl rfl ?_
      refine l_nil (n_then (ref_seq (ref_region ?_)))
      refine mv1 rfl rfl ?_
      refine mv1 rfl rfl ?_
      refine pull fun t32 h_t32 => ?_
      refine s_rd (r_index h_t32 Try.underlying35 el_52 rfl rfl) rfl ?_
      refine s_rd (r_fea (fo := 1) (ρ := rT_api_Argument) (y := t32) (ρ' := (rI .i64)) (z := t32.Rule) Try.underlying52 rfl rfl Try.sizeOf3 rfl rfl rfl) rfl ?_
      refine s_rd (r_load el_3 rfl) rfl ?_
      refine as1 rfl rfl ?_
      refine l_nil (n_then (ref_seq ?_))
      refine ref_join (fun (j34 : Bool) (x35 : Unit) => [(1, slv rT_api_Argument l_1), (3, pv (ptr b1 0)), (7, pv x29.1), (10, iv .i64 t32.Rule), (13, pv x3.1), (14, iv .i64 (t2.length : Int)), (15, iv .i64 s28.1), (34, bv j34)]) (fun (j34 : Bool) (x35 : Unit) => [oc b1 [slv rT_api_Premise b_0.Premises, slv rT_api_Rule b_0.Rules, slv rT_api_Promotion b_0.Promotions], oa (rI .i64) x29.1 x29.2 s28.2, oa (rI .i64) x3.1 x3.2 t2]) (fun k36 hk36 => ?_) (fun j34 x35 => ?_)
      · refine ref_region ?_
        refine mv1 rfl rfl ?_
        refine s_rd (r_geq rfl rfl) rfl ?_
        refine mv1 rfl rfl ?_
        refine b_split (t := 26) rfl (fun _ => ?_) (fun _ => ?_)
        · refine s_on rfl rfl rfl ?_
          refine s_rd (r_faddr (fo := 1) Try.underlying34 rfl rfl Try.sizeOf31 rfl) rfl ?_
          refine s_on rfl rfl rfl ?_
          refine s_rd (r_cload Try.isAgg31 rfl (j := 0) rfl rfl) rfl ?_
          refine s_on rfl rfl rfl ?_
          refine mv1 rfl rfl ?_
          refine s_on rfl rfl rfl ?_
          refine pull fun t33 h_t33 => ?_
          refine s_rd (r_index h_t33 Try.underlying31 el_55 rfl rfl) rfl ?_
          refine s_on rfl rfl rfl ?_
          refine s_rd (r_fea (fo := 1) (ρ := rT_api_Rule) (y := t33) (ρ' := rB) (z := t33.Strict) Try.underlying55 rfl rfl Try.sizeOf4 rfl rfl rfl) rfl ?_
          refine s_on rfl rfl rfl ?_
          refine s_rd (r_load el_4 rfl) rfl ?_
          refine s_on rfl rfl rfl ?_
          refine s_rd (r_not rfl) rfl ?_
          refine s_rd (r_pickT rfl rfl) rfl ?_
          refine l_nil ?_
          exact b_to (hk36 (!t33.Strict) ()) (weak [0, 1, 2] ⟨rfl, rfl, rfl, rfl, rfl, rfl, rfl, rfl, trivial⟩ ⟨rfl, rfl, rfl, trivial⟩)
        refine s_off rfl rfl rfl rfl rfl ?_
        refine s_off rfl rfl rfl rfl rfl ?_
        refine s_off rfl rfl rfl rfl rfl ?_
        refine s_off rfl rfl rfl rfl rfl ?_
        refine s_off rfl rfl rfl rfl rfl ?_
        refine s_off rfl rfl rfl rfl rfl ?_
        refine s_off rfl rfl rfl rfl rfl ?_
        refine s_rd (r_pickF rfl rfl) rfl ?_
        refine l_nil ?_
        exact b_to (hk36 false ()) (weak [0, 1, 2] ⟨rfl, rfl, rfl, rfl, rfl, rfl, rfl, rfl, trivial⟩ ⟨rfl, rfl, rfl, trivial⟩)
      refine n_then ?_
      refine ref_cond rfl (fun hb37 => ?_) (fun hb37 => ?_)
      · refine ref_region ?_
        refine mv1 rfl rfl ?_
        refine mv1 rfl rfl ?_
        refine s_st (s_bslice (xs := [.tmp 36]) (ds := [t32.Rule]) Try.underlying22 el_3 rfl (Nat.le_of_ble_eq_true rfl) ⟨(part_at rfl iv_at), trivial⟩) rfl (fun _ => ?_)
        refine pull fun out38 h_out38 => ?_
        refine s_st (s_append h_out38 Try.underlying22 el_3 rfl (j := 1) rfl rfl) rfl (fun o39 => ?_)
        refine as1 rfl rfl ?_
        refine l_nil (n_block (n_then (ref_region ?_)))
        refine s_rd (r_add rfl rfl) rfl ?_
        refine mv1 rfl rfl ?_
        refine l_nil ?_
        exact goB o39 (weak [0, 1, 2] ⟨rfl, rfl, rfl, rfl, rfl, rfl, trivial⟩ ⟨rfl, rfl, rfl, trivial⟩)
      refine ref_skip (n_block (n_then (ref_region ?_)))
      refine s_rd (r_add rfl rfl) rfl ?_
      refine mv1 rfl rfl ?_
      refine l_nil ?_
      exact goB x29 (weak [0, 1, 2] ⟨rfl, rfl, rfl, rfl, rfl, rfl, trivial⟩ ⟨rfl, rfl, rfl, trivial⟩)
    refine ref_exit (x_then ?_)
    exact brkB x29 (weak [1] ⟨rfl, trivial⟩ ⟨rfl, trivial⟩)
  refine n_then (ref_seq (ref_region ?_))
  refine mv1 rfl rfl ?_
  refine pull fun t42 h_t42 => ?_
  refine s_st (s_callC [0] [true] (fun (_ : Unit) => [oa (rI .i64) y41.1 y41.2 t42]) (fun (_ : Unit) => []) (fun (_ : Unit) => tup []) (args := [.tmp 40]) (caps := []) Try.call57 rfl (slices_Sort_ok h_t42) ⟨rfl, rfl, trivial⟩ (fun _ => rfl) (fun _ => trivial) (fun _ => rfl) ⟨arg rfl, trivial⟩ (fun _ _ _ _ h => h)) rfl (fun _ => ?_)
  refine l_nil (n_then (ref_seq (ref_region ?_)))
  refine mv1 rfl rfl ?_
  refine pull fun t43 h_t43 => ?_
  refine s_st (s_callC [0] [false] (fun (x44 : (Value × List Nat)) => [dead]) (fun (x44 : (Value × List Nat)) => [oa (rI .i64) x44.1 x44.2 t43]) (fun (x44 : (Value × List Nat)) => pv x44.1) (args := [.tmp 42]) (caps := []) Try.call60 rfl (slices_Compact_ok h_t43) ⟨rfl, rfl, trivial⟩ (fun _ => rfl) (fun _ => ⟨rfl, trivial⟩) (fun _ => rfl) ⟨arg rfl, trivial⟩ (fun _ _ _ _ h => h)) rfl (fun x44 => ?_)
  refine as1 rfl rfl ?_
  refine l_nil (n_then (ref_ret ?_))
  exact fin1 (.inl rfl) x44 [1] rfl ⟨rfl, trivial⟩ rfl (rv_tmp rfl)

/-! deliberation/lift.ranks -/
noncomputable def lift_ranks_l1 (b_0 : T_api_Base) (rules_1 : (List Int)) (s16 : Int × (List Int)) : Option (Sum ((List Int)) (Int × (List Int))) :=
  bif decide (s16.1 < (rules_1.length : Int)) then
    Option.bind (idxM rules_1 s16.1) fun k19 =>
    Option.bind (idxM b_0.Rules k19) fun t20 =>
    Option.bind (appM 8 s16.2 [t20.Rank]) fun out21 =>
    some (Sum.inr (iadd .i64 s16.1 1, out21))
  else
    some (Sum.inl s16.2)

noncomputable def lift_ranks_m (b_0 : T_api_Base) (rules_1 : (List Int)) : Option (List Int) :=
  Option.bind (loopC (lift_ranks_l1 b_0 rules_1) (0, [])) fun q23 : (List Int) =>
  some q23

theorem lift_ranks_ok {b_0 : T_api_Base} {rules_1 : (List Int)} {r : List Int} (hm : lift_ranks_m b_0 rules_1 = some r) :
    FnOk prog 35 [ag [slv rT_api_Premise b_0.Premises, slv rT_api_Rule b_0.Rules, slv rT_api_Promotion b_0.Promotions], slv (rI .i64) rules_1] [] (fun (x : (Value × List Nat)) => [pv x.1]) (fun (x : (Value × List Nat)) => [oa (rI .i64) x.1 x.2 r]) := by
  refine fn_ok (X := (Value × List Nat)) (fn := Try.f35) (N := 25) (res := fun r x => [pv x.1]) (Ω1 := fun r x => [oa (rI .i64) x.1 x.2 r]) Try.func35 rfl rfl hm rfl (fun E hM => ?_)
  unfold lift_ranks_m
  refine ref_seq (ref_region ?_)
  refine s_st (s_box (part_agO (ψs := [slv rT_api_Premise b_0.Premises, slv rT_api_Rule b_0.Rules, slv rT_api_Promotion b_0.Promotions]) rfl ⟨.inl slv_at, .inl slv_at, .inl slv_at, trivial⟩)) rfl (fun b1 => ?_)
  refine as1 rfl rfl ?_
  refine l_nil (n_then (ref_seq (ref_region ?_)))
  refine as1 rfl rfl ?_
  refine l_nil (n_then (ref_seq (ref_seq (ref_region ?_))))
  refine mv1 rfl rfl ?_
  refine s_rd (r_len Try.underlying22 rfl) rfl ?_
  refine mv1 rfl rfl ?_
  refine l_nil (n_then ?_)
  refine b_of (own_nil (rI .i64)) ?_
  refine ref_loopB (f := (lift_ranks_l1 b_0 rules_1)) (Γl := (fun (s16 : Int × (List Int)) (x17 : (Value × List Nat)) => [(2, pv (ptr b1 0)), (5, pv x17.1), (8, slv (rI .i64) rules_1), (9, iv .i64 (rules_1.length : Int)), (10, iv .i64 s16.1)])) (Ωl := (fun (s16 : Int × (List Int)) (x17 : (Value × List Nat)) => [oc b1 [slv rT_api_Premise b_0.Premises, slv rT_api_Rule b_0.Rules, slv rT_api_Promotion b_0.Promotions], oa (rI .i64) x17.1 x17.2 s16.2])) (Γb := (fun (q23 : (List Int)) (y24 : (Value × List Nat)) => [(5, pv y24.1)])) (Ωb := (fun (q23 : (List Int)) (y24 : (Value × List Nat)) => [oa (rI .i64) y24.1 y24.2 q23])) (0, []) ((.slice none 0 0), []) (weak [0, 1] ⟨rfl, rfl, rfl, rfl, rfl, trivial⟩ ⟨rfl, rfl, trivial⟩) (fun s16 x17 => ?_) (fun q23 y24 => ?_)
  · unfold lift_ranks_l1
    refine ref_seq (ref_region ?_)
    refine s_rd (r_lss rfl rfl) rfl ?_
    refine l_nil (n_then (ref_seq ?_))
    refine ref_cond rfl (fun hb18 => ?_) (fun hb18 => ?_)
    · refine ref_skip (n_then (ref_seq (ref_block (ref_seq (ref_region ?_)))))
      refine pull fun k19 h_k19 => ?_
      refine s_rd (r_index h_k19 Try.underlying22 el_3 rfl rfl) rfl ?_
      refine s_rd (r_load el_3 rfl) rfl ?_
      refine as1 rfl rfl ?_
      refine l_nil (n_then (ref_region ?_))
      refine mv1 rfl rfl ?_
      refine s_rd (r_faddr (fo := 1) Try.underlying34 rfl rfl Try.sizeOf31 rfl) rfl ?_
      refine s_rd (r_cload Try.isAgg31 rfl (j := 0) rfl rfl) rfl ?_
      refine mv1 rfl rfl ?_
      refine pull fun t20 h_t20 => ?_
      refine s_rd (r_index h_t20 Try.underlying31 el_55 rfl rfl) rfl ?_
      refine s_rd (r_fea (fo := 2) (ρ := rT_api_Rule) (y := t20) (ρ' := (rI .i64)) (z := t20.Rank) Try.underlying55 rfl rfl Try.sizeOf3 rfl rfl rfl) rfl ?_
      refine s_rd (r_load el_3 rfl) rfl ?_
      refine s_st (s_bslice (xs := [.tmp 20]) (ds := [t20.Rank]) Try.underlying22 el_3 rfl (Nat.le_of_ble_eq_true rfl) ⟨(part_at rfl iv_at), trivial⟩) rfl (fun _ => ?_)
      refine pull fun out21 h_out21 => ?_
      refine s_st (s_append h_out21 Try.underlying22 el_3 rfl (j := 1) rfl rfl) rfl (fun o22 => ?_)
      refine as1 rfl rfl ?_
      refine l_nil (n_block (n_then (ref_region ?_)))
      refine s_rd (r_add rfl rfl) rfl ?_
      refine mv1 rfl rfl ?_
      refine l_nil ?_
      exact goB o22 (weak [0, 1] ⟨rfl, rfl, rfl, rfl, rfl, trivial⟩ ⟨rfl, rfl, trivial⟩)
    refine ref_exit (x_then ?_)
    exact brkB x17 (weak [1] ⟨rfl, trivial⟩ ⟨rfl, trivial⟩)
  refine n_then (ref_seq (ref_region ?_))
  refine mv1 rfl rfl ?_
  refine as1 rfl rfl ?_
  refine l_nil (n_then (ref_ret ?_))
  exact fin1 (.inl rfl) y24 [0] rfl ⟨rfl, trivial⟩ rfl (rv_tmp rfl)

/-! deliberation/lift.RuleRanks -/
noncomputable def lift_RuleRanks_m (b_0 : T_api_Base) (l_1 : (List T_api_Argument)) (i_2 : Int) : Option (List Int) :=
  Option.bind (argument_Defeasible_m b_0 l_1 i_2) fun t2 =>
  Option.bind (lift_ranks_m b_0 t2) fun t4 =>
  some t4

theorem lift_RuleRanks_ok {b_0 : T_api_Base} {l_1 : (List T_api_Argument)} {i_2 : Int} {r : List Int} (hm : lift_RuleRanks_m b_0 l_1 i_2 = some r) :
    FnOk prog 17 [ag [slv rT_api_Premise b_0.Premises, slv rT_api_Rule b_0.Rules, slv rT_api_Promotion b_0.Promotions], slv rT_api_Argument l_1, iv .i64 i_2] [] (fun (x : (Value × List Nat)) => [pv x.1]) (fun (x : (Value × List Nat)) => [oa (rI .i64) x.1 x.2 r]) := by
  refine fn_ok (X := (Value × List Nat)) (fn := Try.f17) (N := 13) (res := fun r x => [pv x.1]) (Ω1 := fun r x => [oa (rI .i64) x.1 x.2 r]) Try.func17 rfl rfl hm rfl (fun E hM => ?_)
  unfold lift_RuleRanks_m
  refine ref_seq (ref_region ?_)
  refine s_st (s_box (part_agO (ψs := [slv rT_api_Premise b_0.Premises, slv rT_api_Rule b_0.Rules, slv rT_api_Promotion b_0.Promotions]) rfl ⟨.inl slv_at, .inl slv_at, .inl slv_at, trivial⟩)) rfl (fun b1 => ?_)
  refine as1 rfl rfl ?_
  refine l_nil (n_then (ref_seq ?_))
  refine ref_draw [0, 1, 2, 3] rfl (by kernel_rfl) (fun hok => ?_)
  refine a_rd (i := 0) hok rfl (by kernel_rfl) rfl (r_cloadS Try.isAgg34 Try.sizeOf34 rfl (j := 0) rfl rfl rfl) rfl ?_
  refine a_rd (i := 1) hok rfl (by kernel_rfl) rfl (r_cloadS Try.isAgg34 Try.sizeOf34 rfl (j := 0) rfl rfl rfl) rfl ?_
  refine a_rd (i := 2) hok rfl (by kernel_rfl) rfl (r_move rfl) rfl ?_
  refine a_rd (i := 3) hok rfl (by kernel_rfl) rfl (r_move rfl) rfl ?_
  refine pull fun t2 h_t2 => ?_
  refine a_next hok 4 [] (by kernel_rfl) ?_ trivial
  refine a_st (i := 4) hok rfl rfl (s_call (ψ := fun (x3 : (Value × List Nat)) => pv x3.1) (args := [.tmp 8, .tmp 9, .tmp 10]) Try.call36 rfl (argument_Defeasible_ok h_t2) ⟨arg rfl, arg rfl, arg rfl, trivial⟩ (fun _ _ _ _ h => h)) (by intro _ h; cases h; rfl) (fun _ => ⟨trivial, ⟨trivial, ⟨trivial, ⟨⟨⟨rfl, rfl⟩, trivial⟩, trivial⟩⟩⟩⟩) (fun x3 => ?_)
  refine a_of (frzL [11] (j := 1) rfl ⟨rfl, trivial⟩) (dead_keeps (j := 1) rfl) ?_
  refine pull fun t4 h_t4 => ?_
  refine a_next hok 5 [] (by kernel_rfl) ?_ trivial
  refine a_st (i := 5) hok rfl rfl (s_call (ψ := fun (x5 : (Value × List Nat)) => pv x5.1) (args := [.tmp 7, .tmp 11]) Try.call35 rfl (lift_ranks_ok h_t4) ⟨arg rfl, arg rfl, trivial⟩ (fun _ _ _ _ h => h)) (by intro _ h; cases h; rfl) (fun _ => ⟨trivial, ⟨trivial, ⟨⟨⟨rfl, rfl⟩, trivial⟩, ⟨trivial, trivial⟩⟩⟩⟩) (fun x5 => ?_)
  refine a_next hok 6 [] (by kernel_rfl) ?_ trivial
  refine a_st (i := 6) hok rfl rfl (St.ofRd (r_assign rfl)) (by intro _ h; cases h; rfl) (fun _ => ⟨trivial, ⟨trivial, ⟨trivial, ⟨trivial, trivial⟩⟩⟩⟩) (fun _ => ?_)
  refine a_fin hok (by kernel_rfl) ?_
  refine b_of (nrm [oc b1 [slv rT_api_Premise b_0.Premises, slv rT_api_Rule b_0.Rules, slv rT_api_Promotion b_0.Promotions], dead, oa (rI .i64) x5.1 x5.2 t4] rfl) ?_
  refine n_then (ref_ret ?_)
  exact fin1 (.inl rfl) x5 [2] rfl ⟨rfl, trivial⟩ rfl (rv_tmp rfl)

/-! deliberation/deliberationref08.RuleRanks -/
noncomputable def ref08_RuleRanks_l1 (b_0 : T_api_Base) (t2 : List Int) (s17 : Int × (List Int)) : Option (Sum ((List Int)) (Int × (List Int))) :=
  bif decide (s17.1 < (t2.length : Int)) then
    Option.bind (idxM t2 s17.1) fun r_20 =>
    Option.bind (idxM b_0.Rules r_20) fun t21 =>
    Option.bind (appM 8 s17.2 [t21.Rank]) fun out22 =>
    some (Sum.inr (iadd .i64 s17.1 1, out22))
  else
    some (Sum.inl s17.2)

noncomputable def ref08_RuleRanks_m (b_0 : T_api_Base) (l_1 : (List T_api_Argument)) (i_2 : Int) : Option (List Int) :=
  Option.bind (ref07_Defeasible_m b_0 l_1 i_2) fun t2 =>
  Option.bind (loopC (ref08_RuleRanks_l1 b_0 t2) (0, [])) fun q24 : (List Int) =>
  some q24

theorem ref08_RuleRanks_ok {b_0 : T_api_Base} {l_1 : (List T_api_Argument)} {i_2 : Int} {r : List Int} (hm : ref08_RuleRanks_m b_0 l_1 i_2 = some r) :
    FnOk prog 18 [ag [slv rT_api_Premise b_0.Premises, slv rT_api_Rule b_0.Rules, slv rT_api_Promotion b_0.Promotions], slv rT_api_Argument l_1, iv .i64 i_2] [] (fun (x : (Value × List Nat)) => [pv x.1]) (fun (x : (Value × List Nat)) => [oa (rI .i64) x.1 x.2 r]) := by
  refine fn_ok (X := (Value × List Nat)) (fn := Try.f18) (N := 30) (res := fun r x => [pv x.1]) (Ω1 := fun r x => [oa (rI .i64) x.1 x.2 r]) Try.func18 rfl rfl hm rfl (fun E hM => ?_)
  unfold ref08_RuleRanks_m
  refine ref_seq (ref_region ?_)
  refine s_st (s_box (part_agO (ψs := [slv rT_api_Premise b_0.Premises, slv rT_api_Rule b_0.Rules, slv rT_api_Promotion b_0.Promotions]) rfl ⟨.inl slv_at, .inl slv_at, .inl slv_at, trivial⟩)) rfl (fun b1 => ?_)
  refine as1 rfl rfl ?_
  refine l_nil (n_then (ref_seq (ref_region ?_)))
  refine as1 rfl rfl ?_
  refine l_nil (n_then (ref_seq (ref_seq (ref_region ?_))))
  refine s_rd (r_cloadS Try.isAgg34 Try.sizeOf34 rfl (j := 0) rfl rfl rfl) rfl ?_
  refine mv1 rfl rfl ?_
  refine mv1 rfl rfl ?_
  refine pull fun t2 h_t2 => ?_
  refine s_st (s_call (ψ := fun (_ : Unit) => slv (rI .i64) t2) (args := [.tmp 10, .tmp 11, .tmp 12]) Try.call37 rfl (ref07_Defeasible_ok h_t2) ⟨arg rfl, arg rfl, arg rfl, trivial⟩ (fun _ _ _ _ h => h)) rfl (fun _ => ?_)
  refine s_rd (r_len Try.underlying22 rfl) rfl ?_
  refine mv1 rfl rfl ?_
  refine l_nil (n_then ?_)
  refine b_of (own_nil (rI .i64)) ?_
  refine ref_loopB (f := (ref08_RuleRanks_l1 b_0 t2)) (Γl := (fun (s17 : Int × (List Int)) (x18 : (Value × List Nat)) => [(3, pv (ptr b1 0)), (7, pv x18.1), (13, slv (rI .i64) t2), (14, iv .i64 (t2.length : Int)), (15, iv .i64 s17.1)])) (Ωl := (fun (s17 : Int × (List Int)) (x18 : (Value × List Nat)) => [oc b1 [slv rT_api_Premise b_0.Premises, slv rT_api_Rule b_0.Rules, slv rT_api_Promotion b_0.Promotions], oa (rI .i64) x18.1 x18.2 s17.2])) (Γb := (fun (q24 : (List Int)) (y25 : (Value × List Nat)) => [(7, pv y25.1)])) (Ωb := (fun (q24 : (List Int)) (y25 : (Value × List Nat)) => [oa (rI .i64) y25.1 y25.2 q24])) (0, []) ((.slice none 0 0), []) (weak [0, 1] ⟨rfl, rfl, rfl, rfl, rfl, trivial⟩ ⟨rfl, rfl, trivial⟩) (fun s17 x18 => ?_) (fun q24 y25 => ?_)
  · unfold ref08_RuleRanks_l1
    refine ref_seq (ref_region ?_)
    refine s_rd (r_lss rfl rfl) rfl ?_
    refine l_nil (n_then (ref_seq ?_))
    refine ref_cond rfl (fun hb19 => ?_) (fun hb19 => ?_)
    · refine ref_skip (n_then (ref_seq (ref_block (ref_seq (ref_region ?_)))))
      refine pull fun r_20 h_r_20 => ?_
      refine s_rd (r_index h_r_20 Try.underlying22 el_3 rfl rfl) rfl ?_
      refine s_rd (r_load el_3 rfl) rfl ?_
      refine as1 rfl rfl ?_
      refine l_nil (n_then (ref_region ?_))
      refine mv1 rfl rfl ?_
      refine s_rd (r_faddr (fo := 1) Try.underlying34 rfl rfl Try.sizeOf31 rfl) rfl ?_
      refine s_rd (r_cload Try.isAgg31 rfl (j := 0) rfl rfl) rfl ?_
      refine mv1 rfl rfl ?_
      refine pull fun t21 h_t21 => ?_
      refine s_rd (r_index h_t21 Try.underlying31 el_55 rfl rfl) rfl ?_
      refine s_rd (r_fea (fo := 2) (ρ := rT_api_Rule) (y := t21) (ρ' := (rI .i64)) (z := t21.Rank) Try.underlying55 rfl rfl Try.sizeOf3 rfl rfl rfl) rfl ?_
      refine s_rd (r_load el_3 rfl) rfl ?_
      refine s_st (s_bslice (xs := [.tmp 25]) (ds := [t21.Rank]) Try.underlying22 el_3 rfl (Nat.le_of_ble_eq_true rfl) ⟨(part_at rfl iv_at), trivial⟩) rfl (fun _ => ?_)
      refine pull fun out22 h_out22 => ?_
      refine s_st (s_append h_out22 Try.underlying22 el_3 rfl (j := 1) rfl rfl) rfl (fun o23 => ?_)
      refine as1 rfl rfl ?_
      refine l_nil ?_
      refine b_of (nrm [oc b1 [slv rT_api_Premise b_0.Premises, slv rT_api_Rule b_0.Rules, slv rT_api_Promotion b_0.Promotions], oa (rI .i64) o23.1 o23.2 out22] rfl) ?_
      refine n_block (n_then (ref_region ?_))
      refine s_rd (r_add rfl rfl) rfl ?_
      refine mv1 rfl rfl ?_
      refine l_nil ?_
      exact goB o23 (weak [0, 1] ⟨rfl, rfl, rfl, rfl, rfl, trivial⟩ ⟨rfl, rfl, trivial⟩)
    refine ref_exit (x_then ?_)
    exact brkB x18 (weak [1] ⟨rfl, trivial⟩ ⟨rfl, trivial⟩)
  refine n_then (ref_seq (ref_region ?_))
  refine mv1 rfl rfl ?_
  refine as1 rfl rfl ?_
  refine l_nil (n_then (ref_ret ?_))
  exact fin1 (.inl rfl) y25 [0] rfl ⟨rfl, trivial⟩ rfl (rv_tmp rfl)

/-! deliberation/argument.Last -/
noncomputable def argument_Last_l1 (b_0 : T_api_Base) (l_1 : (List T_api_Argument)) (t9 : T_api_Argument) (rec_ : T_api_Base → (List T_api_Argument) → Int → Option (List Int)) (s24 : Int × (List Int)) : Option (Sum ((List Int)) (Int × (List Int))) :=
  bif decide (s24.1 < (t9.Subs.length : Int)) then
    Option.bind (idxM t9.Subs s24.1) fun k27 =>
    Option.bind (rec_ b_0 l_1 k27) fun t28 =>
    Option.bind (appM 8 s24.2 t28) fun out29 =>
    some (Sum.inr (iadd .i64 s24.1 1, out29))
  else
    some (Sum.inl s24.2)

noncomputable def argument_Last_b (rec_ : T_api_Base → (List T_api_Argument) → Int → Option (List Int)) (b_0 : T_api_Base) (l_1 : (List T_api_Argument)) (i_2 : Int) : Option (List Int) :=
  Option.bind (argument_inside_m l_1 i_2) fun t2 =>
  bif !t2 then
    some []
  else
    Option.bind (idxM l_1 i_2) fun t3 =>
    bif decide (t3.Rule < 0) then
      some []
    else
      Option.bind (idxM l_1 i_2) fun t5 =>
      Option.bind (idxM b_0.Rules t5.Rule) fun t6 =>
      bif !t6.Strict then
        Option.bind (idxM l_1 i_2) fun t8 =>
        some [t8.Rule]
      else
        Option.bind (idxM l_1 i_2) fun t9 =>
        Option.bind (loopC (argument_Last_l1 b_0 l_1 t9 rec_) (0, [])) fun q31 : (List Int) =>
        Option.bind (sortedM q31) fun t33 =>
        Option.bind (compactM t33) fun t34 =>
        some t34

noncomputable def argument_Last_n : Nat → T_api_Base → (List T_api_Argument) → Int → Option (List Int)
  | 0 => fun _ _ _ => none
  | n_ + 1 => argument_Last_b (argument_Last_n n_)

noncomputable def argument_Last_m (b_0 : T_api_Base) (l_1 : (List T_api_Argument)) (i_2 : Int) : Option (List Int) := recC fun n_ => argument_Last_n n_ b_0 l_1 i_2

theorem argument_Last_step (rec_ : T_api_Base → (List T_api_Argument) → Int → Option (List Int)) (ih : ∀ {b_0 : T_api_Base} {l_1 : (List T_api_Argument)} {i_2 : Int} {r : List Int}, rec_ b_0 l_1 i_2 = some r →
    FnOk prog 38 [ag [slv rT_api_Premise b_0.Premises, slv rT_api_Rule b_0.Rules, slv rT_api_Promotion b_0.Promotions], slv rT_api_Argument l_1, iv .i64 i_2] [] (fun (x : Unit) => [slv (rI .i64) r]) (fun (x : Unit) => [])) {b_0 : T_api_Base} {l_1 : (List T_api_Argument)} {i_2 : Int} {r : List Int} (hm : argument_Last_b rec_ b_0 l_1 i_2 = some r) :
    FnOk prog 38 [ag [slv rT_api_Premise b_0.Premises, slv rT_api_Rule b_0.Rules, slv rT_api_Promotion b_0.Promotions], slv rT_api_Argument l_1, iv .i64 i_2] [] (fun (x : Unit) => [slv (rI .i64) r]) (fun (x : Unit) => []) := by
  refine fn_ok (fn := Try.f38) (N := 60) (res := fun r x => [slv (rI .i64) r]) (Ω1 := fun r x => []) Try.func38 rfl rfl hm rfl (fun E hM => ?_)
  unfold argument_Last_b
  refine ref_seq (ref_region ?_)
  refine s_st (s_box (part_agO (ψs := [slv rT_api_Premise b_0.Premises, slv rT_api_Rule b_0.Rules, slv rT_api_Promotion b_0.Promotions]) rfl ⟨.inl slv_at, .inl slv_at, .inl slv_at, trivial⟩)) rfl (fun b1 => ?_)
  refine as1 rfl rfl ?_
  refine l_nil (n_then (ref_seq (ref_seq (ref_region ?_))))
  refine mv1 rfl rfl ?_
  refine mv1 rfl rfl ?_
  refine pull fun t2 h_t2 => ?_
  refine s_st (s_call (ψ := fun (_ : Unit) => bv t2) (args := [.tmp 10, .tmp 11]) Try.call61 rfl (argument_inside_ok h_t2) ⟨arg rfl, arg rfl, trivial⟩ (fun _ _ _ _ h => h)) rfl (fun _ => ?_)
  refine s_rd (r_not rfl) rfl ?_
  refine mv1 rfl rfl ?_
  refine b_split (t := 14) rfl (fun _ => ?_) (fun _ => ?_)
  · refine s_off rfl rfl rfl rfl rfl ?_
    refine s_off rfl rfl rfl rfl rfl ?_
    refine s_off rfl rfl rfl rfl rfl ?_
    refine s_off rfl rfl rfl rfl rfl ?_
    refine s_off rfl rfl rfl rfl rfl ?_
    refine s_off rfl rfl rfl rfl rfl ?_
    refine s_rd (r_pickT rfl rfl) rfl ?_
    refine l_nil (n_then ?_)
    refine ref_condT rfl rfl ?_
    refine ref_seq (ref_region ?_)
    refine as1 rfl rfl ?_
    refine l_nil (n_then (ref_ret (r_then ?_)))
    refine b_of (sl_nil (rI .i64) (t := 6) rfl) ?_
    exact fin1 (.inl rfl) () [] rfl trivial rfl (rv_tmp rfl)
  refine s_on rfl rfl rfl ?_
  refine mv1 rfl rfl ?_
  refine s_on rfl rfl rfl ?_
  refine mv1 rfl rfl ?_
  refine s_on rfl rfl rfl ?_
  refine pull fun t3 h_t3 => ?_
  refine s_rd (r_index h_t3 Try.underlying35 el_52 rfl rfl) rfl ?_
  refine s_on rfl rfl rfl ?_
  refine s_rd (r_fea (fo := 1) (ρ := rT_api_Argument) (y := t3) (ρ' := (rI .i64)) (z := t3.Rule) Try.underlying52 rfl rfl Try.sizeOf3 rfl rfl rfl) rfl ?_
  refine s_on rfl rfl rfl ?_
  refine s_rd (r_load el_3 rfl) rfl ?_
  refine s_on rfl rfl rfl ?_
  refine s_rd (r_lss rfl rfl) rfl ?_
  refine s_rd (r_pickF rfl rfl) rfl ?_
  refine l_nil (n_then ?_)
  refine ref_cond rfl (fun hb4 => ?_) (fun hb4 => ?_)
  · refine ref_seq (ref_region ?_)
    refine as1 rfl rfl ?_
    refine l_nil (n_then (ref_ret (r_then ?_)))
    refine b_of (sl_nil (rI .i64) (t := 6) rfl) ?_
    exact fin1 (.inl rfl) () [] rfl trivial rfl (rv_tmp rfl)
  refine ref_skip (n_then (ref_seq (ref_seq ?_)))
  refine ref_draw [0, 1, 2, 3, 4, 5, 6, 7, 8, 9, 10] rfl (by kernel_rfl) (fun hok => ?_)
  refine a_rd (i := 0) hok rfl (by kernel_rfl) rfl (r_faddr (fo := 1) Try.underlying34 rfl rfl Try.sizeOf31 rfl) rfl ?_
  refine a_rd (i := 1) hok rfl (by kernel_rfl) rfl (r_cload Try.isAgg31 rfl (j := 0) rfl rfl) rfl ?_
  refine a_rd (i := 2) hok rfl (by kernel_rfl) rfl (r_move rfl) rfl ?_
  refine a_rd (i := 3) hok rfl (by kernel_rfl) rfl (r_move rfl) rfl ?_
  refine pull fun t5 h_t5 => ?_
  refine a_rd (i := 4) hok rfl (by kernel_rfl) rfl (r_index h_t5 Try.underlying35 el_52 rfl rfl) rfl ?_
  refine a_rd (i := 5) hok rfl (by kernel_rfl) rfl (r_fea (fo := 1) (ρ := rT_api_Argument) (y := t5) (ρ' := (rI .i64)) (z := t5.Rule) Try.underlying52 rfl rfl Try.sizeOf3 rfl rfl rfl) rfl ?_
  refine a_rd (i := 6) hok rfl (by kernel_rfl) rfl (r_load el_3 rfl) rfl ?_
  refine pull fun t6 h_t6 => ?_
  refine a_rd (i := 7) hok rfl (by kernel_rfl) rfl (r_index h_t6 Try.underlying31 el_55 rfl rfl) rfl ?_
  refine a_rd (i := 8) hok rfl (by kernel_rfl) rfl (r_fea (fo := 1) (ρ := rT_api_Rule) (y := t6) (ρ' := rB) (z := t6.Strict) Try.underlying55 rfl rfl Try.sizeOf4 rfl rfl rfl) rfl ?_
  refine a_rd (i := 9) hok rfl (by kernel_rfl) rfl (r_load el_4 rfl) rfl ?_
  refine a_rd (i := 10) hok rfl (by kernel_rfl) rfl (r_not rfl) rfl ?_
  refine a_fin hok (by kernel_rfl) ?_
  refine n_then ?_
  refine ref_cond rfl (fun hb7 => ?_) (fun hb7 => ?_)
  · refine ref_seq (ref_region ?_)
    refine mv1 rfl rfl ?_
    refine mv1 rfl rfl ?_
    refine pull fun t8 h_t8 => ?_
    refine s_rd (r_index h_t8 Try.underlying35 el_52 rfl rfl) rfl ?_
    refine s_rd (r_fea (fo := 1) (ρ := rT_api_Argument) (y := t8) (ρ' := (rI .i64)) (z := t8.Rule) Try.underlying52 rfl rfl Try.sizeOf3 rfl rfl rfl) rfl ?_
    refine s_rd (r_load el_3 rfl) rfl ?_
    refine s_st (s_bslice (xs := [.tmp 37]) (ds := [t8.Rule]) Try.underlying22 el_3 rfl (Nat.le_of_ble_eq_true rfl) ⟨(part_at rfl iv_at), trivial⟩) rfl (fun _ => ?_)
    refine as1 rfl rfl ?_
    refine l_nil (n_then (ref_ret (r_then ?_)))
    exact fin1 (.inl rfl) () [] rfl trivial rfl (rv_tmp rfl)
  refine ref_skip (n_then (ref_seq (ref_region ?_)))
  refine as1 rfl rfl ?_
  refine l_nil (n_then (ref_seq (ref_seq (ref_region ?_))))
  refine mv1 rfl rfl ?_
  refine mv1 rfl rfl ?_
  refine pull fun t9 h_t9 => ?_
  refine s_rd (r_index h_t9 Try.underlying35 el_52 rfl rfl) rfl ?_
  refine s_rd (r_fea (fo := 2) (ρ := rT_api_Argument) (y := t9) (ρ' := (rSl (rI .i64))) (z := t9.Subs) Try.underlying52 rfl rfl Try.sizeOf22 rfl rfl rfl) rfl ?_
  refine s_rd (r_load el_22 rfl) rfl ?_
  refine s_rd (r_len Try.underlying22 rfl) rfl ?_
  refine mv1 rfl rfl ?_
  refine l_nil (n_then ?_)
  refine b_of (own_nil (rI .i64)) ?_
  refine ref_loopB (f := (argument_Last_l1 b_0 l_1 t9 rec_)) (Γl := (fun (s24 : Int × (List Int)) (x25 : (Value × List Nat)) => [(1, slv rT_api_Argument l_1), (3, pv (ptr b1 0)), (7, pv x25.1), (43, slv (rI .i64) t9.Subs), (44, iv .i64 (t9.Subs.length : Int)), (45, iv .i64 s24.1)])) (Ωl := (fun (s24 : Int × (List Int)) (x25 : (Value × List Nat)) => [oc b1 [slv rT_api_Premise b_0.Premises, slv rT_api_Rule b_0.Rules, slv rT_api_Promotion b_0.Promotions], oa (rI .i64) x25.1 x25.2 s24.2])) (Γb := (fun (q31 : (List Int)) (y32 : (Value × List Nat)) => [(7, pv y32.1)])) (Ωb := (fun (q31 : (List Int)) (y32 : (Value × List Nat)) => [oa (rI .i64) y32.1 y32.2 q31])) (0, []) ((.slice none 0 0), []) (weak [0, 1] ⟨rfl, rfl, rfl, rfl, rfl, rfl, trivial⟩ ⟨rfl, rfl, trivial⟩) (fun s24 x25 => ?_) (fun q31 y32 => ?_)
  · unfold argument_Last_l1
    refine ref_seq (ref_region ?_)
    refine s_rd (r_lss rfl rfl) rfl ?_
    refine l_nil (n_then (ref_seq ?_))
    refine ref_cond rfl (fun hb26 => ?_) (fun hb26 => ?_)
    · refine ref_skip (n_then (ref_seq (ref_block (ref_seq (ref_region ?_)))))
      refine pull fun k27 h_k27 => ?_
      refine s_rd (r_index h_k27 Try.underlying22 el_3 rfl rfl) rfl ?_
      refine s_rd (r_load el_3 rfl) rfl ?_
      refine as1 rfl rfl ?_
      refine l_nil (n_then (ref_region ?_))
      refine mv1 rfl rfl ?_
      refine s_rd (r_cloadS Try.isAgg34 Try.sizeOf34 rfl (j := 0) rfl rfl rfl) rfl ?_
      refine mv1 rfl rfl ?_
      refine mv1 rfl rfl ?_
      refine pull fun t28 h_t28 => ?_
      refine s_st (s_call (ψ := fun (_ : Unit) => slv (rI .i64) t28) (args := [.tmp 50, .tmp 51, .tmp 52]) Try.call38 rfl (ih h_t28) ⟨arg rfl, arg rfl, arg rfl, trivial⟩ (fun _ _ _ _ h => h)) rfl (fun _ => ?_)
      refine pull fun out29 h_out29 => ?_
      refine s_st (s_append h_out29 Try.underlying22 el_3 rfl (j := 1) rfl rfl) rfl (fun o30 => ?_)
      refine as1 rfl rfl ?_
      refine l_nil ?_
      refine b_of (nrm [oc b1 [slv rT_api_Premise b_0.Premises, slv rT_api_Rule b_0.Rules, slv rT_api_Promotion b_0.Promotions], oa (rI .i64) o30.1 o30.2 out29] rfl) ?_
      refine n_block (n_then (ref_region ?_))
      refine s_rd (r_add rfl rfl) rfl ?_
      refine mv1 rfl rfl ?_
      refine l_nil ?_
      exact goB o30 (weak [0, 1] ⟨rfl, rfl, rfl, rfl, rfl, rfl, trivial⟩ ⟨rfl, rfl, trivial⟩)
    refine ref_exit (x_then ?_)
    exact brkB x25 (weak [1] ⟨rfl, trivial⟩ ⟨rfl, trivial⟩)
  refine n_then (ref_seq (ref_region ?_))
  refine mv1 rfl rfl ?_
  refine pull fun t33 h_t33 => ?_
  refine s_st (s_callC [0] [true] (fun (_ : Unit) => [oa (rI .i64) y32.1 y32.2 t33]) (fun (_ : Unit) => []) (fun (_ : Unit) => tup []) (args := [.tmp 56]) (caps := []) Try.call57 rfl (slices_Sort_ok h_t33) ⟨rfl, rfl, trivial⟩ (fun _ => rfl) (fun _ => trivial) (fun _ => rfl) ⟨arg rfl, trivial⟩ (fun _ _ _ _ h => h)) rfl (fun _ => ?_)
  refine l_nil (n_then (ref_seq (ref_region ?_)))
  refine mv1 rfl rfl ?_
  refine pull fun t34 h_t34 => ?_
  refine s_st (s_callC [0] [false] (fun (x35 : (Value × List Nat)) => [dead]) (fun (x35 : (Value × List Nat)) => [oa (rI .i64) x35.1 x35.2 t34]) (fun (x35 : (Value × List Nat)) => pv x35.1) (args := [.tmp 58]) (caps := []) Try.call60 rfl (slices_Compact_ok h_t34) ⟨rfl, rfl, trivial⟩ (fun _ => rfl) (fun _ => ⟨rfl, trivial⟩) (fun _ => rfl) ⟨arg rfl, trivial⟩ (fun _ _ _ _ h => h)) rfl (fun x35 => ?_)
  refine as1 rfl rfl ?_
  refine l_nil (n_then (ref_ret ?_))
  refine b_of (frzL [59, 6] (j := 1) rfl ⟨rfl, rfl, trivial⟩) ?_
  exact fin1 (.inl rfl) () [] rfl trivial rfl (rv_tmp rfl)

theorem argument_Last_n_ok : ∀ (n_ : Nat) {b_0 : T_api_Base} {l_1 : (List T_api_Argument)} {i_2 : Int} {r : List Int}, argument_Last_n n_ b_0 l_1 i_2 = some r →
    FnOk prog 38 [ag [slv rT_api_Premise b_0.Premises, slv rT_api_Rule b_0.Rules, slv rT_api_Promotion b_0.Promotions], slv rT_api_Argument l_1, iv .i64 i_2] [] (fun (x : Unit) => [slv (rI .i64) r]) (fun (x : Unit) => []) := by
  intro n_
  induction n_ with
  | zero => intros; rename_i h; cases h
  | succ n_ ih => intros; rename_i h; exact argument_Last_step _ @ih h

theorem argument_Last_ok {b_0 : T_api_Base} {l_1 : (List T_api_Argument)} {i_2 : Int} {r : List Int} (hm : argument_Last_m b_0 l_1 i_2 = some r) :
    FnOk prog 38 [ag [slv rT_api_Premise b_0.Premises, slv rT_api_Rule b_0.Rules, slv rT_api_Promotion b_0.Promotions], slv rT_api_Argument l_1, iv .i64 i_2] [] (fun (x : Unit) => [slv (rI .i64) r]) (fun (x : Unit) => []) := by
  obtain ⟨n_, h⟩ := recC_some hm
  exact argument_Last_n_ok n_ h

theorem argument_Last_l1_le {rec_ rec_' : T_api_Base → (List T_api_Argument) → Int → Option (List Int)} (h : ∀ b_0 l_1 i_2, Le (rec_ b_0 l_1 i_2) (rec_' b_0 l_1 i_2)) {b_0 : T_api_Base} {l_1 : (List T_api_Argument)} {t9 : T_api_Argument} {s24 : Int × (List Int)}  : Le (argument_Last_l1 b_0 l_1 t9 rec_ s24) (argument_Last_l1 b_0 l_1 t9 rec_' s24) := by
  unfold argument_Last_l1
  repeat' with_reducible (first | exact Le.refl _ | exact h _ _ _ | refine Le.bind ?_ (Le.sumK fun _ => ?_) | refine Le.bind ?_ (fun _ => ?_) | refine Le.cond ?_ ?_ | refine Le.letM (fun _ => ?_) | refine Le.join (fun _ => ?_) (fun _ _ hj => ?_) | exact hj _)

theorem argument_Last_b_le {rec_ rec_' : T_api_Base → (List T_api_Argument) → Int → Option (List Int)} (h : ∀ b_0 l_1 i_2, Le (rec_ b_0 l_1 i_2) (rec_' b_0 l_1 i_2)) {b_0 : T_api_Base} {l_1 : (List T_api_Argument)} {i_2 : Int} : Le (argument_Last_b rec_ b_0 l_1 i_2) (argument_Last_b rec_' b_0 l_1 i_2) := by
  unfold argument_Last_b
  repeat' with_reducible (first | exact Le.refl _ | exact h _ _ _ | refine Le.loopC (fun _ => argument_Last_l1_le h) | refine Le.bind ?_ (Le.sumK fun _ => ?_) | refine Le.bind ?_ (fun _ => ?_) | refine Le.cond ?_ ?_ | refine Le.letM (fun _ => ?_) | refine Le.join (fun _ => ?_) (fun _ _ hj => ?_) | exact hj _)

theorem argument_Last_n_le : ∀ (n_ : Nat) (b_0 : T_api_Base) (l_1 : (List T_api_Argument)) (i_2 : Int), Le (argument_Last_n n_ b_0 l_1 i_2) (argument_Last_n (n_ + 1) b_0 l_1 i_2)
  | 0, _, _, _ => fun _ h => by cases h
  | n_ + 1, _, _, _ => argument_Last_b_le (argument_Last_n_le n_)

/-! deliberation/lift.LastRanks -/
noncomputable def lift_LastRanks_m (b_0 : T_api_Base) (l_1 : (List T_api_Argument)) (i_2 : Int) : Option (List Int) :=
  Option.bind (argument_Last_m b_0 l_1 i_2) fun t2 =>
  Option.bind (lift_ranks_m b_0 t2) fun t3 =>
  some t3

theorem lift_LastRanks_ok {b_0 : T_api_Base} {l_1 : (List T_api_Argument)} {i_2 : Int} {r : List Int} (hm : lift_LastRanks_m b_0 l_1 i_2 = some r) :
    FnOk prog 19 [ag [slv rT_api_Premise b_0.Premises, slv rT_api_Rule b_0.Rules, slv rT_api_Promotion b_0.Promotions], slv rT_api_Argument l_1, iv .i64 i_2] [] (fun (x : (Value × List Nat)) => [pv x.1]) (fun (x : (Value × List Nat)) => [oa (rI .i64) x.1 x.2 r]) := by
  refine fn_ok (X := (Value × List Nat)) (fn := Try.f19) (N := 13) (res := fun r x => [pv x.1]) (Ω1 := fun r x => [oa (rI .i64) x.1 x.2 r]) Try.func19 rfl rfl hm rfl (fun E hM => ?_)
  unfold lift_LastRanks_m
  refine ref_seq (ref_region ?_)
  refine s_st (s_box (part_agO (ψs := [slv rT_api_Premise b_0.Premises, slv rT_api_Rule b_0.Rules, slv rT_api_Promotion b_0.Promotions]) rfl ⟨.inl slv_at, .inl slv_at, .inl slv_at, trivial⟩)) rfl (fun b1 => ?_)
  refine as1 rfl rfl ?_
  refine l_nil (n_then (ref_seq ?_))
  refine ref_draw [0, 1, 2, 3] rfl (by kernel_rfl) (fun hok => ?_)
  refine a_rd (i := 0) hok rfl (by kernel_rfl) rfl (r_cloadS Try.isAgg34 Try.sizeOf34 rfl (j := 0) rfl rfl rfl) rfl ?_
  refine a_rd (i := 1) hok rfl (by kernel_rfl) rfl (r_cloadS Try.isAgg34 Try.sizeOf34 rfl (j := 0) rfl rfl rfl) rfl ?_
  refine a_rd (i := 2) hok rfl (by kernel_rfl) rfl (r_move rfl) rfl ?_
  refine a_rd (i := 3) hok rfl (by kernel_rfl) rfl (r_move rfl) rfl ?_
  refine pull fun t2 h_t2 => ?_
  refine a_next hok 4 [] (by kernel_rfl) ?_ trivial
  refine a_st (i := 4) hok rfl rfl (s_call (ψ := fun (_ : Unit) => slv (rI .i64) t2) (args := [.tmp 8, .tmp 9, .tmp 10]) Try.call38 rfl (argument_Last_ok h_t2) ⟨arg rfl, arg rfl, arg rfl, trivial⟩ (fun _ _ _ _ h => h)) (by intro _ h; cases h; rfl) (fun _ => ⟨trivial, ⟨trivial, ⟨trivial, ⟨⟨⟨rfl, rfl⟩, trivial⟩, trivial⟩⟩⟩⟩) (fun _ => ?_)
  refine pull fun t3 h_t3 => ?_
  refine a_next hok 5 [] (by kernel_rfl) ?_ trivial
  refine a_st (i := 5) hok rfl rfl (s_call (ψ := fun (x4 : (Value × List Nat)) => pv x4.1) (args := [.tmp 7, .tmp 11]) Try.call35 rfl (lift_ranks_ok h_t3) ⟨arg rfl, arg rfl, trivial⟩ (fun _ _ _ _ h => h)) (by intro _ h; cases h; rfl) (fun _ => ⟨trivial, ⟨trivial, ⟨⟨⟨rfl, rfl⟩, trivial⟩, ⟨trivial, trivial⟩⟩⟩⟩) (fun x4 => ?_)
  refine a_next hok 6 [] (by kernel_rfl) ?_ trivial
  refine a_st (i := 6) hok rfl rfl (St.ofRd (r_assign rfl)) (by intro _ h; cases h; rfl) (fun _ => ⟨trivial, ⟨trivial, ⟨trivial, ⟨trivial, trivial⟩⟩⟩⟩) (fun _ => ?_)
  refine a_fin hok (by kernel_rfl) ?_
  refine b_of (nrm [oc b1 [slv rT_api_Premise b_0.Premises, slv rT_api_Rule b_0.Rules, slv rT_api_Promotion b_0.Promotions], oa (rI .i64) x4.1 x4.2 t3] rfl) ?_
  refine n_then (ref_ret ?_)
  exact fin1 (.inl rfl) x4 [1] rfl ⟨rfl, trivial⟩ rfl (rv_tmp rfl)

/-! deliberation/deliberationref07.Last -/
noncomputable def ref07_Last_l1 (b_0 : T_api_Base) (l_1 : (List T_api_Argument)) (i_2 : Int) (rec_ : T_api_Base → (List T_api_Argument) → Int → Option (List Int)) (s25 : (List Int) × Int) : Option (Sum ((List Int)) ((List Int) × Int)) :=
  Option.bind (idxM l_1 i_2) fun t27 =>
  bif decide (s25.2 < (t27.Subs.length : Int)) then
    Option.bind (idxM l_1 i_2) fun t29 =>
    Option.bind (idxM t29.Subs s25.2) fun t30 =>
    Option.bind (rec_ b_0 l_1 t30) fun t31 =>
    Option.bind (ref07_union_m s25.1 t31) fun out32 =>
    letM (iadd .i64 s25.2 1) fun k33 =>
    some (Sum.inr (out32, k33))
  else
    some (Sum.inl s25.1)

noncomputable def ref07_Last_b (rec_ : T_api_Base → (List T_api_Argument) → Int → Option (List Int)) (b_0 : T_api_Base) (l_1 : (List T_api_Argument)) (i_2 : Int) : Option (List Int) :=
  bif decide (i_2 < 0) then
    some []
  else
    bif decide (i_2 ≥ (l_1.length : Int)) then
      some []
    else
      Option.bind (idxM l_1 i_2) fun t2 =>
      bif decide (t2.Rule < 0) then
        some []
      else
        Option.bind (idxM l_1 i_2) fun t4 =>
        Option.bind (idxM b_0.Rules t4.Rule) fun t5 =>
        bif !t5.Strict then
          Option.bind (idxM l_1 i_2) fun t7 =>
          some [t7.Rule]
        else
          Option.bind (loopC (ref07_Last_l1 b_0 l_1 i_2 rec_) ([], 0)) fun q34 : (List Int) =>
          some q34

noncomputable def ref07_Last_n : Nat → T_api_Base → (List T_api_Argument) → Int → Option (List Int)
  | 0 => fun _ _ _ => none
  | n_ + 1 => ref07_Last_b (ref07_Last_n n_)

noncomputable def ref07_Last_m (b_0 : T_api_Base) (l_1 : (List T_api_Argument)) (i_2 : Int) : Option (List Int) := recC fun n_ => ref07_Last_n n_ b_0 l_1 i_2

theorem ref07_Last_step (rec_ : T_api_Base → (List T_api_Argument) → Int → Option (List Int)) (ih : ∀ {b_0 : T_api_Base} {l_1 : (List T_api_Argument)} {i_2 : Int} {r : List Int}, rec_ b_0 l_1 i_2 = some r →
    FnOk prog 39 [ag [slv rT_api_Premise b_0.Premises, slv rT_api_Rule b_0.Rules, slv rT_api_Promotion b_0.Promotions], slv rT_api_Argument l_1, iv .i64 i_2] [] (fun (x : Unit) => [slv (rI .i64) r]) (fun (x : Unit) => [])) {b_0 : T_api_Base} {l_1 : (List T_api_Argument)} {i_2 : Int} {r : List Int} (hm : ref07_Last_b rec_ b_0 l_1 i_2 = some r) :
    FnOk prog 39 [ag [slv rT_api_Premise b_0.Premises, slv rT_api_Rule b_0.Rules, slv rT_api_Promotion b_0.Promotions], slv rT_api_Argument l_1, iv .i64 i_2] [] (fun (x : Unit) => [slv (rI .i64) r]) (fun (x : Unit) => []) := by
  refine fn_ok (fn := Try.f39) (N := 66) (res := fun r x => [slv (rI .i64) r]) (Ω1 := fun r x => []) Try.func39 rfl rfl hm rfl (fun E hM => ?_)
  unfold ref07_Last_b
  refine ref_seq (ref_region ?_)
  refine s_st (s_box (part_agO (ψs := [slv rT_api_Premise b_0.Premises, slv rT_api_Rule b_0.Rules, slv rT_api_Promotion b_0.Promotions]) rfl ⟨.inl slv_at, .inl slv_at, .inl slv_at, trivial⟩)) rfl (fun b1 => ?_)
  refine as1 rfl rfl ?_
  refine l_nil (n_then (ref_seq (ref_seq (ref_region ?_))))
  refine mv1 rfl rfl ?_
  refine s_rd (r_lss rfl rfl) rfl ?_
  refine mv1 rfl rfl ?_
  refine b_split (t := 11) rfl (fun _ => ?_) (fun _ => ?_)
  · refine s_off rfl rfl rfl rfl rfl ?_
    refine s_off rfl rfl rfl rfl rfl ?_
    refine s_off rfl rfl rfl rfl rfl ?_
    refine s_off rfl rfl rfl rfl rfl ?_
    refine s_rd (r_pickT rfl rfl) rfl ?_
    refine mv1 rfl rfl ?_
    refine s_off rfl rfl rfl rfl rfl ?_
    refine s_off rfl rfl rfl rfl rfl ?_
    refine s_off rfl rfl rfl rfl rfl ?_
    refine s_off rfl rfl rfl rfl rfl ?_
    refine s_off rfl rfl rfl rfl rfl ?_
    refine s_off rfl rfl rfl rfl rfl ?_
    refine s_rd (r_pickT rfl rfl) rfl ?_
    refine l_nil (n_then ?_)
    refine ref_condT rfl rfl ?_
    refine ref_seq (ref_region ?_)
    refine as1 rfl rfl ?_
    refine l_nil (n_then (ref_ret (r_then ?_)))
    refine b_of (sl_nil (rI .i64) (t := 6) rfl) ?_
    exact fin1 (.inl rfl) () [] rfl trivial rfl (rv_tmp rfl)
  refine s_on rfl rfl rfl ?_
  refine mv1 rfl rfl ?_
  refine s_on rfl rfl rfl ?_
  refine mv1 rfl rfl ?_
  refine s_on rfl rfl rfl ?_
  refine s_rd (r_len Try.underlying35 rfl) rfl ?_
  refine s_on rfl rfl rfl ?_
  refine s_rd (r_geq rfl rfl) rfl ?_
  refine s_rd (r_pickF rfl rfl) rfl ?_
  refine mv1 rfl rfl ?_
  refine b_split (t := 17) rfl (fun _ => ?_) (fun _ => ?_)
  · refine s_off rfl rfl rfl rfl rfl ?_
    refine s_off rfl rfl rfl rfl rfl ?_
    refine s_off rfl rfl rfl rfl rfl ?_
    refine s_off rfl rfl rfl rfl rfl ?_
    refine s_off rfl rfl rfl rfl rfl ?_
    refine s_off rfl rfl rfl rfl rfl ?_
    refine s_rd (r_pickT rfl rfl) rfl ?_
    refine l_nil (n_then ?_)
    refine ref_condT rfl rfl ?_
    refine ref_seq (ref_region ?_)
    refine as1 rfl rfl ?_
    refine l_nil (n_then (ref_ret (r_then ?_)))
    refine b_of (sl_nil (rI .i64) (t := 6) rfl) ?_
    exact fin1 (.inl rfl) () [] rfl trivial rfl (rv_tmp rfl)
  refine s_on rfl rfl rfl ?_
  refine mv1 rfl rfl ?_
  refine s_on rfl rfl rfl ?_
  refine mv1 rfl rfl ?_
  refine s_on rfl rfl rfl ?_
  refine pull fun t2 h_t2 => ?_
  refine s_rd (r_index h_t2 Try.underlying35 el_52 rfl rfl) rfl ?_
  refine s_on rfl rfl rfl ?_
  refine s_rd (r_fea (fo := 1) (ρ := rT_api_Argument) (y := t2) (ρ' := (rI .i64)) (z := t2.Rule) Try.underlying52 rfl rfl Try.sizeOf3 rfl rfl rfl) rfl ?_
  refine s_on rfl rfl rfl ?_
  refine s_rd (r_load el_3 rfl) rfl ?_
  refine s_on rfl rfl rfl ?_
  refine s_rd (r_lss rfl rfl) rfl ?_
  refine s_rd (r_pickF rfl rfl) rfl ?_
  refine l_nil (n_then ?_)
  refine ref_cond rfl (fun hb3 => ?_) (fun hb3 => ?_)
  · refine ref_seq (ref_region ?_)
    refine as1 rfl rfl ?_
    refine l_nil (n_then (ref_ret (r_then ?_)))
    refine b_of (sl_nil (rI .i64) (t := 6) rfl) ?_
    exact fin1 (.inl rfl) () [] rfl trivial rfl (rv_tmp rfl)
  refine ref_skip (n_then (ref_seq (ref_seq ?_)))
  refine ref_draw [0, 1, 2, 3, 4, 5, 6, 7, 8, 9, 10] rfl (by kernel_rfl) (fun hok => ?_)
  refine a_rd (i := 0) hok rfl (by kernel_rfl) rfl (r_faddr (fo := 1) Try.underlying34 rfl rfl Try.sizeOf31 rfl) rfl ?_
  refine a_rd (i := 1) hok rfl (by kernel_rfl) rfl (r_cload Try.isAgg31 rfl (j := 0) rfl rfl) rfl ?_
  refine a_rd (i := 2) hok rfl (by kernel_rfl) rfl (r_move rfl) rfl ?_
  refine a_rd (i := 3) hok rfl (by kernel_rfl) rfl (r_move rfl) rfl ?_
  refine pull fun t4 h_t4 => ?_
  refine a_rd (i := 4) hok rfl (by kernel_rfl) rfl (r_index h_t4 Try.underlying35 el_52 rfl rfl) rfl ?_
  refine a_rd (i := 5) hok rfl (by kernel_rfl) rfl (r_fea (fo := 1) (ρ := rT_api_Argument) (y := t4) (ρ' := (rI .i64)) (z := t4.Rule) Try.underlying52 rfl rfl Try.sizeOf3 rfl rfl rfl) rfl ?_
  refine a_rd (i := 6) hok rfl (by kernel_rfl) rfl (r_load el_3 rfl) rfl ?_
  refine pull fun t5 h_t5 => ?_
  refine a_rd (i := 7) hok rfl (by kernel_rfl) rfl (r_index h_t5 Try.underlying31 el_55 rfl rfl) rfl ?_
  refine a_rd (i := 8) hok rfl (by kernel_rfl) rfl (r_fea (fo := 1) (ρ := rT_api_Rule) (y := t5) (ρ' := rB) (z := t5.Strict) Try.underlying55 rfl rfl Try.sizeOf4 rfl rfl rfl) rfl ?_
  refine a_rd (i := 9) hok rfl (by kernel_rfl) rfl (r_load el_4 rfl) rfl ?_
  refine a_rd (i := 10) hok rfl (by kernel_rfl) rfl (r_not rfl) rfl ?_
  refine a_fin hok (by kernel_rfl) ?_
  refine n_then ?_
  refine ref_cond rfl (fun hb6 => ?_) (fun hb6 => ?_)
  · refine ref_seq (ref_region ?_)
    refine mv1 rfl rfl ?_
    refine mv1 rfl rfl ?_
    refine pull fun t7 h_t7 => ?_
    refine s_rd (r_index h_t7 Try.underlying35 el_52 rfl rfl) rfl ?_
    refine s_rd (r_fea (fo := 1) (ρ := rT_api_Argument) (y := t7) (ρ' := (rI .i64)) (z := t7.Rule) Try.underlying52 rfl rfl Try.sizeOf3 rfl rfl rfl) rfl ?_
    refine s_rd (r_load el_3 rfl) rfl ?_
    refine s_st (s_bslice (xs := [.tmp 40]) (ds := [t7.Rule]) Try.underlying22 el_3 rfl (Nat.le_of_ble_eq_true rfl) ⟨(part_at rfl iv_at), trivial⟩) rfl (fun _ => ?_)
    refine as1 rfl rfl ?_
    refine l_nil (n_then (ref_ret (r_then ?_)))
    exact fin1 (.inl rfl) () [] rfl trivial rfl (rv_tmp rfl)
  refine ref_skip (n_then (ref_seq (ref_region ?_)))
  refine as1 rfl rfl ?_
  refine l_nil (n_then (ref_seq (ref_seq (ref_region ?_))))
  refine as1 rfl rfl ?_
  refine l_nil (n_then ?_)
  refine b_of (sl_nil (rI .i64) (t := 7) rfl) ?_
  refine ref_loopB (f := (ref07_Last_l1 b_0 l_1 i_2 rec_)) (Γl := (fun (s25 : (List Int) × Int) (x26 : Unit) => [(1, slv rT_api_Argument l_1), (2, iv .i64 i_2), (3, pv (ptr b1 0)), (7, slv (rI .i64) s25.1), (8, iv .i64 s25.2)])) (Ωl := (fun (s25 : (List Int) × Int) (x26 : Unit) => [oc b1 [slv rT_api_Premise b_0.Premises, slv rT_api_Rule b_0.Rules, slv rT_api_Promotion b_0.Promotions]])) (Γb := (fun (q34 : (List Int)) (y35 : Unit) => [(7, slv (rI .i64) q34)])) (Ωb := (fun (q34 : (List Int)) (y35 : Unit) => [])) ([], 0) () (weak [0] ⟨rfl, rfl, rfl, rfl, rfl, trivial⟩ ⟨rfl, trivial⟩) (fun s25 x26 => ?_) (fun q34 y35 => ?_)
  · unfold ref07_Last_l1
    refine ref_seq (ref_seq (ref_region ?_))
    refine mv1 rfl rfl ?_
    refine mv1 rfl rfl ?_
    refine mv1 rfl rfl ?_
    refine pull fun t27 h_t27 => ?_
    refine s_rd (r_index h_t27 Try.underlying35 el_52 rfl rfl) rfl ?_
    refine s_rd (r_fea (fo := 2) (ρ := rT_api_Argument) (y := t27) (ρ' := (rSl (rI .i64))) (z := t27.Subs) Try.underlying52 rfl rfl Try.sizeOf22 rfl rfl rfl) rfl ?_
    refine s_rd (r_load el_22 rfl) rfl ?_
    refine s_rd (r_len Try.underlying22 rfl) rfl ?_
    refine s_rd (r_lss rfl rfl) rfl ?_
    refine l_nil (n_then ?_)
    refine ref_cond rfl (fun hb28 => ?_) (fun hb28 => ?_)
    · refine ref_skip (n_then (ref_seq (ref_block ?_)))
      refine ref_draw [0, 1, 2, 3, 4, 5, 6, 7, 8, 9, 10] rfl (by kernel_rfl) (fun hok => ?_)
      refine a_rd (i := 0) hok rfl (by kernel_rfl) rfl (r_move rfl) rfl ?_
      refine a_rd (i := 1) hok rfl (by kernel_rfl) rfl (r_cloadS Try.isAgg34 Try.sizeOf34 rfl (j := 0) rfl rfl rfl) rfl ?_
      refine a_rd (i := 2) hok rfl (by kernel_rfl) rfl (r_move rfl) rfl ?_
      refine a_rd (i := 3) hok rfl (by kernel_rfl) rfl (r_move rfl) rfl ?_
      refine a_rd (i := 4) hok rfl (by kernel_rfl) rfl (r_move rfl) rfl ?_
      refine pull fun t29 h_t29 => ?_
      refine a_rd (i := 5) hok rfl (by kernel_rfl) rfl (r_index h_t29 Try.underlying35 el_52 rfl rfl) rfl ?_
      refine a_rd (i := 6) hok rfl (by kernel_rfl) rfl (r_fea (fo := 2) (ρ := rT_api_Argument) (y := t29) (ρ' := (rSl (rI .i64))) (z := t29.Subs) Try.underlying52 rfl rfl Try.sizeOf22 rfl rfl rfl) rfl ?_
      refine a_rd (i := 7) hok rfl (by kernel_rfl) rfl (r_load el_22 rfl) rfl ?_
      refine a_rd (i := 8) hok rfl (by kernel_rfl) rfl (r_move rfl) rfl ?_
      refine pull fun t30 h_t30 => ?_
      refine a_rd (i := 9) hok rfl (by kernel_rfl) rfl (r_index h_t30 Try.underlying22 el_3 rfl rfl) rfl ?_
      refine a_rd (i := 10) hok rfl (by kernel_rfl) rfl (r_load el_3 rfl) rfl ?_
      refine pull fun t31 h_t31 => ?_
      refine a_next hok 11 [] (by kernel_rfl) ?_ trivial
      refine a_st (i := 11) hok rfl rfl (s_call (ψ := fun (_ : Unit) => slv (rI .i64) t31) (args := [.tmp 53, .tmp 54, .tmp 62]) Try.call39 rfl (ih h_t31) ⟨arg rfl, arg rfl, arg rfl, trivial⟩ (fun _ _ _ _ h => h)) (by intro _ h; cases h; rfl) (fun _ => ⟨trivial, ⟨trivial, ⟨trivial, ⟨trivial, ⟨trivial, ⟨trivial, ⟨trivial, ⟨trivial, ⟨trivial, ⟨trivial, ⟨trivial, trivial⟩⟩⟩⟩⟩⟩⟩⟩⟩⟩⟩) (fun _ => ?_)
      refine pull fun out32 h_out32 => ?_
      refine a_next hok 12 [] (by kernel_rfl) ?_ trivial
      refine a_st (i := 12) hok rfl rfl (s_call (ψ := fun (_ : Unit) => slv (rI .i64) out32) (args := [.tmp 52, .tmp 63]) Try.call62 rfl (ref07_union_ok h_out32) ⟨arg rfl, arg rfl, trivial⟩ (fun _ _ _ _ h => h)) (by intro _ h; cases h; rfl) (fun _ => ⟨trivial, ⟨trivial, ⟨trivial, ⟨trivial, ⟨trivial, ⟨trivial, ⟨trivial, ⟨trivial, ⟨trivial, ⟨⟨⟨rfl, rfl⟩, trivial⟩, ⟨trivial, trivial⟩⟩⟩⟩⟩⟩⟩⟩⟩⟩⟩) (fun _ => ?_)
      refine a_next hok 13 [] (by kernel_rfl) ?_ trivial
      refine a_st (i := 13) hok rfl rfl (St.ofRd (r_assign rfl)) (by intro _ h; cases h; rfl) (fun _ => ⟨trivial, ⟨trivial, ⟨trivial, ⟨trivial, ⟨trivial, ⟨trivial, ⟨trivial, ⟨trivial, ⟨trivial, ⟨trivial, ⟨trivial, trivial⟩⟩⟩⟩⟩⟩⟩⟩⟩⟩⟩) (fun _ => ?_)
      refine a_fin hok (by kernel_rfl) ?_
      refine b_of (nrm [oc b1 [slv rT_api_Premise b_0.Premises, slv rT_api_Rule b_0.Rules, slv rT_api_Promotion b_0.Promotions]] rfl) ?_
      refine n_block (n_then (ref_region ?_))
      refine mv1 rfl rfl ?_
      refine s_rd (r_add rfl rfl) rfl ?_
      refine as1 rfl rfl ?_
      refine b_let (f := iv .i64) (t := 8) rfl fun k33 => ?_
      refine l_nil ?_
      exact goB () (weak [0] ⟨rfl, rfl, rfl, rfl, rfl, trivial⟩ ⟨rfl, trivial⟩)
    refine ref_exit (x_then ?_)
    exact brkB () (weak [] ⟨rfl, trivial⟩ trivial)
  refine n_then (ref_seq (ref_region ?_))
  refine mv1 rfl rfl ?_
  refine as1 rfl rfl ?_
  refine l_nil (n_then (ref_ret ?_))
  exact fin1 (.inl rfl) () [] rfl trivial rfl (rv_tmp rfl)

theorem ref07_Last_n_ok : ∀ (n_ : Nat) {b_0 : T_api_Base} {l_1 : (List T_api_Argument)} {i_2 : Int} {r : List Int}, ref07_Last_n n_ b_0 l_1 i_2 = some r →
    FnOk prog 39 [ag [slv rT_api_Premise b_0.Premises, slv rT_api_Rule b_0.Rules, slv rT_api_Promotion b_0.Promotions], slv rT_api_Argument l_1, iv .i64 i_2] [] (fun (x : Unit) => [slv (rI .i64) r]) (fun (x : Unit) => []) := by
  intro n_
  induction n_ with
  | zero => intros; rename_i h; cases h
  | succ n_ ih => intros; rename_i h; exact ref07_Last_step _ @ih h

theorem ref07_Last_ok {b_0 : T_api_Base} {l_1 : (List T_api_Argument)} {i_2 : Int} {r : List Int} (hm : ref07_Last_m b_0 l_1 i_2 = some r) :
    FnOk prog 39 [ag [slv rT_api_Premise b_0.Premises, slv rT_api_Rule b_0.Rules, slv rT_api_Promotion b_0.Promotions], slv rT_api_Argument l_1, iv .i64 i_2] [] (fun (x : Unit) => [slv (rI .i64) r]) (fun (x : Unit) => []) := by
  obtain ⟨n_, h⟩ := recC_some hm
  exact ref07_Last_n_ok n_ h

theorem ref07_Last_l1_le {rec_ rec_' : T_api_Base → (List T_api_Argument) → Int → Option (List Int)} (h : ∀ b_0 l_1 i_2, Le (rec_ b_0 l_1 i_2) (rec_' b_0 l_1 i_2)) {b_0 : T_api_Base} {l_1 : (List T_api_Argument)} {i_2 : Int} {s25 : (List Int) × Int}  : Le (ref07_Last_l1 b_0 l_1 i_2 rec_ s25) (ref07_Last_l1 b_0 l_1 i_2 rec_' s25) := by
  unfold ref07_Last_l1
  repeat' with_reducible (first | exact Le.refl _ | exact h _ _ _ | refine Le.bind ?_ (Le.sumK fun _ => ?_) | refine Le.bind ?_ (fun _ => ?_) | refine Le.cond ?_ ?_ | refine Le.letM (fun _ => ?_) | refine Le.join (fun _ => ?_) (fun _ _ hj => ?_) | exact hj _)

theorem ref07_Last_b_le {rec_ rec_' : T_api_Base → (List T_api_Argument) → Int → Option (List Int)} (h : ∀ b_0 l_1 i_2, Le (rec_ b_0 l_1 i_2) (rec_' b_0 l_1 i_2)) {b_0 : T_api_Base} {l_1 : (List T_api_Argument)} {i_2 : Int} : Le (ref07_Last_b rec_ b_0 l_1 i_2) (ref07_Last_b rec_' b_0 l_1 i_2) := by
  unfold ref07_Last_b
  repeat' with_reducible (first | exact Le.refl _ | exact h _ _ _ | refine Le.loopC (fun _ => ref07_Last_l1_le h) | refine Le.bind ?_ (Le.sumK fun _ => ?_) | refine Le.bind ?_ (fun _ => ?_) | refine Le.cond ?_ ?_ | refine Le.letM (fun _ => ?_) | refine Le.join (fun _ => ?_) (fun _ _ hj => ?_) | exact hj _)

theorem ref07_Last_n_le : ∀ (n_ : Nat) (b_0 : T_api_Base) (l_1 : (List T_api_Argument)) (i_2 : Int), Le (ref07_Last_n n_ b_0 l_1 i_2) (ref07_Last_n (n_ + 1) b_0 l_1 i_2)
  | 0, _, _, _ => fun _ h => by cases h
  | n_ + 1, _, _, _ => ref07_Last_b_le (ref07_Last_n_le n_)

/-! deliberation/deliberationref08.LastRanks -/
noncomputable def ref08_LastRanks_l1 (b_0 : T_api_Base) (t2 : List Int) (s17 : Int × (List Int)) : Option (Sum ((List Int)) (Int × (List Int))) :=
  bif decide (s17.1 < (t2.length : Int)) then
    Option.bind (idxM t2 s17.1) fun r_20 =>
    Option.bind (idxM b_0.Rules r_20) fun t21 =>
    Option.bind (appM 8 s17.2 [t21.Rank]) fun out22 =>
    some (Sum.inr (iadd .i64 s17.1 1, out22))
  else
    some (Sum.inl s17.2)

noncomputable def ref08_LastRanks_m (b_0 : T_api_Base) (l_1 : (List T_api_Argument)) (i_2 : Int) : Option (List Int) :=
  Option.bind (ref07_Last_m b_0 l_1 i_2) fun t2 =>
  Option.bind (loopC (ref08_LastRanks_l1 b_0 t2) (0, [])) fun q24 : (List Int) =>
  some q24

theorem ref08_LastRanks_ok {b_0 : T_api_Base} {l_1 : (List T_api_Argument)} {i_2 : Int} {r : List Int} (hm : ref08_LastRanks_m b_0 l_1 i_2 = some r) :
    FnOk prog 20 [ag [slv rT_api_Premise b_0.Premises, slv rT_api_Rule b_0.Rules, slv rT_api_Promotion b_0.Promotions], slv rT_api_Argument l_1, iv .i64 i_2] [] (fun (x : (Value × List Nat)) => [pv x.1]) (fun (x : (Value × List Nat)) => [oa (rI .i64) x.1 x.2 r]) := by
  refine fn_ok (X := (Value × List Nat)) (fn := Try.f20) (N := 30) (res := fun r x => [pv x.1]) (Ω1 := fun r x => [oa (rI .i64) x.1 x.2 r]) Try.func20 rfl rfl hm rfl (fun E hM => ?_)
  unfold ref08_LastRanks_m
  refine ref_seq (ref_region ?_)
  refine s_st (s_box (part_agO (ψs := [slv rT_api_Premise b_0.Premises, slv rT_api_Rule b_0.Rules, slv rT_api_Promotion b_0.Promotions]) rfl ⟨.inl slv_at, .inl slv_at, .inl slv_at, trivial⟩)) rfl (fun b1 => ?_)
  refine as1 rfl rfl ?_
  refine l_nil (n_then (ref_seq (ref_region ?_)))
  refine as1 rfl rfl ?_
  refine l_nil (n_then (ref_seq (ref_seq (ref_region ?_))))
  refine s_rd (r_cloadS Try.isAgg34 Try.sizeOf34 rfl (j := 0) rfl rfl rfl) rfl ?_
  refine mv1 rfl rfl ?_
  refine mv1 rfl rfl ?_
  refine pull fun t2 h_t2 => ?_
  refine s_st (s_call (ψ := fun (_ : Unit) => slv (rI .i64) t2) (args := [.tmp 10, .tmp 11, .tmp 12]) Try.call39 rfl (ref07_Last_ok h_t2) ⟨arg rfl, arg rfl, arg rfl, trivial⟩ (fun _ _ _ _ h => h)) rfl (fun _ => ?_)
  refine s_rd (r_len Try.underlying22 rfl) rfl ?_
  refine mv1 rfl rfl ?_
  refine l_nil (n_then ?_)
  refine b_of (own_nil (rI .i64)) ?_
  refine ref_loopB (f := (ref08_LastRanks_l1 b_0 t2)) (Γl := (fun (s17 : Int × (List Int)) (x18 : (Value × List Nat)) => [(3, pv (ptr b1 0)), (7, pv x18.1), (13, slv (rI .i64) t2), (14, iv .i64 (t2.length : Int)), (15, iv .i64 s17.1)])) (Ωl := (fun (s17 : Int × (List Int)) (x18 : (Value × List Nat)) => [oc b1 [slv rT_api_Premise b_0.Premises, slv rT_api_Rule b_0.Rules, slv rT_api_Promotion b_0.Promotions], oa (rI .i64) x18.1 x18.2 s17.2])) (Γb := (fun (q24 : (List Int)) (y25 : (Value × List Nat)) => [(7, pv y25.1)])) (Ωb := (fun (q24 : (List Int)) (y25 : (Value × List Nat)) => [oa (rI .i64) y25.1 y25.2 q24])) (0, []) ((.slice none 0 0), []) (weak [0, 1] ⟨rfl, rfl, rfl, rfl, rfl, trivial⟩ ⟨rfl, rfl, trivial⟩) (fun s17 x18 => ?_) (fun q24 y25 => ?_)
  · unfold ref08_LastRanks_l1
    refine ref_seq (ref_region ?_)
    refine s_rd (r_lss rfl rfl) rfl ?_
    refine l_nil (n_then (ref_seq ?_))
    refine ref_cond rfl (fun hb19 => ?_) (fun hb19 => ?_)
    · refine ref_skip (n_then (ref_seq (ref_block (ref_seq (ref_region ?_)))))
      refine pull fun r_20 h_r_20 => ?_
      refine s_rd (r_index h_r_20 Try.underlying22 el_3 rfl rfl) rfl ?_
      refine s_rd (r_load el_3 rfl) rfl ?_
      refine as1 rfl rfl ?_
      refine l_nil (n_then (ref_region ?_))
      refine mv1 rfl rfl ?_
      refine s_rd (r_faddr (fo := 1) Try.underlying34 rfl rfl Try.sizeOf31 rfl) rfl ?_
      refine s_rd (r_cload Try.isAgg31 rfl (j := 0) rfl rfl) rfl ?_
      refine mv1 rfl rfl ?_
      refine pull fun t21 h_t21 => ?_
      refine s_rd (r_index h_t21 Try.underlying31 el_55 rfl rfl) rfl ?_
      refine s_rd (r_fea (fo := 2) (ρ := rT_api_Rule) (y := t21) (ρ' := (rI .i64)) (z := t21.Rank) Try.underlying55 rfl rfl Try.sizeOf3 rfl rfl rfl) rfl ?_
      refine s_rd (r_load el_3 rfl) rfl ?_
      refine s_st (s_bslice (xs := [.tmp 25]) (ds := [t21.Rank]) Try.underlying22 el_3 rfl (Nat.le_of_ble_eq_true rfl) ⟨(part_at rfl iv_at), trivial⟩) rfl (fun _ => ?_)
      refine pull fun out22 h_out22 => ?_
      refine s_st (s_append h_out22 Try.underlying22 el_3 rfl (j := 1) rfl rfl) rfl (fun o23 => ?_)
      refine as1 rfl rfl ?_
      refine l_nil ?_
      refine b_of (nrm [oc b1 [slv rT_api_Premise b_0.Premises, slv rT_api_Rule b_0.Rules, slv rT_api_Promotion b_0.Promotions], oa (rI .i64) o23.1 o23.2 out22] rfl) ?_
      refine n_block (n_then (ref_region ?_))
      refine s_rd (r_add rfl rfl) rfl ?_
      refine mv1 rfl rfl ?_
      refine l_nil ?_
      exact goB o23 (weak [0, 1] ⟨rfl, rfl, rfl, rfl, rfl, trivial⟩ ⟨rfl, rfl, trivial⟩)
    refine ref_exit (x_then ?_)
    exact brkB x18 (weak [1] ⟨rfl, trivial⟩ ⟨rfl, trivial⟩)
  refine n_then (ref_seq (ref_region ?_))
  refine mv1 rfl rfl ?_
  refine as1 rfl rfl ?_
  refine l_nil (n_then (ref_ret ?_))
  exact fin1 (.inl rfl) y25 [0] rfl ⟨rfl, trivial⟩ rfl (rv_tmp rfl)

/-! deliberation/lift.Assumes$1 -/
noncomputable def lift_Assumes_1_m (k_0 : Int) (p_1 : T_api_Base) : Option (Bool) :=
  Option.bind (idxM p_1.Premises k_0) fun t1 =>
  some (t1.Kind == 3)

theorem lift_Assumes_1_ok {k_0 : Int} {p_1 : T_api_Base} {b_1 : Nat} {r : Bool} (hm : lift_Assumes_1_m k_0 p_1 = some r) :
    FnOk prog 41 [iv .i64 k_0, pv (ptr b_1 0)] [oc b_1 [slv rT_api_Premise p_1.Premises, slv rT_api_Rule p_1.Rules, slv rT_api_Promotion p_1.Promotions]] (fun (x : Unit) => [bv r]) (fun (x : Unit) => [oc b_1 [slv rT_api_Premise p_1.Premises, slv rT_api_Rule p_1.Rules, slv rT_api_Promotion p_1.Promotions]]) := by
  refine fn_ok (fn := Try.f41) (N := 11) (res := fun r x => [bv r]) (Ω1 := fun r x => [oc b_1 [slv rT_api_Premise p_1.Premises, slv rT_api_Rule p_1.Rules, slv rT_api_Promotion p_1.Promotions]]) Try.func41 rfl rfl hm rfl (fun E hM => ?_)
  unfold lift_Assumes_1_m
  refine ref_seq (ref_region ?_)
  refine as1 rfl rfl ?_
  refine l_nil (n_then (ref_seq (ref_region ?_)))
  refine s_rd (r_faddr (fo := 0) Try.underlying34 rfl rfl Try.sizeOf30 rfl) rfl ?_
  refine s_rd (r_cload Try.isAgg30 rfl (j := 0) rfl rfl) rfl ?_
  refine mv1 rfl rfl ?_
  refine pull fun t1 h_t1 => ?_
  refine s_rd (r_index h_t1 Try.underlying30 el_64 rfl rfl) rfl ?_
  refine s_rd (r_fea (fo := 2) (ρ := rT_api_Premise) (y := t1) (ρ' := (rI .i64)) (z := t1.Kind) Try.underlying64 rfl rfl Try.sizeOf3 rfl rfl rfl) rfl ?_
  refine s_rd (r_load el_3 rfl) rfl ?_
  refine s_rd (r_eql rfl rfl) rfl ?_
  refine as1 rfl rfl ?_
  refine l_nil (n_then (ref_ret ?_))
  exact fin1 (.inl rfl) () [0] rfl ⟨rfl, trivial⟩ rfl (rv_tmp rfl)

/-! slices.IndexFunc[[]int,int] -/
noncomputable def slices_IndexFunc_int_int_l1 (s_0 : (List Int)) (e_1 : T_api_Base) (s7 : Int) : Option (Sum ((Sum (Int) (Unit))) (Int)) :=
  bif decide (s7 < (s_0.length : Int)) then
    Option.bind (idxM s_0 s7) fun t10 =>
    Option.bind (lift_Assumes_1_m t10 e_1) fun t11 =>
    bif t11 then
      some (Sum.inl (Sum.inl s7))
    else
      some (Sum.inr (iadd .i64 s7 1))
  else
    some (Sum.inl (Sum.inr ()))

noncomputable def slices_IndexFunc_int_int_m (s_0 : (List Int)) (e_1 : T_api_Base) : Option (Int) :=
  Option.bind (loopC (slices_IndexFunc_int_int_l1 s_0 e_1) 0) (sumK (fun a : Int => some a) fun q13 : Unit =>
    some (-1))

theorem slices_IndexFunc_int_int_ok {s_0 : (List Int)} {e_1 : T_api_Base} {h_0 : Value × List Nat} {be_1 : Nat} {r : Int} (hm : slices_IndexFunc_int_int_m s_0 e_1 = some r) :
    FnOk prog 63 [pv h_0.1, pv (.func (.func 41) #[] #[(ptr be_1 0)])] [oa (rI .i64) h_0.1 h_0.2 s_0, oc be_1 [slv rT_api_Premise e_1.Premises, slv rT_api_Rule e_1.Rules, slv rT_api_Promotion e_1.Promotions]] (fun (x : Unit) => [iv .i64 r]) (fun (x : Unit) => [oa (rI .i64) h_0.1 h_0.2 s_0, oc be_1 [slv rT_api_Premise e_1.Premises, slv rT_api_Rule e_1.Rules, slv rT_api_Promotion e_1.Promotions]]) := by
  refine fn_ok (fn := Try.f63) (N := 19) (res := fun r x => [iv .i64 r]) (Ω1 := fun r x => [oa (rI .i64) h_0.1 h_0.2 s_0, oc be_1 [slv rT_api_Premise e_1.Premises, slv rT_api_Rule e_1.Rules, slv rT_api_Promotion e_1.Promotions]]) Try.func63 rfl rfl hm rfl (fun E hM => ?_)
  unfold slices_IndexFunc_int_int_m
  refine ref_seq (ref_region ?_)
  refine as1 rfl rfl ?_
  refine l_nil (n_then (ref_seq (ref_seq (ref_region ?_))))
  refine mv1 rfl rfl ?_
  refine s_rd (r_olen Try.underlying22 rfl (j := 0) rfl) rfl ?_
  refine mv1 rfl rfl ?_
  refine l_nil (n_then ?_)
  refine ref_loopX (f := (slices_IndexFunc_int_int_l1 s_0 e_1)) (Γl := (fun (s7 : Int) (x8 : Unit) => [(0, pv h_0.1), (1, pv (.func (.func 41) #[] #[(ptr be_1 0)])), (7, iv .i64 (s_0.length : Int)), (8, iv .i64 s7)])) (Ωl := (fun (s7 : Int) (x8 : Unit) => [oa (rI .i64) h_0.1 h_0.2 s_0, oc be_1 [slv rT_api_Premise e_1.Premises, slv rT_api_Rule e_1.Rules, slv rT_api_Promotion e_1.Promotions]])) (Γb := (fun (q13 : Unit) (y14 : Unit) => [(0, pv h_0.1), (1, pv (.func (.func 41) #[] #[(ptr be_1 0)]))])) (Ωb := (fun (q13 : Unit) (y14 : Unit) => [oa (rI .i64) h_0.1 h_0.2 s_0, oc be_1 [slv rT_api_Premise e_1.Premises, slv rT_api_Rule e_1.Rules, slv rT_api_Promotion e_1.Promotions]])) (kr := (fun a : Int => some a)) 0 () (weak [0, 1] ⟨rfl, rfl, rfl, rfl, trivial⟩ ⟨rfl, rfl, trivial⟩) (fun s7 x8 => ?_) (fun q13 y14 => ?_)
  · unfold slices_IndexFunc_int_int_l1
    refine ref_seq (ref_region ?_)
    refine s_rd (r_lss rfl rfl) rfl ?_
    refine l_nil (n_then (ref_seq ?_))
    refine ref_cond rfl (fun hb9 => ?_) (fun hb9 => ?_)
    · refine ref_skip (n_then (ref_seq (ref_block (ref_seq (ref_region ?_)))))
      refine mv1 rfl rfl ?_
      refine as1 rfl rfl ?_
      refine l_nil (n_then (ref_seq (ref_region ?_)))
      refine mv1 rfl rfl ?_
      refine mv1 rfl rfl ?_
      refine mv1 rfl rfl ?_
      refine pull fun t10 h_t10 => ?_
      refine s_rd (r_oindex h_t10 Try.underlying22 el_3 rfl (j := 0) rfl rfl) rfl ?_
      refine s_rd (r_oload h_t10 el_3 rfl (j := 0) rfl) rfl ?_
      refine pull fun t11 h_t11 => ?_
      refine s_st (s_callC [1] [true] (fun (_ : Unit) => [oc be_1 [slv rT_api_Premise e_1.Premises, slv rT_api_Rule e_1.Rules, slv rT_api_Promotion e_1.Promotions]]) (fun (_ : Unit) => []) (fun (_ : Unit) => bv t11) (args := [.tmp 15]) (caps := [(ptr be_1 0)]) Try.call41 rfl (lift_Assumes_1_ok h_t11) ⟨rfl, rfl, trivial⟩ (fun _ => rfl) (fun _ => trivial) (fun _ => rfl) ⟨arg rfl, arg rfl, trivial⟩ (fun _ _ _ _ h => h)) rfl (fun _ => ?_)
      refine l_nil (n_then ?_)
      refine ref_cond rfl (fun hb12 => ?_) (fun hb12 => ?_)
      · refine ref_seq (ref_region ?_)
        refine mv1 rfl rfl ?_
        refine as1 rfl rfl ?_
        refine l_nil (n_then (ref_ret (r_block (r_then ?_))))
        refine retX ?_
        refine r_block (r_then ?_)
        exact fin1 (.inl rfl) () [0, 1] rfl ⟨rfl, rfl, trivial⟩ rfl (rv_tmp rfl)
      refine ref_skip (n_block (n_then (ref_region ?_)))
      refine s_rd (r_add rfl rfl) rfl ?_
      refine mv1 rfl rfl ?_
      refine l_nil ?_
      exact goX () (weak [0, 1] ⟨rfl, rfl, rfl, rfl, trivial⟩ ⟨rfl, rfl, trivial⟩)
    refine ref_exit (x_then ?_)
    exact brkX () (weak [0, 1] ⟨rfl, rfl, trivial⟩ ⟨rfl, rfl, trivial⟩)
  refine n_then (ref_seq (ref_region ?_))
  refine as1 rfl rfl ?_
  refine l_nil (n_then (ref_ret ?_))
  exact fin1 (.inl rfl) () [0, 1] rfl ⟨rfl, rfl, trivial⟩ rfl (rv_tmp rfl)

/-! slices.ContainsFunc[[]int,int] -/
noncomputable def slices_ContainsFunc_int_int_m (s_0 : (List Int)) (e_1 : T_api_Base) : Option (Bool) :=
  Option.bind (slices_IndexFunc_int_int_m s_0 e_1) fun t1 =>
  letM (decide (t1 ≥ 0)) fun t2 =>
  some t2

theorem slices_ContainsFunc_int_int_ok {s_0 : (List Int)} {e_1 : T_api_Base} {h_0 : Value × List Nat} {be_1 : Nat} {r : Bool} (hm : slices_ContainsFunc_int_int_m s_0 e_1 = some r) :
    FnOk prog 40 [pv h_0.1, pv (.func (.func 41) #[] #[(ptr be_1 0)])] [oa (rI .i64) h_0.1 h_0.2 s_0, oc be_1 [slv rT_api_Premise e_1.Premises, slv rT_api_Rule e_1.Rules, slv rT_api_Promotion e_1.Promotions]] (fun (x : Unit) => [bv r]) (fun (x : Unit) => [oa (rI .i64) h_0.1 h_0.2 s_0, oc be_1 [slv rT_api_Premise e_1.Premises, slv rT_api_Rule e_1.Rules, slv rT_api_Promotion e_1.Promotions]]) := by
  refine fn_ok (fn := Try.f40) (N := 9) (res := fun r x => [bv r]) (Ω1 := fun r x => [oa (rI .i64) h_0.1 h_0.2 s_0, oc be_1 [slv rT_api_Premise e_1.Premises, slv rT_api_Rule e_1.Rules, slv rT_api_Promotion e_1.Promotions]]) Try.func40 rfl rfl hm rfl (fun E hM => ?_)
  unfold slices_ContainsFunc_int_int_m
  refine ref_seq (ref_region ?_)
  refine as1 rfl rfl ?_
  refine l_nil (n_then (ref_seq (ref_region ?_)))
  refine mv1 rfl rfl ?_
  refine mv1 rfl rfl ?_
  refine pull fun t1 h_t1 => ?_
  refine s_st (s_callC [0, 1] [true, true] (fun (_ : Unit) => [oa (rI .i64) h_0.1 h_0.2 s_0, oc be_1 [slv rT_api_Premise e_1.Premises, slv rT_api_Rule e_1.Rules, slv rT_api_Promotion e_1.Promotions]]) (fun (_ : Unit) => []) (fun (_ : Unit) => iv .i64 t1) (args := [.tmp 5, .tmp 6]) (caps := []) Try.call63 rfl (slices_IndexFunc_int_int_ok h_t1) ⟨rfl, rfl, ⟨rfl, rfl, trivial⟩⟩ (fun _ => rfl) (fun _ => trivial) (fun _ => rfl) ⟨arg rfl, arg rfl, trivial⟩ (fun _ _ _ _ h => h)) rfl (fun _ => ?_)
  refine s_rd (r_geq rfl rfl) rfl ?_
  refine as1 rfl rfl ?_
  refine b_let (f := bv) (t := 4) rfl fun t2 => ?_
  refine l_nil (n_then (ref_ret ?_))
  exact fin1 (.inl rfl) () [0, 1] rfl ⟨rfl, rfl, trivial⟩ rfl (rv_tmp rfl)

/-! deliberation/lift.Assumes -/
noncomputable def lift_Assumes_m (b_0 : T_api_Base) (l_1 : (List T_api_Argument)) (i_2 : Int) : Option (Bool) :=
  Option.bind (argument_Premises_m l_1 i_2) fun t2 =>
  Option.bind (slices_ContainsFunc_int_int_m t2 b_0) fun t4 =>
  some t4

theorem lift_Assumes_ok {b_0 : T_api_Base} {l_1 : (List T_api_Argument)} {i_2 : Int} {r : Bool} (hm : lift_Assumes_m b_0 l_1 i_2 = some r) :
    FnOk prog 21 [ag [slv rT_api_Premise b_0.Premises, slv rT_api_Rule b_0.Rules, slv rT_api_Promotion b_0.Promotions], slv rT_api_Argument l_1, iv .i64 i_2] [] (fun (x : Unit) => [bv r]) (fun (x : Unit) => []) := by
  refine fn_ok (fn := Try.f21) (N := 12) (res := fun r x => [bv r]) (Ω1 := fun r x => []) Try.func21 rfl rfl hm rfl (fun E hM => ?_)
  unfold lift_Assumes_m
  refine ref_seq (ref_region ?_)
  refine s_st (s_box (part_agO (ψs := [slv rT_api_Premise b_0.Premises, slv rT_api_Rule b_0.Rules, slv rT_api_Promotion b_0.Promotions]) rfl ⟨.inl slv_at, .inl slv_at, .inl slv_at, trivial⟩)) rfl (fun b1 => ?_)
  refine as1 rfl rfl ?_
  refine l_nil (n_then (ref_seq (ref_region ?_)))
  refine mv1 rfl rfl ?_
  refine mv1 rfl rfl ?_
  refine pull fun t2 h_t2 => ?_
  refine s_st (s_call (ψ := fun (x3 : (Value × List Nat)) => pv x3.1) (args := [.tmp 7, .tmp 8]) Try.call33 rfl (argument_Premises_ok h_t2) ⟨arg rfl, arg rfl, trivial⟩ (fun _ _ _ _ h => h)) rfl (fun x3 => ?_)
  refine s_rd (r_mkfn (xs := [.tmp 3]) (vs := [(ptr b1 0)]) ⟨rfl, trivial⟩) rfl ?_
  refine pull fun t4 h_t4 => ?_
  refine s_st (s_callC [1, 0] [true, true] (fun (_ : Unit) => [oa (rI .i64) x3.1 x3.2 t2, oc b1 [slv rT_api_Premise b_0.Premises, slv rT_api_Rule b_0.Rules, slv rT_api_Promotion b_0.Promotions]]) (fun (_ : Unit) => []) (fun (_ : Unit) => bv t4) (args := [.tmp 9, .tmp 10]) (caps := []) Try.call40 rfl (slices_ContainsFunc_int_int_ok h_t4) ⟨rfl, rfl, ⟨rfl, rfl, trivial⟩⟩ (fun _ => rfl) (fun _ => trivial) (fun _ => rfl) ⟨arg rfl, arg rfl, trivial⟩ (fun _ _ _ _ h => h)) rfl (fun _ => ?_)
  refine as1 rfl rfl ?_
  refine l_nil (n_then (ref_ret ?_))
  exact fin1 (.inl rfl) () [] rfl trivial rfl (rv_tmp rfl)

/-! deliberation/deliberationref08.Assumes -/
noncomputable def ref08_Assumes_l1 (b_0 : T_api_Base) (t2 : List Int) (s9 : Int) : Option (Sum ((Sum (Bool) (Unit))) (Int)) :=
  bif decide (s9 < (t2.length : Int)) then
    Option.bind (idxM t2 s9) fun p12 =>
    Option.bind (idxM b_0.Premises p12) fun t13 =>
    bif t13.Kind == 3 then
      some (Sum.inl (Sum.inl true))
    else
      some (Sum.inr (iadd .i64 s9 1))
  else
    some (Sum.inl (Sum.inr ()))

noncomputable def ref08_Assumes_m (b_0 : T_api_Base) (l_1 : (List T_api_Argument)) (i_2 : Int) : Option (Bool) :=
  Option.bind (ref07_Premises_m l_1 i_2) fun t2 =>
  Option.bind (loopC (ref08_Assumes_l1 b_0 t2) 0) (sumK (fun a : Bool => some a) fun q15 : Unit =>
    some false)

theorem ref08_Assumes_ok {b_0 : T_api_Base} {l_1 : (List T_api_Argument)} {i_2 : Int} {r : Bool} (hm : ref08_Assumes_m b_0 l_1 i_2 = some r) :
    FnOk prog 22 [ag [slv rT_api_Premise b_0.Premises, slv rT_api_Rule b_0.Rules, slv rT_api_Promotion b_0.Promotions], slv rT_api_Argument l_1, iv .i64 i_2] [] (fun (x : Unit) => [bv r]) (fun (x : Unit) => []) := by
  refine fn_ok (fn := Try.f22) (N := 25) (res := fun r x => [bv r]) (Ω1 := fun r x => []) Try.func22 rfl rfl hm rfl (fun E hM => ?_)
  unfold ref08_Assumes_m
  refine ref_seq (ref_region ?_)
  refine s_st (s_box (part_agO (ψs := [slv rT_api_Premise b_0.Premises, slv rT_api_Rule b_0.Rules, slv rT_api_Promotion b_0.Promotions]) rfl ⟨.inl slv_at, .inl slv_at, .inl slv_at, trivial⟩)) rfl (fun b1 => ?_)
  refine as1 rfl rfl ?_
  refine l_nil (n_then (ref_seq (ref_seq (ref_region ?_))))
  refine mv1 rfl rfl ?_
  refine mv1 rfl rfl ?_
  refine pull fun t2 h_t2 => ?_
  refine s_st (s_call (ψ := fun (_ : Unit) => slv (rI .i64) t2) (args := [.tmp 9, .tmp 10]) Try.call34 rfl (ref07_Premises_ok h_t2) ⟨arg rfl, arg rfl, trivial⟩ (fun _ _ _ _ h => h)) rfl (fun _ => ?_)
  refine s_rd (r_len Try.underlying22 rfl) rfl ?_
  refine mv1 rfl rfl ?_
  refine l_nil (n_then ?_)
  refine ref_loopX (f := (ref08_Assumes_l1 b_0 t2)) (Γl := (fun (s9 : Int) (x10 : Unit) => [(3, pv (ptr b1 0)), (11, slv (rI .i64) t2), (12, iv .i64 (t2.length : Int)), (13, iv .i64 s9)])) (Ωl := (fun (s9 : Int) (x10 : Unit) => [oc b1 [slv rT_api_Premise b_0.Premises, slv rT_api_Rule b_0.Rules, slv rT_api_Promotion b_0.Promotions]])) (Γb := (fun (q15 : Unit) (y16 : Unit) => [])) (Ωb := (fun (q15 : Unit) (y16 : Unit) => [])) (kr := (fun a : Bool => some a)) 0 () (weak [0] ⟨rfl, rfl, rfl, rfl, trivial⟩ ⟨rfl, trivial⟩) (fun s9 x10 => ?_) (fun q15 y16 => ?_)
  · unfold ref08_Assumes_l1
    refine ref_seq (ref_region ?_)
    refine s_rd (r_lss rfl rfl) rfl ?_
    refine l_nil (n_then (ref_seq ?_))
    refine ref_cond rfl (fun hb11 => ?_) (fun hb11 => ?_)
    · refine ref_skip (n_then (ref_seq (ref_block (ref_seq (ref_region ?_)))))
      refine pull fun p12 h_p12 => ?_
      refine s_rd (r_index h_p12 Try.underlying22 el_3 rfl rfl) rfl ?_
      refine s_rd (r_load el_3 rfl) rfl ?_
      refine as1 rfl rfl ?_
      refine l_nil (n_then (ref_seq (ref_region ?_)))
      refine s_rd (r_faddr (fo := 0) Try.underlying34 rfl rfl Try.sizeOf30 rfl) rfl ?_
      refine s_rd (r_cload Try.isAgg30 rfl (j := 0) rfl rfl) rfl ?_
      refine mv1 rfl rfl ?_
      refine pull fun t13 h_t13 => ?_
      refine s_rd (r_index h_t13 Try.underlying30 el_64 rfl rfl) rfl ?_
      refine s_rd (r_fea (fo := 2) (ρ := rT_api_Premise) (y := t13) (ρ' := (rI .i64)) (z := t13.Kind) Try.underlying64 rfl rfl Try.sizeOf3 rfl rfl rfl) rfl ?_
      refine s_rd (r_load el_3 rfl) rfl ?_
      refine s_rd (r_eql rfl rfl) rfl ?_
      refine l_nil (n_then ?_)
      refine ref_cond rfl (fun hb14 => ?_) (fun hb14 => ?_)
      · refine ref_seq (ref_region ?_)
        refine as1 rfl rfl ?_
        refine l_nil (n_then (ref_ret (r_block (r_then ?_))))
        refine retX ?_
        refine r_block (r_then ?_)
        exact fin1 (.inl rfl) () [] rfl trivial rfl (rv_tmp rfl)
      refine ref_skip (n_block (n_then (ref_region ?_)))
      refine s_rd (r_add rfl rfl) rfl ?_
      refine mv1 rfl rfl ?_
      refine l_nil ?_
      exact goX () (weak [0] ⟨rfl, rfl, rfl, rfl, trivial⟩ ⟨rfl, trivial⟩)
    refine ref_exit (x_then ?_)
    exact brkX () (weak [] trivial trivial)
  refine n_then (ref_seq (ref_region ?_))
  refine as1 rfl rfl ?_
  refine l_nil (n_then (ref_ret ?_))
  exact fin1 (.inl rfl) () [] rfl trivial rfl (rv_tmp rfl)

/-! slices.Min[[]int,int] -/
noncomputable def slices_Min_int_int_l1 (x_0 : (List Int)) (s7 : Int × Int) : Option (Sum (Int) (Int × Int)) :=
  bif decide (s7.2 < (x_0.length : Int)) then
    Option.bind (idxM x_0 s7.2) fun t10 =>
    letM (iadd .i64 s7.2 1) fun i11 =>
    some (Sum.inr (imin s7.1 t10, i11))
  else
    some (Sum.inl s7.1)

noncomputable def slices_Min_int_int_m (x_0 : (List Int)) : Option (Int) :=
  bif decide ((x_0.length : Int) < 1) then
    none
  else
    Option.bind (idxM x_0 0) fun m2 =>
    Option.bind (loopC (slices_Min_int_int_l1 x_0) (m2, 1)) fun q12 : Int =>
    some q12

theorem slices_Min_int_int_ok {x_0 : (List Int)} {r : Int} (hm : slices_Min_int_int_m x_0 = some r) :
    FnOk prog 28 [slv (rI .i64) x_0] [] (fun (x : Unit) => [iv .i64 r]) (fun (x : Unit) => []) := by
  refine fn_ok (fn := Try.f28) (N := 25) (res := fun r x => [iv .i64 r]) (Ω1 := fun r x => []) Try.func28 rfl rfl hm rfl (fun E hM => ?_)
  unfold slices_Min_int_int_m
  refine ref_seq (ref_region ?_)
  refine as1 rfl rfl ?_
  refine l_nil (n_then (ref_seq (ref_seq (ref_region ?_))))
  refine mv1 rfl rfl ?_
  refine s_rd (r_len Try.underlying22 rfl) rfl ?_
  refine s_rd (r_lss rfl rfl) rfl ?_
  refine l_nil (n_then ?_)
  refine ref_cond rfl (fun hb1 => ?_) (fun hb1 => ?_)
  · refine ref_region ?_
    exact pnone
  refine ref_skip (n_then (ref_seq (ref_region ?_)))
  refine mv1 rfl rfl ?_
  refine pull fun m2 h_m2 => ?_
  refine s_rd (r_index h_m2 Try.underlying22 el_3 rfl rfl) rfl ?_
  refine s_rd (r_load el_3 rfl) rfl ?_
  refine as1 rfl rfl ?_
  refine l_nil (n_then (ref_seq (ref_seq (ref_region ?_))))
  refine as1 rfl rfl ?_
  refine l_nil (n_then ?_)
  refine ref_loopB (f := (slices_Min_int_int_l1 x_0)) (Γl := (fun (s7 : Int × Int) (x8 : Unit) => [(0, slv (rI .i64) x_0), (3, iv .i64 s7.1), (4, iv .i64 s7.2)])) (Ωl := (fun (s7 : Int × Int) (x8 : Unit) => [])) (Γb := (fun (q12 : Int) (y13 : Unit) => [(3, iv .i64 q12)])) (Ωb := (fun (q12 : Int) (y13 : Unit) => [])) (m2, 1) () (weak [] ⟨rfl, rfl, rfl, trivial⟩ trivial) (fun s7 x8 => ?_) (fun q12 y13 => ?_)
  · unfold slices_Min_int_int_l1
    refine ref_seq (ref_seq (ref_region ?_))
    refine mv1 rfl rfl ?_
    refine mv1 rfl rfl ?_
    refine s_rd (r_len Try.underlying22 rfl) rfl ?_
    refine s_rd (r_lss rfl rfl) rfl ?_
    refine l_nil (n_then ?_)
    refine ref_cond rfl (fun hb9 => ?_) (fun hb9 => ?_)
    · refine ref_skip (n_then (ref_seq (ref_block (ref_region ?_))))
      refine mv1 rfl rfl ?_
      refine mv1 rfl rfl ?_
      refine mv1 rfl rfl ?_
      refine pull fun t10 h_t10 => ?_
      refine s_rd (r_index h_t10 Try.underlying22 el_3 rfl rfl) rfl ?_
      refine s_rd (r_load el_3 rfl) rfl ?_
      refine s_rd (r_min rfl rfl) rfl ?_
      refine as1 rfl rfl ?_
      refine l_nil (n_block (n_then (ref_region ?_)))
      refine mv1 rfl rfl ?_
      refine s_rd (r_add rfl rfl) rfl ?_
      refine as1 rfl rfl ?_
      refine b_let (f := iv .i64) (t := 4) rfl fun i11 => ?_
      refine l_nil ?_
      exact goB () (weak [] ⟨rfl, rfl, rfl, trivial⟩ trivial)
    refine ref_exit (x_then ?_)
    exact brkB () (weak [] ⟨rfl, trivial⟩ trivial)
  refine n_then (ref_seq (ref_region ?_))
  refine mv1 rfl rfl ?_
  refine as1 rfl rfl ?_
  refine l_nil (n_then (ref_ret ?_))
  exact fin1 (.inl rfl) () [] rfl trivial rfl (rv_tmp rfl)

/-! slices.Max[[]int,int] -/
noncomputable def slices_Max_int_int_l1 (x_0 : (List Int)) (s7 : Int × Int) : Option (Sum (Int) (Int × Int)) :=
  bif decide (s7.2 < (x_0.length : Int)) then
    Option.bind (idxM x_0 s7.2) fun t10 =>
    letM (iadd .i64 s7.2 1) fun i11 =>
    some (Sum.inr (imax s7.1 t10, i11))
  else
    some (Sum.inl s7.1)

noncomputable def slices_Max_int_int_m (x_0 : (List Int)) : Option (Int) :=
  bif decide ((x_0.length : Int) < 1) then
    none
  else
    Option.bind (idxM x_0 0) fun m2 =>
    Option.bind (loopC (slices_Max_int_int_l1 x_0) (m2, 1)) fun q12 : Int =>
    some q12

theorem slices_Max_int_int_ok {x_0 : (List Int)} {r : Int} (hm : slices_Max_int_int_m x_0 = some r) :
    FnOk prog 29 [slv (rI .i64) x_0] [] (fun (x : Unit) => [iv .i64 r]) (fun (x : Unit) => []) := by
  refine fn_ok (fn := Try.f29) (N := 25) (res := fun r x => [iv .i64 r]) (Ω1 := fun r x => []) Try.func29 rfl rfl hm rfl (fun E hM => ?_)
  unfold slices_Max_int_int_m
  refine ref_seq (ref_region ?_)
  refine as1 rfl rfl ?_
  refine l_nil (n_then (ref_seq (ref_seq (ref_region ?_))))
  refine mv1 rfl rfl ?_
  refine s_rd (r_len Try.underlying22 rfl) rfl ?_
  refine s_rd (r_lss rfl rfl) rfl ?_
  refine l_nil (n_then ?_)
  refine ref_cond rfl (fun hb1 => ?_) (fun hb1 => ?_)
  · refine ref_region ?_
    exact pnone
  refine ref_skip (n_then (ref_seq (ref_region ?_)))
  refine mv1 rfl rfl ?_
  refine pull fun m2 h_m2 => ?_
  refine s_rd (r_index h_m2 Try.underlying22 el_3 rfl rfl) rfl ?_
  refine s_rd (r_load el_3 rfl) rfl ?_
  refine as1 rfl rfl ?_
  refine l_nil (n_then (ref_seq (ref_seq (ref_region ?_))))
  refine as1 rfl rfl ?_
  refine l_nil (n_then ?_)
  refine ref_loopB (f := (slices_Max_int_int_l1 x_0)) (Γl := (fun (s7 : Int × Int) (x8 : Unit) => [(0, slv (rI .i64) x_0), (3, iv .i64 s7.1), (4, iv .i64 s7.2)])) (Ωl := (fun (s7 : Int × Int) (x8 : Unit) => [])) (Γb := (fun (q12 : Int) (y13 : Unit) => [(3, iv .i64 q12)])) (Ωb := (fun (q12 : Int) (y13 : Unit) => [])) (m2, 1) () (weak [] ⟨rfl, rfl, rfl, trivial⟩ trivial) (fun s7 x8 => ?_) (fun q12 y13 => ?_)
  · unfold slices_Max_int_int_l1
    refine ref_seq (ref_seq (ref_region ?_))
    refine mv1 rfl rfl ?_
    refine mv1 rfl rfl ?_
    refine s_rd (r_len Try.underlying22 rfl) rfl ?_
    refine s_rd (r_lss rfl rfl) rfl ?_
    refine l_nil (n_then ?_)
    refine ref_cond rfl (fun hb9 => ?_) (fun hb9 => ?_)
    · refine ref_skip (n_then (ref_seq (ref_block (ref_region ?_))))
      refine mv1 rfl rfl ?_
      refine mv1 rfl rfl ?_
      refine mv1 rfl rfl ?_
      refine pull fun t10 h_t10 => ?_
      refine s_rd (r_index h_t10 Try.underlying22 el_3 rfl rfl) rfl ?_
      refine s_rd (r_load el_3 rfl) rfl ?_
      refine s_rd (r_max rfl rfl) rfl ?_
      refine as1 rfl rfl ?_
      refine l_nil (n_block (n_then (ref_region ?_)))
      refine mv1 rfl rfl ?_
      refine s_rd (r_add rfl rfl) rfl ?_
      refine as1 rfl rfl ?_
      refine b_let (f := iv .i64) (t := 4) rfl fun i11 => ?_
      refine l_nil ?_
      exact goB () (weak [] ⟨rfl, rfl, rfl, trivial⟩ trivial)
    refine ref_exit (x_then ?_)
    exact brkB () (weak [] ⟨rfl, trivial⟩ trivial)
  refine n_then (ref_seq (ref_region ?_))
  refine mv1 rfl rfl ?_
  refine as1 rfl rfl ?_
  refine l_nil (n_then (ref_ret ?_))
  exact fin1 (.inl rfl) () [] rfl trivial rfl (rv_tmp rfl)

/-! deliberation/lift.SetLess -/
noncomputable def lift_SetLess_m (a__0 : (List Int)) (b_1 : (List Int)) (lift_2 : Int) : Option (Bool) :=
  joinM (fun j3 : Unit =>
      letM ((b_1.length : Int) == 0) fun t6 =>
      bif t6 then
        some true
      else
        bif lift_2 == 1 then
          Option.bind (slices_Min_int_int_m a__0) fun t9 =>
          Option.bind (slices_Min_int_int_m b_1) fun t10 =>
          letM (decide (t9 < t10)) fun t11 =>
          some t11
        else
          Option.bind (slices_Max_int_int_m a__0) fun t12 =>
          Option.bind (slices_Max_int_int_m b_1) fun t13 =>
          letM (decide (t12 < t13)) fun t14 =>
          some t14) fun k5 =>
  bif lift_2 != 1 then
    bif lift_2 != 2 then
      some false
    else
      bif (a__0.length : Int) == 0 then
        some false
      else
        k5 ()
  else
    bif (a__0.length : Int) == 0 then
      some false
    else
      k5 ()

theorem lift_SetLess_ok {a__0 : (List Int)} {b_1 : (List Int)} {lift_2 : Int} {r : Bool} (hm : lift_SetLess_m a__0 b_1 lift_2 = some r) :
    FnOk prog 10 [slv (rI .i64) a__0, slv (rI .i64) b_1, iv .i64 lift_2] [] (fun (x : Unit) => [bv r]) (fun (x : Unit) => []) := by
  refine fn_ok (fn := Try.f10) (N := 35) (res := fun r x => [bv r]) (Ω1 := fun r x => []) Try.func10 rfl rfl hm rfl (fun E hM => ?_)
  unfold lift_SetLess_m
  refine ref_seq (ref_region ?_)
  refine as1 rfl rfl ?_
  refine l_nil (n_then (ref_seq ?_))
  refine ref_join (fun (j3 : Unit) (x4 : Unit) => [(0, slv (rI .i64) a__0), (1, slv (rI .i64) b_1), (2, iv .i64 lift_2)]) (fun (j3 : Unit) (x4 : Unit) => []) (fun k5 hk5 => ?_) (fun j3 x4 => ?_)
  · refine ref_seq (ref_region ?_)
    refine mv1 rfl rfl ?_
    refine s_rd (r_neq rfl rfl) rfl ?_
    refine mv1 rfl rfl ?_
    refine b_split (t := 9) rfl (fun _ => ?_) (fun _ => ?_)
    · refine s_on rfl rfl rfl ?_
      refine mv1 rfl rfl ?_
      refine s_on rfl rfl rfl ?_
      refine s_rd (r_neq rfl rfl) rfl ?_
      refine s_rd (r_pickT rfl rfl) rfl ?_
      refine mv1 rfl rfl ?_
      refine b_split (t := 13) rfl (fun _ => ?_) (fun _ => ?_)
      · refine s_off rfl rfl rfl rfl rfl ?_
        refine s_off rfl rfl rfl rfl rfl ?_
        refine s_off rfl rfl rfl rfl rfl ?_
        refine s_rd (r_pickT rfl rfl) rfl ?_
        refine l_nil (n_then ?_)
        refine ref_condT rfl rfl ?_
        refine ref_seq (ref_region ?_)
        refine as1 rfl rfl ?_
        refine l_nil (n_then (ref_ret (r_then ?_)))
        exact fin1 (.inl rfl) () [] rfl trivial rfl (rv_tmp rfl)
      refine s_on rfl rfl rfl ?_
      refine mv1 rfl rfl ?_
      refine s_on rfl rfl rfl ?_
      refine s_rd (r_len Try.underlying22 rfl) rfl ?_
      refine s_on rfl rfl rfl ?_
      refine s_rd (r_eql rfl rfl) rfl ?_
      refine s_rd (r_pickF rfl rfl) rfl ?_
      refine l_nil (n_then ?_)
      refine ref_cond rfl (fun hb1 => ?_) (fun hb1 => ?_)
      · refine ref_seq (ref_region ?_)
        refine as1 rfl rfl ?_
        refine l_nil (n_then (ref_ret (r_then ?_)))
        exact fin1 (.inl rfl) () [] rfl trivial rfl (rv_tmp rfl)
      refine ref_skip ?_
      exact b_to (hk5 () ()) (weak [] ⟨rfl, rfl, rfl, trivial⟩ trivial)
    refine s_off rfl rfl rfl rfl rfl ?_
    refine s_off rfl rfl rfl rfl rfl ?_
    refine s_rd (r_pickF rfl rfl) rfl ?_
    refine mv1 rfl rfl ?_
    refine s_on rfl rfl rfl ?_
    refine mv1 rfl rfl ?_
    refine s_on rfl rfl rfl ?_
    refine s_rd (r_len Try.underlying22 rfl) rfl ?_
    refine s_on rfl rfl rfl ?_
    refine s_rd (r_eql rfl rfl) rfl ?_
    refine s_rd (r_pickF rfl rfl) rfl ?_
    refine l_nil (n_then ?_)
    refine ref_cond rfl (fun hb2 => ?_) (fun hb2 => ?_)
    · refine ref_seq (ref_region ?_)
      refine as1 rfl rfl ?_
      refine l_nil (n_then (ref_ret (r_then ?_)))
      exact fin1 (.inl rfl) () [] rfl trivial rfl (rv_tmp rfl)
    refine ref_skip ?_
    exact b_to (hk5 () ()) (weak [] ⟨rfl, rfl, rfl, trivial⟩ trivial)
  refine n_then (ref_seq (ref_block (ref_seq (ref_region ?_))))
  refine mv1 rfl rfl ?_
  refine s_rd (r_len Try.underlying22 rfl) rfl ?_
  refine s_rd (r_eql rfl rfl) rfl ?_
  refine as1 rfl rfl ?_
  refine b_let (f := bv) (t := 18) rfl fun t6 => ?_
  refine l_nil (n_then ?_)
  refine ref_cond rfl (fun hb7 => ?_) (fun hb7 => ?_)
  · refine ref_seq (ref_region ?_)
    refine as1 rfl rfl ?_
    refine l_nil (n_then (ref_ret (r_block (r_then ?_))))
    exact fin1 (.inl rfl) () [] rfl trivial rfl (rv_tmp rfl)
  refine ref_seq (ref_region ?_)
  refine mv1 rfl rfl ?_
  refine s_rd (r_eql rfl rfl) rfl ?_
  refine as1 rfl rfl ?_
  refine l_nil (n_then ?_)
  refine ref_cond rfl (fun hb8 => ?_) (fun hb8 => ?_)
  · refine ref_seq (ref_region ?_)
    refine mv1 rfl rfl ?_
    refine pull fun t9 h_t9 => ?_
    refine s_st (s_call (ψ := fun (_ : Unit) => iv .i64 t9) (args := [.tmp 25]) Try.call28 rfl (slices_Min_int_int_ok h_t9) ⟨arg rfl, trivial⟩ (fun _ _ _ _ h => h)) rfl (fun _ => ?_)
    refine mv1 rfl rfl ?_
    refine pull fun t10 h_t10 => ?_
    refine s_st (s_call (ψ := fun (_ : Unit) => iv .i64 t10) (args := [.tmp 27]) Try.call28 rfl (slices_Min_int_int_ok h_t10) ⟨arg rfl, trivial⟩ (fun _ _ _ _ h => h)) rfl (fun _ => ?_)
    refine s_rd (r_lss rfl rfl) rfl ?_
    refine as1 rfl rfl ?_
    refine b_let (f := bv) (t := 6) rfl fun t11 => ?_
    refine l_nil (n_then (ref_ret (r_block (r_then ?_))))
    exact fin1 (.inl rfl) () [] rfl trivial rfl (rv_tmp rfl)
  refine ref_skip (n_block (n_then (ref_seq (ref_region ?_))))
  refine mv1 rfl rfl ?_
  refine pull fun t12 h_t12 => ?_
  refine s_st (s_call (ψ := fun (_ : Unit) => iv .i64 t12) (args := [.tmp 30]) Try.call29 rfl (slices_Max_int_int_ok h_t12) ⟨arg rfl, trivial⟩ (fun _ _ _ _ h => h)) rfl (fun _ => ?_)
  refine mv1 rfl rfl ?_
  refine pull fun t13 h_t13 => ?_
  refine s_st (s_call (ψ := fun (_ : Unit) => iv .i64 t13) (args := [.tmp 32]) Try.call29 rfl (slices_Max_int_int_ok h_t13) ⟨arg rfl, trivial⟩ (fun _ _ _ _ h => h)) rfl (fun _ => ?_)
  refine s_rd (r_lss rfl rfl) rfl ?_
  refine as1 rfl rfl ?_
  refine b_let (f := bv) (t := 6) rfl fun t14 => ?_
  refine l_nil (n_then (ref_ret ?_))
  exact fin1 (.inl rfl) () [] rfl trivial rfl (rv_tmp rfl)

end Go.Dc
