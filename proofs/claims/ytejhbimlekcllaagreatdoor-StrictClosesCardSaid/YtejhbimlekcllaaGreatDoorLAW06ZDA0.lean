/- Part LAW06ZD.A0 of a proof: lemmas. -/
import Derived.Test.YtejhbimlekcllaaGreatDoorLAW06ZDLay
import Derived.Test.YtejhbimlekcllaaGreatDoorProg
set_option linter.unusedVariables false
set_option linter.unusedSimpArgs false
set_option maxRecDepth 100000
set_option maxHeartbeats 4000000
namespace Go.Dc
open Go.Proofs
open Go.Proofs.Tryz (prog)

/-! deliberation/deliberationkeep.SmallBase -/
noncomputable def keep_SmallBase_l1 (b_0 : T_api_Base) (s9 : Int) : Option (Sum ((Sum (Bool) (Unit))) (Int)) :=
  bif decide (s9 < (b_0.Premises.length : Int)) then
    Option.bind (idxM b_0.Premises s9) fun t12 =>
    bif decide ((t12.Literal.Name.size : Int) > 50) then
      some (Sum.inl (Sum.inl false))
    else
      bif decide ((t12.Source.size : Int) > 50) then
        some (Sum.inl (Sum.inl false))
      else
        some (Sum.inr (iadd .i64 s9 1))
  else
    some (Sum.inl (Sum.inr ()))

noncomputable def keep_SmallBase_l3 (t40 : T_api_Rule) (s49 : Int) : Option (Sum ((Sum (Bool) (Unit))) (Int)) :=
  bif decide (s49 < (t40.Body.length : Int)) then
    Option.bind (idxM t40.Body s49) fun t52 =>
    bif decide ((t52.Name.size : Int) > 50) then
      some (Sum.inl (Sum.inl false))
    else
      some (Sum.inr (iadd .i64 s49 1))
  else
    some (Sum.inl (Sum.inr ()))

noncomputable def keep_SmallBase_l2 (b_0 : T_api_Base) (s37 : Int) : Option (Sum ((Sum (Bool) (Unit))) (Int)) :=
  bif decide (s37 < (b_0.Rules.length : Int)) then
    Option.bind (idxM b_0.Rules s37) fun t40 =>
    bif decide ((t40.Body.length : Int) > 8) then
      some (Sum.inl (Sum.inl false))
    else
      bif decide ((t40.Name.size : Int) > 50) then
        some (Sum.inl (Sum.inl false))
      else
        bif decide ((t40.Head.Name.size : Int) > 50) then
          some (Sum.inl (Sum.inl false))
        else
          Option.bind (loopC (keep_SmallBase_l3 t40) 0) (sumK (fun a : Bool => some (Sum.inl (Sum.inl a))) fun q55 : Unit =>
            some (Sum.inr (iadd .i64 s37 1)))
  else
    some (Sum.inl (Sum.inr ()))

noncomputable def keep_SmallBase_l4 (b_0 : T_api_Base) (s65 : Int) : Option (Sum ((Sum (Bool) (Unit))) (Int)) :=
  bif decide (s65 < (b_0.Promotions.length : Int)) then
    Option.bind (idxM b_0.Promotions s65) fun t68 =>
    bif decide ((t68.Rule.size : Int) > 50) then
      some (Sum.inl (Sum.inl false))
    else
      bif decide ((t68.If.Name.size : Int) > 50) then
        some (Sum.inl (Sum.inl false))
      else
        some (Sum.inr (iadd .i64 s65 1))
  else
    some (Sum.inl (Sum.inr ()))

noncomputable def keep_SmallBase_m (b_0 : T_api_Base) : Option (Bool) :=
  bif decide ((b_0.Premises.length : Int) > 30) then
    some false
  else
    bif decide ((b_0.Rules.length : Int) > 30) then
      some false
    else
      bif decide ((b_0.Promotions.length : Int) > 20) then
        some false
      else
        Option.bind (loopC (keep_SmallBase_l1 b_0) 0) (sumK (fun a : Bool => some a) fun q15 : Unit =>
          Option.bind (loopC (keep_SmallBase_l2 b_0) 0) (sumK (fun a : Bool => some a) fun q57 : Unit =>
            Option.bind (loopC (keep_SmallBase_l4 b_0) 0) (sumK (fun a : Bool => some a) fun q71 : Unit =>
              some true)))

theorem keep_SmallBase_ok {b_0 : T_api_Base} {r : Bool} (hm : keep_SmallBase_m b_0 = some r) :
    FnOk prog 7 [ag [slv rT_api_Premise b_0.Premises, slv rT_api_Rule b_0.Rules, slv rT_api_Promotion b_0.Promotions]] [] (fun (x : Unit) => [bv r]) (fun (x : Unit) => []) := by
  refine fn_ok (fn := Tryz.f7) (N := 102) (res := fun r x => [bv r]) (Ω1 := fun r x => []) Tryz.func7 rfl rfl hm rfl (fun E hM => ?_)
  unfold keep_SmallBase_m
  refine ref_seq (ref_region ?_)
  refine s_st (s_box (part_agO (ψs := [slv rT_api_Premise b_0.Premises, slv rT_api_Rule b_0.Rules, slv rT_api_Promotion b_0.Promotions]) rfl ⟨.inl slv_at, .inl slv_at, .inl slv_at, trivial⟩)) rfl (fun b1 => ?_)
  refine as1 rfl rfl ?_
  refine l_nil (n_then (ref_seq (ref_seq (ref_region ?_))))
  refine s_rd (r_faddr (fo := 0) Tryz.underlying26 rfl rfl Tryz.sizeOf22 rfl) rfl ?_
  refine s_rd (r_cload Tryz.isAgg22 rfl (j := 0) rfl rfl) rfl ?_
  refine s_rd (r_len Tryz.underlying22 rfl) rfl ?_
  refine s_rd (r_gtr rfl rfl) rfl ?_
  refine mv1 rfl rfl ?_
  refine b_split (t := 15) rfl (fun _ => ?_) (fun _ => ?_)
  · refine s_off rfl rfl rfl rfl rfl ?_
    refine s_off rfl rfl rfl rfl rfl ?_
    refine s_off rfl rfl rfl rfl rfl ?_
    refine s_off rfl rfl rfl rfl rfl ?_
    refine s_rd (r_pickT rfl rfl) rfl ?_
    refine mv1 rfl rfl ?_
    refine s_off rfl rfl rfl rfl rfl ?_
    refine s_off rfl rfl rfl rfl rfl ?_
    refine s_off rfl rfl rfl rfl rfl ?_
    refine s_off rfl rfl rfl rfl rfl ?_
    refine s_rd (r_pickT rfl rfl) rfl ?_
    refine l_nil (n_then ?_)
    refine ref_condT rfl rfl ?_
    refine ref_seq (ref_region ?_)
    refine as1 rfl rfl ?_
    refine l_nil (n_then (ref_ret (r_then ?_)))
    exact fin1 (.inl rfl) () [] rfl trivial rfl (rv_tmp rfl)
  refine s_on rfl rfl rfl ?_
  refine s_rd (r_faddr (fo := 1) Tryz.underlying26 rfl rfl Tryz.sizeOf23 rfl) rfl ?_
  refine s_on rfl rfl rfl ?_
  refine s_rd (r_cload Tryz.isAgg23 rfl (j := 0) rfl rfl) rfl ?_
  refine s_on rfl rfl rfl ?_
  refine s_rd (r_len Tryz.underlying23 rfl) rfl ?_
  refine s_on rfl rfl rfl ?_
  refine s_rd (r_gtr rfl rfl) rfl ?_
  refine s_rd (r_pickF rfl rfl) rfl ?_
  refine mv1 rfl rfl ?_
  refine b_split (t := 21) rfl (fun _ => ?_) (fun _ => ?_)
  · refine s_off rfl rfl rfl rfl rfl ?_
    refine s_off rfl rfl rfl rfl rfl ?_
    refine s_off rfl rfl rfl rfl rfl ?_
    refine s_off rfl rfl rfl rfl rfl ?_
    refine s_rd (r_pickT rfl rfl) rfl ?_
    refine l_nil (n_then ?_)
    refine ref_condT rfl rfl ?_
    refine ref_seq (ref_region ?_)
    refine as1 rfl rfl ?_
    refine l_nil (n_then (ref_ret (r_then ?_)))
    exact fin1 (.inl rfl) () [] rfl trivial rfl (rv_tmp rfl)
  refine s_on rfl rfl rfl ?_
  refine s_rd (r_faddr (fo := 2) Tryz.underlying26 rfl rfl Tryz.sizeOf24 rfl) rfl ?_
  refine s_on rfl rfl rfl ?_
  refine s_rd (r_cload Tryz.isAgg24 rfl (j := 0) rfl rfl) rfl ?_
  refine s_on rfl rfl rfl ?_
  refine s_rd (r_len Tryz.underlying24 rfl) rfl ?_
  refine s_on rfl rfl rfl ?_
  refine s_rd (r_gtr rfl rfl) rfl ?_
  refine s_rd (r_pickF rfl rfl) rfl ?_
  refine l_nil (n_then ?_)
  refine ref_cond rfl (fun hb2 => ?_) (fun hb2 => ?_)
  · refine ref_seq (ref_region ?_)
    refine as1 rfl rfl ?_
    refine l_nil (n_then (ref_ret (r_then ?_)))
    exact fin1 (.inl rfl) () [] rfl trivial rfl (rv_tmp rfl)
  refine ref_skip (n_then (ref_seq (ref_seq (ref_region ?_))))
  refine s_rd (r_faddr (fo := 0) Tryz.underlying26 rfl rfl Tryz.sizeOf22 rfl) rfl ?_
  refine s_rd (r_cload Tryz.isAgg22 rfl (j := 0) rfl rfl) rfl ?_
  refine s_rd (r_len Tryz.underlying22 rfl) rfl ?_
  refine mv1 rfl rfl ?_
  refine l_nil (n_then ?_)
  refine ref_loopX (f := (keep_SmallBase_l1 b_0)) (Γl := (fun (s9 : Int) (x10 : Unit) => [(1, pv (ptr b1 0)), (28, slv rT_api_Premise b_0.Premises), (29, iv .i64 (b_0.Premises.length : Int)), (30, iv .i64 s9)])) (Ωl := (fun (s9 : Int) (x10 : Unit) => [oc b1 [slv rT_api_Premise b_0.Premises, slv rT_api_Rule b_0.Rules, slv rT_api_Promotion b_0.Promotions]])) (Γb := (fun (q15 : Unit) (y16 : Unit) => [(1, pv (ptr b1 0))])) (Ωb := (fun (q15 : Unit) (y16 : Unit) => [oc b1 [slv rT_api_Premise b_0.Premises, slv rT_api_Rule b_0.Rules, slv rT_api_Promotion b_0.Promotions]])) (kr := (fun a : Bool => some a)) 0 () (weak [0] ⟨rfl, rfl, rfl, rfl, trivial⟩ ⟨rfl, trivial⟩) (fun s9 x10 => ?_) (fun q15 y16 => ?_)
  · unfold keep_SmallBase_l1
    refine ref_seq (ref_region ?_)
    refine s_rd (r_lss rfl rfl) rfl ?_
    refine l_nil (n_then (ref_seq ?_))
    refine ref_cond rfl (fun hb11 => ?_) (fun hb11 => ?_)
    · refine ref_skip (n_then (ref_seq (ref_block (ref_seq (ref_region ?_)))))
      refine pull fun t12 h_t12 => ?_
      refine s_rd (r_index h_t12 Tryz.underlying22 el_58 rfl rfl) rfl ?_
      refine s_rd (r_load el_58 rfl) rfl ?_
      refine s_st (s_alloc zt_58) rfl (fun b13 => ?_)
      refine s_st0 (s_cstore (out := [bv t12.Literal.Neg, sv t12.Literal.Name, iv .i64 t12.Kind, iv .i64 t12.Rank, sv t12.Source]) Tryz.sizeOf58 rfl (j := 1) rfl (part_agO (ψs := [bv t12.Literal.Neg, sv t12.Literal.Name, iv .i64 t12.Kind, iv .i64 t12.Rank, sv t12.Source]) rfl ⟨.inl bv_at, .inl sv_at, .inl iv_at, .inl iv_at, .inl sv_at, trivial⟩) rfl rfl rfl) (fun _ => ?_)
      refine l_nil (n_then (ref_seq (ref_region ?_)))
      refine s_rd (r_faddr (fo := 0) Tryz.underlying58 rfl rfl Tryz.sizeOf29 rfl) rfl ?_
      refine s_rd (r_faddr (fo := 1) Tryz.underlying29 rfl rfl Tryz.sizeOf9 rfl) rfl ?_
      refine s_rd (r_cload Tryz.isAgg9 rfl (j := 1) rfl rfl) rfl ?_
      refine s_rd (r_slen Tryz.underlying9 rfl) rfl ?_
      refine s_rd (r_gtr rfl rfl) rfl ?_
      refine mv1 rfl rfl ?_
      refine b_split (t := 39) rfl (fun _ => ?_) (fun _ => ?_)
      · refine s_off rfl rfl rfl rfl rfl ?_
        refine s_off rfl rfl rfl rfl rfl ?_
        refine s_off rfl rfl rfl rfl rfl ?_
        refine s_off rfl rfl rfl rfl rfl ?_
        refine s_rd (r_pickT rfl rfl) rfl ?_
        refine l_nil (n_then ?_)
        refine ref_condT rfl rfl ?_
        refine ref_seq (ref_region ?_)
        refine as1 rfl rfl ?_
        refine l_nil (n_then (ref_ret (r_block (r_then ?_))))
        refine retX ?_
        refine r_block (r_then ?_)
        exact fin1 (.inl rfl) () [] rfl trivial rfl (rv_tmp rfl)
      refine s_on rfl rfl rfl ?_
      refine s_rd (r_faddr (fo := 4) Tryz.underlying58 rfl rfl Tryz.sizeOf9 rfl) rfl ?_
      refine s_on rfl rfl rfl ?_
      refine s_rd (r_cload Tryz.isAgg9 rfl (j := 1) rfl rfl) rfl ?_
      refine s_on rfl rfl rfl ?_
      refine s_rd (r_slen Tryz.underlying9 rfl) rfl ?_
      refine s_on rfl rfl rfl ?_
      refine s_rd (r_gtr rfl rfl) rfl ?_
      refine s_rd (r_pickF rfl rfl) rfl ?_
      refine l_nil (n_then ?_)
      refine ref_cond rfl (fun hb14 => ?_) (fun hb14 => ?_)
      · refine ref_seq (ref_region ?_)
        refine as1 rfl rfl ?_
        refine l_nil (n_then (ref_ret (r_block (r_then ?_))))
        refine retX ?_
        refine r_block (r_then ?_)
        exact fin1 (.inl rfl) () [] rfl trivial rfl (rv_tmp rfl)
      refine ref_skip (n_block (n_then (ref_region ?_)))
      refine s_rd (r_add rfl rfl) rfl ?_
      refine mv1 rfl rfl ?_
      refine l_nil ?_
      exact goX () (weak [0] ⟨rfl, rfl, rfl, rfl, trivial⟩ ⟨rfl, trivial⟩)
    refine ref_exit (x_then ?_)
    exact brkX () (weak [0] ⟨rfl, trivial⟩ ⟨rfl, trivial⟩)
  refine n_then (ref_seq (ref_seq (ref_region ?_)))
  refine s_rd (r_faddr (fo := 1) Tryz.underlying26 rfl rfl Tryz.sizeOf23 rfl) rfl ?_
  refine s_rd (r_cload Tryz.isAgg23 rfl (j := 0) rfl rfl) rfl ?_
  refine s_rd (r_len Tryz.underlying23 rfl) rfl ?_
  refine mv1 rfl rfl ?_
  refine l_nil (n_then ?_)
  refine ref_loopX (f := (keep_SmallBase_l2 b_0)) (Γl := (fun (s37 : Int) (x38 : Unit) => [(1, pv (ptr b1 0)), (47, slv rT_api_Rule b_0.Rules), (48, iv .i64 (b_0.Rules.length : Int)), (49, iv .i64 s37)])) (Ωl := (fun (s37 : Int) (x38 : Unit) => [oc b1 [slv rT_api_Premise b_0.Premises, slv rT_api_Rule b_0.Rules, slv rT_api_Promotion b_0.Promotions]])) (Γb := (fun (q57 : Unit) (y58 : Unit) => [(1, pv (ptr b1 0))])) (Ωb := (fun (q57 : Unit) (y58 : Unit) => [oc b1 [slv rT_api_Premise b_0.Premises, slv rT_api_Rule b_0.Rules, slv rT_api_Promotion b_0.Promotions]])) (kr := (fun a : Bool => some a)) 0 () (weak [0] ⟨rfl, rfl, rfl, rfl, trivial⟩ ⟨rfl, trivial⟩) (fun s37 x38 => ?_) (fun q57 y58 => ?_)
  · unfold keep_SmallBase_l2
    refine ref_seq (ref_region ?_)
    refine s_rd (r_lss rfl rfl) rfl ?_
    refine l_nil (n_then (ref_seq ?_))
    refine ref_cond rfl (fun hb39 => ?_) (fun hb39 => ?_)
    · refine ref_skip (n_then (ref_seq (ref_block (ref_seq (ref_region ?_)))))
      refine pull fun t40 h_t40 => ?_
      refine s_rd (r_index h_t40 Tryz.underlying23 el_60 rfl rfl) rfl ?_
      refine s_rd (r_load el_60 rfl) rfl ?_
      refine s_st (s_alloc zt_60) rfl (fun b41 => ?_)
      refine s_st0 (s_cstore (out := [sv t40.Name, bv t40.Strict, iv .i64 t40.Rank, slv rT_api_Literal t40.Body, bv t40.Head.Neg, sv t40.Head.Name]) Tryz.sizeOf60 rfl (j := 1) rfl (part_agO (ψs := [sv t40.Name, bv t40.Strict, iv .i64 t40.Rank, slv rT_api_Literal t40.Body, bv t40.Head.Neg, sv t40.Head.Name]) rfl ⟨.inl sv_at, .inl bv_at, .inl iv_at, .inl slv_at, .inl bv_at, .inl sv_at, trivial⟩) rfl rfl rfl) (fun _ => ?_)
      refine l_nil (n_then (ref_seq (ref_seq (ref_region ?_))))
      refine s_rd (r_faddr (fo := 3) Tryz.underlying60 rfl rfl Tryz.sizeOf27 rfl) rfl ?_
      refine s_rd (r_cload Tryz.isAgg27 rfl (j := 1) rfl rfl) rfl ?_
      refine s_rd (r_len Tryz.underlying27 rfl) rfl ?_
      refine s_rd (r_gtr rfl rfl) rfl ?_
      refine mv1 rfl rfl ?_
      refine b_split (t := 57) rfl (fun _ => ?_) (fun _ => ?_)
      · refine s_off rfl rfl rfl rfl rfl ?_
        refine s_off rfl rfl rfl rfl rfl ?_
        refine s_off rfl rfl rfl rfl rfl ?_
        refine s_off rfl rfl rfl rfl rfl ?_
        refine s_rd (r_pickT rfl rfl) rfl ?_
        refine mv1 rfl rfl ?_
        refine s_off rfl rfl rfl rfl rfl ?_
        refine s_off rfl rfl rfl rfl rfl ?_
        refine s_off rfl rfl rfl rfl rfl ?_
        refine s_off rfl rfl rfl rfl rfl ?_
        refine s_off rfl rfl rfl rfl rfl ?_
        refine s_rd (r_pickT rfl rfl) rfl ?_
        refine l_nil (n_then ?_)
        refine ref_condT rfl rfl ?_
        refine ref_seq (ref_region ?_)
        refine as1 rfl rfl ?_
        refine l_nil (n_then (ref_ret (r_then (r_block (r_then ?_)))))
        refine retX ?_
        refine r_block (r_then ?_)
        exact fin1 (.inl rfl) () [] rfl trivial rfl (rv_tmp rfl)
      refine s_on rfl rfl rfl ?_
      refine s_rd (r_faddr (fo := 0) Tryz.underlying60 rfl rfl Tryz.sizeOf9 rfl) rfl ?_
      refine s_on rfl rfl rfl ?_
      refine s_rd (r_cload Tryz.isAgg9 rfl (j := 1) rfl rfl) rfl ?_
      refine s_on rfl rfl rfl ?_
      refine s_rd (r_slen Tryz.underlying9 rfl) rfl ?_
      refine s_on rfl rfl rfl ?_
      refine s_rd (r_gtr rfl rfl) rfl ?_
      refine s_rd (r_pickF rfl rfl) rfl ?_
      refine mv1 rfl rfl ?_
      refine b_split (t := 63) rfl (fun _ => ?_) (fun _ => ?_)
      · refine s_off rfl rfl rfl rfl rfl ?_
        refine s_off rfl rfl rfl rfl rfl ?_
        refine s_off rfl rfl rfl rfl rfl ?_
        refine s_off rfl rfl rfl rfl rfl ?_
        refine s_off rfl rfl rfl rfl rfl ?_
        refine s_rd (r_pickT rfl rfl) rfl ?_
        refine l_nil (n_then ?_)
        refine ref_condT rfl rfl ?_
        refine ref_seq (ref_region ?_)
        refine as1 rfl rfl ?_
        refine l_nil (n_then (ref_ret (r_then (r_block (r_then ?_)))))
        refine retX ?_
        refine r_block (r_then ?_)
        exact fin1 (.inl rfl) () [] rfl trivial rfl (rv_tmp rfl)
      refine s_on rfl rfl rfl ?_
      refine s_rd (r_faddr (fo := 4) Tryz.underlying60 rfl rfl Tryz.sizeOf29 rfl) rfl ?_
      refine s_on rfl rfl rfl ?_
      refine s_rd (r_faddr (fo := 1) Tryz.underlying29 rfl rfl Tryz.sizeOf9 rfl) rfl ?_
      refine s_on rfl rfl rfl ?_
      refine s_rd (r_cload Tryz.isAgg9 rfl (j := 1) rfl rfl) rfl ?_
      refine s_on rfl rfl rfl ?_
      refine s_rd (r_slen Tryz.underlying9 rfl) rfl ?_
      refine s_on rfl rfl rfl ?_
      refine s_rd (r_gtr rfl rfl) rfl ?_
      refine s_rd (r_pickF rfl rfl) rfl ?_
      refine l_nil (n_then ?_)
      refine ref_cond rfl (fun hb42 => ?_) (fun hb42 => ?_)
      · refine ref_seq (ref_region ?_)
        refine as1 rfl rfl ?_
        refine l_nil (n_then (ref_ret (r_then (r_block (r_then ?_)))))
        refine retX ?_
        refine r_block (r_then ?_)
        exact fin1 (.inl rfl) () [] rfl trivial rfl (rv_tmp rfl)
      refine ref_skip (n_then (ref_seq (ref_region ?_)))
      refine s_rd (r_faddr (fo := 3) Tryz.underlying60 rfl rfl Tryz.sizeOf27 rfl) rfl ?_
      refine s_rd (r_cload Tryz.isAgg27 rfl (j := 1) rfl rfl) rfl ?_
      refine s_rd (r_len Tryz.underlying27 rfl) rfl ?_
      refine mv1 rfl rfl ?_
      refine l_nil (n_then ?_)
      refine ref_loopX (f := (keep_SmallBase_l3 t40)) (Γl := (fun (s49 : Int) (x50 : Unit) => [(1, pv (ptr b1 0)), (47, slv rT_api_Rule b_0.Rules), (48, iv .i64 (b_0.Rules.length : Int)), (49, iv .i64 s37), (58, pv (ptr b41 0)), (59, sv t40.Name), (60, iv .i64 (t40.Name.size : Int)), (61, bv (decide ((t40.Name.size : Int) > 50))), (64, pv (ptr b41 4)), (65, pv (ptr b41 5)), (66, sv t40.Head.Name), (67, iv .i64 (t40.Head.Name.size : Int)), (68, bv (decide ((t40.Head.Name.size : Int) > 50))), (71, slv rT_api_Literal t40.Body), (72, iv .i64 (t40.Body.length : Int)), (73, iv .i64 s49)])) (Ωl := (fun (s49 : Int) (x50 : Unit) => [oc b1 [slv rT_api_Premise b_0.Premises, slv rT_api_Rule b_0.Rules, slv rT_api_Promotion b_0.Promotions], oc b41 [sv t40.Name, bv t40.Strict, iv .i64 t40.Rank, slv rT_api_Literal t40.Body, bv t40.Head.Neg, sv t40.Head.Name]])) (Γb := (fun (q55 : Unit) (y56 : Unit) => [(1, pv (ptr b1 0)), (47, slv rT_api_Rule b_0.Rules), (48, iv .i64 (b_0.Rules.length : Int)), (49, iv .i64 s37), (58, pv (ptr b41 0)), (59, sv t40.Name), (60, iv .i64 (t40.Name.size : Int)), (61, bv (decide ((t40.Name.size : Int) > 50))), (64, pv (ptr b41 4)), (65, pv (ptr b41 5)), (66, sv t40.Head.Name), (67, iv .i64 (t40.Head.Name.size : Int)), (68, bv (decide ((t40.Head.Name.size : Int) > 50)))])) (Ωb := (fun (q55 : Unit) (y56 : Unit) => [oc b1 [slv rT_api_Premise b_0.Premises, slv rT_api_Rule b_0.Rules, slv rT_api_Promotion b_0.Promotions], oc b41 [sv t40.Name, bv t40.Strict, iv .i64 t40.Rank, slv rT_api_Literal t40.Body, bv t40.Head.Neg, sv t40.Head.Name]])) (kr := (fun a : Bool => some (Sum.inl (Sum.inl a)))) 0 () (weak [0, 1] ⟨rfl, rfl, rfl, rfl, rfl, rfl, rfl, rfl, rfl, rfl, rfl, rfl, rfl, rfl, rfl, rfl, trivial⟩ ⟨rfl, rfl, trivial⟩) (fun s49 x50 => ?_) (fun q55 y56 => ?_)
      · unfold keep_SmallBase_l3
        refine ref_seq (ref_region ?_)
        refine s_rd (r_lss rfl rfl) rfl ?_
        refine l_nil (n_then (ref_seq ?_))
        refine ref_cond rfl (fun hb51 => ?_) (fun hb51 => ?_)
        · refine ref_skip (n_then (ref_seq (ref_block (ref_seq (ref_region ?_)))))
          refine pull fun t52 h_t52 => ?_
          refine s_rd (r_index h_t52 Tryz.underlying27 el_29 rfl rfl) rfl ?_
          refine s_rd (r_load el_29 rfl) rfl ?_
          refine s_st (s_alloc zt_29) rfl (fun b53 => ?_)
          refine s_st0 (s_cstore (out := [bv t52.Neg, sv t52.Name]) Tryz.sizeOf29 rfl (j := 2) rfl (part_agO (ψs := [bv t52.Neg, sv t52.Name]) rfl ⟨.inl bv_at, .inl sv_at, trivial⟩) rfl rfl rfl) (fun _ => ?_)
          refine l_nil ?_
          refine b_of (nrm [oc b1 [slv rT_api_Premise b_0.Premises, slv rT_api_Rule b_0.Rules, slv rT_api_Promotion b_0.Promotions], oc b41 [sv t40.Name, bv t40.Strict, iv .i64 t40.Rank, slv rT_api_Literal t40.Body, bv t40.Head.Neg, sv t40.Head.Name], oc b53 [bv t52.Neg, sv t52.Name]] rfl) ?_
          refine n_then (ref_seq (ref_region ?_))
          refine s_rd (r_faddr (fo := 1) Tryz.underlying29 rfl rfl Tryz.sizeOf9 rfl) rfl ?_
          refine s_rd (r_cload Tryz.isAgg9 rfl (j := 2) rfl rfl) rfl ?_
          refine s_rd (r_slen Tryz.underlying9 rfl) rfl ?_
          refine s_rd (r_gtr rfl rfl) rfl ?_
          refine l_nil (n_then ?_)
          refine ref_cond rfl (fun hb54 => ?_) (fun hb54 => ?_)
          · refine ref_seq (ref_region ?_)
            refine as1 rfl rfl ?_
            refine l_nil (n_then (ref_ret (r_block (r_then ?_))))
            refine retX ?_
            refine r_block (r_block (r_then ?_))
            refine retX ?_
            refine r_block (r_then ?_)
            exact fin1 (.inl rfl) () [] rfl trivial rfl (rv_tmp rfl)
          refine ref_skip (n_block (n_then (ref_region ?_)))
          refine s_rd (r_add rfl rfl) rfl ?_
          refine mv1 rfl rfl ?_
          refine l_nil ?_
          exact goX () (weak [0, 1] ⟨rfl, rfl, rfl, rfl, rfl, rfl, rfl, rfl, rfl, rfl, rfl, rfl, rfl, rfl, rfl, rfl, trivial⟩ ⟨rfl, rfl, trivial⟩)
        refine ref_exit (x_then ?_)
        exact brkX () (weak [0, 1] ⟨rfl, rfl, rfl, rfl, rfl, rfl, rfl, rfl, rfl, rfl, rfl, rfl, rfl, trivial⟩ ⟨rfl, rfl, trivial⟩)
      refine n_block (n_then (ref_region ?_))
      refine s_rd (r_add rfl rfl) rfl ?_
      refine mv1 rfl rfl ?_
      refine l_nil ?_
      exact goX () (weak [0] ⟨rfl, rfl, rfl, rfl, trivial⟩ ⟨rfl, trivial⟩)
    refine ref_exit (x_then ?_)
    exact brkX () (weak [0] ⟨rfl, trivial⟩ ⟨rfl, trivial⟩)
  refine n_then (ref_seq (ref_seq (ref_region ?_)))
  refine s_rd (r_faddr (fo := 2) Tryz.underlying26 rfl rfl Tryz.sizeOf24 rfl) rfl ?_
  refine s_rd (r_cload Tryz.isAgg24 rfl (j := 0) rfl rfl) rfl ?_
  refine s_rd (r_len Tryz.underlying24 rfl) rfl ?_
  refine mv1 rfl rfl ?_
  refine l_nil (n_then ?_)
  refine ref_loopX (f := (keep_SmallBase_l4 b_0)) (Γl := (fun (s65 : Int) (x66 : Unit) => [(84, slv rT_api_Promotion b_0.Promotions), (85, iv .i64 (b_0.Promotions.length : Int)), (86, iv .i64 s65)])) (Ωl := (fun (s65 : Int) (x66 : Unit) => [])) (Γb := (fun (q71 : Unit) (y72 : Unit) => [])) (Ωb := (fun (q71 : Unit) (y72 : Unit) => [])) (kr := (fun a : Bool => some a)) 0 () (weak [] ⟨rfl, rfl, rfl, trivial⟩ trivial) (fun s65 x66 => ?_) (fun q71 y72 => ?_)
  · unfold keep_SmallBase_l4
    refine ref_seq (ref_region ?_)
    refine s_rd (r_lss rfl rfl) rfl ?_
    refine l_nil (n_then (ref_seq ?_))
    refine ref_cond rfl (fun hb67 => ?_) (fun hb67 => ?_)
    · refine ref_skip (n_then (ref_seq (ref_block (ref_seq (ref_region ?_)))))
      refine pull fun t68 h_t68 => ?_
      refine s_rd (r_index h_t68 Tryz.underlying24 el_62 rfl rfl) rfl ?_
      refine s_rd (r_load el_62 rfl) rfl ?_
      refine s_st (s_alloc zt_62) rfl (fun b69 => ?_)
      refine s_st0 (s_cstore (out := [sv t68.Rule, iv .i64 t68.Rank, bv t68.If.Neg, sv t68.If.Name]) Tryz.sizeOf62 rfl (j := 0) rfl (part_agO (ψs := [sv t68.Rule, iv .i64 t68.Rank, bv t68.If.Neg, sv t68.If.Name]) rfl ⟨.inl sv_at, .inl iv_at, .inl bv_at, .inl sv_at, trivial⟩) rfl rfl rfl) (fun _ => ?_)
      refine l_nil (n_then (ref_seq (ref_region ?_)))
      refine s_rd (r_faddr (fo := 0) Tryz.underlying62 rfl rfl Tryz.sizeOf9 rfl) rfl ?_
      refine s_rd (r_cload Tryz.isAgg9 rfl (j := 0) rfl rfl) rfl ?_
      refine s_rd (r_slen Tryz.underlying9 rfl) rfl ?_
      refine s_rd (r_gtr rfl rfl) rfl ?_
      refine mv1 rfl rfl ?_
      refine b_split (t := 94) rfl (fun _ => ?_) (fun _ => ?_)
      · refine s_off rfl rfl rfl rfl rfl ?_
        refine s_off rfl rfl rfl rfl rfl ?_
        refine s_off rfl rfl rfl rfl rfl ?_
        refine s_off rfl rfl rfl rfl rfl ?_
        refine s_off rfl rfl rfl rfl rfl ?_
        refine s_rd (r_pickT rfl rfl) rfl ?_
        refine l_nil (n_then ?_)
        refine ref_condT rfl rfl ?_
        refine ref_seq (ref_region ?_)
        refine as1 rfl rfl ?_
        refine l_nil (n_then (ref_ret (r_block (r_then ?_))))
        refine retX ?_
        refine r_block (r_then ?_)
        exact fin1 (.inl rfl) () [] rfl trivial rfl (rv_tmp rfl)
      refine s_on rfl rfl rfl ?_
      refine s_rd (r_faddr (fo := 2) Tryz.underlying62 rfl rfl Tryz.sizeOf29 rfl) rfl ?_
      refine s_on rfl rfl rfl ?_
      refine s_rd (r_faddr (fo := 1) Tryz.underlying29 rfl rfl Tryz.sizeOf9 rfl) rfl ?_
      refine s_on rfl rfl rfl ?_
      refine s_rd (r_cload Tryz.isAgg9 rfl (j := 0) rfl rfl) rfl ?_
      refine s_on rfl rfl rfl ?_
      refine s_rd (r_slen Tryz.underlying9 rfl) rfl ?_
      refine s_on rfl rfl rfl ?_
      refine s_rd (r_gtr rfl rfl) rfl ?_
      refine s_rd (r_pickF rfl rfl) rfl ?_
      refine l_nil (n_then ?_)
      refine ref_cond rfl (fun hb70 => ?_) (fun hb70 => ?_)
      · refine ref_seq (ref_region ?_)
        refine as1 rfl rfl ?_
        refine l_nil (n_then (ref_ret (r_block (r_then ?_))))
        refine retX ?_
        refine r_block (r_then ?_)
        exact fin1 (.inl rfl) () [] rfl trivial rfl (rv_tmp rfl)
      refine ref_skip (n_block (n_then (ref_region ?_)))
      refine s_rd (r_add rfl rfl) rfl ?_
      refine mv1 rfl rfl ?_
      refine l_nil ?_
      exact goX () (weak [] ⟨rfl, rfl, rfl, trivial⟩ trivial)
    refine ref_exit (x_then ?_)
    exact brkX () (weak [] trivial trivial)
  refine n_then (ref_seq (ref_region ?_))
  refine as1 rfl rfl ?_
  refine l_nil (n_then (ref_ret ?_))
  exact fin1 (.inl rfl) () [] rfl trivial rfl (rv_tmp rfl)

/-! deliberation/deliberationkeep.New -/
noncomputable def keep_New_m (l_0 : (List Int)) : Option (T_deliberationkeep_Src) :=
  Option.bind (slM l_0 0 (imin (l_0.length : Int) 2000)) fun t1 =>
  some (T_deliberationkeep_Src.mk t1 0)

theorem keep_New_ok {l_0 : (List Int)} {r : T_deliberationkeep_Src} (hm : keep_New_m l_0 = some r) :
    FnOk prog 8 [slv (rI .i64) l_0] [] (fun (x : Nat) => [pv (ptr x 0)]) (fun (x : Nat) => [oc x [slv (rI .i64) r.L, iv .i64 r.At]]) := by
  refine fn_ok (X := Nat) (fn := Tryz.f8) (N := 10) (res := fun r x => [pv (ptr x 0)]) (Ω1 := fun r x => [oc x [slv (rI .i64) r.L, iv .i64 r.At]]) Tryz.func8 rfl rfl hm rfl (fun E hM => ?_)
  unfold keep_New_m
  refine ref_seq (ref_region ?_)
  refine as1 rfl rfl ?_
  refine l_nil (n_then (ref_seq (ref_region ?_)))
  refine mv1 rfl rfl ?_
  refine mv1 rfl rfl ?_
  refine s_rd (r_len Tryz.underlying30 rfl) rfl ?_
  refine s_rd (r_min rfl rfl) rfl ?_
  refine pull fun t1 h_t1 => ?_
  refine s_rd (r_slice h_t1 Tryz.underlying30 el_3 rfl .dft (.of rfl)) rfl ?_
  refine s_rd (r_build (ps := [(0, .tmp 7)]) (rs := [(0, [slv (rI .i64) t1])]) st_64 zs_64 ⟨rfl, (part_at rfl slv_at), trivial⟩ rfl rfl) rfl ?_
  refine s_st (s_box (part_agO (ψs := [slv (rI .i64) t1, iv .i64 0]) rfl ⟨.inl slv_at, .inl iv_at, trivial⟩)) rfl (fun b2 => ?_)
  refine as1 rfl rfl ?_
  refine l_nil (n_then (ref_ret ?_))
  exact fin1 (.inl rfl) b2 [0] rfl ⟨rfl, trivial⟩ rfl (rv_tmp rfl)

/-! (*deliberation/deliberationkeep.Src).Raw -/
noncomputable def keep_Src_Raw_m (s_0 : T_deliberationkeep_Src) : Option (Int × T_deliberationkeep_Src) :=
  bif decide (s_0.At ≥ (s_0.L.length : Int)) then
    some (0, s_0)
  else
    Option.bind (idxM s_0.L (isub .i64 (iadd .i64 s_0.At 1) 1)) fun t2 =>
    some (t2, (T_deliberationkeep_Src.mk s_0.L (iadd .i64 s_0.At 1)))

theorem keep_Src_Raw_ok {s_0 : T_deliberationkeep_Src} {b_0 : Nat} {r : Int × T_deliberationkeep_Src} (hm : keep_Src_Raw_m s_0 = some r) :
    FnOk prog 60 [pv (ptr b_0 0)] [oc b_0 [slv (rI .i64) s_0.L, iv .i64 s_0.At]] (fun (x : Unit) => [iv .i64 r.1]) (fun (x : Unit) => [oc b_0 [slv (rI .i64) r.2.L, iv .i64 r.2.At]]) := by
  refine fn_ok (fn := Tryz.f60) (N := 31) (res := fun r x => [iv .i64 r.1]) (Ω1 := fun r x => [oc b_0 [slv (rI .i64) r.2.L, iv .i64 r.2.At]]) Tryz.func60 rfl rfl hm rfl (fun E hM => ?_)
  unfold keep_Src_Raw_m
  refine ref_seq (ref_region ?_)
  refine as1 rfl rfl ?_
  refine l_nil (n_then (ref_seq (ref_seq ?_)))
  refine ref_draw [0, 1, 2, 3, 4, 5, 6, 7, 8, 9] rfl (by kernel_rfl) (fun hok => ?_)
  refine a_rd (i := 0) hok rfl (by kernel_rfl) rfl (r_move rfl) rfl ?_
  refine a_rd (i := 1) hok rfl (by kernel_rfl) rfl (r_nilc rfl) rfl ?_
  refine a_rd (i := 2) hok rfl (by kernel_rfl) rfl (r_faddr (fo := 1) Tryz.underlying64 rfl rfl Tryz.sizeOf3 rfl) rfl ?_
  refine a_rd (i := 3) hok rfl (by kernel_rfl) rfl (r_cload Tryz.isAgg3 rfl (j := 0) rfl rfl) rfl ?_
  refine a_rd (i := 4) hok rfl (by kernel_rfl) rfl (r_move rfl) rfl ?_
  refine a_rd (i := 5) hok rfl (by kernel_rfl) rfl (r_nilc rfl) rfl ?_
  refine a_rd (i := 6) hok rfl (by kernel_rfl) rfl (r_faddr (fo := 0) Tryz.underlying64 rfl rfl Tryz.sizeOf30 rfl) rfl ?_
  refine a_rd (i := 7) hok rfl (by kernel_rfl) rfl (r_cload Tryz.isAgg30 rfl (j := 0) rfl rfl) rfl ?_
  refine a_rd (i := 8) hok rfl (by kernel_rfl) rfl (r_len Tryz.underlying30 rfl) rfl ?_
  refine a_rd (i := 9) hok rfl (by kernel_rfl) rfl (r_geq rfl rfl) rfl ?_
  refine a_fin hok (by kernel_rfl) ?_
  refine n_then ?_
  refine ref_cond rfl (fun hb1 => ?_) (fun hb1 => ?_)
  · refine ref_seq (ref_region ?_)
    refine as1 rfl rfl ?_
    refine l_nil (n_then (ref_ret (r_then ?_)))
    exact fin1 (.inl rfl) () [0] rfl ⟨rfl, trivial⟩ rfl (rv_tmp rfl)
  refine ref_skip (n_then (ref_seq (ref_region ?_)))
  refine mv1 rfl rfl ?_
  refine s_rd (r_nilc rfl) rfl ?_
  refine s_rd (r_faddr (fo := 1) Tryz.underlying64 rfl rfl Tryz.sizeOf3 rfl) rfl ?_
  refine s_rd (r_cload Tryz.isAgg3 rfl (j := 0) rfl rfl) rfl ?_
  refine s_rd (r_add rfl rfl) rfl ?_
  refine s_rd (r_nilc rfl) rfl ?_
  refine s_rd (r_faddr (fo := 1) Tryz.underlying64 rfl rfl Tryz.sizeOf3 rfl) rfl ?_
  refine s_st0 (s_cstore (out := [slv (rI .i64) s_0.L, iv .i64 (iadd .i64 s_0.At 1)]) Tryz.sizeOf3 rfl (j := 0) rfl (part_at rfl iv_at) rfl rfl rfl) (fun _ => ?_)
  refine l_nil (n_then (ref_seq ?_))
  refine ref_draw [0, 1, 2, 3, 4, 5, 6, 7, 8, 9, 10] rfl (by kernel_rfl) (fun hok => ?_)
  refine a_rd (i := 0) hok rfl (by kernel_rfl) rfl (r_move rfl) rfl ?_
  refine a_rd (i := 1) hok rfl (by kernel_rfl) rfl (r_nilc rfl) rfl ?_
  refine a_rd (i := 2) hok rfl (by kernel_rfl) rfl (r_faddr (fo := 0) Tryz.underlying64 rfl rfl Tryz.sizeOf30 rfl) rfl ?_
  refine a_rd (i := 3) hok rfl (by kernel_rfl) rfl (r_cload Tryz.isAgg30 rfl (j := 0) rfl rfl) rfl ?_
  refine a_rd (i := 4) hok rfl (by kernel_rfl) rfl (r_move rfl) rfl ?_
  refine a_rd (i := 5) hok rfl (by kernel_rfl) rfl (r_nilc rfl) rfl ?_
  refine a_rd (i := 6) hok rfl (by kernel_rfl) rfl (r_faddr (fo := 1) Tryz.underlying64 rfl rfl Tryz.sizeOf3 rfl) rfl ?_
  refine a_rd (i := 7) hok rfl (by kernel_rfl) rfl (r_cload Tryz.isAgg3 rfl (j := 0) rfl rfl) rfl ?_
  refine a_rd (i := 8) hok rfl (by kernel_rfl) rfl (r_sub rfl rfl) rfl ?_
  refine pull fun t2 h_t2 => ?_
  refine a_rd (i := 9) hok rfl (by kernel_rfl) rfl (r_index h_t2 Tryz.underlying30 el_3 rfl rfl) rfl ?_
  refine a_rd (i := 10) hok rfl (by kernel_rfl) rfl (r_load el_3 rfl) rfl ?_
  refine a_next hok 11 [] (by kernel_rfl) ?_ trivial
  refine a_st (i := 11) hok rfl rfl (St.ofRd (r_assign rfl)) (by intro _ h; cases h; rfl) (fun _ => ⟨trivial, ⟨trivial, ⟨trivial, ⟨trivial, ⟨trivial, ⟨trivial, ⟨trivial, ⟨trivial, ⟨trivial, ⟨trivial, ⟨trivial, trivial⟩⟩⟩⟩⟩⟩⟩⟩⟩⟩⟩) (fun _ => ?_)
  refine a_fin hok (by kernel_rfl) ?_
  refine n_then (ref_ret ?_)
  exact fin1 (.inl rfl) () [0] rfl ⟨rfl, trivial⟩ rfl (rv_tmp rfl)

/-! deliberation/deliberationkeep.Mod -/
noncomputable def keep_Mod_m (x_0 : Int) (n_1 : Int) : Option (Int) :=
  bif decide (n_1 < 1) then
    some 0
  else
    Option.bind (iremM .i64 x_0 n_1) fun x2 =>
    bif decide (x2 < 0) then
      letM (iadd .i64 x2 n_1) fun x4 =>
      some x4
    else
      some x2

theorem keep_Mod_ok {x_0 : Int} {n_1 : Int} {r : Int} (hm : keep_Mod_m x_0 n_1 = some r) :
    FnOk prog 59 [iv .i64 x_0, iv .i64 n_1] [] (fun (x : Unit) => [iv .i64 r]) (fun (x : Unit) => []) := by
  refine fn_ok (fn := Tryz.f59) (N := 16) (res := fun r x => [iv .i64 r]) (Ω1 := fun r x => []) Tryz.func59 rfl rfl hm rfl (fun E hM => ?_)
  unfold keep_Mod_m
  refine ref_seq (ref_region ?_)
  refine as1 rfl rfl ?_
  refine l_nil (n_then (ref_seq (ref_seq (ref_region ?_))))
  refine mv1 rfl rfl ?_
  refine s_rd (r_lss rfl rfl) rfl ?_
  refine l_nil (n_then ?_)
  refine ref_cond rfl (fun hb1 => ?_) (fun hb1 => ?_)
  · refine ref_seq (ref_region ?_)
    refine as1 rfl rfl ?_
    refine l_nil (n_then (ref_ret (r_then ?_)))
    exact fin1 (.inl rfl) () [] rfl trivial rfl (rv_tmp rfl)
  refine ref_skip (n_then (ref_seq (ref_region ?_)))
  refine mv1 rfl rfl ?_
  refine mv1 rfl rfl ?_
  refine pull fun x2 h_x2 => ?_
  refine s_rd (r_remM h_x2 rfl rfl) rfl ?_
  refine as1 rfl rfl ?_
  refine l_nil (n_then (ref_seq (ref_seq (ref_region ?_))))
  refine mv1 rfl rfl ?_
  refine s_rd (r_lss rfl rfl) rfl ?_
  refine l_nil (n_then ?_)
  refine ref_cond rfl (fun hb3 => ?_) (fun hb3 => ?_)
  · refine ref_region ?_
    refine mv1 rfl rfl ?_
    refine mv1 rfl rfl ?_
    refine s_rd (r_add rfl rfl) rfl ?_
    refine as1 rfl rfl ?_
    refine b_let (f := iv .i64) (t := 0) rfl fun x4 => ?_
    refine l_nil (n_then (ref_seq (ref_region ?_)))
    refine mv1 rfl rfl ?_
    refine as1 rfl rfl ?_
    refine l_nil (n_then (ref_ret ?_))
    exact fin1 (.inl rfl) () [] rfl trivial rfl (rv_tmp rfl)
  refine ref_skip (n_then (ref_seq (ref_region ?_)))
  refine mv1 rfl rfl ?_
  refine as1 rfl rfl ?_
  refine l_nil (n_then (ref_ret ?_))
  exact fin1 (.inl rfl) () [] rfl trivial rfl (rv_tmp rfl)

/-! (*deliberation/deliberationkeep.Src).N -/
noncomputable def keep_Src_N_m (s_0 : T_deliberationkeep_Src) (n_1 : Int) : Option (Int × T_deliberationkeep_Src) :=
  Option.bind (keep_Src_Raw_m s_0) fun t1 =>
  Option.bind (keep_Mod_m t1.1 n_1) fun t2 =>
  some (t2, t1.2)

theorem keep_Src_N_ok {s_0 : T_deliberationkeep_Src} {n_1 : Int} {b_0 : Nat} {r : Int × T_deliberationkeep_Src} (hm : keep_Src_N_m s_0 n_1 = some r) :
    FnOk prog 33 [pv (ptr b_0 0), iv .i64 n_1] [oc b_0 [slv (rI .i64) s_0.L, iv .i64 s_0.At]] (fun (x : Unit) => [iv .i64 r.1]) (fun (x : Unit) => [oc b_0 [slv (rI .i64) r.2.L, iv .i64 r.2.At]]) := by
  refine fn_ok (fn := Tryz.f33) (N := 9) (res := fun r x => [iv .i64 r.1]) (Ω1 := fun r x => [oc b_0 [slv (rI .i64) r.2.L, iv .i64 r.2.At]]) Tryz.func33 rfl rfl hm rfl (fun E hM => ?_)
  unfold keep_Src_N_m
  refine ref_seq (ref_region ?_)
  refine as1 rfl rfl ?_
  refine l_nil (n_then (ref_seq (ref_region ?_)))
  refine mv1 rfl rfl ?_
  refine pull fun t1 h_t1 => ?_
  refine s_st (s_callC [0] [true] (fun (_ : Unit) => [oc b_0 [slv (rI .i64) t1.2.L, iv .i64 t1.2.At]]) (fun (_ : Unit) => []) (fun (_ : Unit) => iv .i64 t1.1) (args := [.tmp 5]) (caps := []) Tryz.call60 rfl (keep_Src_Raw_ok h_t1) ⟨rfl, rfl, trivial⟩ (fun _ => rfl) (fun _ => trivial) (fun _ => rfl) ⟨arg rfl, trivial⟩ (fun _ _ _ _ h => h)) rfl (fun _ => ?_)
  refine mv1 rfl rfl ?_
  refine pull fun t2 h_t2 => ?_
  refine s_st (s_call (ψ := fun (_ : Unit) => iv .i64 t2) (args := [.tmp 6, .tmp 7]) Tryz.call59 rfl (keep_Mod_ok h_t2) ⟨arg rfl, arg rfl, trivial⟩ (fun _ _ _ _ h => h)) rfl (fun _ => ?_)
  refine as1 rfl rfl ?_
  refine l_nil (n_then (ref_ret ?_))
  exact fin1 (.inl rfl) () [0] rfl ⟨rfl, trivial⟩ rfl (rv_tmp rfl)

/-! (*deliberation/deliberationkeep.Src).Literal -/
noncomputable def keep_Src_Literal_m (s_0 : T_deliberationkeep_Src) (n_1 : Int) : Option (T_api_Literal × T_deliberationkeep_Src) :=
  Option.bind (keep_Src_N_m s_0 (imul .i64 2 n_1)) fun k2 =>
  some ((T_api_Literal.mk ((iand .i64 k2.1 1) == 1) (bstr [IntKind.wrap .u8 (iadd .i64 97 (iquo .i64 k2.1 2))])), k2.2)

theorem keep_Src_Literal_ok {s_0 : T_deliberationkeep_Src} {n_1 : Int} {b_0 : Nat} {r : T_api_Literal × T_deliberationkeep_Src} (hm : keep_Src_Literal_m s_0 n_1 = some r) :
    FnOk prog 17 [pv (ptr b_0 0), iv .i64 n_1] [oc b_0 [slv (rI .i64) s_0.L, iv .i64 s_0.At]] (fun (x : Unit) => [ag [bv r.1.Neg, sv r.1.Name]]) (fun (x : Unit) => [oc b_0 [slv (rI .i64) r.2.L, iv .i64 r.2.At]]) := by
  refine fn_ok (fn := Tryz.f17) (N := 20) (res := fun r x => [ag [bv r.1.Neg, sv r.1.Name]]) (Ω1 := fun r x => [oc b_0 [slv (rI .i64) r.2.L, iv .i64 r.2.At]]) Tryz.func17 rfl rfl hm rfl (fun E hM => ?_)
  unfold keep_Src_Literal_m
  refine ref_seq (ref_region ?_)
  refine s_st (s_alloc zt_29) rfl (fun b1 => ?_)
  refine l_nil (n_then (ref_seq (ref_region ?_)))
  refine mv1 rfl rfl ?_
  refine mv1 rfl rfl ?_
  refine s_rd (r_mul rfl rfl) rfl ?_
  refine pull fun k2 h_k2 => ?_
  refine s_st (s_callC [0] [true] (fun (_ : Unit) => [oc b_0 [slv (rI .i64) k2.2.L, iv .i64 k2.2.At]]) (fun (_ : Unit) => []) (fun (_ : Unit) => iv .i64 k2.1) (args := [.tmp 6, .tmp 8]) (caps := []) Tryz.call33 rfl (keep_Src_N_ok h_k2) ⟨rfl, rfl, trivial⟩ (fun _ => rfl) (fun _ => trivial) (fun _ => rfl) ⟨arg rfl, arg rfl, trivial⟩ (fun _ _ _ _ h => h)) rfl (fun _ => ?_)
  refine as1 rfl rfl ?_
  refine l_nil (n_then (ref_seq (ref_region ?_)))
  refine mv1 rfl rfl ?_
  refine s_rd (r_and rfl rfl) rfl ?_
  refine s_rd (r_eql rfl rfl) rfl ?_
  refine mv1 rfl rfl ?_
  refine s_rd (r_quo rfl rfl (by decide)) rfl ?_
  refine s_rd (r_add rfl rfl) rfl ?_
  refine s_rd (r_conv (k' := .u8) rfl rfl rfl) rfl ?_
  refine s_st (s_bslice (xs := [.tmp 16]) (ds := [IntKind.wrap .u8 (iadd .i64 97 (iquo .i64 k2.1 2))]) Tryz.underlying76 el_5 rfl (Nat.le_of_ble_eq_true rfl) ⟨(part_at rfl iv_at), trivial⟩) rfl (fun _ => ?_)
  refine s_rd (r_b2s Tryz.underlying76 Tryz.underlying9 Tryz.underlying5 rfl) rfl ?_
  refine s_rd (r_build (ps := [(0, .tmp 12), (1, .tmp 18)]) (rs := [(0, [bv ((iand .i64 k2.1 1) == 1)]), (1, [sv (bstr [IntKind.wrap .u8 (iadd .i64 97 (iquo .i64 k2.1 2))])])]) st_29 zs_29 ⟨rfl, (part_at rfl bv_at), ⟨rfl, (part_at rfl sv_at), trivial⟩⟩ rfl rfl) rfl ?_
  refine s_st0 (s_cstore (out := [bv ((iand .i64 k2.1 1) == 1), sv (bstr [IntKind.wrap .u8 (iadd .i64 97 (iquo .i64 k2.1 2))])]) Tryz.sizeOf29 rfl (j := 1) rfl (part_agO (ψs := [bv ((iand .i64 k2.1 1) == 1), sv (bstr [IntKind.wrap .u8 (iadd .i64 97 (iquo .i64 k2.1 2))])]) rfl ⟨.inl bv_at, .inl sv_at, trivial⟩) rfl rfl rfl) (fun _ => ?_)
  refine l_nil ?_
  refine b_of (nrm [oc b_0 [slv (rI .i64) k2.2.L, iv .i64 k2.2.At], oc b1 [bv ((iand .i64 k2.1 1) == 1), sv (bstr [IntKind.wrap .u8 (iadd .i64 97 (iquo .i64 k2.1 2))])]] rfl) ?_
  refine n_then (ref_ret ?_)
  exact fin1 (.inl rfl) () [0] rfl ⟨rfl, trivial⟩ rfl (rv_cell rfl (j := 1) rfl Tryz.isAgg29 Tryz.sizeOf29 rfl rfl)

/-! (*deliberation/deliberationkeep.Src).Pick -/
noncomputable def keep_Src_Pick_m (s_0 : T_deliberationkeep_Src) (l_1 : (List Int)) : Option (Int × T_deliberationkeep_Src) :=
  Option.bind (keep_Src_N_m s_0 (l_1.length : Int)) fun t1 =>
  Option.bind (idxM l_1 t1.1) fun t2 =>
  some (t2, t1.2)

theorem keep_Src_Pick_ok {s_0 : T_deliberationkeep_Src} {l_1 : (List Int)} {b_0 : Nat} {r : Int × T_deliberationkeep_Src} (hm : keep_Src_Pick_m s_0 l_1 = some r) :
    FnOk prog 34 [pv (ptr b_0 0), slv (rI .i64) l_1] [oc b_0 [slv (rI .i64) s_0.L, iv .i64 s_0.At]] (fun (x : Unit) => [iv .i64 r.1]) (fun (x : Unit) => [oc b_0 [slv (rI .i64) r.2.L, iv .i64 r.2.At]]) := by
  refine fn_ok (fn := Tryz.f34) (N := 12) (res := fun r x => [iv .i64 r.1]) (Ω1 := fun r x => [oc b_0 [slv (rI .i64) r.2.L, iv .i64 r.2.At]]) Tryz.func34 rfl rfl hm rfl (fun E hM => ?_)
  unfold keep_Src_Pick_m
  refine ref_seq (ref_region ?_)
  refine as1 rfl rfl ?_
  refine l_nil (n_then (ref_seq (ref_region ?_)))
  refine mv1 rfl rfl ?_
  refine mv1 rfl rfl ?_
  refine mv1 rfl rfl ?_
  refine s_rd (r_len Tryz.underlying30 rfl) rfl ?_
  refine pull fun t1 h_t1 => ?_
  refine s_st (s_callC [0] [true] (fun (_ : Unit) => [oc b_0 [slv (rI .i64) t1.2.L, iv .i64 t1.2.At]]) (fun (_ : Unit) => []) (fun (_ : Unit) => iv .i64 t1.1) (args := [.tmp 6, .tmp 8]) (caps := []) Tryz.call33 rfl (keep_Src_N_ok h_t1) ⟨rfl, rfl, trivial⟩ (fun _ => rfl) (fun _ => trivial) (fun _ => rfl) ⟨arg rfl, arg rfl, trivial⟩ (fun _ _ _ _ h => h)) rfl (fun _ => ?_)
  refine pull fun t2 h_t2 => ?_
  refine s_rd (r_index h_t2 Tryz.underlying30 el_3 rfl rfl) rfl ?_
  refine s_rd (r_load el_3 rfl) rfl ?_
  refine as1 rfl rfl ?_
  refine l_nil (n_then (ref_ret ?_))
  exact fin1 (.inl rfl) () [0] rfl ⟨rfl, trivial⟩ rfl (rv_tmp rfl)

/-! (*deliberation/deliberationkeep.Src).Text -/
noncomputable def keep_Src_Text_m (s_0 : T_deliberationkeep_Src) (l_1 : (List ByteArray)) : Option (ByteArray × T_deliberationkeep_Src) :=
  Option.bind (keep_Src_N_m s_0 (l_1.length : Int)) fun t1 =>
  Option.bind (idxM l_1 t1.1) fun t2 =>
  some (t2, t1.2)

theorem keep_Src_Text_ok {s_0 : T_deliberationkeep_Src} {l_1 : (List ByteArray)} {b_0 : Nat} {r : ByteArray × T_deliberationkeep_Src} (hm : keep_Src_Text_m s_0 l_1 = some r) :
    FnOk prog 35 [pv (ptr b_0 0), slv rS l_1] [oc b_0 [slv (rI .i64) s_0.L, iv .i64 s_0.At]] (fun (x : Unit) => [sv r.1]) (fun (x : Unit) => [oc b_0 [slv (rI .i64) r.2.L, iv .i64 r.2.At]]) := by
  refine fn_ok (fn := Tryz.f35) (N := 12) (res := fun r x => [sv r.1]) (Ω1 := fun r x => [oc b_0 [slv (rI .i64) r.2.L, iv .i64 r.2.At]]) Tryz.func35 rfl rfl hm rfl (fun E hM => ?_)
  unfold keep_Src_Text_m
  refine ref_seq (ref_region ?_)
  refine as1 rfl rfl ?_
  refine l_nil (n_then (ref_seq (ref_region ?_)))
  refine mv1 rfl rfl ?_
  refine mv1 rfl rfl ?_
  refine mv1 rfl rfl ?_
  refine s_rd (r_len Tryz.underlying68 rfl) rfl ?_
  refine pull fun t1 h_t1 => ?_
  refine s_st (s_callC [0] [true] (fun (_ : Unit) => [oc b_0 [slv (rI .i64) t1.2.L, iv .i64 t1.2.At]]) (fun (_ : Unit) => []) (fun (_ : Unit) => iv .i64 t1.1) (args := [.tmp 6, .tmp 8]) (caps := []) Tryz.call33 rfl (keep_Src_N_ok h_t1) ⟨rfl, rfl, trivial⟩ (fun _ => rfl) (fun _ => trivial) (fun _ => rfl) ⟨arg rfl, arg rfl, trivial⟩ (fun _ _ _ _ h => h)) rfl (fun _ => ?_)
  refine pull fun t2 h_t2 => ?_
  refine s_rd (r_index h_t2 Tryz.underlying68 el_9 rfl rfl) rfl ?_
  refine s_rd (r_load el_9 rfl) rfl ?_
  refine as1 rfl rfl ?_
  refine l_nil (n_then (ref_ret ?_))
  exact fin1 (.inl rfl) () [0] rfl ⟨rfl, trivial⟩ rfl (rv_tmp rfl)

/-! deliberation/deliberationkeep.RuleName -/
noncomputable def keep_RuleName_m (i_0 : Int) : Option (ByteArray) :=
  Option.bind (keep_Mod_m i_0 26) fun t1 =>
  Option.bind (sconM (ByteArray.mk #[114]) (bstr [IntKind.wrap .u8 (iadd .i64 97 t1)])) fun t2 =>
  some t2

theorem keep_RuleName_ok {i_0 : Int} {r : ByteArray} (hm : keep_RuleName_m i_0 = some r) :
    FnOk prog 36 [iv .i64 i_0] [] (fun (x : Unit) => [sv r]) (fun (x : Unit) => []) := by
  refine fn_ok (fn := Tryz.f36) (N := 10) (res := fun r x => [sv r]) (Ω1 := fun r x => []) Tryz.func36 rfl rfl hm rfl (fun E hM => ?_)
  unfold keep_RuleName_m
  refine ref_seq (ref_region ?_)
  refine as1 rfl rfl ?_
  refine l_nil (n_then (ref_seq (ref_region ?_)))
  refine mv1 rfl rfl ?_
  refine pull fun t1 h_t1 => ?_
  refine s_st (s_call (ψ := fun (_ : Unit) => iv .i64 t1) (args := [.tmp 3, .const (.int .i64 (26))]) Tryz.call59 rfl (keep_Mod_ok h_t1) ⟨arg rfl, arg rfl, trivial⟩ (fun _ _ _ _ h => h)) rfl (fun _ => ?_)
  refine s_rd (r_add rfl rfl) rfl ?_
  refine s_rd (r_conv (k' := .u8) rfl rfl rfl) rfl ?_
  refine s_st (s_bslice (xs := [.tmp 6]) (ds := [IntKind.wrap .u8 (iadd .i64 97 t1)]) Tryz.underlying76 el_5 rfl (Nat.le_of_ble_eq_true rfl) ⟨(part_at rfl iv_at), trivial⟩) rfl (fun _ => ?_)
  refine s_rd (r_b2s Tryz.underlying76 Tryz.underlying9 Tryz.underlying5 rfl) rfl ?_
  refine pull fun t2 h_t2 => ?_
  refine s_rd (r_sadd h_t2 rfl rfl) rfl ?_
  refine as1 rfl rfl ?_
  refine l_nil (n_then (ref_ret ?_))
  exact fin1 (.inl rfl) () [] rfl trivial rfl (rv_tmp rfl)

/-! (*deliberation/deliberationkeep.Src).Literals -/
noncomputable def keep_Src_Literals_l1 (n_2 : Int) (s15 : Int × T_deliberationkeep_Src × (List T_api_Literal)) : Option (Sum (T_deliberationkeep_Src × (List T_api_Literal)) (Int × T_deliberationkeep_Src × (List T_api_Literal))) :=
  bif decide (s15.1 > 0) then
    Option.bind (keep_Src_Literal_m s15.2.1 n_2) fun t18 =>
    Option.bind (appM 24 s15.2.2 [t18.1]) fun out19 =>
    letM (isub .i64 s15.1 1) fun k21 =>
    some (Sum.inr (k21, t18.2, out19))
  else
    some (Sum.inl (s15.2.1, s15.2.2))

noncomputable def keep_Src_Literals_m (s_0 : T_deliberationkeep_Src) (most_1 : Int) (n_2 : Int) : Option (List T_api_Literal × T_deliberationkeep_Src) :=
  Option.bind (keep_Src_N_m s_0 (iadd .i64 most_1 1)) fun k1 =>
  Option.bind (loopC (keep_Src_Literals_l1 n_2) (k1.1, k1.2, [])) fun q22 : T_deliberationkeep_Src × (List T_api_Literal) =>
  some (q22.2, q22.1)

theorem keep_Src_Literals_ok {s_0 : T_deliberationkeep_Src} {most_1 : Int} {n_2 : Int} {b_0 : Nat} {r : List T_api_Literal × T_deliberationkeep_Src} (hm : keep_Src_Literals_m s_0 most_1 n_2 = some r) :
    FnOk prog 11 [pv (ptr b_0 0), iv .i64 most_1, iv .i64 n_2] [oc b_0 [slv (rI .i64) s_0.L, iv .i64 s_0.At]] (fun (x : (Value × List Nat)) => [pv x.1]) (fun (x : (Value × List Nat)) => [oc b_0 [slv (rI .i64) r.2.L, iv .i64 r.2.At], oa rT_api_Literal x.1 x.2 r.1]) := by
  refine fn_ok (X := (Value × List Nat)) (fn := Tryz.f11) (N := 24) (res := fun r x => [pv x.1]) (Ω1 := fun r x => [oc b_0 [slv (rI .i64) r.2.L, iv .i64 r.2.At], oa rT_api_Literal x.1 x.2 r.1]) Tryz.func11 rfl rfl hm rfl (fun E hM => ?_)
  unfold keep_Src_Literals_m
  refine ref_seq (ref_region ?_)
  refine as1 rfl rfl ?_
  refine l_nil (n_then (ref_seq (ref_region ?_)))
  refine as1 rfl rfl ?_
  refine l_nil (n_then (ref_seq (ref_seq (ref_region ?_))))
  refine mv1 rfl rfl ?_
  refine mv1 rfl rfl ?_
  refine s_rd (r_add rfl rfl) rfl ?_
  refine pull fun k1 h_k1 => ?_
  refine s_st (s_callC [0] [true] (fun (_ : Unit) => [oc b_0 [slv (rI .i64) k1.2.L, iv .i64 k1.2.At]]) (fun (_ : Unit) => []) (fun (_ : Unit) => iv .i64 k1.1) (args := [.tmp 9, .tmp 11]) (caps := []) Tryz.call33 rfl (keep_Src_N_ok h_k1) ⟨rfl, rfl, trivial⟩ (fun _ => rfl) (fun _ => trivial) (fun _ => rfl) ⟨arg rfl, arg rfl, trivial⟩ (fun _ _ _ _ h => h)) rfl (fun _ => ?_)
  refine as1 rfl rfl ?_
  refine l_nil (n_then ?_)
  refine b_of (own_nil rT_api_Literal) ?_
  refine ref_loopB (f := (keep_Src_Literals_l1 n_2)) (Γl := (fun (s15 : Int × T_deliberationkeep_Src × (List T_api_Literal)) (x16 : (Value × List Nat)) => [(0, pv (ptr b_0 0)), (2, iv .i64 n_2), (7, pv x16.1), (8, iv .i64 s15.1)])) (Ωl := (fun (s15 : Int × T_deliberationkeep_Src × (List T_api_Literal)) (x16 : (Value × List Nat)) => [oc b_0 [slv (rI .i64) s15.2.1.L, iv .i64 s15.2.1.At], oa rT_api_Literal x16.1 x16.2 s15.2.2])) (Γb := (fun (q22 : T_deliberationkeep_Src × (List T_api_Literal)) (y23 : (Value × List Nat)) => [(0, pv (ptr b_0 0)), (7, pv y23.1)])) (Ωb := (fun (q22 : T_deliberationkeep_Src × (List T_api_Literal)) (y23 : (Value × List Nat)) => [oc b_0 [slv (rI .i64) q22.1.L, iv .i64 q22.1.At], oa rT_api_Literal y23.1 y23.2 q22.2])) (k1.1, k1.2, []) ((.slice none 0 0), []) (weak [0, 1] ⟨rfl, rfl, rfl, rfl, trivial⟩ ⟨rfl, rfl, trivial⟩) (fun s15 x16 => ?_) (fun q22 y23 => ?_)
  · unfold keep_Src_Literals_l1
    refine ref_seq (ref_seq (ref_region ?_))
    refine mv1 rfl rfl ?_
    refine s_rd (r_gtr rfl rfl) rfl ?_
    refine l_nil (n_then ?_)
    refine ref_cond rfl (fun hb17 => ?_) (fun hb17 => ?_)
    · refine ref_skip (n_then (ref_seq (ref_block (ref_region ?_))))
      refine mv1 rfl rfl ?_
      refine mv1 rfl rfl ?_
      refine mv1 rfl rfl ?_
      refine pull fun t18 h_t18 => ?_
      refine s_st (s_callC [0] [true] (fun (_ : Unit) => [oc b_0 [slv (rI .i64) t18.2.L, iv .i64 t18.2.At]]) (fun (_ : Unit) => []) (fun (_ : Unit) => ag [bv t18.1.Neg, sv t18.1.Name]) (args := [.tmp 18, .tmp 19]) (caps := []) Tryz.call17 rfl (keep_Src_Literal_ok h_t18) ⟨rfl, rfl, trivial⟩ (fun _ => rfl) (fun _ => trivial) (fun _ => rfl) ⟨arg rfl, arg rfl, trivial⟩ (fun _ _ _ _ h => h)) rfl (fun _ => ?_)
      refine s_st (s_bslice (xs := [.tmp 20]) (ds := [t18.1]) Tryz.underlying27 el_29 rfl (Nat.le_of_ble_eq_true rfl) ⟨(part_agO (ψs := [bv t18.1.Neg, sv t18.1.Name]) rfl ⟨.inl bv_at, .inl sv_at, trivial⟩), trivial⟩) rfl (fun _ => ?_)
      refine pull fun out19 h_out19 => ?_
      refine s_st (s_append h_out19 Tryz.underlying27 el_29 rfl (j := 1) rfl rfl) rfl (fun o20 => ?_)
      refine as1 rfl rfl ?_
      refine l_nil ?_
      refine b_of (nrm [oc b_0 [slv (rI .i64) t18.2.L, iv .i64 t18.2.At], oa rT_api_Literal o20.1 o20.2 out19] rfl) ?_
      refine n_block (n_then (ref_region ?_))
      refine mv1 rfl rfl ?_
      refine s_rd (r_sub rfl rfl) rfl ?_
      refine as1 rfl rfl ?_
      refine b_let (f := iv .i64) (t := 8) rfl fun k21 => ?_
      refine l_nil ?_
      exact goB o20 (weak [0, 1] ⟨rfl, rfl, rfl, rfl, trivial⟩ ⟨rfl, rfl, trivial⟩)
    refine ref_exit (x_then ?_)
    exact brkB x16 (weak [0, 1] ⟨rfl, rfl, trivial⟩ ⟨rfl, rfl, trivial⟩)
  refine n_then (ref_seq (ref_region ?_))
  refine mv1 rfl rfl ?_
  refine as1 rfl rfl ?_
  refine l_nil (n_then (ref_ret ?_))
  exact fin1 (.inl rfl) y23 [0, 1] rfl ⟨rfl, rfl, trivial⟩ rfl (rv_tmp rfl)

/-! deliberation/deliberationkeep.sorted -/
noncomputable def keep_sorted_l2 (s63 : Int × (List T_api_Literal)) (t66 : T_api_Literal) (s74 : Int) : Option (Sum (Int) (Int)) :=
  bif decide (s74 < (s63.2.length : Int)) then
    Option.bind (idxM s63.2 s74) fun t76 =>
    bif Op.bytesLess t76.Name.toList t66.Name.toList then
      letM (iadd .i64 s74 1) fun k80 =>
      some (Sum.inr k80)
    else
      Option.bind (idxM s63.2 s74) fun t77 =>
      bif t77.Name.toList == t66.Name.toList then
        Option.bind (idxM s63.2 s74) fun t78 =>
        bif !t78.Neg then
          bif t66.Neg then
            letM (iadd .i64 s74 1) fun k81 =>
            some (Sum.inr k81)
          else
            some (Sum.inl s74)
        else
          some (Sum.inl s74)
      else
        some (Sum.inl s74)
  else
    some (Sum.inl s74)

noncomputable def keep_sorted_l1 (l_0 : (List T_api_Literal)) (s63 : Int × (List T_api_Literal)) : Option (Sum ((List T_api_Literal)) (Int × (List T_api_Literal))) :=
  bif decide (s63.1 < (l_0.length : Int)) then
    Option.bind (idxM l_0 s63.1) fun t66 =>
    Option.bind (loopC (keep_sorted_l2 s63 t66) 0) fun q82 : Int =>
    joinM (fun j86 : Unit =>
        Option.bind (appM 24 s63.2 [(T_api_Literal.mk false ByteArray.empty)]) fun out89 =>
        Option.bind (slM out89 (iadd .i64 q82 1) (out89.length : Int)) fun t91 =>
        Option.bind (slM out89 q82 (out89.length : Int)) fun t92 =>
        Option.bind (idxM (cpO out89 (iadd .i64 q82 1) (out89.length : Int) q82 (out89.length : Int)) q82) fun t93 =>
        some (Sum.inr (iadd .i64 s63.1 1, (cpO out89 (iadd .i64 q82 1) (out89.length : Int) q82 (out89.length : Int)).set (Int.toNat q82) t66))) fun k88 =>
    bif decide (q82 < (s63.2.length : Int)) then
      Option.bind (idxM s63.2 q82) fun t84 =>
      bif decide (t84 = t66) then
        some (Sum.inr (iadd .i64 s63.1 1, s63.2))
      else
        k88 ()
    else
      k88 ()
  else
    some (Sum.inl s63.2)

noncomputable def keep_sorted_m (l_0 : (List T_api_Literal)) : Option (List T_api_Literal) :=
  Option.bind (loopC (keep_sorted_l1 l_0) (0, [])) fun q94 : (List T_api_Literal) =>
  some q94

theorem keep_sorted_ok {l_0 : (List T_api_Literal)} {r : List T_api_Literal} (hm : keep_sorted_m l_0 = some r) :
    FnOk prog 37 [slv rT_api_Literal l_0] [] (fun (x : (Value × List Nat)) => [pv x.1]) (fun (x : (Value × List Nat)) => [oa rT_api_Literal x.1 x.2 r]) := by
  refine fn_ok (X := (Value × List Nat)) (fn := Tryz.f37) (N := 81) (res := fun r x => [pv x.1]) (Ω1 := fun r x => [oa rT_api_Literal x.1 x.2 r]) Tryz.func37 rfl rfl hm rfl (fun E hM => ?_)
  unfold keep_sorted_m
  refine ref_seq (ref_region ?_)
  refine as1 rfl rfl ?_
  refine l_nil (n_then (ref_seq (ref_region ?_)))
  refine as1 rfl rfl ?_
  refine l_nil (n_then (ref_seq (ref_seq (ref_region ?_))))
  refine mv1 rfl rfl ?_
  refine s_rd (r_len Tryz.underlying27 rfl) rfl ?_
  refine mv1 rfl rfl ?_
  refine l_nil (n_then ?_)
  refine b_of (own_nil rT_api_Literal) ?_
  refine ref_loopB (f := (keep_sorted_l1 l_0)) (Γl := (fun (s63 : Int × (List T_api_Literal)) (x64 : (Value × List Nat)) => [(3, pv x64.1), (7, slv rT_api_Literal l_0), (8, iv .i64 (l_0.length : Int)), (9, iv .i64 s63.1)])) (Ωl := (fun (s63 : Int × (List T_api_Literal)) (x64 : (Value × List Nat)) => [oa rT_api_Literal x64.1 x64.2 s63.2])) (Γb := (fun (q94 : (List T_api_Literal)) (y95 : (Value × List Nat)) => [(3, pv y95.1)])) (Ωb := (fun (q94 : (List T_api_Literal)) (y95 : (Value × List Nat)) => [oa rT_api_Literal y95.1 y95.2 q94])) (0, []) ((.slice none 0 0), []) (weak [0] ⟨rfl, rfl, rfl, rfl, trivial⟩ ⟨rfl, trivial⟩) (fun s63 x64 => ?_) (fun q94 y95 => ?_)
  · unfold keep_sorted_l1
    refine ref_seq (ref_region ?_)
    refine s_rd (r_lss rfl rfl) rfl ?_
    refine l_nil (n_then (ref_seq ?_))
    refine ref_cond rfl (fun hb65 => ?_) (fun hb65 => ?_)
    · refine ref_skip (n_then (ref_seq (ref_block (ref_seq (ref_region ?_)))))
      refine pull fun t66 h_t66 => ?_
      refine s_rd (r_index h_t66 Tryz.underlying27 el_29 rfl rfl) rfl ?_
      refine s_rd (r_load el_29 rfl) rfl ?_
      refine s_st (s_alloc zt_29) rfl (fun b67 => ?_)
      refine s_st0 (s_cstore (out := [bv t66.Neg, sv t66.Name]) Tryz.sizeOf29 rfl (j := 1) rfl (part_agO (ψs := [bv t66.Neg, sv t66.Name]) rfl ⟨.inl bv_at, .inl sv_at, trivial⟩) rfl rfl rfl) (fun _ => ?_)
      refine l_nil (n_then (ref_seq (ref_region ?_)))
      refine as1 rfl rfl ?_
      refine l_nil (n_then (ref_seq ?_))
      refine ref_loopB (f := (keep_sorted_l2 s63 t66)) (Γl := (fun (s74 : Int) (x75 : Unit) => [(3, pv x64.1), (5, pv (ptr b67 0)), (6, iv .i64 s74), (7, slv rT_api_Literal l_0), (8, iv .i64 (l_0.length : Int)), (9, iv .i64 s63.1)])) (Ωl := (fun (s74 : Int) (x75 : Unit) => [oa rT_api_Literal x64.1 x64.2 s63.2, oc b67 [bv t66.Neg, sv t66.Name]])) (Γb := (fun (q82 : Int) (y83 : Unit) => [(3, pv x64.1), (5, pv (ptr b67 0)), (6, iv .i64 q82), (7, slv rT_api_Literal l_0), (8, iv .i64 (l_0.length : Int)), (9, iv .i64 s63.1)])) (Ωb := (fun (q82 : Int) (y83 : Unit) => [oa rT_api_Literal x64.1 x64.2 s63.2, oc b67 [bv t66.Neg, sv t66.Name]])) 0 () (weak [0, 1] ⟨rfl, rfl, rfl, rfl, rfl, rfl, trivial⟩ ⟨rfl, rfl, trivial⟩) (fun s74 x75 => ?_) (fun q82 y83 => ?_)
      · unfold keep_sorted_l2
        refine ref_seq (ref_seq ?_)
        refine ref_draw [0, 1, 2, 3, 4, 5, 6, 7, 8, 9, 10, 11, 12, 13, 14, 15, 16, 17, 18, 19, 20, 21, 22, 23, 24, 25, 26, 27, 28, 29, 30, 31, 32, 33, 34, 35] rfl (by kernel_rfl) (fun hok => ?_)
        refine a_rd (i := 0) hok rfl (by kernel_rfl) rfl (r_move rfl) rfl ?_
        refine a_rd (i := 1) hok rfl (by kernel_rfl) rfl (r_move rfl) rfl ?_
        refine a_rd (i := 2) hok rfl (by kernel_rfl) rfl (r_olen Tryz.underlying27 rfl (j := 0) rfl) rfl ?_
        refine a_rd (i := 3) hok rfl (by kernel_rfl) rfl (r_lss rfl rfl) rfl ?_
        refine a_rd (i := 4) hok rfl (by kernel_rfl) rfl (r_move rfl) rfl ?_
        refine b_split (t := 17) rfl (fun _ => ?_) (fun _ => ?_)
        · refine a_rdOn (i := 5) hok rfl rfl rfl rfl (by kernel_rfl) rfl (r_move rfl) rfl ?_
          refine a_rdOn (i := 6) hok rfl rfl rfl rfl (by kernel_rfl) rfl (r_move rfl) rfl ?_
          refine pull fun t76 h_t76 => ?_
          refine a_rdOn (i := 7) hok rfl rfl rfl rfl (by kernel_rfl) rfl (r_oindex h_t76 Tryz.underlying27 el_29 rfl (j := 0) rfl rfl) rfl ?_
          refine a_rdOn (i := 8) hok rfl rfl rfl rfl (by kernel_rfl) rfl (r_foea (ρ := rT_api_Literal) (fo := 1) h_t76 Tryz.underlying29 rfl rfl Tryz.sizeOf9 rfl (j := 0) rfl) rfl ?_
          refine a_rdOn (i := 9) hok rfl rfl rfl rfl (by kernel_rfl) rfl (r_foload (ρ := rT_api_Literal) (y := t76) (ρ' := rS) (z := t76.Name) h_t76 el_9 rfl (j := 0) rfl rfl rfl) rfl ?_
          refine a_rdOn (i := 10) hok rfl rfl rfl rfl (by kernel_rfl) rfl (r_faddr (fo := 1) Tryz.underlying29 rfl rfl Tryz.sizeOf9 rfl) rfl ?_
          refine a_rdOn (i := 11) hok rfl rfl rfl rfl (by kernel_rfl) rfl (r_cload Tryz.isAgg9 rfl (j := 1) rfl rfl) rfl ?_
          refine a_rdOn (i := 12) hok rfl rfl rfl rfl (by kernel_rfl) rfl (r_slss rfl rfl) rfl ?_
          refine a_rdOn (i := 13) hok rfl rfl rfl rfl (by kernel_rfl) rfl (r_move rfl) rfl ?_
          refine b_split (t := 26) rfl (fun _ => ?_) (fun _ => ?_)
          · refine a_off (i := 14) hok rfl rfl rfl rfl rfl (by kernel_rfl) rfl rfl ?_
            refine a_off (i := 15) hok rfl rfl rfl rfl rfl (by kernel_rfl) rfl rfl ?_
            refine a_off (i := 16) hok rfl rfl rfl rfl rfl (by kernel_rfl) rfl rfl ?_
            refine a_off (i := 17) hok rfl rfl rfl rfl rfl (by kernel_rfl) rfl rfl ?_
            refine a_off (i := 18) hok rfl rfl rfl rfl rfl (by kernel_rfl) rfl rfl ?_
            refine a_off (i := 19) hok rfl rfl rfl rfl rfl (by kernel_rfl) rfl rfl ?_
            refine a_off (i := 20) hok rfl rfl rfl rfl rfl (by kernel_rfl) rfl rfl ?_
            refine a_off (i := 21) hok rfl rfl rfl rfl rfl (by kernel_rfl) rfl rfl ?_
            refine a_off (i := 22) hok rfl rfl rfl rfl rfl (by kernel_rfl) rfl rfl ?_
            refine a_offU (i := 23) hok rfl rfl rfl (by kernel_rfl) rfl rfl ?_
            refine a_offU (i := 24) hok rfl rfl rfl (by kernel_rfl) rfl rfl ?_
            refine a_offU (i := 25) hok rfl rfl rfl (by kernel_rfl) rfl rfl ?_
            refine a_offU (i := 26) hok rfl rfl rfl (by kernel_rfl) rfl rfl ?_
            refine a_offU (i := 27) hok rfl rfl rfl (by kernel_rfl) rfl rfl ?_
            refine a_offU (i := 28) hok rfl rfl rfl (by kernel_rfl) rfl rfl ?_
            refine a_off (i := 29) hok rfl rfl rfl rfl rfl (by kernel_rfl) rfl rfl ?_
            refine a_off (i := 30) hok rfl rfl rfl rfl rfl (by kernel_rfl) rfl rfl ?_
            refine a_offU (i := 31) hok rfl rfl rfl (by kernel_rfl) rfl rfl ?_
            refine a_offU (i := 32) hok rfl rfl rfl (by kernel_rfl) rfl rfl ?_
            refine a_off (i := 33) hok rfl rfl rfl rfl rfl (by kernel_rfl) rfl rfl ?_
            refine a_rdOn (i := 34) hok rfl rfl rfl rfl (by kernel_rfl) rfl (r_pickT rfl rfl) rfl ?_
            refine a_rd (i := 35) hok rfl (by kernel_rfl) rfl (r_pickT rfl rfl) rfl ?_
            refine a_fin hok (by kernel_rfl) ?_
            refine n_then ?_
            refine ref_condT rfl rfl ?_
            refine ref_skip (n_then (ref_block (ref_region ?_)))
            refine mv1 rfl rfl ?_
            refine s_rd (r_add rfl rfl) rfl ?_
            refine as1 rfl rfl ?_
            refine b_let (f := iv .i64) (t := 6) rfl fun k80 => ?_
            refine l_nil (n_block ?_)
            exact goB () (weak [0, 1] ⟨rfl, rfl, rfl, rfl, rfl, rfl, trivial⟩ ⟨rfl, rfl, trivial⟩)
          refine a_rdOn (i := 14) hok rfl rfl rfl rfl (by kernel_rfl) rfl (r_move rfl) rfl ?_
          refine a_rdOn (i := 15) hok rfl rfl rfl rfl (by kernel_rfl) rfl (r_move rfl) rfl ?_
          refine pull fun t77 h_t77 => ?_
          refine a_rdOn (i := 16) hok rfl rfl rfl rfl (by kernel_rfl) rfl (r_oindex h_t77 Tryz.underlying27 el_29 rfl (j := 0) rfl rfl) rfl ?_
          refine a_rdOn (i := 17) hok rfl rfl rfl rfl (by kernel_rfl) rfl (r_foea (ρ := rT_api_Literal) (fo := 1) h_t77 Tryz.underlying29 rfl rfl Tryz.sizeOf9 rfl (j := 0) rfl) rfl ?_
          refine a_rdOn (i := 18) hok rfl rfl rfl rfl (by kernel_rfl) rfl (r_foload (ρ := rT_api_Literal) (y := t77) (ρ' := rS) (z := t77.Name) h_t77 el_9 rfl (j := 0) rfl rfl rfl) rfl ?_
          refine a_rdOn (i := 19) hok rfl rfl rfl rfl (by kernel_rfl) rfl (r_faddr (fo := 1) Tryz.underlying29 rfl rfl Tryz.sizeOf9 rfl) rfl ?_
          refine a_rdOn (i := 20) hok rfl rfl rfl rfl (by kernel_rfl) rfl (r_cload Tryz.isAgg9 rfl (j := 1) rfl rfl) rfl ?_
          refine a_rdOn (i := 21) hok rfl rfl rfl rfl (by kernel_rfl) rfl (r_seql rfl rfl) rfl ?_
          refine a_rdOn (i := 22) hok rfl rfl rfl rfl (by kernel_rfl) rfl (r_move rfl) rfl ?_
          refine b_split (t := 35) rfl (fun _ => ?_) (fun _ => ?_)
          · refine a_rdOn (i := 23) hok rfl rfl rfl rfl (by kernel_rfl) rfl (r_move rfl) rfl ?_
            refine a_rdOn (i := 24) hok rfl rfl rfl rfl (by kernel_rfl) rfl (r_move rfl) rfl ?_
            refine pull fun t78 h_t78 => ?_
            refine a_rdOn (i := 25) hok rfl rfl rfl rfl (by kernel_rfl) rfl (r_oindex h_t78 Tryz.underlying27 el_29 rfl (j := 0) rfl rfl) rfl ?_
            refine a_rdOn (i := 26) hok rfl rfl rfl rfl (by kernel_rfl) rfl (r_foea (ρ := rT_api_Literal) (fo := 0) h_t78 Tryz.underlying29 rfl rfl Tryz.sizeOf4 rfl (j := 0) rfl) rfl ?_
            refine a_rdOn (i := 27) hok rfl rfl rfl rfl (by kernel_rfl) rfl (r_foload (ρ := rT_api_Literal) (y := t78) (ρ' := rB) (z := t78.Neg) h_t78 el_4 rfl (j := 0) rfl rfl rfl) rfl ?_
            refine a_rdOn (i := 28) hok rfl rfl rfl rfl (by kernel_rfl) rfl (r_not rfl) rfl ?_
            refine a_rdOn (i := 29) hok rfl rfl rfl rfl (by kernel_rfl) rfl (r_pickT rfl rfl) rfl ?_
            refine a_rdOn (i := 30) hok rfl rfl rfl rfl (by kernel_rfl) rfl (r_move rfl) rfl ?_
            refine b_split (t := 43) rfl (fun _ => ?_) (fun _ => ?_)
            · refine a_rdOn (i := 31) hok rfl rfl rfl rfl (by kernel_rfl) rfl (r_faddr (fo := 0) Tryz.underlying29 rfl rfl Tryz.sizeOf4 rfl) rfl ?_
              refine a_rdOn (i := 32) hok rfl rfl rfl rfl (by kernel_rfl) rfl (r_cload Tryz.isAgg4 rfl (j := 1) rfl rfl) rfl ?_
              refine a_rdOn (i := 33) hok rfl rfl rfl rfl (by kernel_rfl) rfl (r_pickT rfl rfl) rfl ?_
              refine a_rdOn (i := 34) hok rfl rfl rfl rfl (by kernel_rfl) rfl (r_pickF rfl rfl) rfl ?_
              refine a_rd (i := 35) hok rfl (by kernel_rfl) rfl (r_pickT rfl rfl) rfl ?_
              refine a_fin hok (by kernel_rfl) ?_
              refine n_then ?_
              refine ref_cond rfl (fun hb79 => ?_) (fun hb79 => ?_)
              · refine ref_skip (n_then (ref_block (ref_region ?_)))
                refine mv1 rfl rfl ?_
                refine s_rd (r_add rfl rfl) rfl ?_
                refine as1 rfl rfl ?_
                refine b_let (f := iv .i64) (t := 6) rfl fun k81 => ?_
                refine l_nil (n_block ?_)
                exact goB () (weak [0, 1] ⟨rfl, rfl, rfl, rfl, rfl, rfl, trivial⟩ ⟨rfl, rfl, trivial⟩)
              refine ref_exit (x_then ?_)
              exact brkB () (weak [0, 1] ⟨rfl, rfl, rfl, rfl, rfl, rfl, trivial⟩ ⟨rfl, rfl, trivial⟩)
            refine a_off (i := 31) hok rfl rfl rfl rfl rfl (by kernel_rfl) rfl rfl ?_
            refine a_off (i := 32) hok rfl rfl rfl rfl rfl (by kernel_rfl) rfl rfl ?_
            refine a_rdOn (i := 33) hok rfl rfl rfl rfl (by kernel_rfl) rfl (r_pickF rfl rfl) rfl ?_
            refine a_rdOn (i := 34) hok rfl rfl rfl rfl (by kernel_rfl) rfl (r_pickF rfl rfl) rfl ?_
            refine a_rd (i := 35) hok rfl (by kernel_rfl) rfl (r_pickT rfl rfl) rfl ?_
            refine a_fin hok (by kernel_rfl) ?_
            refine n_then ?_
            refine ref_condF rfl rfl ?_
            refine ref_exit (x_then ?_)
            exact brkB () (weak [0, 1] ⟨rfl, rfl, rfl, rfl, rfl, rfl, trivial⟩ ⟨rfl, rfl, trivial⟩)
          refine a_off (i := 23) hok rfl rfl rfl rfl rfl (by kernel_rfl) rfl rfl ?_
          refine a_off (i := 24) hok rfl rfl rfl rfl rfl (by kernel_rfl) rfl rfl ?_
          refine a_off (i := 25) hok rfl rfl rfl rfl rfl (by kernel_rfl) rfl rfl ?_
          refine a_off (i := 26) hok rfl rfl rfl rfl rfl (by kernel_rfl) rfl rfl ?_
          refine a_off (i := 27) hok rfl rfl rfl rfl rfl (by kernel_rfl) rfl rfl ?_
          refine a_off (i := 28) hok rfl rfl rfl rfl rfl (by kernel_rfl) rfl rfl ?_
          refine a_rdOn (i := 29) hok rfl rfl rfl rfl (by kernel_rfl) rfl (r_pickF rfl rfl) rfl ?_
          refine a_rdOn (i := 30) hok rfl rfl rfl rfl (by kernel_rfl) rfl (r_move rfl) rfl ?_
          refine a_off (i := 31) hok rfl rfl rfl rfl rfl (by kernel_rfl) rfl rfl ?_
          refine a_off (i := 32) hok rfl rfl rfl rfl rfl (by kernel_rfl) rfl rfl ?_
          refine a_rdOn (i := 33) hok rfl rfl rfl rfl (by kernel_rfl) rfl (r_pickF rfl rfl) rfl ?_
          refine a_rdOn (i := 34) hok rfl rfl rfl rfl (by kernel_rfl) rfl (r_pickF rfl rfl) rfl ?_
          refine a_rd (i := 35) hok rfl (by kernel_rfl) rfl (r_pickT rfl rfl) rfl ?_
          refine a_fin hok (by kernel_rfl) ?_
          refine n_then ?_
          refine ref_condF rfl rfl ?_
          refine ref_exit (x_then ?_)
          exact brkB () (weak [0, 1] ⟨rfl, rfl, rfl, rfl, rfl, rfl, trivial⟩ ⟨rfl, rfl, trivial⟩)
        refine a_off (i := 5) hok rfl rfl rfl rfl rfl (by kernel_rfl) rfl rfl ?_
        refine a_off (i := 6) hok rfl rfl rfl rfl rfl (by kernel_rfl) rfl rfl ?_
        refine a_off (i := 7) hok rfl rfl rfl rfl rfl (by kernel_rfl) rfl rfl ?_
        refine a_off (i := 8) hok rfl rfl rfl rfl rfl (by kernel_rfl) rfl rfl ?_
        refine a_off (i := 9) hok rfl rfl rfl rfl rfl (by kernel_rfl) rfl rfl ?_
        refine a_off (i := 10) hok rfl rfl rfl rfl rfl (by kernel_rfl) rfl rfl ?_
        refine a_off (i := 11) hok rfl rfl rfl rfl rfl (by kernel_rfl) rfl rfl ?_
        refine a_off (i := 12) hok rfl rfl rfl rfl rfl (by kernel_rfl) rfl rfl ?_
        refine a_off (i := 13) hok rfl rfl rfl rfl rfl (by kernel_rfl) rfl rfl ?_
        refine a_offU (i := 14) hok rfl rfl rfl (by kernel_rfl) rfl rfl ?_
        refine a_offU (i := 15) hok rfl rfl rfl (by kernel_rfl) rfl rfl ?_
        refine a_offU (i := 16) hok rfl rfl rfl (by kernel_rfl) rfl rfl ?_
        refine a_offU (i := 17) hok rfl rfl rfl (by kernel_rfl) rfl rfl ?_
        refine a_offU (i := 18) hok rfl rfl rfl (by kernel_rfl) rfl rfl ?_
        refine a_offU (i := 19) hok rfl rfl rfl (by kernel_rfl) rfl rfl ?_
        refine a_offU (i := 20) hok rfl rfl rfl (by kernel_rfl) rfl rfl ?_
        refine a_offU (i := 21) hok rfl rfl rfl (by kernel_rfl) rfl rfl ?_
        refine a_offU (i := 22) hok rfl rfl rfl (by kernel_rfl) rfl rfl ?_
        refine a_offU (i := 23) hok rfl rfl rfl (by kernel_rfl) rfl rfl ?_
        refine a_offU (i := 24) hok rfl rfl rfl (by kernel_rfl) rfl rfl ?_
        refine a_offU (i := 25) hok rfl rfl rfl (by kernel_rfl) rfl rfl ?_
        refine a_offU (i := 26) hok rfl rfl rfl (by kernel_rfl) rfl rfl ?_
        refine a_offU (i := 27) hok rfl rfl rfl (by kernel_rfl) rfl rfl ?_
        refine a_offU (i := 28) hok rfl rfl rfl (by kernel_rfl) rfl rfl ?_
        refine a_offU (i := 29) hok rfl rfl rfl (by kernel_rfl) rfl rfl ?_
        refine a_offU (i := 30) hok rfl rfl rfl (by kernel_rfl) rfl rfl ?_
        refine a_offU (i := 31) hok rfl rfl rfl (by kernel_rfl) rfl rfl ?_
        refine a_offU (i := 32) hok rfl rfl rfl (by kernel_rfl) rfl rfl ?_
        refine a_offU (i := 33) hok rfl rfl rfl (by kernel_rfl) rfl rfl ?_
        refine a_off (i := 34) hok rfl rfl rfl rfl rfl (by kernel_rfl) rfl rfl ?_
        refine a_rd (i := 35) hok rfl (by kernel_rfl) rfl (r_pickF rfl rfl) rfl ?_
        refine a_fin hok (by kernel_rfl) ?_
        refine n_then ?_
        refine ref_condF rfl rfl ?_
        refine ref_exit (x_then ?_)
        exact brkB () (weak [0, 1] ⟨rfl, rfl, rfl, rfl, rfl, rfl, trivial⟩ ⟨rfl, rfl, trivial⟩)
      refine n_then (ref_seq ?_)
      refine ref_join (fun (j86 : Unit) (x87 : Unit) => [(3, pv x64.1), (5, pv (ptr b67 0)), (6, iv .i64 q82), (7, slv rT_api_Literal l_0), (8, iv .i64 (l_0.length : Int)), (9, iv .i64 s63.1)]) (fun (j86 : Unit) (x87 : Unit) => [oa rT_api_Literal x64.1 x64.2 s63.2, oc b67 [bv t66.Neg, sv t66.Name]]) (fun k88 hk88 => ?_) (fun j86 x87 => ?_)
      · refine ref_seq ?_
        refine ref_draw [0, 1, 2, 3, 4, 5, 6, 7, 8, 9, 10, 11] rfl (by kernel_rfl) (fun hok => ?_)
        refine a_rd (i := 0) hok rfl (by kernel_rfl) rfl (r_move rfl) rfl ?_
        refine a_rd (i := 1) hok rfl (by kernel_rfl) rfl (r_move rfl) rfl ?_
        refine a_rd (i := 2) hok rfl (by kernel_rfl) rfl (r_olen Tryz.underlying27 rfl (j := 0) rfl) rfl ?_
        refine a_rd (i := 3) hok rfl (by kernel_rfl) rfl (r_lss rfl rfl) rfl ?_
        refine a_rd (i := 4) hok rfl (by kernel_rfl) rfl (r_move rfl) rfl ?_
        refine b_split (t := 55) rfl (fun _ => ?_) (fun _ => ?_)
        · refine a_rdOn (i := 5) hok rfl rfl rfl rfl (by kernel_rfl) rfl (r_move rfl) rfl ?_
          refine a_rdOn (i := 6) hok rfl rfl rfl rfl (by kernel_rfl) rfl (r_move rfl) rfl ?_
          refine pull fun t84 h_t84 => ?_
          refine a_rdOn (i := 7) hok rfl rfl rfl rfl (by kernel_rfl) rfl (r_oindex h_t84 Tryz.underlying27 el_29 rfl (j := 0) rfl rfl) rfl ?_
          refine a_rdOn (i := 8) hok rfl rfl rfl rfl (by kernel_rfl) rfl (r_oload h_t84 el_29 rfl (j := 0) rfl) rfl ?_
          refine a_rdOn (i := 9) hok rfl rfl rfl rfl (by kernel_rfl) rfl (r_cloadS Tryz.isAgg29 Tryz.sizeOf29 rfl (j := 1) rfl rfl rfl) rfl ?_
          refine a_rdOn (i := 10) hok rfl rfl rfl rfl (by kernel_rfl) rfl (r_steql (u := t84) (v := t66) eq_29 rfl rfl rfl rfl) rfl ?_
          refine a_rd (i := 11) hok rfl (by kernel_rfl) rfl (r_pickT rfl rfl) rfl ?_
          refine a_fin hok (by kernel_rfl) ?_
          refine n_then ?_
          refine ref_cond rfl (fun hb85 => ?_) (fun hb85 => ?_)
          · refine ref_exit (x_then (x_eq (n_then (ref_region ?_))))
            refine s_rd (r_add rfl rfl) rfl ?_
            refine mv1 rfl rfl ?_
            refine l_nil ?_
            exact goB x64 (weak [0] ⟨rfl, rfl, rfl, rfl, trivial⟩ ⟨rfl, trivial⟩)
          refine ref_skip ?_
          exact b_to (hk88 () ()) (weak [0, 1] ⟨rfl, rfl, rfl, rfl, rfl, rfl, trivial⟩ ⟨rfl, rfl, trivial⟩)
        refine a_off (i := 5) hok rfl rfl rfl rfl rfl (by kernel_rfl) rfl rfl ?_
        refine a_off (i := 6) hok rfl rfl rfl rfl rfl (by kernel_rfl) rfl rfl ?_
        refine a_off (i := 7) hok rfl rfl rfl rfl rfl (by kernel_rfl) rfl rfl ?_
        refine a_off (i := 8) hok rfl rfl rfl rfl rfl (by kernel_rfl) rfl rfl ?_
        refine a_off (i := 9) hok rfl rfl rfl rfl rfl (by kernel_rfl) rfl rfl ?_
        refine a_off (i := 10) hok rfl rfl rfl rfl rfl (by kernel_rfl) rfl rfl ?_
        refine a_rd (i := 11) hok rfl (by kernel_rfl) rfl (r_pickF rfl rfl) rfl ?_
        refine a_fin hok (by kernel_rfl) ?_
        refine n_then ?_
        refine ref_condF rfl rfl ?_
        refine ref_skip ?_
        exact b_to (hk88 () ()) (weak [0, 1] ⟨rfl, rfl, rfl, rfl, rfl, rfl, trivial⟩ ⟨rfl, rfl, trivial⟩)
      refine n_then (ref_seq (ref_region ?_))
      refine mv1 rfl rfl ?_
      refine s_rd (r_build (ps := []) (rs := []) st_29 zs_29 trivial rfl rfl) rfl ?_
      refine s_st (s_bslice (xs := [.tmp 64]) (ds := [(T_api_Literal.mk false ByteArray.empty)]) Tryz.underlying27 el_29 rfl (Nat.le_of_ble_eq_true rfl) ⟨(part_agO (ψs := [bv false, sv ByteArray.empty]) rfl ⟨.inl bv_at, .inl sv_at, trivial⟩), trivial⟩) rfl (fun _ => ?_)
      refine pull fun out89 h_out89 => ?_
      refine s_st (s_append h_out89 Tryz.underlying27 el_29 rfl (j := 0) rfl rfl) rfl (fun o90 => ?_)
      refine as1 rfl rfl ?_
      refine l_nil (n_then (ref_seq ?_))
      refine ref_draw [0, 1, 2, 3, 4, 5, 6] rfl (by kernel_rfl) (fun hok => ?_)
      refine a_rd (i := 0) hok rfl (by kernel_rfl) rfl (r_move rfl) rfl ?_
      refine a_rd (i := 1) hok rfl (by kernel_rfl) rfl (r_move rfl) rfl ?_
      refine a_rd (i := 2) hok rfl (by kernel_rfl) rfl (r_add rfl rfl) rfl ?_
      refine pull fun t91 h_t91 => ?_
      refine a_rd (i := 3) hok rfl (by kernel_rfl) rfl (r_osub h_t91 Tryz.underlying27 el_29 rfl (j := 0) rfl (.of rfl) .dft) rfl ?_
      refine a_rd (i := 4) hok rfl (by kernel_rfl) rfl (r_move rfl) rfl ?_
      refine a_rd (i := 5) hok rfl (by kernel_rfl) rfl (r_move rfl) rfl ?_
      refine pull fun t92 h_t92 => ?_
      refine a_rd (i := 6) hok rfl (by kernel_rfl) rfl (r_osub h_t92 Tryz.underlying27 el_29 rfl (j := 0) rfl (.of rfl) .dft) rfl ?_
      refine a_next hok 7 [] (by kernel_rfl) ?_ trivial
      refine a_st (i := 7) hok rfl rfl (s_copyW h_t91 h_t92 Tryz.underlying27 el_29 rfl (j := 0) rfl rfl) (by intro _ h; cases h; rfl) (fun _ => ⟨trivial, ⟨trivial, ⟨trivial, ⟨trivial, ⟨trivial, ⟨trivial, ⟨trivial, trivial⟩⟩⟩⟩⟩⟩⟩) (fun _ => ?_)
      refine a_fin hok (by kernel_rfl) ?_
      refine n_then (ref_region ?_)
      refine mv1 rfl rfl ?_
      refine mv1 rfl rfl ?_
      refine s_rd (r_cloadS Tryz.isAgg29 Tryz.sizeOf29 rfl (j := 1) rfl rfl rfl) rfl ?_
      refine pull fun t93 h_t93 => ?_
      refine s_rd (r_oindex h_t93 Tryz.underlying27 el_29 rfl (j := 0) rfl rfl) rfl ?_
      refine s_st0 (s_ostore (u := t66) h_t93 el_29 rfl (j := 0) rfl (part_agO (ψs := [bv t66.Neg, sv t66.Name]) rfl ⟨.inl bv_at, .inl sv_at, trivial⟩)) (fun _ => ?_)
      refine l_nil ?_
      refine b_of (nrm [oa rT_api_Literal o90.1 o90.2 ((cpO out89 (iadd .i64 q82 1) (out89.length : Int) q82 (out89.length : Int)).set (Int.toNat q82) t66), oc b67 [bv t66.Neg, sv t66.Name]] rfl) ?_
      refine n_block (n_then (ref_region ?_))
      refine s_rd (r_add rfl rfl) rfl ?_
      refine mv1 rfl rfl ?_
      refine l_nil ?_
      exact goB o90 (weak [0] ⟨rfl, rfl, rfl, rfl, trivial⟩ ⟨rfl, trivial⟩)
    refine ref_exit (x_then ?_)
    exact brkB x64 (weak [0] ⟨rfl, trivial⟩ ⟨rfl, trivial⟩)
  refine n_then (ref_seq (ref_region ?_))
  refine mv1 rfl rfl ?_
  refine as1 rfl rfl ?_
  refine l_nil (n_then (ref_ret ?_))
  exact fin1 (.inl rfl) y95 [0] rfl ⟨rfl, trivial⟩ rfl (rv_tmp rfl)

/-! (*deliberation/deliberationkeep.Src).Base -/
noncomputable def keep_Src_Base_l2 (s97 : Int × T_deliberationkeep_Src × (List T_api_Premise)) (t100 : T_api_Literal × T_deliberationkeep_Src) (s115 : Bool × Int) : Option (Sum (Bool) (Bool × Int)) :=
  bif decide (s115.2 < (s97.2.2.length : Int)) then
    Option.bind (idxM s97.2.2 s115.2) fun t118 =>
    bif s115.1 then
      some (Sum.inr (true, iadd .i64 s115.2 1))
    else
      letM (decide (t118.Literal = t100.1)) fun dup120 =>
      some (Sum.inr (dup120, iadd .i64 s115.2 1))
  else
    some (Sum.inl s115.1)

noncomputable def keep_Src_Base_l1 (n_1 : Int) (s97 : Int × T_deliberationkeep_Src × (List T_api_Premise)) : Option (Sum (T_deliberationkeep_Src × (List T_api_Premise)) (Int × T_deliberationkeep_Src × (List T_api_Premise))) :=
  bif decide (s97.1 > 0) then
    Option.bind (keep_Src_Literal_m s97.2.1 n_1) fun t100 =>
    Option.bind (keep_Src_Pick_m t100.2 [1, 2, 2, 2, 3]) fun t101 =>
    Option.bind (keep_Src_Text_m t101.2 [(ByteArray.mk #[]), (ByteArray.mk #[]), (ByteArray.mk #[97, 110, 110]), (ByteArray.mk #[98, 111, 98])]) fun t102 =>
    joinM (fun j106 : T_deliberationkeep_Src × Int =>
        Option.bind (loopC (keep_Src_Base_l2 s97 t100) (false, 0)) fun q121 : Bool =>
        bif !q121 then
          Option.bind (appM 56 s97.2.2 [(T_api_Premise.mk t100.1 t101.1 j106.2 t102.1)]) fun t124 =>
          letM (isub .i64 s97.1 1) fun k126 =>
          some (Sum.inr (k126, j106.1, t124))
        else
          letM (isub .i64 s97.1 1) fun k127 =>
          some (Sum.inr (k127, j106.1, s97.2.2))) fun k108 =>
    bif t101.1 == 2 then
      Option.bind (keep_Src_N_m t102.2 4) fun t105 =>
      k108 (t105.2, t105.1)
    else
      k108 (t102.2, 0)
  else
    some (Sum.inl (s97.2.1, s97.2.2))

noncomputable def keep_Src_Base_l3 (n_1 : Int) (rules_3 : Int) (s212 : Int × T_deliberationkeep_Src × (List T_api_Rule)) : Option (Sum (T_deliberationkeep_Src × (List T_api_Rule)) (Int × T_deliberationkeep_Src × (List T_api_Rule))) :=
  bif decide (s212.1 > 0) then
    Option.bind (keep_RuleName_m (s212.2.2.length : Int)) fun t215 =>
    Option.bind (keep_Src_N_m s212.2.1 3) fun t216 =>
    Option.bind (keep_Src_Literals_m t216.2 2 n_1) fun t217 =>
    Option.bind (keep_sorted_m t217.1) fun t219 =>
    Option.bind (keep_Src_Literal_m t217.2 n_1) fun t221 =>
    joinM (fun j225 : T_deliberationkeep_Src × Int =>
        joinM (fun j233 : T_deliberationkeep_Src × Bool × ByteArray =>
            Option.bind (appM 80 s212.2.2 [(T_api_Rule.mk t215 (t216.1 == 0) j225.2 t219 (T_api_Literal.mk j233.2.1 j233.2.2))]) fun t236 =>
            letM (isub .i64 s212.1 1) fun k238 =>
            some (Sum.inr (k238, j233.1, t236))) fun k235 =>
        Option.bind (keep_Src_N_m j225.1 6) fun t228 =>
        bif t228.1 == 5 then
          Option.bind (keep_Src_N_m t228.2 4) fun t230 =>
          Option.bind (keep_Src_N_m t230.2 rules_3) fun t231 =>
          Option.bind (keep_RuleName_m t231.1) fun t232 =>
          k235 (t231.2, decide (t230.1 > 0), t232)
        else
          k235 (t228.2, t221.1.Neg, t221.1.Name)) fun k227 =>
    bif !(t216.1 == 0) then
      Option.bind (keep_Src_N_m t221.2 4) fun t224 =>
      k227 (t224.2, t224.1)
    else
      k227 (t221.2, 0)
  else
    some (Sum.inl (s212.2.1, s212.2.2))

noncomputable def keep_Src_Base_l4 (n_1 : Int) (q239 : T_deliberationkeep_Src × (List T_api_Rule)) (s284 : Int × T_deliberationkeep_Src × (List T_api_Promotion)) : Option (Sum (T_deliberationkeep_Src × (List T_api_Promotion)) (Int × T_deliberationkeep_Src × (List T_api_Promotion))) :=
  bif decide (s284.1 > 0) then
    bif decide ((q239.2.length : Int) > 0) then
      Option.bind (keep_Src_N_m s284.2.1 (q239.2.length : Int)) fun t288 =>
      Option.bind (idxM q239.2 t288.1) fun t289 =>
      bif !t289.Strict then
        Option.bind (keep_Src_N_m t288.2 10) fun t292 =>
        Option.bind (keep_Src_Literal_m t292.2 n_1) fun t293 =>
        Option.bind (appM 48 s284.2.2 [(T_api_Promotion.mk t289.Name t292.1 t293.1)]) fun t294 =>
        letM (isub .i64 s284.1 1) fun k296 =>
        some (Sum.inr (k296, t293.2, t294))
      else
        letM (isub .i64 s284.1 1) fun k297 =>
        some (Sum.inr (k297, t288.2, s284.2.2))
    else
      some (Sum.inl (s284.2.1, s284.2.2))
  else
    some (Sum.inl (s284.2.1, s284.2.2))

noncomputable def keep_Src_Base_m (s_0 : T_deliberationkeep_Src) (n_1 : Int) (premises_2 : Int) (rules_3 : Int) : Option (T_api_Base × T_deliberationkeep_Src) :=
  Option.bind (keep_Src_N_m s_0 (iadd .i64 premises_2 1)) fun k3 =>
  Option.bind (loopC (keep_Src_Base_l1 n_1) (k3.1, k3.2, [])) fun q128 : T_deliberationkeep_Src × (List T_api_Premise) =>
  Option.bind (keep_Src_N_m q128.1 (iadd .i64 rules_3 1)) fun k130 =>
  Option.bind (loopC (keep_Src_Base_l3 n_1 rules_3) (k130.1, k130.2, [])) fun q239 : T_deliberationkeep_Src × (List T_api_Rule) =>
  Option.bind (keep_Src_N_m q239.1 3) fun k241 =>
  Option.bind (loopC (keep_Src_Base_l4 n_1 q239) (k241.1, k241.2, [])) fun q298 : T_deliberationkeep_Src × (List T_api_Promotion) =>
  some ((T_api_Base.mk q128.2 q239.2 q298.2), q298.1)

theorem keep_Src_Base_ok {s_0 : T_deliberationkeep_Src} {n_1 : Int} {premises_2 : Int} {rules_3 : Int} {b_0 : Nat} {r : T_api_Base × T_deliberationkeep_Src} (hm : keep_Src_Base_m s_0 n_1 premises_2 rules_3 = some r) :
    FnOk prog 9 [pv (ptr b_0 0), iv .i64 n_1, iv .i64 premises_2, iv .i64 rules_3] [oc b_0 [slv (rI .i64) s_0.L, iv .i64 s_0.At]] (fun (x : (Value × List Nat)) => [ag [slv rT_api_Premise r.1.Premises, pv x.1, slv rT_api_Promotion r.1.Promotions]]) (fun (x : (Value × List Nat)) => [oc b_0 [slv (rI .i64) r.2.L, iv .i64 r.2.At], oa rT_api_Rule x.1 x.2 r.1.Rules]) := by
  refine fn_ok (X := (Value × List Nat)) (fn := Tryz.f9) (N := 152) (res := fun r x => [ag [slv rT_api_Premise r.1.Premises, pv x.1, slv rT_api_Promotion r.1.Promotions]]) (Ω1 := fun r x => [oc b_0 [slv (rI .i64) r.2.L, iv .i64 r.2.At], oa rT_api_Rule x.1 x.2 r.1.Rules]) Tryz.func9 rfl rfl hm rfl (fun E hM => ?_)
  unfold keep_Src_Base_m
  refine ref_seq (ref_region ?_)
  refine s_st (s_alloc zt_26) rfl (fun b1 => ?_)
  refine l_nil (n_then (ref_seq (ref_region ?_)))
  refine s_st (s_alloc zt_26) rfl (fun b2 => ?_)
  refine l_nil (n_then (ref_seq (ref_seq (ref_region ?_))))
  refine mv1 rfl rfl ?_
  refine mv1 rfl rfl ?_
  refine s_rd (r_add rfl rfl) rfl ?_
  refine pull fun k3 h_k3 => ?_
  refine s_st (s_callC [0] [true] (fun (_ : Unit) => [oc b_0 [slv (rI .i64) k3.2.L, iv .i64 k3.2.At]]) (fun (_ : Unit) => []) (fun (_ : Unit) => iv .i64 k3.1) (args := [.tmp 19, .tmp 21]) (caps := []) Tryz.call33 rfl (keep_Src_N_ok h_k3) ⟨rfl, rfl, trivial⟩ (fun _ => rfl) (fun _ => trivial) (fun _ => rfl) ⟨arg rfl, arg rfl, trivial⟩ (fun _ _ _ _ h => h)) rfl (fun _ => ?_)
  refine as1 rfl rfl ?_
  refine l_nil (n_then ?_)
  refine b_of (own_nil rT_api_Premise) ?_
  refine ref_loopB (f := (keep_Src_Base_l1 n_1)) (Γl := (fun (s97 : Int × T_deliberationkeep_Src × (List T_api_Premise)) (x98 : (Value × List Nat)) => [(0, pv (ptr b_0 0)), (1, iv .i64 n_1), (3, iv .i64 rules_3), (8, pv (ptr b1 0)), (9, pv (ptr b2 0)), (10, iv .i64 s97.1)])) (Ωl := (fun (s97 : Int × T_deliberationkeep_Src × (List T_api_Premise)) (x98 : (Value × List Nat)) => [oc b_0 [slv (rI .i64) s97.2.1.L, iv .i64 s97.2.1.At], oc b1 [pv (.slice none 0 0), pv (.slice none 0 0), pv (.slice none 0 0)], oc b2 [pv x98.1, pv (.slice none 0 0), pv (.slice none 0 0)], oa rT_api_Premise x98.1 x98.2 s97.2.2])) (Γb := (fun (q128 : T_deliberationkeep_Src × (List T_api_Premise)) (y129 : (Value × List Nat)) => [(0, pv (ptr b_0 0)), (1, iv .i64 n_1), (3, iv .i64 rules_3), (8, pv (ptr b1 0)), (9, pv (ptr b2 0))])) (Ωb := (fun (q128 : T_deliberationkeep_Src × (List T_api_Premise)) (y129 : (Value × List Nat)) => [oc b_0 [slv (rI .i64) q128.1.L, iv .i64 q128.1.At], oc b1 [pv (.slice none 0 0), pv (.slice none 0 0), pv (.slice none 0 0)], oc b2 [pv y129.1, pv (.slice none 0 0), pv (.slice none 0 0)], oa rT_api_Premise y129.1 y129.2 q128.2])) (k3.1, k3.2, []) ((.slice none 0 0), []) (weak [0, 1, 2, 3] ⟨rfl, rfl, rfl, rfl, rfl, rfl, trivial⟩ ⟨rfl, rfl, rfl, rfl, trivial⟩) (fun s97 x98 => ?_) (fun q128 y129 => ?_)
  · unfold keep_Src_Base_l1
    refine ref_seq (ref_seq (ref_region ?_))
    refine mv1 rfl rfl ?_
    refine s_rd (r_gtr rfl rfl) rfl ?_
    refine l_nil (n_then ?_)
    refine ref_cond rfl (fun hb99 => ?_) (fun hb99 => ?_)
    · refine ref_skip (n_then (ref_seq (ref_block (ref_seq (ref_region ?_)))))
      refine mv1 rfl rfl ?_
      refine mv1 rfl rfl ?_
      refine pull fun t100 h_t100 => ?_
      refine s_st (s_callC [0] [true] (fun (_ : Unit) => [oc b_0 [slv (rI .i64) t100.2.L, iv .i64 t100.2.At]]) (fun (_ : Unit) => []) (fun (_ : Unit) => ag [bv t100.1.Neg, sv t100.1.Name]) (args := [.tmp 27, .tmp 28]) (caps := []) Tryz.call17 rfl (keep_Src_Literal_ok h_t100) ⟨rfl, rfl, trivial⟩ (fun _ => rfl) (fun _ => trivial) (fun _ => rfl) ⟨arg rfl, arg rfl, trivial⟩ (fun _ _ _ _ h => h)) rfl (fun _ => ?_)
      refine mv1 rfl rfl ?_
      refine s_st (s_bslice (xs := [.const (.int .i64 (1)), .const (.int .i64 (2)), .const (.int .i64 (2)), .const (.int .i64 (2)), .const (.int .i64 (3))]) (ds := [1, 2, 2, 2, 3]) Tryz.underlying30 el_3 rfl (Nat.le_of_ble_eq_true rfl) ⟨(part_at rfl iv_at), ⟨(part_at rfl iv_at), ⟨(part_at rfl iv_at), ⟨(part_at rfl iv_at), ⟨(part_at rfl iv_at), trivial⟩⟩⟩⟩⟩) rfl (fun _ => ?_)
      refine pull fun t101 h_t101 => ?_
      refine s_st (s_callC [0] [true] (fun (_ : Unit) => [oc b_0 [slv (rI .i64) t101.2.L, iv .i64 t101.2.At]]) (fun (_ : Unit) => []) (fun (_ : Unit) => iv .i64 t101.1) (args := [.tmp 30, .tmp 31]) (caps := []) Tryz.call34 rfl (keep_Src_Pick_ok h_t101) ⟨rfl, rfl, trivial⟩ (fun _ => rfl) (fun _ => trivial) (fun _ => rfl) ⟨arg rfl, arg rfl, trivial⟩ (fun _ _ _ _ h => h)) rfl (fun _ => ?_)
      refine mv1 rfl rfl ?_
      refine s_st (s_bslice (xs := [.const (.string (ByteArray.mk #[])), .const (.string (ByteArray.mk #[])), .const (.string (ByteArray.mk #[97, 110, 110])), .const (.string (ByteArray.mk #[98, 111, 98]))]) (ds := [(ByteArray.mk #[]), (ByteArray.mk #[]), (ByteArray.mk #[97, 110, 110]), (ByteArray.mk #[98, 111, 98])]) Tryz.underlying68 el_9 rfl (Nat.le_of_ble_eq_true rfl) ⟨(part_at rfl sv_at), ⟨(part_at rfl sv_at), ⟨(part_at rfl sv_at), ⟨(part_at rfl sv_at), trivial⟩⟩⟩⟩) rfl (fun _ => ?_)
      refine pull fun t102 h_t102 => ?_
      refine s_st (s_callC [0] [true] (fun (_ : Unit) => [oc b_0 [slv (rI .i64) t102.2.L, iv .i64 t102.2.At]]) (fun (_ : Unit) => []) (fun (_ : Unit) => sv t102.1) (args := [.tmp 33, .tmp 34]) (caps := []) Tryz.call35 rfl (keep_Src_Text_ok h_t102) ⟨rfl, rfl, trivial⟩ (fun _ => rfl) (fun _ => trivial) (fun _ => rfl) ⟨arg rfl, arg rfl, trivial⟩ (fun _ _ _ _ h => h)) rfl (fun _ => ?_)
      refine s_rd (r_build (ps := [(0, .tmp 29), (1, .tmp 32), (3, .tmp 35)]) (rs := [(0, [bv t100.1.Neg, sv t100.1.Name]), (1, [iv .i64 t101.1]), (3, [sv t102.1])]) st_58 zs_58 ⟨rfl, (part_agO (ψs := [bv t100.1.Neg, sv t100.1.Name]) rfl ⟨.inl bv_at, .inl sv_at, trivial⟩), ⟨rfl, (part_at rfl iv_at), ⟨rfl, (part_at rfl sv_at), trivial⟩⟩⟩ rfl rfl) rfl ?_
      refine s_st (s_alloc zt_58) rfl (fun b103 => ?_)
      refine s_st0 (s_cstore (out := [bv t100.1.Neg, sv t100.1.Name, iv .i64 t101.1, iv .i64 0, sv t102.1]) Tryz.sizeOf58 rfl (j := 4) rfl (part_agO (ψs := [bv t100.1.Neg, sv t100.1.Name, iv .i64 t101.1, iv .i64 0, sv t102.1]) rfl ⟨.inl bv_at, .inl sv_at, .inl iv_at, .inl iv_at, .inl sv_at, trivial⟩) rfl rfl rfl) (fun _ => ?_)
      refine l_nil ?_
      refine b_of (nrm [oc b_0 [slv (rI .i64) t102.2.L, iv .i64 t102.2.At], oc b1 [pv (.slice none 0 0), pv (.slice none 0 0), pv (.slice none 0 0)], oc b2 [pv x98.1, pv (.slice none 0 0), pv (.slice none 0 0)], oa rT_api_Premise x98.1 x98.2 s97.2.2, oc b103 [bv t100.1.Neg, sv t100.1.Name, iv .i64 t101.1, iv .i64 0, sv t102.1]] rfl) ?_
      refine n_then (ref_seq ?_)
      refine ref_join (fun (j106 : T_deliberationkeep_Src × Int) (x107 : Unit) => [(0, pv (ptr b_0 0)), (1, iv .i64 n_1), (3, iv .i64 rules_3), (8, pv (ptr b1 0)), (9, pv (ptr b2 0)), (10, iv .i64 s97.1), (11, pv (ptr b103 0))]) (fun (j106 : T_deliberationkeep_Src × Int) (x107 : Unit) => [oc b_0 [slv (rI .i64) j106.1.L, iv .i64 j106.1.At], oc b1 [pv (.slice none 0 0), pv (.slice none 0 0), pv (.slice none 0 0)], oc b2 [pv x98.1, pv (.slice none 0 0), pv (.slice none 0 0)], oa rT_api_Premise x98.1 x98.2 s97.2.2, oc b103 [bv t100.1.Neg, sv t100.1.Name, iv .i64 t101.1, iv .i64 j106.2, sv t102.1]]) (fun k108 hk108 => ?_) (fun j106 x107 => ?_)
      · refine ref_seq (ref_region ?_)
        refine s_rd (r_faddr (fo := 2) Tryz.underlying58 rfl rfl Tryz.sizeOf3 rfl) rfl ?_
        refine s_rd (r_cload Tryz.isAgg3 rfl (j := 4) rfl rfl) rfl ?_
        refine s_rd (r_eql rfl rfl) rfl ?_
        refine l_nil (n_then ?_)
        refine ref_cond rfl (fun hb104 => ?_) (fun hb104 => ?_)
        · refine ref_region ?_
          refine mv1 rfl rfl ?_
          refine pull fun t105 h_t105 => ?_
          refine s_st (s_callC [0] [true] (fun (_ : Unit) => [oc b_0 [slv (rI .i64) t105.2.L, iv .i64 t105.2.At]]) (fun (_ : Unit) => []) (fun (_ : Unit) => iv .i64 t105.1) (args := [.tmp 40, .const (.int .i64 (4))]) (caps := []) Tryz.call33 rfl (keep_Src_N_ok h_t105) ⟨rfl, rfl, trivial⟩ (fun _ => rfl) (fun _ => trivial) (fun _ => rfl) ⟨arg rfl, arg rfl, trivial⟩ (fun _ _ _ _ h => h)) rfl (fun _ => ?_)
          refine s_rd (r_faddr (fo := 3) Tryz.underlying58 rfl rfl Tryz.sizeOf3 rfl) rfl ?_
          refine s_st0 (s_cstore (out := [bv t100.1.Neg, sv t100.1.Name, iv .i64 t101.1, iv .i64 t105.1, sv t102.1]) Tryz.sizeOf3 rfl (j := 4) rfl (part_at rfl iv_at) rfl rfl rfl) (fun _ => ?_)
          refine l_nil ?_
          exact b_to (hk108 (t105.2, t105.1) ()) (weak [0, 1, 2, 3, 4] ⟨rfl, rfl, rfl, rfl, rfl, rfl, rfl, trivial⟩ ⟨rfl, rfl, rfl, rfl, rfl, trivial⟩)
        refine ref_skip ?_
        exact b_to (hk108 (t102.2, 0) ()) (weak [0, 1, 2, 3, 4] ⟨rfl, rfl, rfl, rfl, rfl, rfl, rfl, trivial⟩ ⟨rfl, rfl, rfl, rfl, rfl, trivial⟩)
      refine n_then (ref_seq (ref_region ?_))
      refine as1 rfl rfl ?_
      refine l_nil (n_then (ref_seq (ref_seq (ref_region ?_))))
      refine s_rd (r_faddr (fo := 0) Tryz.underlying26 rfl rfl Tryz.sizeOf22 rfl) rfl ?_
      refine s_rd (r_cload Tryz.isAgg22 rfl (j := 2) rfl rfl) rfl ?_
      refine s_rd (r_olen Tryz.underlying22 rfl (j := 3) rfl) rfl ?_
      refine mv1 rfl rfl ?_
      refine l_nil (n_then ?_)
      refine ref_loopB (f := (keep_Src_Base_l2 s97 t100)) (Γl := (fun (s115 : Bool × Int) (x116 : Unit) => [(0, pv (ptr b_0 0)), (1, iv .i64 n_1), (3, iv .i64 rules_3), (8, pv (ptr b1 0)), (9, pv (ptr b2 0)), (10, iv .i64 s97.1), (11, pv (ptr b103 0)), (12, bv s115.1), (44, pv x98.1), (45, iv .i64 (s97.2.2.length : Int)), (46, iv .i64 s115.2)])) (Ωl := (fun (s115 : Bool × Int) (x116 : Unit) => [oc b_0 [slv (rI .i64) j106.1.L, iv .i64 j106.1.At], oc b1 [pv (.slice none 0 0), pv (.slice none 0 0), pv (.slice none 0 0)], oc b2 [pv x98.1, pv (.slice none 0 0), pv (.slice none 0 0)], oa rT_api_Premise x98.1 x98.2 s97.2.2, oc b103 [bv t100.1.Neg, sv t100.1.Name, iv .i64 t101.1, iv .i64 j106.2, sv t102.1]])) (Γb := (fun (q121 : Bool) (y122 : Unit) => [(0, pv (ptr b_0 0)), (1, iv .i64 n_1), (3, iv .i64 rules_3), (8, pv (ptr b1 0)), (9, pv (ptr b2 0)), (10, iv .i64 s97.1), (11, pv (ptr b103 0)), (12, bv q121)])) (Ωb := (fun (q121 : Bool) (y122 : Unit) => [oc b_0 [slv (rI .i64) j106.1.L, iv .i64 j106.1.At], oc b1 [pv (.slice none 0 0), pv (.slice none 0 0), pv (.slice none 0 0)], oc b2 [pv x98.1, pv (.slice none 0 0), pv (.slice none 0 0)], oa rT_api_Premise x98.1 x98.2 s97.2.2, oc b103 [bv t100.1.Neg, sv t100.1.Name, iv .i64 t101.1, iv .i64 j106.2, sv t102.1]])) (false, 0) () (weak [0, 1, 2, 3, 4] ⟨rfl, rfl, rfl, rfl, rfl, rfl, rfl, rfl, rfl, rfl, rfl, trivial⟩ ⟨rfl, rfl, rfl, rfl, rfl, trivial⟩) (fun s115 x116 => ?_) (fun q121 y122 => ?_)
      · unfold keep_Src_Base_l2
        refine ref_seq (ref_region ?_)
        refine s_rd (r_lss rfl rfl) rfl ?_
        refine l_nil (n_then (ref_seq ?_))
        refine ref_cond rfl (fun hb117 => ?_) (fun hb117 => ?_)
        · refine ref_skip (n_then (ref_seq (ref_block (ref_seq (ref_region ?_)))))
          refine pull fun t118 h_t118 => ?_
          refine s_rd (r_oindex h_t118 Tryz.underlying22 el_58 rfl (j := 3) rfl rfl) rfl ?_
          refine s_rd (r_oload h_t118 el_58 rfl (j := 3) rfl) rfl ?_
          refine s_st (s_alloc zt_58) rfl (fun b119 => ?_)
          refine s_st0 (s_cstore (out := [bv t118.Literal.Neg, sv t118.Literal.Name, iv .i64 t118.Kind, iv .i64 t118.Rank, sv t118.Source]) Tryz.sizeOf58 rfl (j := 5) rfl (part_agO (ψs := [bv t118.Literal.Neg, sv t118.Literal.Name, iv .i64 t118.Kind, iv .i64 t118.Rank, sv t118.Source]) rfl ⟨.inl bv_at, .inl sv_at, .inl iv_at, .inl iv_at, .inl sv_at, trivial⟩) rfl rfl rfl) (fun _ => ?_)
          refine l_nil (n_then (ref_region ?_))
          refine mv1 rfl rfl ?_
          refine mv1 rfl rfl ?_
          refine b_split (t := 51) rfl (fun _ => ?_) (fun _ => ?_)
          · refine s_off rfl rfl rfl rfl rfl ?_
            refine s_off rfl rfl rfl rfl rfl ?_
            refine s_off rfl rfl rfl rfl rfl ?_
            refine s_off rfl rfl rfl rfl rfl ?_
            refine s_off rfl rfl rfl rfl rfl ?_
            refine s_rd (r_pickT rfl rfl) rfl ?_
            refine as1 rfl rfl ?_
            refine l_nil (n_block (n_then (ref_region ?_)))
            refine s_rd (r_add rfl rfl) rfl ?_
            refine mv1 rfl rfl ?_
            refine l_nil ?_
            exact goB () (weak [0, 1, 2, 3, 4] ⟨rfl, rfl, rfl, rfl, rfl, rfl, rfl, rfl, rfl, rfl, rfl, trivial⟩ ⟨rfl, rfl, rfl, rfl, rfl, trivial⟩)
          refine s_on rfl rfl rfl ?_
          refine s_rd (r_faddr (fo := 0) Tryz.underlying58 rfl rfl Tryz.sizeOf29 rfl) rfl ?_
          refine s_on rfl rfl rfl ?_
          refine s_rd (r_cloadS Tryz.isAgg29 Tryz.sizeOf29 rfl (j := 5) rfl rfl rfl) rfl ?_
          refine s_on rfl rfl rfl ?_
          refine s_rd (r_faddr (fo := 0) Tryz.underlying58 rfl rfl Tryz.sizeOf29 rfl) rfl ?_
          refine s_on rfl rfl rfl ?_
          refine s_rd (r_cloadS Tryz.isAgg29 Tryz.sizeOf29 rfl (j := 4) rfl rfl rfl) rfl ?_
          refine s_on rfl rfl rfl ?_
          refine s_rd (r_steql (u := t118.Literal) (v := t100.1) eq_29 rfl rfl rfl rfl) rfl ?_
          refine s_rd (r_pickF rfl rfl) rfl ?_
          refine as1 rfl rfl ?_
          refine b_let (f := bv) (t := 12) rfl fun dup120 => ?_
          refine l_nil (n_block (n_then (ref_region ?_)))
          refine s_rd (r_add rfl rfl) rfl ?_
          refine mv1 rfl rfl ?_
          refine l_nil ?_
          exact goB () (weak [0, 1, 2, 3, 4] ⟨rfl, rfl, rfl, rfl, rfl, rfl, rfl, rfl, rfl, rfl, rfl, trivial⟩ ⟨rfl, rfl, rfl, rfl, rfl, trivial⟩)
        refine ref_exit (x_then ?_)
        exact brkB () (weak [0, 1, 2, 3, 4] ⟨rfl, rfl, rfl, rfl, rfl, rfl, rfl, rfl, trivial⟩ ⟨rfl, rfl, rfl, rfl, rfl, trivial⟩)
      refine n_then (ref_seq (ref_region ?_))
      refine mv1 rfl rfl ?_
      refine s_rd (r_not rfl) rfl ?_
      refine l_nil (n_then ?_)
      refine ref_cond rfl (fun hb123 => ?_) (fun hb123 => ?_)
      · refine ref_region ?_
        refine s_rd (r_faddr (fo := 0) Tryz.underlying26 rfl rfl Tryz.sizeOf22 rfl) rfl ?_
        refine s_rd (r_cload Tryz.isAgg22 rfl (j := 2) rfl rfl) rfl ?_
        refine s_rd (r_cloadS Tryz.isAgg58 Tryz.sizeOf58 rfl (j := 4) rfl rfl rfl) rfl ?_
        refine s_st (s_bslice (xs := [.tmp 63]) (ds := [(T_api_Premise.mk t100.1 t101.1 j106.2 t102.1)]) Tryz.underlying22 el_58 rfl (Nat.le_of_ble_eq_true rfl) ⟨(part_agO (ψs := [bv t100.1.Neg, sv t100.1.Name, iv .i64 t101.1, iv .i64 j106.2, sv t102.1]) rfl ⟨.inl bv_at, .inl sv_at, .inl iv_at, .inl iv_at, .inl sv_at, trivial⟩), trivial⟩) rfl (fun _ => ?_)
        refine pull fun t124 h_t124 => ?_
        refine s_st (s_append h_t124 Tryz.underlying22 el_58 rfl (j := 3) rfl rfl) rfl (fun o125 => ?_)
        refine s_rd (r_faddr (fo := 0) Tryz.underlying26 rfl rfl Tryz.sizeOf22 rfl) rfl ?_
        refine s_st0 (s_cstore (out := [pv o125.1, pv (.slice none 0 0), pv (.slice none 0 0)]) Tryz.sizeOf22 rfl (j := 2) rfl (part_own rfl (j := 3) rfl) rfl rfl rfl) (fun _ => ?_)
        refine l_nil (n_block (n_then (ref_region ?_)))
        refine mv1 rfl rfl ?_
        refine s_rd (r_sub rfl rfl) rfl ?_
        refine as1 rfl rfl ?_
        refine b_let (f := iv .i64) (t := 10) rfl fun k126 => ?_
        refine l_nil ?_
        exact goB o125 (weak [0, 1, 2, 3] ⟨rfl, rfl, rfl, rfl, rfl, rfl, trivial⟩ ⟨rfl, rfl, rfl, rfl, trivial⟩)
      refine ref_skip (n_block (n_then (ref_region ?_)))
      refine mv1 rfl rfl ?_
      refine s_rd (r_sub rfl rfl) rfl ?_
      refine as1 rfl rfl ?_
      refine b_let (f := iv .i64) (t := 10) rfl fun k127 => ?_
      refine l_nil ?_
      exact goB x98 (weak [0, 1, 2, 3] ⟨rfl, rfl, rfl, rfl, rfl, rfl, trivial⟩ ⟨rfl, rfl, rfl, rfl, trivial⟩)
    refine ref_exit (x_then ?_)
    exact brkB x98 (weak [0, 1, 2, 3] ⟨rfl, rfl, rfl, rfl, rfl, trivial⟩ ⟨rfl, rfl, rfl, rfl, trivial⟩)
  refine n_then (ref_seq (ref_seq (ref_region ?_)))
  refine mv1 rfl rfl ?_
  refine mv1 rfl rfl ?_
  refine s_rd (r_add rfl rfl) rfl ?_
  refine pull fun k130 h_k130 => ?_
  refine s_st (s_callC [0] [true] (fun (_ : Unit) => [oc b_0 [slv (rI .i64) k130.2.L, iv .i64 k130.2.At]]) (fun (_ : Unit) => []) (fun (_ : Unit) => iv .i64 k130.1) (args := [.tmp 67, .tmp 69]) (caps := []) Tryz.call33 rfl (keep_Src_N_ok h_k130) ⟨rfl, rfl, trivial⟩ (fun _ => rfl) (fun _ => trivial) (fun _ => rfl) ⟨arg rfl, arg rfl, trivial⟩ (fun _ _ _ _ h => h)) rfl (fun _ => ?_)
  refine as1 rfl rfl ?_
  refine l_nil (n_then ?_)
  refine b_of (own_nil rT_api_Rule) ?_
  refine ref_loopB (f := (keep_Src_Base_l3 n_1 rules_3)) (Γl := (fun (s212 : Int × T_deliberationkeep_Src × (List T_api_Rule)) (x213 : (Value × List Nat)) => [(0, pv (ptr b_0 0)), (1, iv .i64 n_1), (3, iv .i64 rules_3), (8, pv (ptr b1 0)), (9, pv (ptr b2 0)), (15, iv .i64 s212.1)])) (Ωl := (fun (s212 : Int × T_deliberationkeep_Src × (List T_api_Rule)) (x213 : (Value × List Nat)) => [oc b_0 [slv (rI .i64) s212.2.1.L, iv .i64 s212.2.1.At], oc b1 [pv (.slice none 0 0), pv (.slice none 0 0), pv (.slice none 0 0)], oc b2 [pv y129.1, pv x213.1, pv (.slice none 0 0)], oa rT_api_Premise y129.1 y129.2 q128.2, oa rT_api_Rule x213.1 x213.2 s212.2.2])) (Γb := (fun (q239 : T_deliberationkeep_Src × (List T_api_Rule)) (y240 : (Value × List Nat)) => [(0, pv (ptr b_0 0)), (1, iv .i64 n_1), (8, pv (ptr b1 0)), (9, pv (ptr b2 0))])) (Ωb := (fun (q239 : T_deliberationkeep_Src × (List T_api_Rule)) (y240 : (Value × List Nat)) => [oc b_0 [slv (rI .i64) q239.1.L, iv .i64 q239.1.At], oc b1 [pv (.slice none 0 0), pv (.slice none 0 0), pv (.slice none 0 0)], oc b2 [pv y129.1, pv y240.1, pv (.slice none 0 0)], oa rT_api_Premise y129.1 y129.2 q128.2, oa rT_api_Rule y240.1 y240.2 q239.2])) (k130.1, k130.2, []) ((.slice none 0 0), []) (weak [0, 1, 2, 3, 4] ⟨rfl, rfl, rfl, rfl, rfl, rfl, trivial⟩ ⟨rfl, rfl, rfl, rfl, rfl, trivial⟩) (fun s212 x213 => ?_) (fun q239 y240 => ?_)
  · unfold keep_Src_Base_l3
    refine ref_seq (ref_seq (ref_region ?_))
    refine mv1 rfl rfl ?_
    refine s_rd (r_gtr rfl rfl) rfl ?_
    refine l_nil (n_then ?_)
    refine ref_cond rfl (fun hb214 => ?_) (fun hb214 => ?_)
    · refine ref_skip (n_then (ref_seq (ref_block (ref_seq (ref_region ?_)))))
      refine s_rd (r_faddr (fo := 1) Tryz.underlying26 rfl rfl Tryz.sizeOf23 rfl) rfl ?_
      refine s_rd (r_cload Tryz.isAgg23 rfl (j := 2) rfl rfl) rfl ?_
      refine s_rd (r_olen Tryz.underlying23 rfl (j := 4) rfl) rfl ?_
      refine pull fun t215 h_t215 => ?_
      refine s_st (s_call (ψ := fun (_ : Unit) => sv t215) (args := [.tmp 77]) Tryz.call36 rfl (keep_RuleName_ok h_t215) ⟨arg rfl, trivial⟩ (fun _ _ _ _ h => h)) rfl (fun _ => ?_)
      refine mv1 rfl rfl ?_
      refine pull fun t216 h_t216 => ?_
      refine s_st (s_callC [0] [true] (fun (_ : Unit) => [oc b_0 [slv (rI .i64) t216.2.L, iv .i64 t216.2.At]]) (fun (_ : Unit) => []) (fun (_ : Unit) => iv .i64 t216.1) (args := [.tmp 79, .const (.int .i64 (3))]) (caps := []) Tryz.call33 rfl (keep_Src_N_ok h_t216) ⟨rfl, rfl, trivial⟩ (fun _ => rfl) (fun _ => trivial) (fun _ => rfl) ⟨arg rfl, arg rfl, trivial⟩ (fun _ _ _ _ h => h)) rfl (fun _ => ?_)
      refine s_rd (r_eql rfl rfl) rfl ?_
      refine mv1 rfl rfl ?_
      refine mv1 rfl rfl ?_
      refine pull fun t217 h_t217 => ?_
      refine s_st (s_callC [0] [true] (fun (x218 : (Value × List Nat)) => [oc b_0 [slv (rI .i64) t217.2.L, iv .i64 t217.2.At]]) (fun (x218 : (Value × List Nat)) => [oa rT_api_Literal x218.1 x218.2 t217.1]) (fun (x218 : (Value × List Nat)) => pv x218.1) (args := [.tmp 82, .const (.int .i64 (2)), .tmp 83]) (caps := []) Tryz.call11 rfl (keep_Src_Literals_ok h_t217) ⟨rfl, rfl, trivial⟩ (fun _ => rfl) (fun _ => trivial) (fun _ => rfl) ⟨arg rfl, arg rfl, arg rfl, trivial⟩ (fun _ _ _ _ h => h)) rfl (fun x218 => ?_)
      refine b_of (frzL [84] (j := 5) rfl ⟨rfl, trivial⟩) ?_
      refine pull fun t219 h_t219 => ?_
      refine s_st (s_call (ψ := fun (x220 : (Value × List Nat)) => pv x220.1) (args := [.tmp 84]) Tryz.call37 rfl (keep_sorted_ok h_t219) ⟨arg rfl, trivial⟩ (fun _ _ _ _ h => h)) rfl (fun x220 => ?_)
      refine mv1 rfl rfl ?_
      refine mv1 rfl rfl ?_
      refine pull fun t221 h_t221 => ?_
      refine s_st (s_callC [0] [true] (fun (_ : Unit) => [oc b_0 [slv (rI .i64) t221.2.L, iv .i64 t221.2.At]]) (fun (_ : Unit) => []) (fun (_ : Unit) => ag [bv t221.1.Neg, sv t221.1.Name]) (args := [.tmp 86, .tmp 87]) (caps := []) Tryz.call17 rfl (keep_Src_Literal_ok h_t221) ⟨rfl, rfl, trivial⟩ (fun _ => rfl) (fun _ => trivial) (fun _ => rfl) ⟨arg rfl, arg rfl, trivial⟩ (fun _ _ _ _ h => h)) rfl (fun _ => ?_)
      refine s_rd (r_build (ps := [(0, .tmp 78), (1, .tmp 81), (3, .tmp 85), (4, .tmp 88)]) (rs := [(0, [sv t215]), (1, [bv (t216.1 == 0)]), (3, [pv x220.1]), (4, [bv t221.1.Neg, sv t221.1.Name])]) st_60 zs_60 ⟨rfl, (part_at rfl sv_at), ⟨rfl, (part_at rfl bv_at), ⟨rfl, (part_own rfl (j := 6) rfl), ⟨rfl, (part_agO (ψs := [bv t221.1.Neg, sv t221.1.Name]) rfl ⟨.inl bv_at, .inl sv_at, trivial⟩), trivial⟩⟩⟩⟩ rfl rfl) rfl ?_
      refine s_st (s_alloc zt_60) rfl (fun b222 => ?_)
      refine s_st0 (s_cstore (out := [sv t215, bv (t216.1 == 0), iv .i64 0, pv x220.1, bv t221.1.Neg, sv t221.1.Name]) Tryz.sizeOf60 rfl (j := 7) rfl (part_agO (ψs := [sv t215, bv (t216.1 == 0), iv .i64 0, pv x220.1, bv t221.1.Neg, sv t221.1.Name]) rfl ⟨.inl sv_at, .inl bv_at, .inl iv_at, .inr ⟨_, _, _, _, _, 6, rfl, rfl⟩, .inl bv_at, .inl sv_at, trivial⟩) rfl rfl rfl) (fun _ => ?_)
      refine l_nil ?_
      refine b_of (nrm [oc b_0 [slv (rI .i64) t221.2.L, iv .i64 t221.2.At], oc b1 [pv (.slice none 0 0), pv (.slice none 0 0), pv (.slice none 0 0)], oc b2 [pv y129.1, pv x213.1, pv (.slice none 0 0)], oa rT_api_Premise y129.1 y129.2 q128.2, oa rT_api_Rule x213.1 x213.2 s212.2.2, dead, oa rT_api_Literal x220.1 x220.2 t219, oc b222 [sv t215, bv (t216.1 == 0), iv .i64 0, pv x220.1, bv t221.1.Neg, sv t221.1.Name]] rfl) ?_
      refine n_then (ref_seq ?_)
      refine ref_join (fun (j225 : T_deliberationkeep_Src × Int) (x226 : Unit) => [(0, pv (ptr b_0 0)), (1, iv .i64 n_1), (3, iv .i64 rules_3), (8, pv (ptr b1 0)), (9, pv (ptr b2 0)), (15, iv .i64 s212.1), (16, pv (ptr b222 0))]) (fun (j225 : T_deliberationkeep_Src × Int) (x226 : Unit) => [oc b_0 [slv (rI .i64) j225.1.L, iv .i64 j225.1.At], oc b1 [pv (.slice none 0 0), pv (.slice none 0 0), pv (.slice none 0 0)], oc b2 [pv y129.1, pv x213.1, pv (.slice none 0 0)], oa rT_api_Premise y129.1 y129.2 q128.2, oa rT_api_Rule x213.1 x213.2 s212.2.2, oc b222 [sv t215, bv (t216.1 == 0), iv .i64 j225.2, pv x220.1, bv t221.1.Neg, sv t221.1.Name], oa rT_api_Literal x220.1 x220.2 t219]) (fun k227 hk227 => ?_) (fun j225 x226 => ?_)
      · refine ref_seq (ref_region ?_)
        refine s_rd (r_faddr (fo := 1) Tryz.underlying60 rfl rfl Tryz.sizeOf4 rfl) rfl ?_
        refine s_rd (r_cload Tryz.isAgg4 rfl (j := 7) rfl rfl) rfl ?_
        refine s_rd (r_not rfl) rfl ?_
        refine l_nil (n_then ?_)
        refine ref_cond rfl (fun hb223 => ?_) (fun hb223 => ?_)
        · refine ref_region ?_
          refine mv1 rfl rfl ?_
          refine pull fun t224 h_t224 => ?_
          refine s_st (s_callC [0] [true] (fun (_ : Unit) => [oc b_0 [slv (rI .i64) t224.2.L, iv .i64 t224.2.At]]) (fun (_ : Unit) => []) (fun (_ : Unit) => iv .i64 t224.1) (args := [.tmp 93, .const (.int .i64 (4))]) (caps := []) Tryz.call33 rfl (keep_Src_N_ok h_t224) ⟨rfl, rfl, trivial⟩ (fun _ => rfl) (fun _ => trivial) (fun _ => rfl) ⟨arg rfl, arg rfl, trivial⟩ (fun _ _ _ _ h => h)) rfl (fun _ => ?_)
          refine s_rd (r_faddr (fo := 2) Tryz.underlying60 rfl rfl Tryz.sizeOf3 rfl) rfl ?_
          refine s_st0 (s_cstore (out := [sv t215, bv (t216.1 == 0), iv .i64 t224.1, pv x220.1, bv t221.1.Neg, sv t221.1.Name]) Tryz.sizeOf3 rfl (j := 7) rfl (part_at rfl iv_at) rfl rfl rfl) (fun _ => ?_)
          refine l_nil ?_
          exact b_to (hk227 (t224.2, t224.1) ()) (weak [0, 1, 2, 3, 4, 7, 6] ⟨rfl, rfl, rfl, rfl, rfl, rfl, rfl, trivial⟩ ⟨rfl, rfl, rfl, rfl, rfl, rfl, rfl, trivial⟩)
        refine ref_skip ?_
        exact b_to (hk227 (t221.2, 0) ()) (weak [0, 1, 2, 3, 4, 7, 6] ⟨rfl, rfl, rfl, rfl, rfl, rfl, rfl, trivial⟩ ⟨rfl, rfl, rfl, rfl, rfl, rfl, rfl, trivial⟩)
      refine n_then (ref_seq ?_)
      refine ref_join (fun (j233 : T_deliberationkeep_Src × Bool × ByteArray) (x234 : Unit) => [(0, pv (ptr b_0 0)), (1, iv .i64 n_1), (3, iv .i64 rules_3), (8, pv (ptr b1 0)), (9, pv (ptr b2 0)), (15, iv .i64 s212.1), (16, pv (ptr b222 0))]) (fun (j233 : T_deliberationkeep_Src × Bool × ByteArray) (x234 : Unit) => [oc b_0 [slv (rI .i64) j233.1.L, iv .i64 j233.1.At], oc b1 [pv (.slice none 0 0), pv (.slice none 0 0), pv (.slice none 0 0)], oc b2 [pv y129.1, pv x213.1, pv (.slice none 0 0)], oa rT_api_Premise y129.1 y129.2 q128.2, oa rT_api_Rule x213.1 x213.2 s212.2.2, oc b222 [sv t215, bv (t216.1 == 0), iv .i64 j225.2, pv x220.1, bv j233.2.1, sv j233.2.2], oa rT_api_Literal x220.1 x220.2 t219]) (fun k235 hk235 => ?_) (fun j233 x234 => ?_)
      · refine ref_seq (ref_region ?_)
        refine mv1 rfl rfl ?_
        refine pull fun t228 h_t228 => ?_
        refine s_st (s_callC [0] [true] (fun (_ : Unit) => [oc b_0 [slv (rI .i64) t228.2.L, iv .i64 t228.2.At]]) (fun (_ : Unit) => []) (fun (_ : Unit) => iv .i64 t228.1) (args := [.tmp 96, .const (.int .i64 (6))]) (caps := []) Tryz.call33 rfl (keep_Src_N_ok h_t228) ⟨rfl, rfl, trivial⟩ (fun _ => rfl) (fun _ => trivial) (fun _ => rfl) ⟨arg rfl, arg rfl, trivial⟩ (fun _ _ _ _ h => h)) rfl (fun _ => ?_)
        refine s_rd (r_eql rfl rfl) rfl ?_
        refine l_nil (n_then ?_)
        refine ref_cond rfl (fun hb229 => ?_) (fun hb229 => ?_)
        · refine ref_region ?_
          refine mv1 rfl rfl ?_
          refine pull fun t230 h_t230 => ?_
          refine s_st (s_callC [0] [true] (fun (_ : Unit) => [oc b_0 [slv (rI .i64) t230.2.L, iv .i64 t230.2.At]]) (fun (_ : Unit) => []) (fun (_ : Unit) => iv .i64 t230.1) (args := [.tmp 99, .const (.int .i64 (4))]) (caps := []) Tryz.call33 rfl (keep_Src_N_ok h_t230) ⟨rfl, rfl, trivial⟩ (fun _ => rfl) (fun _ => trivial) (fun _ => rfl) ⟨arg rfl, arg rfl, trivial⟩ (fun _ _ _ _ h => h)) rfl (fun _ => ?_)
          refine s_rd (r_gtr rfl rfl) rfl ?_
          refine mv1 rfl rfl ?_
          refine mv1 rfl rfl ?_
          refine pull fun t231 h_t231 => ?_
          refine s_st (s_callC [0] [true] (fun (_ : Unit) => [oc b_0 [slv (rI .i64) t231.2.L, iv .i64 t231.2.At]]) (fun (_ : Unit) => []) (fun (_ : Unit) => iv .i64 t231.1) (args := [.tmp 102, .tmp 103]) (caps := []) Tryz.call33 rfl (keep_Src_N_ok h_t231) ⟨rfl, rfl, trivial⟩ (fun _ => rfl) (fun _ => trivial) (fun _ => rfl) ⟨arg rfl, arg rfl, trivial⟩ (fun _ _ _ _ h => h)) rfl (fun _ => ?_)
          refine pull fun t232 h_t232 => ?_
          refine s_st (s_call (ψ := fun (_ : Unit) => sv t232) (args := [.tmp 104]) Tryz.call36 rfl (keep_RuleName_ok h_t232) ⟨arg rfl, trivial⟩ (fun _ _ _ _ h => h)) rfl (fun _ => ?_)
          refine s_rd (r_build (ps := [(0, .tmp 101), (1, .tmp 105)]) (rs := [(0, [bv (decide (t230.1 > 0))]), (1, [sv t232])]) st_29 zs_29 ⟨rfl, (part_at rfl bv_at), ⟨rfl, (part_at rfl sv_at), trivial⟩⟩ rfl rfl) rfl ?_
          refine s_rd (r_faddr (fo := 4) Tryz.underlying60 rfl rfl Tryz.sizeOf29 rfl) rfl ?_
          refine s_st0 (s_cstore (out := [sv t215, bv (t216.1 == 0), iv .i64 j225.2, pv x220.1, bv (decide (t230.1 > 0)), sv t232]) Tryz.sizeOf29 rfl (j := 5) rfl (part_agO (ψs := [bv (decide (t230.1 > 0)), sv t232]) rfl ⟨.inl bv_at, .inl sv_at, trivial⟩) rfl rfl rfl) (fun _ => ?_)
          refine l_nil ?_
          refine b_of (nrm [oc b_0 [slv (rI .i64) t231.2.L, iv .i64 t231.2.At], oc b1 [pv (.slice none 0 0), pv (.slice none 0 0), pv (.slice none 0 0)], oc b2 [pv y129.1, pv x213.1, pv (.slice none 0 0)], oa rT_api_Premise y129.1 y129.2 q128.2, oa rT_api_Rule x213.1 x213.2 s212.2.2, oc b222 [sv t215, bv (t216.1 == 0), iv .i64 j225.2, pv x220.1, bv (decide (t230.1 > 0)), sv t232], oa rT_api_Literal x220.1 x220.2 t219] rfl) ?_
          exact b_to (hk235 (t231.2, decide (t230.1 > 0), t232) ()) (weak [0, 1, 2, 3, 4, 5, 6] ⟨rfl, rfl, rfl, rfl, rfl, rfl, rfl, trivial⟩ ⟨rfl, rfl, rfl, rfl, rfl, rfl, rfl, trivial⟩)
        refine ref_skip ?_
        exact b_to (hk235 (t228.2, t221.1.Neg, t221.1.Name) ()) (weak [0, 1, 2, 3, 4, 5, 6] ⟨rfl, rfl, rfl, rfl, rfl, rfl, rfl, trivial⟩ ⟨rfl, rfl, rfl, rfl, rfl, rfl, rfl, trivial⟩)
      refine n_then (ref_region ?_)
      refine s_rd (r_faddr (fo := 1) Tryz.underlying26 rfl rfl Tryz.sizeOf23 rfl) rfl ?_
      refine s_rd (r_cload Tryz.isAgg23 rfl (j := 2) rfl rfl) rfl ?_
      refine s_rd (r_cloadS Tryz.isAgg60 Tryz.sizeOf60 rfl (j := 5) rfl rfl rfl) rfl ?_
      refine b_of (frzGL [(110, ag [sv t215, bv (t216.1 == 0), iv .i64 j225.2, slv rT_api_Literal t219, bv j233.2.1, sv j233.2.2])] [(5, b222, [sv t215, bv (t216.1 == 0), iv .i64 j225.2, slv rT_api_Literal t219, bv j233.2.1, sv j233.2.2])] (j := 6) rfl ⟨⟨_, rfl, .inr ⟨_, _, rfl, rfl, ⟨.inl rfl, .inl rfl, .inl rfl, .inr ⟨rfl, rfl⟩, .inl rfl, .inl rfl, trivial⟩⟩⟩, trivial⟩ ⟨⟨_, rfl, ⟨.inl rfl, .inl rfl, .inl rfl, .inr ⟨rfl, rfl⟩, .inl rfl, .inl rfl, trivial⟩⟩, trivial⟩) ?_
      refine s_st (s_bslice (xs := [.tmp 110]) (ds := [(T_api_Rule.mk t215 (t216.1 == 0) j225.2 t219 (T_api_Literal.mk j233.2.1 j233.2.2))]) Tryz.underlying23 el_60 rfl (Nat.le_of_ble_eq_true rfl) ⟨(part_agO (ψs := [sv t215, bv (t216.1 == 0), iv .i64 j225.2, slv rT_api_Literal t219, bv j233.2.1, sv j233.2.2]) rfl ⟨.inl sv_at, .inl bv_at, .inl iv_at, .inl slv_at, .inl bv_at, .inl sv_at, trivial⟩), trivial⟩) rfl (fun _ => ?_)
      refine pull fun t236 h_t236 => ?_
      refine s_st (s_append h_t236 Tryz.underlying23 el_60 rfl (j := 4) rfl rfl) rfl (fun o237 => ?_)
      refine s_rd (r_faddr (fo := 1) Tryz.underlying26 rfl rfl Tryz.sizeOf23 rfl) rfl ?_
      refine s_st0 (s_cstore (out := [pv y129.1, pv o237.1, pv (.slice none 0 0)]) Tryz.sizeOf23 rfl (j := 2) rfl (part_own rfl (j := 4) rfl) rfl rfl rfl) (fun _ => ?_)
      refine l_nil (n_block (n_then (ref_region ?_)))
      refine mv1 rfl rfl ?_
      refine s_rd (r_sub rfl rfl) rfl ?_
      refine as1 rfl rfl ?_
      refine b_let (f := iv .i64) (t := 15) rfl fun k238 => ?_
      refine l_nil ?_
      exact goB o237 (weak [0, 1, 2, 3, 4] ⟨rfl, rfl, rfl, rfl, rfl, rfl, trivial⟩ ⟨rfl, rfl, rfl, rfl, rfl, trivial⟩)
    refine ref_exit (x_then ?_)
    exact brkB x213 (weak [0, 1, 2, 3, 4] ⟨rfl, rfl, rfl, rfl, trivial⟩ ⟨rfl, rfl, rfl, rfl, rfl, trivial⟩)
  refine n_then (ref_seq (ref_seq (ref_region ?_)))
  refine mv1 rfl rfl ?_
  refine pull fun k241 h_k241 => ?_
  refine s_st (s_callC [0] [true] (fun (_ : Unit) => [oc b_0 [slv (rI .i64) k241.2.L, iv .i64 k241.2.At]]) (fun (_ : Unit) => []) (fun (_ : Unit) => iv .i64 k241.1) (args := [.tmp 114, .const (.int .i64 (3))]) (caps := []) Tryz.call33 rfl (keep_Src_N_ok h_k241) ⟨rfl, rfl, trivial⟩ (fun _ => rfl) (fun _ => trivial) (fun _ => rfl) ⟨arg rfl, arg rfl, trivial⟩ (fun _ _ _ _ h => h)) rfl (fun _ => ?_)
  refine as1 rfl rfl ?_
  refine l_nil (n_then ?_)
  refine b_of (own_nil rT_api_Promotion) ?_
  refine ref_loopB (f := (keep_Src_Base_l4 n_1 q239)) (Γl := (fun (s284 : Int × T_deliberationkeep_Src × (List T_api_Promotion)) (x285 : (Value × List Nat)) => [(0, pv (ptr b_0 0)), (1, iv .i64 n_1), (8, pv (ptr b1 0)), (9, pv (ptr b2 0)), (17, iv .i64 s284.1)])) (Ωl := (fun (s284 : Int × T_deliberationkeep_Src × (List T_api_Promotion)) (x285 : (Value × List Nat)) => [oc b_0 [slv (rI .i64) s284.2.1.L, iv .i64 s284.2.1.At], oc b1 [pv (.slice none 0 0), pv (.slice none 0 0), pv (.slice none 0 0)], oc b2 [pv y129.1, pv y240.1, pv x285.1], oa rT_api_Premise y129.1 y129.2 q128.2, oa rT_api_Rule y240.1 y240.2 q239.2, oa rT_api_Promotion x285.1 x285.2 s284.2.2])) (Γb := (fun (q298 : T_deliberationkeep_Src × (List T_api_Promotion)) (y299 : (Value × List Nat)) => [(0, pv (ptr b_0 0)), (8, pv (ptr b1 0)), (9, pv (ptr b2 0))])) (Ωb := (fun (q298 : T_deliberationkeep_Src × (List T_api_Promotion)) (y299 : (Value × List Nat)) => [oc b_0 [slv (rI .i64) q298.1.L, iv .i64 q298.1.At], oc b1 [pv (.slice none 0 0), pv (.slice none 0 0), pv (.slice none 0 0)], oc b2 [pv y129.1, pv y240.1, pv y299.1], oa rT_api_Premise y129.1 y129.2 q128.2, oa rT_api_Rule y240.1 y240.2 q239.2, oa rT_api_Promotion y299.1 y299.2 q298.2])) (k241.1, k241.2, []) ((.slice none 0 0), []) (weak [0, 1, 2, 3, 4, 5] ⟨rfl, rfl, rfl, rfl, rfl, trivial⟩ ⟨rfl, rfl, rfl, rfl, rfl, rfl, trivial⟩) (fun s284 x285 => ?_) (fun q298 y299 => ?_)
  · unfold keep_Src_Base_l4
    refine ref_seq (ref_seq (ref_region ?_))
    refine mv1 rfl rfl ?_
    refine s_rd (r_gtr rfl rfl) rfl ?_
    refine mv1 rfl rfl ?_
    refine b_split (t := 118) rfl (fun _ => ?_) (fun _ => ?_)
    · refine s_on rfl rfl rfl ?_
      refine s_rd (r_faddr (fo := 1) Tryz.underlying26 rfl rfl Tryz.sizeOf23 rfl) rfl ?_
      refine s_on rfl rfl rfl ?_
      refine s_rd (r_cload Tryz.isAgg23 rfl (j := 2) rfl rfl) rfl ?_
      refine s_on rfl rfl rfl ?_
      refine s_rd (r_olen Tryz.underlying23 rfl (j := 4) rfl) rfl ?_
      refine s_on rfl rfl rfl ?_
      refine s_rd (r_gtr rfl rfl) rfl ?_
      refine s_rd (r_pickT rfl rfl) rfl ?_
      refine l_nil (n_then ?_)
      refine ref_cond rfl (fun hb286 => ?_) (fun hb286 => ?_)
      · refine ref_skip (n_then (ref_seq (ref_block (ref_seq ?_))))
        refine pull fun t288 h_t288 => ?_
        refine pull fun t289 h_t289 => ?_
        refine ref_drawI 1 [⟨[], [], [], [], [], fun us u => pv (ptr b2 1), fun us u => []⟩, ⟨[0], [], [], [2], [], fun us u => pv y240.1, fun us u => []⟩, ⟨[], [], [], [], [], fun us u => pv (ptr b_0 0), fun us u => []⟩, ⟨[], [], [], [], [], fun us u => pv (ptr b2 1), fun us u => []⟩, ⟨[3], [], [], [2], [], fun us u => pv y240.1, fun us u => []⟩, ⟨[3, 4], [], [], [4], [], fun us u => iv .i64 (q239.2.length : Int), fun us u => []⟩, ⟨[2, 3, 4, 5], [], [0], [0], [0], fun us u => iv .i64 t288.1, fun us u => [oc b_0 [slv (rI .i64) t288.2.L, iv .i64 t288.2.At]]⟩, ⟨[0, 1, 2, 3, 4, 5, 6], [], [], [4], [], fun us u => pv (elA y240.1 (rT_api_Rule).size t288.1), fun us u => []⟩, ⟨[0, 1, 2, 3, 4, 5, 6, 7], [], [], [4], [], fun us u => ag [sv t289.Name, bv t289.Strict, iv .i64 t289.Rank, slv rT_api_Literal t289.Body, bv t289.Head.Neg, sv t289.Head.Name], fun us u => []⟩, ⟨[], [], [6], [6], [], fun us u => pv (ptr u.Nn 0), fun us u => [oc u.Nn [sv ByteArray.empty, bv false, iv .i64 0, pv (.slice none 0 0), bv false, sv ByteArray.empty]]⟩, ⟨[0, 1, 2, 3, 4, 5, 6, 7, 8, 9], [9], [6], [6], [6], fun us u => pv undef, fun us u => [oc (us.getD 0 .none).Nn [sv t289.Name, bv t289.Strict, iv .i64 t289.Rank, slv rT_api_Literal t289.Body, bv t289.Head.Neg, sv t289.Head.Name]]⟩] (fun χ287 => [(0, pv (ptr b_0 0)), (1, iv .i64 n_1), (8, pv (ptr b1 0)), (9, pv (ptr b2 0)), (17, iv .i64 s284.1), (18, pv (ptr (χ287 9).Nn 0)), (119, pv (ptr b2 1)), (120, pv y240.1), (121, iv .i64 (q239.2.length : Int)), (122, bv (decide ((q239.2.length : Int) > 0)))]) (fun χ287 => [oc b_0 [slv (rI .i64) t288.2.L, iv .i64 t288.2.At], oc b1 [pv (.slice none 0 0), pv (.slice none 0 0), pv (.slice none 0 0)], oc b2 [pv y129.1, pv y240.1, pv x285.1], oa rT_api_Premise y129.1 y129.2 q128.2, oa rT_api_Rule y240.1 y240.2 q239.2, oa rT_api_Promotion x285.1 x285.2 s284.2.2, oc (χ287 9).Nn [sv t289.Name, bv t289.Strict, iv .i64 t289.Rank, slv rT_api_Literal t289.Body, bv t289.Head.Neg, sv t289.Head.Name]]) rfl (by kernel_rfl) ⟨fun χ287 Ω _ => St.toR (r_faddr (fo := 1) Tryz.underlying26 rfl rfl Tryz.sizeOf23 rfl) (fun _ => rfl) (fun _ => rfl), (by intro _ h; cases h; rfl), ⟨fun χ287 Ω ⟨h2, _⟩ => St.toR (r_cload Tryz.isAgg23 rfl (j := 2) h2 rfl) (fun _ => rfl) (fun _ => rfl), (by intro _ h; cases h; rfl), ⟨fun χ287 Ω _ => St.toR (r_move rfl) (fun _ => rfl) (fun _ => rfl), (by intro _ h; cases h; rfl), ⟨fun χ287 Ω _ => St.toR (r_faddr (fo := 1) Tryz.underlying26 rfl rfl Tryz.sizeOf23 rfl) (fun _ => rfl) (fun _ => rfl), (by intro _ h; cases h; rfl), ⟨fun χ287 Ω ⟨h2, _⟩ => St.toR (r_cload Tryz.isAgg23 rfl (j := 2) h2 rfl) (fun _ => rfl) (fun _ => rfl), (by intro _ h; cases h; rfl), ⟨fun χ287 Ω ⟨h4, _⟩ => St.toR (r_olen Tryz.underlying23 rfl (j := 4) h4) (fun _ => rfl) (fun _ => rfl), (by intro _ h; cases h; rfl), ⟨fun χ287 Ω ⟨h0, _⟩ => St.to XU.U XU.hU (St.placeL [] (s_callC [0] [true] (fun (_ : Unit) => [oc b_0 [slv (rI .i64) t288.2.L, iv .i64 t288.2.At]]) (fun (_ : Unit) => []) (fun (_ : Unit) => iv .i64 t288.1) (args := [.tmp 128, .tmp 131]) (caps := []) Tryz.call33 rfl (keep_Src_N_ok h_t288) ⟨h0, rfl, trivial⟩ (fun _ => rfl) (fun _ => trivial) (fun _ => rfl) ⟨arg rfl, arg rfl, trivial⟩ (fun _ _ _ _ h => h)) (fun _ => rfl) (fun _ => trivial)) (fun _ => rfl) (fun _ => rfl), (by intro _ h; cases h; rfl), ⟨fun χ287 Ω ⟨h4, _⟩ => St.toR (r_oindex h_t289 Tryz.underlying23 el_60 rfl (j := 4) h4 rfl) (fun _ => rfl) (fun _ => rfl), (by intro _ h; cases h; rfl), ⟨fun χ287 Ω ⟨h4, _⟩ => St.toR (r_oload h_t289 el_60 rfl (j := 4) h4) (fun _ => rfl) (fun _ => rfl), (by intro _ h; cases h; rfl), ⟨fun χ287 Ω ⟨h6, _⟩ => St.to XU.Nn XU.hN (St.placeL (os := fun _ => [_]) [6] (s_alloc zt_60) (fun _ => rfl) (fun _ => ⟨h6, rfl, trivial⟩)) (fun _ => rfl) (fun _ => rfl), (by intro _ h; cases h; rfl), ⟨fun χ287 Ω ⟨h6, _⟩ => St.to XU.U XU.hU (s_cstore (out := [sv t289.Name, bv t289.Strict, iv .i64 t289.Rank, slv rT_api_Literal t289.Body, bv t289.Head.Neg, sv t289.Head.Name]) Tryz.sizeOf60 rfl (j := 6) h6 (part_agO (ψs := [sv t289.Name, bv t289.Strict, iv .i64 t289.Rank, slv rT_api_Literal t289.Body, bv t289.Head.Neg, sv t289.Head.Name]) rfl ⟨.inl sv_at, .inl bv_at, .inl iv_at, .inl slv_at, .inl bv_at, .inl sv_at, trivial⟩) rfl rfl rfl) (fun _ => rfl) (fun _ => rfl), (by intro _ h; cases h), trivial⟩⟩⟩⟩⟩⟩⟩⟩⟩⟩⟩ (fun _ => ⟨rfl, rfl, rfl, rfl, rfl, rfl, rfl, rfl, rfl, rfl, trivial⟩) (fun _ => rfl) (fun χ287 => ?_)
        refine n_then (ref_seq (ref_region ?_))
        refine s_rd (r_faddr (fo := 1) Tryz.underlying60 rfl rfl Tryz.sizeOf4 rfl) rfl ?_
        refine s_rd (r_cload Tryz.isAgg4 rfl (j := 6) rfl rfl) rfl ?_
        refine s_rd (r_not rfl) rfl ?_
        refine l_nil (n_then ?_)
        refine ref_cond rfl (fun hb291 => ?_) (fun hb291 => ?_)
        · refine ref_draw [0, 1, 2, 3, 4, 6, 7, 9, 12] rfl (by kernel_rfl) (fun hok => ?_)
          refine a_rd (i := 0) hok rfl (by kernel_rfl) rfl (r_faddr (fo := 2) Tryz.underlying26 rfl rfl Tryz.sizeOf24 rfl) rfl ?_
          refine a_rd (i := 1) hok rfl (by kernel_rfl) rfl (r_cload Tryz.isAgg24 rfl (j := 2) rfl rfl) rfl ?_
          refine a_rd (i := 2) hok rfl (by kernel_rfl) rfl (r_faddr (fo := 0) Tryz.underlying60 rfl rfl Tryz.sizeOf9 rfl) rfl ?_
          refine a_rd (i := 3) hok rfl (by kernel_rfl) rfl (r_cload Tryz.isAgg9 rfl (j := 6) rfl rfl) rfl ?_
          refine a_rd (i := 4) hok rfl (by kernel_rfl) rfl (r_move rfl) rfl ?_
          refine a_rd (i := 6) hok rfl (by kernel_rfl) rfl (r_move rfl) rfl ?_
          refine a_rd (i := 7) hok rfl (by kernel_rfl) rfl (r_move rfl) rfl ?_
          refine pull fun t292 h_t292 => ?_
          refine a_next hok 5 [] (by kernel_rfl) ?_ trivial
          refine a_st (i := 5) hok rfl rfl (s_callC [0] [true] (fun (_ : Unit) => [oc b_0 [slv (rI .i64) t292.2.L, iv .i64 t292.2.At]]) (fun (_ : Unit) => []) (fun (_ : Unit) => iv .i64 t292.1) (args := [.tmp 142, .const (.int .i64 (10))]) (caps := []) Tryz.call33 rfl (keep_Src_N_ok h_t292) ⟨rfl, rfl, trivial⟩ (fun _ => rfl) (fun _ => trivial) (fun _ => rfl) ⟨arg rfl, arg rfl, trivial⟩ (fun _ _ _ _ h => h)) (by intro _ h; cases h; rfl) (fun _ => ⟨trivial, ⟨trivial, ⟨trivial, ⟨⟨⟨rfl, rfl⟩, trivial⟩, ⟨trivial, ⟨⟨⟨rfl, rfl⟩, trivial⟩, ⟨trivial, trivial⟩⟩⟩⟩⟩⟩⟩) (fun _ => ?_)
          refine pull fun t293 h_t293 => ?_
          refine a_next hok 8 [] (by kernel_rfl) ?_ trivial
          refine a_st (i := 8) hok rfl rfl (s_callC [0] [true] (fun (_ : Unit) => [oc b_0 [slv (rI .i64) t293.2.L, iv .i64 t293.2.At]]) (fun (_ : Unit) => []) (fun (_ : Unit) => ag [bv t293.1.Neg, sv t293.1.Name]) (args := [.tmp 144, .tmp 145]) (caps := []) Tryz.call17 rfl (keep_Src_Literal_ok h_t293) ⟨rfl, rfl, trivial⟩ (fun _ => rfl) (fun _ => trivial) (fun _ => rfl) ⟨arg rfl, arg rfl, trivial⟩ (fun _ _ _ _ h => h)) (by intro _ h; cases h; rfl) (fun _ => ⟨trivial, ⟨trivial, ⟨trivial, ⟨⟨⟨rfl, rfl⟩, trivial⟩, ⟨trivial, ⟨⟨⟨rfl, rfl⟩, trivial⟩, ⟨trivial, trivial⟩⟩⟩⟩⟩⟩⟩) (fun _ => ?_)
          refine a_rd (i := 9) hok rfl (by kernel_rfl) rfl (r_build (ps := [(0, .tmp 141), (1, .tmp 143), (2, .tmp 146)]) (rs := [(0, [sv t289.Name]), (1, [iv .i64 t292.1]), (2, [bv t293.1.Neg, sv t293.1.Name])]) st_62 zs_62 ⟨rfl, (part_at rfl sv_at), ⟨rfl, (part_at rfl iv_at), ⟨rfl, (part_agO (ψs := [bv t293.1.Neg, sv t293.1.Name]) rfl ⟨.inl bv_at, .inl sv_at, trivial⟩), trivial⟩⟩⟩ rfl rfl) rfl ?_
          refine a_next hok 10 [] (by kernel_rfl) ?_ trivial
          refine a_st (i := 10) hok rfl rfl (s_bslice (xs := [.tmp 147]) (ds := [(T_api_Promotion.mk t289.Name t292.1 t293.1)]) Tryz.underlying24 el_62 rfl (Nat.le_of_ble_eq_true rfl) ⟨(part_agO (ψs := [sv t289.Name, iv .i64 t292.1, bv t293.1.Neg, sv t293.1.Name]) rfl ⟨.inl sv_at, .inl iv_at, .inl bv_at, .inl sv_at, trivial⟩), trivial⟩) (by intro _ h; cases h; rfl) (fun _ => ⟨trivial, ⟨trivial, ⟨trivial, ⟨trivial, ⟨⟨⟨rfl, rfl⟩, trivial⟩, ⟨trivial, ⟨⟨⟨rfl, rfl⟩, trivial⟩, ⟨trivial, trivial⟩⟩⟩⟩⟩⟩⟩⟩) (fun _ => ?_)
          refine pull fun t294 h_t294 => ?_
          refine a_next hok 11 [] (by kernel_rfl) ?_ trivial
          refine a_st (i := 11) hok rfl rfl (s_append h_t294 Tryz.underlying24 el_62 rfl (j := 5) rfl rfl) (by intro _ h; cases h; rfl) (fun _ => ⟨trivial, ⟨trivial, ⟨trivial, ⟨trivial, ⟨⟨⟨rfl, rfl⟩, trivial⟩, ⟨trivial, ⟨trivial, ⟨trivial, trivial⟩⟩⟩⟩⟩⟩⟩⟩) (fun o295 => ?_)
          refine a_rd (i := 12) hok rfl (by kernel_rfl) rfl (r_faddr (fo := 2) Tryz.underlying26 rfl rfl Tryz.sizeOf24 rfl) rfl ?_
          refine a_next hok 13 [] (by kernel_rfl) ?_ trivial
          refine a_st (i := 13) hok rfl rfl (s_cstore (out := [pv y129.1, pv y240.1, pv o295.1]) Tryz.sizeOf24 rfl (j := 2) rfl (part_own rfl (j := 5) rfl) rfl rfl rfl) (by intro _ h; cases h) (fun _ => ⟨trivial, ⟨trivial, ⟨trivial, ⟨trivial, ⟨trivial, ⟨trivial, ⟨trivial, ⟨trivial, ⟨trivial, trivial⟩⟩⟩⟩⟩⟩⟩⟩⟩) (fun _ => ?_)
          refine a_fin hok (by kernel_rfl) ?_
          refine b_of (nrm [oc b_0 [slv (rI .i64) t293.2.L, iv .i64 t293.2.At], oc b1 [pv (.slice none 0 0), pv (.slice none 0 0), pv (.slice none 0 0)], oc b2 [pv y129.1, pv y240.1, pv o295.1], oa rT_api_Premise y129.1 y129.2 q128.2, oa rT_api_Rule y240.1 y240.2 q239.2, oa rT_api_Promotion o295.1 o295.2 t294, oc (χ287 9).Nn [sv t289.Name, bv t289.Strict, iv .i64 t289.Rank, slv rT_api_Literal t289.Body, bv t289.Head.Neg, sv t289.Head.Name]] rfl) ?_
          refine n_block (n_then (ref_region ?_))
          refine mv1 rfl rfl ?_
          refine s_rd (r_sub rfl rfl) rfl ?_
          refine as1 rfl rfl ?_
          refine b_let (f := iv .i64) (t := 17) rfl fun k296 => ?_
          refine l_nil ?_
          exact goB o295 (weak [0, 1, 2, 3, 4, 5] ⟨rfl, rfl, rfl, rfl, rfl, trivial⟩ ⟨rfl, rfl, rfl, rfl, rfl, rfl, trivial⟩)
        refine ref_skip (n_block (n_then (ref_region ?_)))
        refine mv1 rfl rfl ?_
        refine s_rd (r_sub rfl rfl) rfl ?_
        refine as1 rfl rfl ?_
        refine b_let (f := iv .i64) (t := 17) rfl fun k297 => ?_
        refine l_nil ?_
        exact goB x285 (weak [0, 1, 2, 3, 4, 5] ⟨rfl, rfl, rfl, rfl, rfl, trivial⟩ ⟨rfl, rfl, rfl, rfl, rfl, rfl, trivial⟩)
      refine ref_exit (x_then ?_)
      exact brkB x285 (weak [0, 1, 2, 3, 4, 5] ⟨rfl, rfl, rfl, trivial⟩ ⟨rfl, rfl, rfl, rfl, rfl, rfl, trivial⟩)
    refine s_off rfl rfl rfl rfl rfl ?_
    refine s_off rfl rfl rfl rfl rfl ?_
    refine s_off rfl rfl rfl rfl rfl ?_
    refine s_off rfl rfl rfl rfl rfl ?_
    refine s_rd (r_pickF rfl rfl) rfl ?_
    refine l_nil (n_then ?_)
    refine ref_condF rfl rfl ?_
    refine ref_exit (x_then ?_)
    exact brkB x285 (weak [0, 1, 2, 3, 4, 5] ⟨rfl, rfl, rfl, trivial⟩ ⟨rfl, rfl, rfl, rfl, rfl, rfl, trivial⟩)
  refine n_then (ref_seq (ref_region ?_))
  refine s_rd (r_cloadS Tryz.isAgg26 Tryz.sizeOf26 rfl (j := 2) rfl rfl rfl) rfl ?_
  refine s_st0 (s_cstore (out := [pv y129.1, pv y240.1, pv y299.1]) Tryz.sizeOf26 rfl (j := 1) rfl (part_agO (ψs := [pv y129.1, pv y240.1, pv y299.1]) rfl ⟨.inr ⟨_, _, _, _, _, 3, rfl, rfl⟩, .inr ⟨_, _, _, _, _, 4, rfl, rfl⟩, .inr ⟨_, _, _, _, _, 5, rfl, rfl⟩, trivial⟩) rfl rfl rfl) (fun _ => ?_)
  refine l_nil (n_then (ref_ret ?_))
  refine b_of (frzGL [(151, ag [slv rT_api_Premise q128.2, pv y240.1, pv y299.1])] [(1, b1, [slv rT_api_Premise q128.2, pv y240.1, pv y299.1]), (2, b2, [slv rT_api_Premise q128.2, pv y240.1, pv y299.1])] (j := 3) rfl ⟨⟨_, rfl, .inr ⟨_, _, rfl, rfl, ⟨.inr ⟨rfl, rfl⟩, .inl rfl, .inl rfl, trivial⟩⟩⟩, trivial⟩ ⟨⟨_, rfl, ⟨.inr ⟨rfl, rfl⟩, .inl rfl, .inl rfl, trivial⟩⟩, ⟨_, rfl, ⟨.inr ⟨rfl, rfl⟩, .inl rfl, .inl rfl, trivial⟩⟩, trivial⟩) ?_
  refine b_of (nrm [oc b_0 [slv (rI .i64) q298.1.L, iv .i64 q298.1.At], oc b1 [slv rT_api_Premise q128.2, pv y240.1, pv y299.1], oc b2 [slv rT_api_Premise q128.2, pv y240.1, pv y299.1], dead, oa rT_api_Rule y240.1 y240.2 q239.2, oa rT_api_Promotion y299.1 y299.2 q298.2] rfl) ?_
  refine b_of (frzGL [(151, ag [slv rT_api_Premise q128.2, pv y240.1, slv rT_api_Promotion q298.2])] [(1, b1, [slv rT_api_Premise q128.2, pv y240.1, slv rT_api_Promotion q298.2]), (2, b2, [slv rT_api_Premise q128.2, pv y240.1, slv rT_api_Promotion q298.2])] (j := 5) rfl ⟨⟨_, rfl, .inr ⟨_, _, rfl, rfl, ⟨.inl rfl, .inl rfl, .inr ⟨rfl, rfl⟩, trivial⟩⟩⟩, trivial⟩ ⟨⟨_, rfl, ⟨.inl rfl, .inl rfl, .inr ⟨rfl, rfl⟩, trivial⟩⟩, ⟨_, rfl, ⟨.inl rfl, .inl rfl, .inr ⟨rfl, rfl⟩, trivial⟩⟩, trivial⟩) ?_
  refine b_of (nrm [oc b_0 [slv (rI .i64) q298.1.L, iv .i64 q298.1.At], oc b1 [slv rT_api_Premise q128.2, pv y240.1, slv rT_api_Promotion q298.2], oc b2 [slv rT_api_Premise q128.2, pv y240.1, slv rT_api_Promotion q298.2], dead, oa rT_api_Rule y240.1 y240.2 q239.2, dead] rfl) ?_
  exact fin1 (.inl rfl) y240 [0, 4] rfl ⟨rfl, rfl, trivial⟩ rfl (rv_cell rfl (j := 1) rfl Tryz.isAgg26 Tryz.sizeOf26 rfl rfl)

/-! deliberation/deliberationref01.ValidName -/
noncomputable def ref01_ValidName_l1 (s_0 : ByteArray) (s21 : Int) : Option (Sum ((Sum (Bool) (Unit))) (Int)) :=
  bif decide (s21 < (s_0.size : Int)) then
    Option.bind (sidxM s_0 s21) fun t24 =>
    bif decide (t24 < 97) then
      Option.bind (sidxM s_0 s21) fun t25 =>
      bif decide (t25 < 48) then
        Option.bind (sidxM s_0 s21) fun t26 =>
        bif t26 != 95 then
          some (Sum.inl (Sum.inl false))
        else
          letM (iadd .i64 s21 1) fun i38 =>
          some (Sum.inr i38)
      else
        Option.bind (sidxM s_0 s21) fun t27 =>
        bif decide (t27 > 57) then
          Option.bind (sidxM s_0 s21) fun t28 =>
          bif t28 != 95 then
            some (Sum.inl (Sum.inl false))
          else
            letM (iadd .i64 s21 1) fun i39 =>
            some (Sum.inr i39)
        else
          letM (iadd .i64 s21 1) fun i40 =>
          some (Sum.inr i40)
    else
      Option.bind (sidxM s_0 s21) fun t29 =>
      bif decide (t29 > 122) then
        Option.bind (sidxM s_0 s21) fun t30 =>
        bif decide (t30 < 48) then
          Option.bind (sidxM s_0 s21) fun t31 =>
          bif t31 != 95 then
            some (Sum.inl (Sum.inl false))
          else
            letM (iadd .i64 s21 1) fun i41 =>
            some (Sum.inr i41)
        else
          Option.bind (sidxM s_0 s21) fun t32 =>
          bif decide (t32 > 57) then
            Option.bind (sidxM s_0 s21) fun t33 =>
            bif t33 != 95 then
              some (Sum.inl (Sum.inl false))
            else
              letM (iadd .i64 s21 1) fun i42 =>
              some (Sum.inr i42)
          else
            letM (iadd .i64 s21 1) fun i43 =>
            some (Sum.inr i43)
      else
        letM (iadd .i64 s21 1) fun i44 =>
        some (Sum.inr i44)
  else
    some (Sum.inl (Sum.inr ()))

noncomputable def ref01_ValidName_m (s_0 : ByteArray) : Option (Bool) :=
  bif decide ((s_0.size : Int) < 1) then
    some false
  else
    bif decide ((s_0.size : Int) > 12) then
      some false
    else
      Option.bind (sidxM s_0 0) fun t1 =>
      bif decide (t1 < 97) then
        some false
      else
        Option.bind (sidxM s_0 0) fun t2 =>
        bif decide (t2 > 122) then
          some false
        else
          Option.bind (loopC (ref01_ValidName_l1 s_0) 0) (sumK (fun a : Bool => some a) fun q45 : Unit =>
            some true)

theorem ref01_ValidName_ok {s_0 : ByteArray} {r : Bool} (hm : ref01_ValidName_m s_0 = some r) :
    FnOk prog 100 [sv s_0] [] (fun (x : Unit) => [bv r]) (fun (x : Unit) => []) := by
  refine fn_ok (fn := Tryz.f100) (N := 56) (res := fun r x => [bv r]) (Ω1 := fun r x => []) Tryz.func100 rfl rfl hm rfl (fun E hM => ?_)
  unfold ref01_ValidName_m
  refine ref_seq (ref_region ?_)
  refine as1 rfl rfl ?_
  refine l_nil (n_then (ref_seq (ref_seq (ref_region ?_))))
  refine mv1 rfl rfl ?_
  refine s_rd (r_slen Tryz.underlying9 rfl) rfl ?_
  refine s_rd (r_lss rfl rfl) rfl ?_
  refine mv1 rfl rfl ?_
  refine b_split (t := 7) rfl (fun _ => ?_) (fun _ => ?_)
  · refine s_off rfl rfl rfl rfl rfl ?_
    refine s_off rfl rfl rfl rfl rfl ?_
    refine s_off rfl rfl rfl rfl rfl ?_
    refine s_rd (r_pickT rfl rfl) rfl ?_
    refine mv1 rfl rfl ?_
    refine s_off rfl rfl rfl rfl rfl ?_
    refine s_off rfl rfl rfl rfl rfl ?_
    refine s_off rfl rfl rfl rfl rfl ?_
    refine s_rd (r_pickT rfl rfl) rfl ?_
    refine mv1 rfl rfl ?_
    refine s_off rfl rfl rfl rfl rfl ?_
    refine s_off rfl rfl rfl rfl rfl ?_
    refine s_off rfl rfl rfl rfl rfl ?_
    refine s_rd (r_pickT rfl rfl) rfl ?_
    refine l_nil (n_then ?_)
    refine ref_condT rfl rfl ?_
    refine ref_seq (ref_region ?_)
    refine as1 rfl rfl ?_
    refine l_nil (n_then (ref_ret (r_then ?_)))
    exact fin1 (.inl rfl) () [] rfl trivial rfl (rv_tmp rfl)
  refine s_on rfl rfl rfl ?_
  refine mv1 rfl rfl ?_
  refine s_on rfl rfl rfl ?_
  refine s_rd (r_slen Tryz.underlying9 rfl) rfl ?_
  refine s_on rfl rfl rfl ?_
  refine s_rd (r_gtr rfl rfl) rfl ?_
  refine s_rd (r_pickF rfl rfl) rfl ?_
  refine mv1 rfl rfl ?_
  refine b_split (t := 12) rfl (fun _ => ?_) (fun _ => ?_)
  · refine s_off rfl rfl rfl rfl rfl ?_
    refine s_off rfl rfl rfl rfl rfl ?_
    refine s_off rfl rfl rfl rfl rfl ?_
    refine s_rd (r_pickT rfl rfl) rfl ?_
    refine mv1 rfl rfl ?_
    refine s_off rfl rfl rfl rfl rfl ?_
    refine s_off rfl rfl rfl rfl rfl ?_
    refine s_off rfl rfl rfl rfl rfl ?_
    refine s_rd (r_pickT rfl rfl) rfl ?_
    refine l_nil (n_then ?_)
    refine ref_condT rfl rfl ?_
    refine ref_seq (ref_region ?_)
    refine as1 rfl rfl ?_
    refine l_nil (n_then (ref_ret (r_then ?_)))
    exact fin1 (.inl rfl) () [] rfl trivial rfl (rv_tmp rfl)
  refine s_on rfl rfl rfl ?_
  refine mv1 rfl rfl ?_
  refine s_on rfl rfl rfl ?_
  refine pull fun t1 h_t1 => ?_
  refine s_rd (r_sidx h_t1 Tryz.underlying9 rfl rfl) rfl ?_
  refine s_on rfl rfl rfl ?_
  refine s_rd (r_lss rfl rfl) rfl ?_
  refine s_rd (r_pickF rfl rfl) rfl ?_
  refine mv1 rfl rfl ?_
  refine b_split (t := 17) rfl (fun _ => ?_) (fun _ => ?_)
  · refine s_off rfl rfl rfl rfl rfl ?_
    refine s_off rfl rfl rfl rfl rfl ?_
    refine s_off rfl rfl rfl rfl rfl ?_
    refine s_rd (r_pickT rfl rfl) rfl ?_
    refine l_nil (n_then ?_)
    refine ref_condT rfl rfl ?_
    refine ref_seq (ref_region ?_)
    refine as1 rfl rfl ?_
    refine l_nil (n_then (ref_ret (r_then ?_)))
    exact fin1 (.inl rfl) () [] rfl trivial rfl (rv_tmp rfl)
  refine s_on rfl rfl rfl ?_
  refine mv1 rfl rfl ?_
  refine s_on rfl rfl rfl ?_
  refine pull fun t2 h_t2 => ?_
  refine s_rd (r_sidx h_t2 Tryz.underlying9 rfl rfl) rfl ?_
  refine s_on rfl rfl rfl ?_
  refine s_rd (r_gtr rfl rfl) rfl ?_
  refine s_rd (r_pickF rfl rfl) rfl ?_
  refine l_nil (n_then ?_)
  refine ref_cond rfl (fun hb3 => ?_) (fun hb3 => ?_)
  · refine ref_seq (ref_region ?_)
    refine as1 rfl rfl ?_
    refine l_nil (n_then (ref_ret (r_then ?_)))
    exact fin1 (.inl rfl) () [] rfl trivial rfl (rv_tmp rfl)
  refine ref_skip (n_then (ref_seq (ref_seq (ref_region ?_))))
  refine as1 rfl rfl ?_
  refine l_nil (n_then ?_)
  refine ref_loopX (f := (ref01_ValidName_l1 s_0)) (Γl := (fun (s21 : Int) (x22 : Unit) => [(0, sv s_0), (3, iv .i64 s21)])) (Ωl := (fun (s21 : Int) (x22 : Unit) => [])) (Γb := (fun (q45 : Unit) (y46 : Unit) => [])) (Ωb := (fun (q45 : Unit) (y46 : Unit) => [])) (kr := (fun a : Bool => some a)) 0 () (weak [] ⟨rfl, rfl, trivial⟩ trivial) (fun s21 x22 => ?_) (fun q45 y46 => ?_)
  · unfold ref01_ValidName_l1
    refine ref_seq (ref_seq (ref_region ?_))
    refine mv1 rfl rfl ?_
    refine mv1 rfl rfl ?_
    refine s_rd (r_slen Tryz.underlying9 rfl) rfl ?_
    refine s_rd (r_lss rfl rfl) rfl ?_
    refine l_nil (n_then ?_)
    refine ref_cond rfl (fun hb23 => ?_) (fun hb23 => ?_)
    · refine ref_skip (n_then (ref_seq (ref_block (ref_seq (ref_region ?_)))))
      refine mv1 rfl rfl ?_
      refine mv1 rfl rfl ?_
      refine pull fun t24 h_t24 => ?_
      refine s_rd (r_sidx h_t24 Tryz.underlying9 rfl rfl) rfl ?_
      refine s_rd (r_lss rfl rfl) rfl ?_
      refine mv1 rfl rfl ?_
      refine b_split (t := 32) rfl (fun _ => ?_) (fun _ => ?_)
      · refine s_off rfl rfl rfl rfl rfl ?_
        refine s_off rfl rfl rfl rfl rfl ?_
        refine s_off rfl rfl rfl rfl rfl ?_
        refine s_off rfl rfl rfl rfl rfl ?_
        refine s_rd (r_pickT rfl rfl) rfl ?_
        refine mv1 rfl rfl ?_
        refine s_on rfl rfl rfl ?_
        refine mv1 rfl rfl ?_
        refine s_on rfl rfl rfl ?_
        refine mv1 rfl rfl ?_
        refine s_on rfl rfl rfl ?_
        refine pull fun t25 h_t25 => ?_
        refine s_rd (r_sidx h_t25 Tryz.underlying9 rfl rfl) rfl ?_
        refine s_on rfl rfl rfl ?_
        refine s_rd (r_lss rfl rfl) rfl ?_
        refine s_on rfl rfl rfl ?_
        refine mv1 rfl rfl ?_
        refine b_split (t := 43) rfl (fun _ => ?_) (fun _ => ?_)
        · refine s_off rfl rfl rfl rfl rfl ?_
          refine s_off rfl rfl rfl rfl rfl ?_
          refine s_off rfl rfl rfl rfl rfl ?_
          refine s_off rfl rfl rfl rfl rfl ?_
          refine s_on rfl rfl rfl ?_
          refine s_rd (r_pickT rfl rfl) rfl ?_
          refine s_rd (r_pickT rfl rfl) rfl ?_
          refine mv1 rfl rfl ?_
          refine s_on rfl rfl rfl ?_
          refine mv1 rfl rfl ?_
          refine s_on rfl rfl rfl ?_
          refine mv1 rfl rfl ?_
          refine s_on rfl rfl rfl ?_
          refine pull fun t26 h_t26 => ?_
          refine s_rd (r_sidx h_t26 Tryz.underlying9 rfl rfl) rfl ?_
          refine s_on rfl rfl rfl ?_
          refine s_rd (r_neq rfl rfl) rfl ?_
          refine s_rd (r_pickT rfl rfl) rfl ?_
          refine l_nil (n_then ?_)
          refine ref_cond rfl (fun hb34 => ?_) (fun hb34 => ?_)
          · refine ref_seq (ref_region ?_)
            refine as1 rfl rfl ?_
            refine l_nil (n_then (ref_ret (r_block (r_then ?_))))
            refine retX ?_
            refine r_block (r_then ?_)
            exact fin1 (.inl rfl) () [] rfl trivial rfl (rv_tmp rfl)
          refine ref_skip (n_block (n_then (ref_region ?_)))
          refine mv1 rfl rfl ?_
          refine s_rd (r_add rfl rfl) rfl ?_
          refine as1 rfl rfl ?_
          refine b_let (f := iv .i64) (t := 3) rfl fun i38 => ?_
          refine l_nil ?_
          exact goX () (weak [] ⟨rfl, rfl, trivial⟩ trivial)
        refine s_on rfl rfl rfl ?_
        refine mv1 rfl rfl ?_
        refine s_on rfl rfl rfl ?_
        refine mv1 rfl rfl ?_
        refine s_on rfl rfl rfl ?_
        refine pull fun t27 h_t27 => ?_
        refine s_rd (r_sidx h_t27 Tryz.underlying9 rfl rfl) rfl ?_
        refine s_on rfl rfl rfl ?_
        refine s_rd (r_gtr rfl rfl) rfl ?_
        refine s_on rfl rfl rfl ?_
        refine s_rd (r_pickF rfl rfl) rfl ?_
        refine s_rd (r_pickT rfl rfl) rfl ?_
        refine mv1 rfl rfl ?_
        refine b_split (t := 50) rfl (fun _ => ?_) (fun _ => ?_)
        · refine s_on rfl rfl rfl ?_
          refine mv1 rfl rfl ?_
          refine s_on rfl rfl rfl ?_
          refine mv1 rfl rfl ?_
          refine s_on rfl rfl rfl ?_
          refine pull fun t28 h_t28 => ?_
          refine s_rd (r_sidx h_t28 Tryz.underlying9 rfl rfl) rfl ?_
          refine s_on rfl rfl rfl ?_
          refine s_rd (r_neq rfl rfl) rfl ?_
          refine s_rd (r_pickT rfl rfl) rfl ?_
          refine l_nil (n_then ?_)
          refine ref_cond rfl (fun hb35 => ?_) (fun hb35 => ?_)
          · refine ref_seq (ref_region ?_)
            refine as1 rfl rfl ?_
            refine l_nil (n_then (ref_ret (r_block (r_then ?_))))
            refine retX ?_
            refine r_block (r_then ?_)
            exact fin1 (.inl rfl) () [] rfl trivial rfl (rv_tmp rfl)
          refine ref_skip (n_block (n_then (ref_region ?_)))
          refine mv1 rfl rfl ?_
          refine s_rd (r_add rfl rfl) rfl ?_
          refine as1 rfl rfl ?_
          refine b_let (f := iv .i64) (t := 3) rfl fun i39 => ?_
          refine l_nil ?_
          exact goX () (weak [] ⟨rfl, rfl, trivial⟩ trivial)
        refine s_off rfl rfl rfl rfl rfl ?_
        refine s_off rfl rfl rfl rfl rfl ?_
        refine s_off rfl rfl rfl rfl rfl ?_
        refine s_off rfl rfl rfl rfl rfl ?_
        refine s_rd (r_pickF rfl rfl) rfl ?_
        refine l_nil (n_then ?_)
        refine ref_condF rfl rfl ?_
        refine ref_skip (n_block (n_then (ref_region ?_)))
        refine mv1 rfl rfl ?_
        refine s_rd (r_add rfl rfl) rfl ?_
        refine as1 rfl rfl ?_
        refine b_let (f := iv .i64) (t := 3) rfl fun i40 => ?_
        refine l_nil ?_
        exact goX () (weak [] ⟨rfl, rfl, trivial⟩ trivial)
      refine s_on rfl rfl rfl ?_
      refine mv1 rfl rfl ?_
      refine s_on rfl rfl rfl ?_
      refine mv1 rfl rfl ?_
      refine s_on rfl rfl rfl ?_
      refine pull fun t29 h_t29 => ?_
      refine s_rd (r_sidx h_t29 Tryz.underlying9 rfl rfl) rfl ?_
      refine s_on rfl rfl rfl ?_
      refine s_rd (r_gtr rfl rfl) rfl ?_
      refine s_rd (r_pickF rfl rfl) rfl ?_
      refine mv1 rfl rfl ?_
      refine b_split (t := 38) rfl (fun _ => ?_) (fun _ => ?_)
      · refine s_on rfl rfl rfl ?_
        refine mv1 rfl rfl ?_
        refine s_on rfl rfl rfl ?_
        refine mv1 rfl rfl ?_
        refine s_on rfl rfl rfl ?_
        refine pull fun t30 h_t30 => ?_
        refine s_rd (r_sidx h_t30 Tryz.underlying9 rfl rfl) rfl ?_
        refine s_on rfl rfl rfl ?_
        refine s_rd (r_lss rfl rfl) rfl ?_
        refine s_on rfl rfl rfl ?_
        refine mv1 rfl rfl ?_
        refine b_split (t := 43) rfl (fun _ => ?_) (fun _ => ?_)
        · refine s_off rfl rfl rfl rfl rfl ?_
          refine s_off rfl rfl rfl rfl rfl ?_
          refine s_off rfl rfl rfl rfl rfl ?_
          refine s_off rfl rfl rfl rfl rfl ?_
          refine s_on rfl rfl rfl ?_
          refine s_rd (r_pickT rfl rfl) rfl ?_
          refine s_rd (r_pickT rfl rfl) rfl ?_
          refine mv1 rfl rfl ?_
          refine s_on rfl rfl rfl ?_
          refine mv1 rfl rfl ?_
          refine s_on rfl rfl rfl ?_
          refine mv1 rfl rfl ?_
          refine s_on rfl rfl rfl ?_
          refine pull fun t31 h_t31 => ?_
          refine s_rd (r_sidx h_t31 Tryz.underlying9 rfl rfl) rfl ?_
          refine s_on rfl rfl rfl ?_
          refine s_rd (r_neq rfl rfl) rfl ?_
          refine s_rd (r_pickT rfl rfl) rfl ?_
          refine l_nil (n_then ?_)
          refine ref_cond rfl (fun hb36 => ?_) (fun hb36 => ?_)
          · refine ref_seq (ref_region ?_)
            refine as1 rfl rfl ?_
            refine l_nil (n_then (ref_ret (r_block (r_then ?_))))
            refine retX ?_
            refine r_block (r_then ?_)
            exact fin1 (.inl rfl) () [] rfl trivial rfl (rv_tmp rfl)
          refine ref_skip (n_block (n_then (ref_region ?_)))
          refine mv1 rfl rfl ?_
          refine s_rd (r_add rfl rfl) rfl ?_
          refine as1 rfl rfl ?_
          refine b_let (f := iv .i64) (t := 3) rfl fun i41 => ?_
          refine l_nil ?_
          exact goX () (weak [] ⟨rfl, rfl, trivial⟩ trivial)
        refine s_on rfl rfl rfl ?_
        refine mv1 rfl rfl ?_
        refine s_on rfl rfl rfl ?_
        refine mv1 rfl rfl ?_
        refine s_on rfl rfl rfl ?_
        refine pull fun t32 h_t32 => ?_
        refine s_rd (r_sidx h_t32 Tryz.underlying9 rfl rfl) rfl ?_
        refine s_on rfl rfl rfl ?_
        refine s_rd (r_gtr rfl rfl) rfl ?_
        refine s_on rfl rfl rfl ?_
        refine s_rd (r_pickF rfl rfl) rfl ?_
        refine s_rd (r_pickT rfl rfl) rfl ?_
        refine mv1 rfl rfl ?_
        refine b_split (t := 50) rfl (fun _ => ?_) (fun _ => ?_)
        · refine s_on rfl rfl rfl ?_
          refine mv1 rfl rfl ?_
          refine s_on rfl rfl rfl ?_
          refine mv1 rfl rfl ?_
          refine s_on rfl rfl rfl ?_
          refine pull fun t33 h_t33 => ?_
          refine s_rd (r_sidx h_t33 Tryz.underlying9 rfl rfl) rfl ?_
          refine s_on rfl rfl rfl ?_
          refine s_rd (r_neq rfl rfl) rfl ?_
          refine s_rd (r_pickT rfl rfl) rfl ?_
          refine l_nil (n_then ?_)
          refine ref_cond rfl (fun hb37 => ?_) (fun hb37 => ?_)
          · refine ref_seq (ref_region ?_)
            refine as1 rfl rfl ?_
            refine l_nil (n_then (ref_ret (r_block (r_then ?_))))
            refine retX ?_
            refine r_block (r_then ?_)
            exact fin1 (.inl rfl) () [] rfl trivial rfl (rv_tmp rfl)
          refine ref_skip (n_block (n_then (ref_region ?_)))
          refine mv1 rfl rfl ?_
          refine s_rd (r_add rfl rfl) rfl ?_
          refine as1 rfl rfl ?_
          refine b_let (f := iv .i64) (t := 3) rfl fun i42 => ?_
          refine l_nil ?_
          exact goX () (weak [] ⟨rfl, rfl, trivial⟩ trivial)
        refine s_off rfl rfl rfl rfl rfl ?_
        refine s_off rfl rfl rfl rfl rfl ?_
        refine s_off rfl rfl rfl rfl rfl ?_
        refine s_off rfl rfl rfl rfl rfl ?_
        refine s_rd (r_pickF rfl rfl) rfl ?_
        refine l_nil (n_then ?_)
        refine ref_condF rfl rfl ?_
        refine ref_skip (n_block (n_then (ref_region ?_)))
        refine mv1 rfl rfl ?_
        refine s_rd (r_add rfl rfl) rfl ?_
        refine as1 rfl rfl ?_
        refine b_let (f := iv .i64) (t := 3) rfl fun i43 => ?_
        refine l_nil ?_
        exact goX () (weak [] ⟨rfl, rfl, trivial⟩ trivial)
      refine s_off rfl rfl rfl rfl rfl ?_
      refine s_off rfl rfl rfl rfl rfl ?_
      refine s_off rfl rfl rfl rfl rfl ?_
      refine s_off rfl rfl rfl rfl rfl ?_
      refine s_off rfl rfl rfl rfl rfl ?_
      refine s_offU rfl rfl rfl ?_
      refine s_offU rfl rfl rfl ?_
      refine s_offU rfl rfl rfl ?_
      refine s_offU rfl rfl rfl ?_
      refine s_off rfl rfl rfl rfl rfl ?_
      refine s_rd (r_pickF rfl rfl) rfl ?_
      refine mv1 rfl rfl ?_
      refine s_off rfl rfl rfl rfl rfl ?_
      refine s_off rfl rfl rfl rfl rfl ?_
      refine s_off rfl rfl rfl rfl rfl ?_
      refine s_off rfl rfl rfl rfl rfl ?_
      refine s_rd (r_pickF rfl rfl) rfl ?_
      refine l_nil (n_then ?_)
      refine ref_condF rfl rfl ?_
      refine ref_skip (n_block (n_then (ref_region ?_)))
      refine mv1 rfl rfl ?_
      refine s_rd (r_add rfl rfl) rfl ?_
      refine as1 rfl rfl ?_
      refine b_let (f := iv .i64) (t := 3) rfl fun i44 => ?_
      refine l_nil ?_
      exact goX () (weak [] ⟨rfl, rfl, trivial⟩ trivial)
    refine ref_exit (x_then ?_)
    exact brkX () (weak [] trivial trivial)
  refine n_then (ref_seq (ref_region ?_))
  refine as1 rfl rfl ?_
  refine l_nil (n_then (ref_ret ?_))
  exact fin1 (.inl rfl) () [] rfl trivial rfl (rv_tmp rfl)

/-! deliberation/deliberationref01.Valid -/
noncomputable def ref01_Valid_m (x_0 : T_api_Literal) : Option (Bool) :=
  Option.bind (ref01_ValidName_m x_0.Name) fun t2 =>
  some t2

theorem ref01_Valid_ok {x_0 : T_api_Literal} {r : Bool} (hm : ref01_Valid_m x_0 = some r) :
    FnOk prog 85 [ag [bv x_0.Neg, sv x_0.Name]] [] (fun (x : Unit) => [bv r]) (fun (x : Unit) => []) := by
  refine fn_ok (fn := Tryz.f85) (N := 6) (res := fun r x => [bv r]) (Ω1 := fun r x => []) Tryz.func85 rfl rfl hm rfl (fun E hM => ?_)
  unfold ref01_Valid_m
  refine ref_seq (ref_region ?_)
  refine s_st (s_box (part_agO (ψs := [bv x_0.Neg, sv x_0.Name]) rfl ⟨.inl bv_at, .inl sv_at, trivial⟩)) rfl (fun b1 => ?_)
  refine as1 rfl rfl ?_
  refine l_nil (n_then (ref_seq (ref_region ?_)))
  refine s_rd (r_faddr (fo := 1) Tryz.underlying29 rfl rfl Tryz.sizeOf9 rfl) rfl ?_
  refine s_rd (r_cload Tryz.isAgg9 rfl (j := 0) rfl rfl) rfl ?_
  refine pull fun t2 h_t2 => ?_
  refine s_st (s_call (ψ := fun (_ : Unit) => bv t2) (args := [.tmp 4]) Tryz.call100 rfl (ref01_ValidName_ok h_t2) ⟨arg rfl, trivial⟩ (fun _ _ _ _ h => h)) rfl (fun _ => ?_)
  refine as1 rfl rfl ?_
  refine l_nil (n_then (ref_ret ?_))
  exact fin1 (.inl rfl) () [] rfl trivial rfl (rv_tmp rfl)

/-! deliberation/deliberationref05.rank -/
noncomputable def ref05_rank_m (n_0 : Int) : Option (Bool) :=
  bif decide (n_0 ≥ 0) then
    letM (decide (n_0 ≤ 9)) fun t1 =>
    some t1
  else
    some false

theorem ref05_rank_ok {n_0 : Int} {r : Bool} (hm : ref05_rank_m n_0 = some r) :
    FnOk prog 84 [iv .i64 n_0] [] (fun (x : Unit) => [bv r]) (fun (x : Unit) => []) := by
  refine fn_ok (fn := Tryz.f84) (N := 9) (res := fun r x => [bv r]) (Ω1 := fun r x => []) Tryz.func84 rfl rfl hm rfl (fun E hM => ?_)
  unfold ref05_rank_m
  refine ref_seq (ref_region ?_)
  refine as1 rfl rfl ?_
  refine l_nil (n_then (ref_seq (ref_region ?_)))
  refine mv1 rfl rfl ?_
  refine s_rd (r_geq rfl rfl) rfl ?_
  refine mv1 rfl rfl ?_
  refine b_split (t := 5) rfl (fun _ => ?_) (fun _ => ?_)
  · refine s_on rfl rfl rfl ?_
    refine mv1 rfl rfl ?_
    refine s_on rfl rfl rfl ?_
    refine s_rd (r_leq rfl rfl) rfl ?_
    refine s_rd (r_pickT rfl rfl) rfl ?_
    refine as1 rfl rfl ?_
    refine b_let (f := bv) (t := 2) rfl fun t1 => ?_
    refine l_nil (n_then (ref_ret ?_))
    exact fin1 (.inl rfl) () [] rfl trivial rfl (rv_tmp rfl)
  refine s_off rfl rfl rfl rfl rfl ?_
  refine s_off rfl rfl rfl rfl rfl ?_
  refine s_rd (r_pickF rfl rfl) rfl ?_
  refine as1 rfl rfl ?_
  refine l_nil (n_then (ref_ret ?_))
  exact fin1 (.inl rfl) () [] rfl trivial rfl (rv_tmp rfl)

/-! deliberation/deliberationref05.premise -/
noncomputable def ref05_premise_m (p_0 : T_api_Premise) : Option (Int) :=
  bif decide (p_0.Kind < 1) then
    some 4
  else
    bif decide (p_0.Kind > 3) then
      some 4
    else
      Option.bind (ref01_Valid_m p_0.Literal) fun t3 =>
      bif !t3 then
        some 1
      else
        Option.bind (ref05_rank_m p_0.Rank) fun t4 =>
        bif !t4 then
          some 1
        else
          bif p_0.Kind != 2 then
            bif p_0.Rank != 0 then
              some 1
            else
              bif !(p_0.Source.toList == (ByteArray.mk #[]).toList) then
                Option.bind (ref01_ValidName_m p_0.Source) fun t5 =>
                bif !t5 then
                  some 1
                else
                  some 0
              else
                some 0
          else
            bif !(p_0.Source.toList == (ByteArray.mk #[]).toList) then
              Option.bind (ref01_ValidName_m p_0.Source) fun t6 =>
              bif !t6 then
                some 1
              else
                some 0
            else
              some 0

theorem ref05_premise_ok {p_0 : T_api_Premise} {r : Int} (hm : ref05_premise_m p_0 = some r) :
    FnOk prog 80 [ag [bv p_0.Literal.Neg, sv p_0.Literal.Name, iv .i64 p_0.Kind, iv .i64 p_0.Rank, sv p_0.Source]] [] (fun (x : Unit) => [iv .i64 r]) (fun (x : Unit) => []) := by
  refine fn_ok (fn := Tryz.f80) (N := 42) (res := fun r x => [iv .i64 r]) (Ω1 := fun r x => []) Tryz.func80 rfl rfl hm rfl (fun E hM => ?_)
  unfold ref05_premise_m
  refine ref_seq (ref_region ?_)
  refine s_st (s_box (part_agO (ψs := [bv p_0.Literal.Neg, sv p_0.Literal.Name, iv .i64 p_0.Kind, iv .i64 p_0.Rank, sv p_0.Source]) rfl ⟨.inl bv_at, .inl sv_at, .inl iv_at, .inl iv_at, .inl sv_at, trivial⟩)) rfl (fun b1 => ?_)
  refine as1 rfl rfl ?_
  refine l_nil (n_then (ref_seq (ref_seq (ref_region ?_))))
  refine s_rd (r_faddr (fo := 2) Tryz.underlying58 rfl rfl Tryz.sizeOf3 rfl) rfl ?_
  refine s_rd (r_cload Tryz.isAgg3 rfl (j := 0) rfl rfl) rfl ?_
  refine s_rd (r_lss rfl rfl) rfl ?_
  refine mv1 rfl rfl ?_
  refine b_split (t := 6) rfl (fun _ => ?_) (fun _ => ?_)
  · refine s_off rfl rfl rfl rfl rfl ?_
    refine s_off rfl rfl rfl rfl rfl ?_
    refine s_off rfl rfl rfl rfl rfl ?_
    refine s_rd (r_pickT rfl rfl) rfl ?_
    refine l_nil (n_then ?_)
    refine ref_condT rfl rfl ?_
    refine ref_seq (ref_region ?_)
    refine as1 rfl rfl ?_
    refine l_nil (n_then (ref_ret (r_then ?_)))
    exact fin1 (.inl rfl) () [] rfl trivial rfl (rv_tmp rfl)
  refine s_on rfl rfl rfl ?_
  refine s_rd (r_faddr (fo := 2) Tryz.underlying58 rfl rfl Tryz.sizeOf3 rfl) rfl ?_
  refine s_on rfl rfl rfl ?_
  refine s_rd (r_cload Tryz.isAgg3 rfl (j := 0) rfl rfl) rfl ?_
  refine s_on rfl rfl rfl ?_
  refine s_rd (r_gtr rfl rfl) rfl ?_
  refine s_rd (r_pickF rfl rfl) rfl ?_
  refine l_nil (n_then ?_)
  refine ref_cond rfl (fun hb2 => ?_) (fun hb2 => ?_)
  · refine ref_seq (ref_region ?_)
    refine as1 rfl rfl ?_
    refine l_nil (n_then (ref_ret (r_then ?_)))
    exact fin1 (.inl rfl) () [] rfl trivial rfl (rv_tmp rfl)
  refine ref_skip (n_then (ref_seq (ref_seq (ref_region ?_))))
  refine s_rd (r_faddr (fo := 0) Tryz.underlying58 rfl rfl Tryz.sizeOf29 rfl) rfl ?_
  refine s_rd (r_cloadS Tryz.isAgg29 Tryz.sizeOf29 rfl (j := 0) rfl rfl rfl) rfl ?_
  refine pull fun t3 h_t3 => ?_
  refine s_st (s_call (ψ := fun (_ : Unit) => bv t3) (args := [.tmp 12]) Tryz.call85 rfl (ref01_Valid_ok h_t3) ⟨arg rfl, trivial⟩ (fun _ _ _ _ h => h)) rfl (fun _ => ?_)
  refine s_rd (r_not rfl) rfl ?_
  refine mv1 rfl rfl ?_
  refine b_split (t := 15) rfl (fun _ => ?_) (fun _ => ?_)
  · refine s_off rfl rfl rfl rfl rfl ?_
    refine s_off rfl rfl rfl rfl rfl ?_
    refine s_off rfl rfl rfl rfl rfl ?_
    refine s_off rfl rfl rfl rfl rfl ?_
    refine s_rd (r_pickT rfl rfl) rfl ?_
    refine mv1 rfl rfl ?_
    refine s_off rfl rfl rfl rfl rfl ?_
    refine s_off rfl rfl rfl rfl rfl ?_
    refine s_off rfl rfl rfl rfl rfl ?_
    refine s_off rfl rfl rfl rfl rfl ?_
    refine s_offU rfl rfl rfl ?_
    refine s_offU rfl rfl rfl ?_
    refine s_offU rfl rfl rfl ?_
    refine s_off rfl rfl rfl rfl rfl ?_
    refine s_rd (r_pickT rfl rfl) rfl ?_
    refine mv1 rfl rfl ?_
    refine s_off rfl rfl rfl rfl rfl ?_
    refine s_off rfl rfl rfl rfl rfl ?_
    refine s_off rfl rfl rfl rfl rfl ?_
    refine s_off rfl rfl rfl rfl rfl ?_
    refine s_offU rfl rfl rfl ?_
    refine s_offU rfl rfl rfl ?_
    refine s_offU rfl rfl rfl ?_
    refine s_offU rfl rfl rfl ?_
    refine s_off rfl rfl rfl rfl rfl ?_
    refine s_rd (r_pickT rfl rfl) rfl ?_
    refine l_nil (n_then ?_)
    refine ref_condT rfl rfl ?_
    refine ref_seq (ref_region ?_)
    refine as1 rfl rfl ?_
    refine l_nil (n_then (ref_ret (r_then ?_)))
    exact fin1 (.inl rfl) () [] rfl trivial rfl (rv_tmp rfl)
  refine s_on rfl rfl rfl ?_
  refine s_rd (r_faddr (fo := 3) Tryz.underlying58 rfl rfl Tryz.sizeOf3 rfl) rfl ?_
  refine s_on rfl rfl rfl ?_
  refine s_rd (r_cload Tryz.isAgg3 rfl (j := 0) rfl rfl) rfl ?_
  refine s_on rfl rfl rfl ?_
  refine pull fun t4 h_t4 => ?_
  refine s_st (s_call (ψ := fun (_ : Unit) => bv t4) (args := [.tmp 17]) Tryz.call84 rfl (ref05_rank_ok h_t4) ⟨arg rfl, trivial⟩ (fun _ _ _ _ h => h)) rfl (fun _ => ?_)
  refine s_on rfl rfl rfl ?_
  refine s_rd (r_not rfl) rfl ?_
  refine s_rd (r_pickF rfl rfl) rfl ?_
  refine mv1 rfl rfl ?_
  refine b_split (t := 21) rfl (fun _ => ?_) (fun _ => ?_)
  · refine s_off rfl rfl rfl rfl rfl ?_
    refine s_off rfl rfl rfl rfl rfl ?_
    refine s_off rfl rfl rfl rfl rfl ?_
    refine s_off rfl rfl rfl rfl rfl ?_
    refine s_offU rfl rfl rfl ?_
    refine s_offU rfl rfl rfl ?_
    refine s_offU rfl rfl rfl ?_
    refine s_off rfl rfl rfl rfl rfl ?_
    refine s_rd (r_pickT rfl rfl) rfl ?_
    refine mv1 rfl rfl ?_
    refine s_off rfl rfl rfl rfl rfl ?_
    refine s_off rfl rfl rfl rfl rfl ?_
    refine s_off rfl rfl rfl rfl rfl ?_
    refine s_off rfl rfl rfl rfl rfl ?_
    refine s_offU rfl rfl rfl ?_
    refine s_offU rfl rfl rfl ?_
    refine s_offU rfl rfl rfl ?_
    refine s_offU rfl rfl rfl ?_
    refine s_off rfl rfl rfl rfl rfl ?_
    refine s_rd (r_pickT rfl rfl) rfl ?_
    refine l_nil (n_then ?_)
    refine ref_condT rfl rfl ?_
    refine ref_seq (ref_region ?_)
    refine as1 rfl rfl ?_
    refine l_nil (n_then (ref_ret (r_then ?_)))
    exact fin1 (.inl rfl) () [] rfl trivial rfl (rv_tmp rfl)
  refine s_on rfl rfl rfl ?_
  refine s_rd (r_faddr (fo := 2) Tryz.underlying58 rfl rfl Tryz.sizeOf3 rfl) rfl ?_
  refine s_on rfl rfl rfl ?_
  refine s_rd (r_cload Tryz.isAgg3 rfl (j := 0) rfl rfl) rfl ?_
  refine s_on rfl rfl rfl ?_
  refine s_rd (r_neq rfl rfl) rfl ?_
  refine s_on rfl rfl rfl ?_
  refine mv1 rfl rfl ?_
  refine b_split (t := 25) rfl (fun _ => ?_) (fun _ => ?_)
  · refine s_on rfl rfl rfl ?_
    refine s_rd (r_faddr (fo := 3) Tryz.underlying58 rfl rfl Tryz.sizeOf3 rfl) rfl ?_
    refine s_on rfl rfl rfl ?_
    refine s_rd (r_cload Tryz.isAgg3 rfl (j := 0) rfl rfl) rfl ?_
    refine s_on rfl rfl rfl ?_
    refine s_rd (r_neq rfl rfl) rfl ?_
    refine s_on rfl rfl rfl ?_
    refine s_rd (r_pickT rfl rfl) rfl ?_
    refine s_rd (r_pickF rfl rfl) rfl ?_
    refine mv1 rfl rfl ?_
    refine b_split (t := 31) rfl (fun _ => ?_) (fun _ => ?_)
    · refine s_off rfl rfl rfl rfl rfl ?_
      refine s_off rfl rfl rfl rfl rfl ?_
      refine s_off rfl rfl rfl rfl rfl ?_
      refine s_off rfl rfl rfl rfl rfl ?_
      refine s_offU rfl rfl rfl ?_
      refine s_offU rfl rfl rfl ?_
      refine s_offU rfl rfl rfl ?_
      refine s_offU rfl rfl rfl ?_
      refine s_off rfl rfl rfl rfl rfl ?_
      refine s_rd (r_pickT rfl rfl) rfl ?_
      refine l_nil (n_then ?_)
      refine ref_condT rfl rfl ?_
      refine ref_seq (ref_region ?_)
      refine as1 rfl rfl ?_
      refine l_nil (n_then (ref_ret (r_then ?_)))
      exact fin1 (.inl rfl) () [] rfl trivial rfl (rv_tmp rfl)
    refine s_on rfl rfl rfl ?_
    refine s_rd (r_faddr (fo := 4) Tryz.underlying58 rfl rfl Tryz.sizeOf9 rfl) rfl ?_
    refine s_on rfl rfl rfl ?_
    refine s_rd (r_cload Tryz.isAgg9 rfl (j := 0) rfl rfl) rfl ?_
    refine s_on rfl rfl rfl ?_
    refine s_rd (r_sneq rfl rfl) rfl ?_
    refine s_on rfl rfl rfl ?_
    refine mv1 rfl rfl ?_
    refine b_split (t := 35) rfl (fun _ => ?_) (fun _ => ?_)
    · refine s_on rfl rfl rfl ?_
      refine s_rd (r_faddr (fo := 4) Tryz.underlying58 rfl rfl Tryz.sizeOf9 rfl) rfl ?_
      refine s_on rfl rfl rfl ?_
      refine s_rd (r_cload Tryz.isAgg9 rfl (j := 0) rfl rfl) rfl ?_
      refine s_on rfl rfl rfl ?_
      refine pull fun t5 h_t5 => ?_
      refine s_st (s_call (ψ := fun (_ : Unit) => bv t5) (args := [.tmp 37]) Tryz.call100 rfl (ref01_ValidName_ok h_t5) ⟨arg rfl, trivial⟩ (fun _ _ _ _ h => h)) rfl (fun _ => ?_)
      refine s_on rfl rfl rfl ?_
      refine s_rd (r_not rfl) rfl ?_
      refine s_on rfl rfl rfl ?_
      refine s_rd (r_pickT rfl rfl) rfl ?_
      refine s_rd (r_pickF rfl rfl) rfl ?_
      refine l_nil ?_
      refine b_of (nrm [oc b1 [bv p_0.Literal.Neg, sv p_0.Literal.Name, iv .i64 p_0.Kind, iv .i64 p_0.Rank, sv p_0.Source]] rfl) ?_
      refine n_then ?_
      refine ref_cond rfl (fun hb7 => ?_) (fun hb7 => ?_)
      · refine ref_seq (ref_region ?_)
        refine as1 rfl rfl ?_
        refine l_nil (n_then (ref_ret (r_then ?_)))
        exact fin1 (.inl rfl) () [] rfl trivial rfl (rv_tmp rfl)
      refine ref_skip (n_then (ref_seq (ref_region ?_)))
      refine as1 rfl rfl ?_
      refine l_nil (n_then (ref_ret ?_))
      exact fin1 (.inl rfl) () [] rfl trivial rfl (rv_tmp rfl)
    refine s_off rfl rfl rfl rfl rfl ?_
    refine s_off rfl rfl rfl rfl rfl ?_
    refine s_off rfl rfl rfl rfl rfl ?_
    refine s_off rfl rfl rfl rfl rfl ?_
    refine s_on rfl rfl rfl ?_
    refine s_rd (r_pickF rfl rfl) rfl ?_
    refine s_rd (r_pickF rfl rfl) rfl ?_
    refine l_nil (n_then ?_)
    refine ref_condF rfl rfl ?_
    refine ref_skip (n_then (ref_seq (ref_region ?_)))
    refine as1 rfl rfl ?_
    refine l_nil (n_then (ref_ret ?_))
    exact fin1 (.inl rfl) () [] rfl trivial rfl (rv_tmp rfl)
  refine s_off rfl rfl rfl rfl rfl ?_
  refine s_off rfl rfl rfl rfl rfl ?_
  refine s_off rfl rfl rfl rfl rfl ?_
  refine s_on rfl rfl rfl ?_
  refine s_rd (r_pickF rfl rfl) rfl ?_
  refine s_rd (r_pickF rfl rfl) rfl ?_
  refine mv1 rfl rfl ?_
  refine s_on rfl rfl rfl ?_
  refine s_rd (r_faddr (fo := 4) Tryz.underlying58 rfl rfl Tryz.sizeOf9 rfl) rfl ?_
  refine s_on rfl rfl rfl ?_
  refine s_rd (r_cload Tryz.isAgg9 rfl (j := 0) rfl rfl) rfl ?_
  refine s_on rfl rfl rfl ?_
  refine s_rd (r_sneq rfl rfl) rfl ?_
  refine s_on rfl rfl rfl ?_
  refine mv1 rfl rfl ?_
  refine b_split (t := 35) rfl (fun _ => ?_) (fun _ => ?_)
  · refine s_on rfl rfl rfl ?_
    refine s_rd (r_faddr (fo := 4) Tryz.underlying58 rfl rfl Tryz.sizeOf9 rfl) rfl ?_
    refine s_on rfl rfl rfl ?_
    refine s_rd (r_cload Tryz.isAgg9 rfl (j := 0) rfl rfl) rfl ?_
    refine s_on rfl rfl rfl ?_
    refine pull fun t6 h_t6 => ?_
    refine s_st (s_call (ψ := fun (_ : Unit) => bv t6) (args := [.tmp 37]) Tryz.call100 rfl (ref01_ValidName_ok h_t6) ⟨arg rfl, trivial⟩ (fun _ _ _ _ h => h)) rfl (fun _ => ?_)
    refine s_on rfl rfl rfl ?_
    refine s_rd (r_not rfl) rfl ?_
    refine s_on rfl rfl rfl ?_
    refine s_rd (r_pickT rfl rfl) rfl ?_
    refine s_rd (r_pickF rfl rfl) rfl ?_
    refine l_nil ?_
    refine b_of (nrm [oc b1 [bv p_0.Literal.Neg, sv p_0.Literal.Name, iv .i64 p_0.Kind, iv .i64 p_0.Rank, sv p_0.Source]] rfl) ?_
    refine n_then ?_
    refine ref_cond rfl (fun hb8 => ?_) (fun hb8 => ?_)
    · refine ref_seq (ref_region ?_)
      refine as1 rfl rfl ?_
      refine l_nil (n_then (ref_ret (r_then ?_)))
      exact fin1 (.inl rfl) () [] rfl trivial rfl (rv_tmp rfl)
    refine ref_skip (n_then (ref_seq (ref_region ?_)))
    refine as1 rfl rfl ?_
    refine l_nil (n_then (ref_ret ?_))
    exact fin1 (.inl rfl) () [] rfl trivial rfl (rv_tmp rfl)
  refine s_off rfl rfl rfl rfl rfl ?_
  refine s_off rfl rfl rfl rfl rfl ?_
  refine s_off rfl rfl rfl rfl rfl ?_
  refine s_off rfl rfl rfl rfl rfl ?_
  refine s_on rfl rfl rfl ?_
  refine s_rd (r_pickF rfl rfl) rfl ?_
  refine s_rd (r_pickF rfl rfl) rfl ?_
  refine l_nil (n_then ?_)
  refine ref_condF rfl rfl ?_
  refine ref_skip (n_then (ref_seq (ref_region ?_)))
  refine as1 rfl rfl ?_
  refine l_nil (n_then (ref_ret ?_))
  exact fin1 (.inl rfl) () [] rfl trivial rfl (rv_tmp rfl)

/-! deliberation/deliberationref05.Premise -/
noncomputable def ref05_Premise_l1 (b_0 : T_api_Base) (x_1 : T_api_Literal) (s8 : Int) : Option (Sum ((Sum (Int) (Unit))) (Int)) :=
  bif decide (s8 < (b_0.Premises.length : Int)) then
    Option.bind (idxM b_0.Premises s8) fun t11 =>
    bif decide (t11.Literal = x_1) then
      some (Sum.inl (Sum.inl s8))
    else
      some (Sum.inr (iadd .i64 s8 1))
  else
    some (Sum.inl (Sum.inr ()))

noncomputable def ref05_Premise_m (b_0 : T_api_Base) (x_1 : T_api_Literal) : Option (Int) :=
  Option.bind (loopC (ref05_Premise_l1 b_0 x_1) 0) (sumK (fun a : Int => some a) fun q13 : Unit =>
    some (-1))

theorem ref05_Premise_ok {b_0 : T_api_Base} {x_1 : T_api_Literal} {r : Int} (hm : ref05_Premise_m b_0 x_1 = some r) :
    FnOk prog 81 [ag [slv rT_api_Premise b_0.Premises, slv rT_api_Rule b_0.Rules, slv rT_api_Promotion b_0.Promotions], ag [bv x_1.Neg, sv x_1.Name]] [] (fun (x : Unit) => [iv .i64 r]) (fun (x : Unit) => []) := by
  refine fn_ok (fn := Tryz.f81) (N := 22) (res := fun r x => [iv .i64 r]) (Ω1 := fun r x => []) Tryz.func81 rfl rfl hm rfl (fun E hM => ?_)
  unfold ref05_Premise_m
  refine ref_seq (ref_region ?_)
  refine s_st (s_box (part_agO (ψs := [slv rT_api_Premise b_0.Premises, slv rT_api_Rule b_0.Rules, slv rT_api_Promotion b_0.Promotions]) rfl ⟨.inl slv_at, .inl slv_at, .inl slv_at, trivial⟩)) rfl (fun b1 => ?_)
  refine s_st (s_box (part_agO (ψs := [bv x_1.Neg, sv x_1.Name]) rfl ⟨.inl bv_at, .inl sv_at, trivial⟩)) rfl (fun b2 => ?_)
  refine as1 rfl rfl ?_
  refine l_nil (n_then (ref_seq (ref_seq (ref_region ?_))))
  refine as1 rfl rfl ?_
  refine l_nil (n_then ?_)
  refine ref_loopX (f := (ref05_Premise_l1 b_0 x_1)) (Γl := (fun (s8 : Int) (x9 : Unit) => [(2, pv (ptr b1 0)), (3, pv (ptr b2 0)), (5, iv .i64 s8)])) (Ωl := (fun (s8 : Int) (x9 : Unit) => [oc b1 [slv rT_api_Premise b_0.Premises, slv rT_api_Rule b_0.Rules, slv rT_api_Promotion b_0.Promotions], oc b2 [bv x_1.Neg, sv x_1.Name]])) (Γb := (fun (q13 : Unit) (y14 : Unit) => [])) (Ωb := (fun (q13 : Unit) (y14 : Unit) => [])) (kr := (fun a : Int => some a)) 0 () (weak [0, 1] ⟨rfl, rfl, rfl, trivial⟩ ⟨rfl, rfl, trivial⟩) (fun s8 x9 => ?_) (fun q13 y14 => ?_)
  · unfold ref05_Premise_l1
    refine ref_seq (ref_seq (ref_region ?_))
    refine mv1 rfl rfl ?_
    refine s_rd (r_faddr (fo := 0) Tryz.underlying26 rfl rfl Tryz.sizeOf22 rfl) rfl ?_
    refine s_rd (r_cload Tryz.isAgg22 rfl (j := 0) rfl rfl) rfl ?_
    refine s_rd (r_len Tryz.underlying22 rfl) rfl ?_
    refine s_rd (r_lss rfl rfl) rfl ?_
    refine l_nil (n_then ?_)
    refine ref_cond rfl (fun hb10 => ?_) (fun hb10 => ?_)
    · refine ref_skip (n_then (ref_seq (ref_block (ref_seq ?_))))
      refine ref_draw [0, 1, 2, 3, 4, 5, 6, 7] rfl (by kernel_rfl) (fun hok => ?_)
      refine a_rd (i := 0) hok rfl (by kernel_rfl) rfl (r_faddr (fo := 0) Tryz.underlying26 rfl rfl Tryz.sizeOf22 rfl) rfl ?_
      refine a_rd (i := 1) hok rfl (by kernel_rfl) rfl (r_cload Tryz.isAgg22 rfl (j := 0) rfl rfl) rfl ?_
      refine a_rd (i := 2) hok rfl (by kernel_rfl) rfl (r_move rfl) rfl ?_
      refine pull fun t11 h_t11 => ?_
      refine a_rd (i := 3) hok rfl (by kernel_rfl) rfl (r_index h_t11 Tryz.underlying22 el_58 rfl rfl) rfl ?_
      refine a_rd (i := 4) hok rfl (by kernel_rfl) rfl (r_fea (fo := 0) (ρ := rT_api_Premise) (y := t11) (ρ' := rT_api_Literal) (z := t11.Literal) Tryz.underlying58 rfl rfl Tryz.sizeOf29 rfl rfl rfl) rfl ?_
      refine a_rd (i := 5) hok rfl (by kernel_rfl) rfl (r_load el_29 rfl) rfl ?_
      refine a_rd (i := 6) hok rfl (by kernel_rfl) rfl (r_cloadS Tryz.isAgg29 Tryz.sizeOf29 rfl (j := 1) rfl rfl rfl) rfl ?_
      refine a_rd (i := 7) hok rfl (by kernel_rfl) rfl (r_steql (u := t11.Literal) (v := x_1) eq_29 rfl rfl rfl rfl) rfl ?_
      refine a_fin hok (by kernel_rfl) ?_
      refine n_then ?_
      refine ref_cond rfl (fun hb12 => ?_) (fun hb12 => ?_)
      · refine ref_seq (ref_region ?_)
        refine mv1 rfl rfl ?_
        refine as1 rfl rfl ?_
        refine l_nil (n_then (ref_ret (r_block (r_then ?_))))
        refine retX ?_
        refine r_block (r_then ?_)
        exact fin1 (.inl rfl) () [] rfl trivial rfl (rv_tmp rfl)
      refine ref_skip (n_block (n_then (ref_region ?_)))
      refine mv1 rfl rfl ?_
      refine s_rd (r_add rfl rfl) rfl ?_
      refine as1 rfl rfl ?_
      refine l_nil ?_
      exact goX () (weak [0, 1] ⟨rfl, rfl, rfl, trivial⟩ ⟨rfl, rfl, trivial⟩)
    refine ref_exit (x_then ?_)
    exact brkX () (weak [] trivial trivial)
  refine n_then (ref_seq (ref_region ?_))
  refine as1 rfl rfl ?_
  refine l_nil (n_then (ref_ret ?_))
  exact fin1 (.inl rfl) () [] rfl trivial rfl (rv_tmp rfl)

/-! deliberation/deliberationref01.Compare -/
noncomputable def ref01_Compare_m (a__0 : T_api_Literal) (b_1 : T_api_Literal) : Option (Int) :=
  letM (decide (a__0 = b_1)) fun t3 =>
  bif t3 then
    some 0
  else
    bif Op.bytesLess a__0.Name.toList b_1.Name.toList then
      some (-1)
    else
      bif a__0.Name.toList == b_1.Name.toList then
        bif b_1.Neg then
          some (-1)
        else
          some 1
      else
        some 1

theorem ref01_Compare_ok {a__0 : T_api_Literal} {b_1 : T_api_Literal} {r : Int} (hm : ref01_Compare_m a__0 b_1 = some r) :
    FnOk prog 66 [ag [bv a__0.Neg, sv a__0.Name], ag [bv b_1.Neg, sv b_1.Name]] [] (fun (x : Unit) => [iv .i64 r]) (fun (x : Unit) => []) := by
  refine fn_ok (fn := Tryz.f66) (N := 26) (res := fun r x => [iv .i64 r]) (Ω1 := fun r x => []) Tryz.func66 rfl rfl hm rfl (fun E hM => ?_)
  unfold ref01_Compare_m
  refine ref_seq (ref_region ?_)
  refine s_st (s_box (part_agO (ψs := [bv a__0.Neg, sv a__0.Name]) rfl ⟨.inl bv_at, .inl sv_at, trivial⟩)) rfl (fun b1 => ?_)
  refine s_st (s_box (part_agO (ψs := [bv b_1.Neg, sv b_1.Name]) rfl ⟨.inl bv_at, .inl sv_at, trivial⟩)) rfl (fun b2 => ?_)
  refine as1 rfl rfl ?_
  refine l_nil (n_then (ref_seq (ref_block (ref_seq (ref_region ?_)))))
  refine s_rd (r_cloadS Tryz.isAgg29 Tryz.sizeOf29 rfl (j := 0) rfl rfl rfl) rfl ?_
  refine s_rd (r_cloadS Tryz.isAgg29 Tryz.sizeOf29 rfl (j := 1) rfl rfl rfl) rfl ?_
  refine s_rd (r_steql (u := a__0) (v := b_1) eq_29 rfl rfl rfl rfl) rfl ?_
  refine as1 rfl rfl ?_
  refine b_let (f := bv) (t := 5) rfl fun t3 => ?_
  refine l_nil (n_then ?_)
  refine ref_cond rfl (fun hb4 => ?_) (fun hb4 => ?_)
  · refine ref_seq (ref_region ?_)
    refine as1 rfl rfl ?_
    refine l_nil (n_then (ref_ret (r_block (r_then ?_))))
    exact fin1 (.inl rfl) () [] rfl trivial rfl (rv_tmp rfl)
  refine ref_seq (ref_region ?_)
  refine s_rd (r_faddr (fo := 1) Tryz.underlying29 rfl rfl Tryz.sizeOf9 rfl) rfl ?_
  refine s_rd (r_cload Tryz.isAgg9 rfl (j := 0) rfl rfl) rfl ?_
  refine s_rd (r_faddr (fo := 1) Tryz.underlying29 rfl rfl Tryz.sizeOf9 rfl) rfl ?_
  refine s_rd (r_cload Tryz.isAgg9 rfl (j := 1) rfl rfl) rfl ?_
  refine s_rd (r_slss rfl rfl) rfl ?_
  refine mv1 rfl rfl ?_
  refine b_split (t := 15) rfl (fun _ => ?_) (fun _ => ?_)
  · refine s_off rfl rfl rfl rfl rfl ?_
    refine s_off rfl rfl rfl rfl rfl ?_
    refine s_off rfl rfl rfl rfl rfl ?_
    refine s_off rfl rfl rfl rfl rfl ?_
    refine s_off rfl rfl rfl rfl rfl ?_
    refine s_off rfl rfl rfl rfl rfl ?_
    refine s_offU rfl rfl rfl ?_
    refine s_offU rfl rfl rfl ?_
    refine s_off rfl rfl rfl rfl rfl ?_
    refine s_rd (r_pickT rfl rfl) rfl ?_
    refine as1 rfl rfl ?_
    refine l_nil (n_then ?_)
    refine ref_condT rfl rfl ?_
    refine ref_seq (ref_region ?_)
    refine as1 rfl rfl ?_
    refine l_nil (n_then (ref_ret (r_block (r_then ?_))))
    exact fin1 (.inl rfl) () [] rfl trivial rfl (rv_tmp rfl)
  refine s_on rfl rfl rfl ?_
  refine s_rd (r_faddr (fo := 1) Tryz.underlying29 rfl rfl Tryz.sizeOf9 rfl) rfl ?_
  refine s_on rfl rfl rfl ?_
  refine s_rd (r_cload Tryz.isAgg9 rfl (j := 0) rfl rfl) rfl ?_
  refine s_on rfl rfl rfl ?_
  refine s_rd (r_faddr (fo := 1) Tryz.underlying29 rfl rfl Tryz.sizeOf9 rfl) rfl ?_
  refine s_on rfl rfl rfl ?_
  refine s_rd (r_cload Tryz.isAgg9 rfl (j := 1) rfl rfl) rfl ?_
  refine s_on rfl rfl rfl ?_
  refine s_rd (r_seql rfl rfl) rfl ?_
  refine s_on rfl rfl rfl ?_
  refine mv1 rfl rfl ?_
  refine b_split (t := 21) rfl (fun _ => ?_) (fun _ => ?_)
  · refine s_on rfl rfl rfl ?_
    refine s_rd (r_faddr (fo := 0) Tryz.underlying29 rfl rfl Tryz.sizeOf4 rfl) rfl ?_
    refine s_on rfl rfl rfl ?_
    refine s_rd (r_cload Tryz.isAgg4 rfl (j := 1) rfl rfl) rfl ?_
    refine s_on rfl rfl rfl ?_
    refine s_rd (r_pickT rfl rfl) rfl ?_
    refine s_rd (r_pickF rfl rfl) rfl ?_
    refine as1 rfl rfl ?_
    refine l_nil (n_then ?_)
    refine ref_cond rfl (fun hb5 => ?_) (fun hb5 => ?_)
    · refine ref_seq (ref_region ?_)
      refine as1 rfl rfl ?_
      refine l_nil (n_then (ref_ret (r_block (r_then ?_))))
      exact fin1 (.inl rfl) () [] rfl trivial rfl (rv_tmp rfl)
    refine ref_skip (n_block (n_then (ref_seq (ref_region ?_))))
    refine as1 rfl rfl ?_
    refine l_nil (n_then (ref_ret ?_))
    exact fin1 (.inl rfl) () [] rfl trivial rfl (rv_tmp rfl)
  refine s_off rfl rfl rfl rfl rfl ?_
  refine s_off rfl rfl rfl rfl rfl ?_
  refine s_on rfl rfl rfl ?_
  refine s_rd (r_pickF rfl rfl) rfl ?_
  refine s_rd (r_pickF rfl rfl) rfl ?_
  refine as1 rfl rfl ?_
  refine l_nil (n_then ?_)
  refine ref_condF rfl rfl ?_
  refine ref_skip (n_block (n_then (ref_seq (ref_region ?_))))
  refine as1 rfl rfl ?_
  refine l_nil (n_then (ref_ret ?_))
  exact fin1 (.inl rfl) () [] rfl trivial rfl (rv_tmp rfl)

/-! deliberation/deliberationref05.rule -/
noncomputable def ref05_rule_l1 (r__0 : T_api_Rule) (s15 : Bool × Int) : Option (Sum (Bool) (Bool × Int)) :=
  bif decide (s15.2 < (r__0.Body.length : Int)) then
    bif s15.1 then
      Option.bind (idxM r__0.Body s15.2) fun t18 =>
      Option.bind (ref01_Valid_m t18) fun t19 =>
      letM (iadd .i64 s15.2 1) fun i20 =>
      some (Sum.inr (t19, i20))
    else
      letM (iadd .i64 s15.2 1) fun i21 =>
      some (Sum.inr (false, i21))
  else
    some (Sum.inl s15.1)

noncomputable def ref05_rule_l2 (r__0 : T_api_Rule) (s32 : Int) : Option (Sum ((Sum (Int) (Unit))) (Int)) :=
  bif decide (s32 < (r__0.Body.length : Int)) then
    Option.bind (idxM r__0.Body (isub .i64 s32 1)) fun t35 =>
    Option.bind (idxM r__0.Body s32) fun t36 =>
    Option.bind (ref01_Compare_m t35 t36) fun t37 =>
    bif decide (t37 ≥ 0) then
      some (Sum.inl (Sum.inl 8))
    else
      letM (iadd .i64 s32 1) fun i39 =>
      some (Sum.inr i39)
  else
    some (Sum.inl (Sum.inr ()))

noncomputable def ref05_rule_m (r__0 : T_api_Rule) : Option (Int) :=
  bif decide ((r__0.Body.length : Int) > 4) then
    some 2
  else
    joinM (fun j7 : Bool =>
        Option.bind (loopC (ref05_rule_l1 r__0) (j7, 0)) fun q22 : Bool =>
        bif !q22 then
          some 1
        else
          Option.bind (loopC (ref05_rule_l2 r__0) 1) (sumK (fun a : Int => some a) fun q40 : Unit =>
            some 0)) fun k9 =>
    Option.bind (ref01_ValidName_m r__0.Name) fun t3 =>
    bif t3 then
      Option.bind (ref05_rank_m r__0.Rank) fun t4 =>
      bif t4 then
        bif !r__0.Strict then
          Option.bind (ref01_Valid_m r__0.Head) fun t5 =>
          k9 t5
        else
          bif r__0.Rank == 0 then
            Option.bind (ref01_Valid_m r__0.Head) fun t6 =>
            k9 t6
          else
            k9 false
      else
        k9 false
    else
      k9 false

theorem ref05_rule_ok {r__0 : T_api_Rule} {r : Int} (hm : ref05_rule_m r__0 = some r) :
    FnOk prog 82 [ag [sv r__0.Name, bv r__0.Strict, iv .i64 r__0.Rank, slv rT_api_Literal r__0.Body, bv r__0.Head.Neg, sv r__0.Head.Name]] [] (fun (x : Unit) => [iv .i64 r]) (fun (x : Unit) => []) := by
  refine fn_ok (fn := Tryz.f82) (N := 71) (res := fun r x => [iv .i64 r]) (Ω1 := fun r x => []) Tryz.func82 rfl rfl hm rfl (fun E hM => ?_)
  unfold ref05_rule_m
  refine ref_seq (ref_region ?_)
  refine s_st (s_box (part_agO (ψs := [sv r__0.Name, bv r__0.Strict, iv .i64 r__0.Rank, slv rT_api_Literal r__0.Body, bv r__0.Head.Neg, sv r__0.Head.Name]) rfl ⟨.inl sv_at, .inl bv_at, .inl iv_at, .inl slv_at, .inl bv_at, .inl sv_at, trivial⟩)) rfl (fun b1 => ?_)
  refine as1 rfl rfl ?_
  refine l_nil (n_then (ref_seq (ref_seq (ref_region ?_))))
  refine s_rd (r_faddr (fo := 3) Tryz.underlying60 rfl rfl Tryz.sizeOf27 rfl) rfl ?_
  refine s_rd (r_cload Tryz.isAgg27 rfl (j := 0) rfl rfl) rfl ?_
  refine s_rd (r_len Tryz.underlying27 rfl) rfl ?_
  refine s_rd (r_gtr rfl rfl) rfl ?_
  refine l_nil (n_then ?_)
  refine ref_cond rfl (fun hb2 => ?_) (fun hb2 => ?_)
  · refine ref_seq (ref_region ?_)
    refine as1 rfl rfl ?_
    refine l_nil (n_then (ref_ret (r_then ?_)))
    exact fin1 (.inl rfl) () [] rfl trivial rfl (rv_tmp rfl)
  refine ref_skip (n_then (ref_seq ?_))
  refine ref_join (fun (j7 : Bool) (x8 : Unit) => [(1, pv (ptr b1 0)), (3, bv j7)]) (fun (j7 : Bool) (x8 : Unit) => [oc b1 [sv r__0.Name, bv r__0.Strict, iv .i64 r__0.Rank, slv rT_api_Literal r__0.Body, bv r__0.Head.Neg, sv r__0.Head.Name]]) (fun k9 hk9 => ?_) (fun j7 x8 => ?_)
  · refine ref_region ?_
    refine s_rd (r_faddr (fo := 0) Tryz.underlying60 rfl rfl Tryz.sizeOf9 rfl) rfl ?_
    refine s_rd (r_cload Tryz.isAgg9 rfl (j := 0) rfl rfl) rfl ?_
    refine pull fun t3 h_t3 => ?_
    refine s_st (s_call (ψ := fun (_ : Unit) => bv t3) (args := [.tmp 11]) Tryz.call100 rfl (ref01_ValidName_ok h_t3) ⟨arg rfl, trivial⟩ (fun _ _ _ _ h => h)) rfl (fun _ => ?_)
    refine mv1 rfl rfl ?_
    refine b_split (t := 13) rfl (fun _ => ?_) (fun _ => ?_)
    · refine s_on rfl rfl rfl ?_
      refine s_rd (r_faddr (fo := 2) Tryz.underlying60 rfl rfl Tryz.sizeOf3 rfl) rfl ?_
      refine s_on rfl rfl rfl ?_
      refine s_rd (r_cload Tryz.isAgg3 rfl (j := 0) rfl rfl) rfl ?_
      refine s_on rfl rfl rfl ?_
      refine pull fun t4 h_t4 => ?_
      refine s_st (s_call (ψ := fun (_ : Unit) => bv t4) (args := [.tmp 15]) Tryz.call84 rfl (ref05_rank_ok h_t4) ⟨arg rfl, trivial⟩ (fun _ _ _ _ h => h)) rfl (fun _ => ?_)
      refine s_rd (r_pickT rfl rfl) rfl ?_
      refine mv1 rfl rfl ?_
      refine b_split (t := 18) rfl (fun _ => ?_) (fun _ => ?_)
      · refine s_on rfl rfl rfl ?_
        refine s_rd (r_faddr (fo := 1) Tryz.underlying60 rfl rfl Tryz.sizeOf4 rfl) rfl ?_
        refine s_on rfl rfl rfl ?_
        refine s_rd (r_cload Tryz.isAgg4 rfl (j := 0) rfl rfl) rfl ?_
        refine s_on rfl rfl rfl ?_
        refine s_rd (r_not rfl) rfl ?_
        refine s_on rfl rfl rfl ?_
        refine mv1 rfl rfl ?_
        refine b_split (t := 22) rfl (fun _ => ?_) (fun _ => ?_)
        · refine s_off rfl rfl rfl rfl rfl ?_
          refine s_off rfl rfl rfl rfl rfl ?_
          refine s_off rfl rfl rfl rfl rfl ?_
          refine s_on rfl rfl rfl ?_
          refine s_rd (r_pickT rfl rfl) rfl ?_
          refine s_rd (r_pickT rfl rfl) rfl ?_
          refine mv1 rfl rfl ?_
          refine s_on rfl rfl rfl ?_
          refine s_rd (r_faddr (fo := 4) Tryz.underlying60 rfl rfl Tryz.sizeOf29 rfl) rfl ?_
          refine s_on rfl rfl rfl ?_
          refine s_rd (r_cloadS Tryz.isAgg29 Tryz.sizeOf29 rfl (j := 0) rfl rfl rfl) rfl ?_
          refine s_on rfl rfl rfl ?_
          refine pull fun t5 h_t5 => ?_
          refine s_st (s_call (ψ := fun (_ : Unit) => bv t5) (args := [.tmp 30]) Tryz.call85 rfl (ref01_Valid_ok h_t5) ⟨arg rfl, trivial⟩ (fun _ _ _ _ h => h)) rfl (fun _ => ?_)
          refine s_rd (r_pickT rfl rfl) rfl ?_
          refine as1 rfl rfl ?_
          refine l_nil ?_
          refine b_of (nrm [oc b1 [sv r__0.Name, bv r__0.Strict, iv .i64 r__0.Rank, slv rT_api_Literal r__0.Body, bv r__0.Head.Neg, sv r__0.Head.Name]] rfl) ?_
          exact b_to (hk9 t5 ()) (weak [0] ⟨rfl, rfl, trivial⟩ ⟨rfl, trivial⟩)
        refine s_on rfl rfl rfl ?_
        refine s_rd (r_faddr (fo := 2) Tryz.underlying60 rfl rfl Tryz.sizeOf3 rfl) rfl ?_
        refine s_on rfl rfl rfl ?_
        refine s_rd (r_cload Tryz.isAgg3 rfl (j := 0) rfl rfl) rfl ?_
        refine s_on rfl rfl rfl ?_
        refine s_rd (r_eql rfl rfl) rfl ?_
        refine s_on rfl rfl rfl ?_
        refine s_rd (r_pickF rfl rfl) rfl ?_
        refine s_rd (r_pickT rfl rfl) rfl ?_
        refine mv1 rfl rfl ?_
        refine b_split (t := 28) rfl (fun _ => ?_) (fun _ => ?_)
        · refine s_on rfl rfl rfl ?_
          refine s_rd (r_faddr (fo := 4) Tryz.underlying60 rfl rfl Tryz.sizeOf29 rfl) rfl ?_
          refine s_on rfl rfl rfl ?_
          refine s_rd (r_cloadS Tryz.isAgg29 Tryz.sizeOf29 rfl (j := 0) rfl rfl rfl) rfl ?_
          refine s_on rfl rfl rfl ?_
          refine pull fun t6 h_t6 => ?_
          refine s_st (s_call (ψ := fun (_ : Unit) => bv t6) (args := [.tmp 30]) Tryz.call85 rfl (ref01_Valid_ok h_t6) ⟨arg rfl, trivial⟩ (fun _ _ _ _ h => h)) rfl (fun _ => ?_)
          refine s_rd (r_pickT rfl rfl) rfl ?_
          refine as1 rfl rfl ?_
          refine l_nil ?_
          refine b_of (nrm [oc b1 [sv r__0.Name, bv r__0.Strict, iv .i64 r__0.Rank, slv rT_api_Literal r__0.Body, bv r__0.Head.Neg, sv r__0.Head.Name]] rfl) ?_
          exact b_to (hk9 t6 ()) (weak [0] ⟨rfl, rfl, trivial⟩ ⟨rfl, trivial⟩)
        refine s_off rfl rfl rfl rfl rfl ?_
        refine s_off rfl rfl rfl rfl rfl ?_
        refine s_off rfl rfl rfl rfl rfl ?_
        refine s_rd (r_pickF rfl rfl) rfl ?_
        refine as1 rfl rfl ?_
        refine l_nil ?_
        exact b_to (hk9 false ()) (weak [0] ⟨rfl, rfl, trivial⟩ ⟨rfl, trivial⟩)
      refine s_off rfl rfl rfl rfl rfl ?_
      refine s_off rfl rfl rfl rfl rfl ?_
      refine s_off rfl rfl rfl rfl rfl ?_
      refine s_off rfl rfl rfl rfl rfl ?_
      refine s_offU rfl rfl rfl ?_
      refine s_offU rfl rfl rfl ?_
      refine s_offU rfl rfl rfl ?_
      refine s_off rfl rfl rfl rfl rfl ?_
      refine s_rd (r_pickF rfl rfl) rfl ?_
      refine mv1 rfl rfl ?_
      refine s_off rfl rfl rfl rfl rfl ?_
      refine s_off rfl rfl rfl rfl rfl ?_
      refine s_off rfl rfl rfl rfl rfl ?_
      refine s_rd (r_pickF rfl rfl) rfl ?_
      refine as1 rfl rfl ?_
      refine l_nil ?_
      exact b_to (hk9 false ()) (weak [0] ⟨rfl, rfl, trivial⟩ ⟨rfl, trivial⟩)
    refine s_off rfl rfl rfl rfl rfl ?_
    refine s_off rfl rfl rfl rfl rfl ?_
    refine s_off rfl rfl rfl rfl rfl ?_
    refine s_rd (r_pickF rfl rfl) rfl ?_
    refine mv1 rfl rfl ?_
    refine s_off rfl rfl rfl rfl rfl ?_
    refine s_off rfl rfl rfl rfl rfl ?_
    refine s_off rfl rfl rfl rfl rfl ?_
    refine s_off rfl rfl rfl rfl rfl ?_
    refine s_offU rfl rfl rfl ?_
    refine s_offU rfl rfl rfl ?_
    refine s_offU rfl rfl rfl ?_
    refine s_off rfl rfl rfl rfl rfl ?_
    refine s_rd (r_pickF rfl rfl) rfl ?_
    refine mv1 rfl rfl ?_
    refine s_off rfl rfl rfl rfl rfl ?_
    refine s_off rfl rfl rfl rfl rfl ?_
    refine s_off rfl rfl rfl rfl rfl ?_
    refine s_rd (r_pickF rfl rfl) rfl ?_
    refine as1 rfl rfl ?_
    refine l_nil ?_
    exact b_to (hk9 false ()) (weak [0] ⟨rfl, rfl, trivial⟩ ⟨rfl, trivial⟩)
  refine n_then (ref_seq (ref_seq (ref_region ?_)))
  refine as1 rfl rfl ?_
  refine l_nil (n_then ?_)
  refine ref_loopB (f := (ref05_rule_l1 r__0)) (Γl := (fun (s15 : Bool × Int) (x16 : Unit) => [(1, pv (ptr b1 0)), (3, bv s15.1), (4, iv .i64 s15.2)])) (Ωl := (fun (s15 : Bool × Int) (x16 : Unit) => [oc b1 [sv r__0.Name, bv r__0.Strict, iv .i64 r__0.Rank, slv rT_api_Literal r__0.Body, bv r__0.Head.Neg, sv r__0.Head.Name]])) (Γb := (fun (q22 : Bool) (y23 : Unit) => [(1, pv (ptr b1 0)), (3, bv q22)])) (Ωb := (fun (q22 : Bool) (y23 : Unit) => [oc b1 [sv r__0.Name, bv r__0.Strict, iv .i64 r__0.Rank, slv rT_api_Literal r__0.Body, bv r__0.Head.Neg, sv r__0.Head.Name]])) (j7, 0) () (weak [0] ⟨rfl, rfl, rfl, trivial⟩ ⟨rfl, trivial⟩) (fun s15 x16 => ?_) (fun q22 y23 => ?_)
  · unfold ref05_rule_l1
    refine ref_seq (ref_seq (ref_region ?_))
    refine mv1 rfl rfl ?_
    refine s_rd (r_faddr (fo := 3) Tryz.underlying60 rfl rfl Tryz.sizeOf27 rfl) rfl ?_
    refine s_rd (r_cload Tryz.isAgg27 rfl (j := 0) rfl rfl) rfl ?_
    refine s_rd (r_len Tryz.underlying27 rfl) rfl ?_
    refine s_rd (r_lss rfl rfl) rfl ?_
    refine l_nil (n_then ?_)
    refine ref_cond rfl (fun hb17 => ?_) (fun hb17 => ?_)
    · refine ref_skip (n_then (ref_seq (ref_block (ref_region ?_))))
      refine mv1 rfl rfl ?_
      refine mv1 rfl rfl ?_
      refine b_split (t := 41) rfl (fun _ => ?_) (fun _ => ?_)
      · refine s_on rfl rfl rfl ?_
        refine s_rd (r_faddr (fo := 3) Tryz.underlying60 rfl rfl Tryz.sizeOf27 rfl) rfl ?_
        refine s_on rfl rfl rfl ?_
        refine s_rd (r_cload Tryz.isAgg27 rfl (j := 0) rfl rfl) rfl ?_
        refine s_on rfl rfl rfl ?_
        refine mv1 rfl rfl ?_
        refine s_on rfl rfl rfl ?_
        refine pull fun t18 h_t18 => ?_
        refine s_rd (r_index h_t18 Tryz.underlying27 el_29 rfl rfl) rfl ?_
        refine s_on rfl rfl rfl ?_
        refine s_rd (r_load el_29 rfl) rfl ?_
        refine s_on rfl rfl rfl ?_
        refine pull fun t19 h_t19 => ?_
        refine s_st (s_call (ψ := fun (_ : Unit) => bv t19) (args := [.tmp 46]) Tryz.call85 rfl (ref01_Valid_ok h_t19) ⟨arg rfl, trivial⟩ (fun _ _ _ _ h => h)) rfl (fun _ => ?_)
        refine s_rd (r_pickT rfl rfl) rfl ?_
        refine as1 rfl rfl ?_
        refine l_nil (n_block (n_then (ref_region ?_)))
        refine mv1 rfl rfl ?_
        refine s_rd (r_add rfl rfl) rfl ?_
        refine as1 rfl rfl ?_
        refine b_let (f := iv .i64) (t := 4) rfl fun i20 => ?_
        refine l_nil ?_
        exact goB () (weak [0] ⟨rfl, rfl, rfl, trivial⟩ ⟨rfl, trivial⟩)
      refine s_off rfl rfl rfl rfl rfl ?_
      refine s_off rfl rfl rfl rfl rfl ?_
      refine s_off rfl rfl rfl rfl rfl ?_
      refine s_off rfl rfl rfl rfl rfl ?_
      refine s_off rfl rfl rfl rfl rfl ?_
      refine s_off rfl rfl rfl rfl rfl ?_
      refine s_rd (r_pickF rfl rfl) rfl ?_
      refine as1 rfl rfl ?_
      refine l_nil (n_block (n_then (ref_region ?_)))
      refine mv1 rfl rfl ?_
      refine s_rd (r_add rfl rfl) rfl ?_
      refine as1 rfl rfl ?_
      refine b_let (f := iv .i64) (t := 4) rfl fun i21 => ?_
      refine l_nil ?_
      exact goB () (weak [0] ⟨rfl, rfl, rfl, trivial⟩ ⟨rfl, trivial⟩)
    refine ref_exit (x_then ?_)
    exact brkB () (weak [0] ⟨rfl, rfl, trivial⟩ ⟨rfl, trivial⟩)
  refine n_then (ref_seq (ref_seq (ref_region ?_)))
  refine mv1 rfl rfl ?_
  refine s_rd (r_not rfl) rfl ?_
  refine l_nil (n_then ?_)
  refine ref_cond rfl (fun hb24 => ?_) (fun hb24 => ?_)
  · refine ref_seq (ref_region ?_)
    refine as1 rfl rfl ?_
    refine l_nil (n_then (ref_ret (r_then ?_)))
    exact fin1 (.inl rfl) () [] rfl trivial rfl (rv_tmp rfl)
  refine ref_skip (n_then (ref_seq (ref_seq (ref_region ?_))))
  refine as1 rfl rfl ?_
  refine l_nil (n_then ?_)
  refine ref_loopX (f := (ref05_rule_l2 r__0)) (Γl := (fun (s32 : Int) (x33 : Unit) => [(1, pv (ptr b1 0)), (5, iv .i64 s32)])) (Ωl := (fun (s32 : Int) (x33 : Unit) => [oc b1 [sv r__0.Name, bv r__0.Strict, iv .i64 r__0.Rank, slv rT_api_Literal r__0.Body, bv r__0.Head.Neg, sv r__0.Head.Name]])) (Γb := (fun (q40 : Unit) (y41 : Unit) => [])) (Ωb := (fun (q40 : Unit) (y41 : Unit) => [])) (kr := (fun a : Int => some a)) 1 () (weak [0] ⟨rfl, rfl, trivial⟩ ⟨rfl, trivial⟩) (fun s32 x33 => ?_) (fun q40 y41 => ?_)
  · unfold ref05_rule_l2
    refine ref_seq (ref_seq (ref_region ?_))
    refine mv1 rfl rfl ?_
    refine s_rd (r_faddr (fo := 3) Tryz.underlying60 rfl rfl Tryz.sizeOf27 rfl) rfl ?_
    refine s_rd (r_cload Tryz.isAgg27 rfl (j := 0) rfl rfl) rfl ?_
    refine s_rd (r_len Tryz.underlying27 rfl) rfl ?_
    refine s_rd (r_lss rfl rfl) rfl ?_
    refine l_nil (n_then ?_)
    refine ref_cond rfl (fun hb34 => ?_) (fun hb34 => ?_)
    · refine ref_skip (n_then (ref_seq (ref_block (ref_seq ?_))))
      refine ref_draw [0, 1, 2, 3, 4, 5, 6, 7, 8, 9, 10, 12] rfl (by kernel_rfl) (fun hok => ?_)
      refine a_rd (i := 0) hok rfl (by kernel_rfl) rfl (r_faddr (fo := 3) Tryz.underlying60 rfl rfl Tryz.sizeOf27 rfl) rfl ?_
      refine a_rd (i := 1) hok rfl (by kernel_rfl) rfl (r_cload Tryz.isAgg27 rfl (j := 0) rfl rfl) rfl ?_
      refine a_rd (i := 2) hok rfl (by kernel_rfl) rfl (r_move rfl) rfl ?_
      refine a_rd (i := 3) hok rfl (by kernel_rfl) rfl (r_sub rfl rfl) rfl ?_
      refine pull fun t35 h_t35 => ?_
      refine a_rd (i := 4) hok rfl (by kernel_rfl) rfl (r_index h_t35 Tryz.underlying27 el_29 rfl rfl) rfl ?_
      refine a_rd (i := 5) hok rfl (by kernel_rfl) rfl (r_load el_29 rfl) rfl ?_
      refine a_rd (i := 6) hok rfl (by kernel_rfl) rfl (r_faddr (fo := 3) Tryz.underlying60 rfl rfl Tryz.sizeOf27 rfl) rfl ?_
      refine a_rd (i := 7) hok rfl (by kernel_rfl) rfl (r_cload Tryz.isAgg27 rfl (j := 0) rfl rfl) rfl ?_
      refine a_rd (i := 8) hok rfl (by kernel_rfl) rfl (r_move rfl) rfl ?_
      refine pull fun t36 h_t36 => ?_
      refine a_rd (i := 9) hok rfl (by kernel_rfl) rfl (r_index h_t36 Tryz.underlying27 el_29 rfl rfl) rfl ?_
      refine a_rd (i := 10) hok rfl (by kernel_rfl) rfl (r_load el_29 rfl) rfl ?_
      refine pull fun t37 h_t37 => ?_
      refine a_next hok 11 [] (by kernel_rfl) ?_ trivial
      refine a_st (i := 11) hok rfl rfl (s_call (ψ := fun (_ : Unit) => iv .i64 t37) (args := [.tmp 63, .tmp 68]) Tryz.call66 rfl (ref01_Compare_ok h_t37) ⟨arg rfl, arg rfl, trivial⟩ (fun _ _ _ _ h => h)) (by intro _ h; cases h; rfl) (fun _ => ⟨trivial, ⟨trivial, ⟨trivial, ⟨⟨⟨rfl, rfl⟩, trivial⟩, ⟨trivial, ⟨trivial, ⟨trivial, ⟨trivial, ⟨trivial, ⟨⟨⟨rfl, rfl⟩, trivial⟩, ⟨trivial, trivial⟩⟩⟩⟩⟩⟩⟩⟩⟩⟩⟩) (fun _ => ?_)
      refine a_rd (i := 12) hok rfl (by kernel_rfl) rfl (r_geq rfl rfl) rfl ?_
      refine a_fin hok (by kernel_rfl) ?_
      refine n_then ?_
      refine ref_cond rfl (fun hb38 => ?_) (fun hb38 => ?_)
      · refine ref_seq (ref_region ?_)
        refine as1 rfl rfl ?_
        refine l_nil (n_then (ref_ret (r_block (r_then ?_))))
        refine retX ?_
        refine r_block (r_then ?_)
        exact fin1 (.inl rfl) () [] rfl trivial rfl (rv_tmp rfl)
      refine ref_skip (n_block (n_then (ref_region ?_)))
      refine mv1 rfl rfl ?_
      refine s_rd (r_add rfl rfl) rfl ?_
      refine as1 rfl rfl ?_
      refine b_let (f := iv .i64) (t := 5) rfl fun i39 => ?_
      refine l_nil ?_
      exact goX () (weak [0] ⟨rfl, rfl, trivial⟩ ⟨rfl, trivial⟩)
    refine ref_exit (x_then ?_)
    exact brkX () (weak [] trivial trivial)
  refine n_then (ref_seq (ref_region ?_))
  refine as1 rfl rfl ?_
  refine l_nil (n_then (ref_ret ?_))
  exact fin1 (.inl rfl) () [] rfl trivial rfl (rv_tmp rfl)

/-! deliberation/deliberationref05.Find -/
noncomputable def ref05_Find_l1 (b_0 : T_api_Base) (name_1 : ByteArray) (s7 : Int) : Option (Sum ((Sum (Int) (Unit))) (Int)) :=
  bif decide (s7 < (b_0.Rules.length : Int)) then
    Option.bind (idxM b_0.Rules s7) fun t10 =>
    bif t10.Name.toList == name_1.toList then
      some (Sum.inl (Sum.inl s7))
    else
      some (Sum.inr (iadd .i64 s7 1))
  else
    some (Sum.inl (Sum.inr ()))

noncomputable def ref05_Find_m (b_0 : T_api_Base) (name_1 : ByteArray) : Option (Int) :=
  Option.bind (loopC (ref05_Find_l1 b_0 name_1) 0) (sumK (fun a : Int => some a) fun q12 : Unit =>
    some (-1))

theorem ref05_Find_ok {b_0 : T_api_Base} {name_1 : ByteArray} {r : Int} (hm : ref05_Find_m b_0 name_1 = some r) :
    FnOk prog 83 [ag [slv rT_api_Premise b_0.Premises, slv rT_api_Rule b_0.Rules, slv rT_api_Promotion b_0.Promotions], sv name_1] [] (fun (x : Unit) => [iv .i64 r]) (fun (x : Unit) => []) := by
  refine fn_ok (fn := Tryz.f83) (N := 22) (res := fun r x => [iv .i64 r]) (Ω1 := fun r x => []) Tryz.func83 rfl rfl hm rfl (fun E hM => ?_)
  unfold ref05_Find_m
  refine ref_seq (ref_region ?_)
  refine s_st (s_box (part_agO (ψs := [slv rT_api_Premise b_0.Premises, slv rT_api_Rule b_0.Rules, slv rT_api_Promotion b_0.Promotions]) rfl ⟨.inl slv_at, .inl slv_at, .inl slv_at, trivial⟩)) rfl (fun b1 => ?_)
  refine as1 rfl rfl ?_
  refine l_nil (n_then (ref_seq (ref_seq (ref_region ?_))))
  refine as1 rfl rfl ?_
  refine l_nil (n_then ?_)
  refine ref_loopX (f := (ref05_Find_l1 b_0 name_1)) (Γl := (fun (s7 : Int) (x8 : Unit) => [(1, sv name_1), (2, pv (ptr b1 0)), (5, iv .i64 s7)])) (Ωl := (fun (s7 : Int) (x8 : Unit) => [oc b1 [slv rT_api_Premise b_0.Premises, slv rT_api_Rule b_0.Rules, slv rT_api_Promotion b_0.Promotions]])) (Γb := (fun (q12 : Unit) (y13 : Unit) => [])) (Ωb := (fun (q12 : Unit) (y13 : Unit) => [])) (kr := (fun a : Int => some a)) 0 () (weak [0] ⟨rfl, rfl, rfl, trivial⟩ ⟨rfl, trivial⟩) (fun s7 x8 => ?_) (fun q12 y13 => ?_)
  · unfold ref05_Find_l1
    refine ref_seq (ref_seq (ref_region ?_))
    refine mv1 rfl rfl ?_
    refine s_rd (r_faddr (fo := 1) Tryz.underlying26 rfl rfl Tryz.sizeOf23 rfl) rfl ?_
    refine s_rd (r_cload Tryz.isAgg23 rfl (j := 0) rfl rfl) rfl ?_
    refine s_rd (r_len Tryz.underlying23 rfl) rfl ?_
    refine s_rd (r_lss rfl rfl) rfl ?_
    refine l_nil (n_then ?_)
    refine ref_cond rfl (fun hb9 => ?_) (fun hb9 => ?_)
    · refine ref_skip (n_then (ref_seq (ref_block (ref_seq (ref_region ?_)))))
      refine s_rd (r_faddr (fo := 1) Tryz.underlying26 rfl rfl Tryz.sizeOf23 rfl) rfl ?_
      refine s_rd (r_cload Tryz.isAgg23 rfl (j := 0) rfl rfl) rfl ?_
      refine mv1 rfl rfl ?_
      refine pull fun t10 h_t10 => ?_
      refine s_rd (r_index h_t10 Tryz.underlying23 el_60 rfl rfl) rfl ?_
      refine s_rd (r_fea (fo := 0) (ρ := rT_api_Rule) (y := t10) (ρ' := rS) (z := t10.Name) Tryz.underlying60 rfl rfl Tryz.sizeOf9 rfl rfl rfl) rfl ?_
      refine s_rd (r_load el_9 rfl) rfl ?_
      refine mv1 rfl rfl ?_
      refine s_rd (r_seql rfl rfl) rfl ?_
      refine l_nil (n_then ?_)
      refine ref_cond rfl (fun hb11 => ?_) (fun hb11 => ?_)
      · refine ref_seq (ref_region ?_)
        refine mv1 rfl rfl ?_
        refine as1 rfl rfl ?_
        refine l_nil (n_then (ref_ret (r_block (r_then ?_))))
        refine retX ?_
        refine r_block (r_then ?_)
        exact fin1 (.inl rfl) () [] rfl trivial rfl (rv_tmp rfl)
      refine ref_skip (n_block (n_then (ref_region ?_)))
      refine mv1 rfl rfl ?_
      refine s_rd (r_add rfl rfl) rfl ?_
      refine as1 rfl rfl ?_
      refine l_nil ?_
      exact goX () (weak [0] ⟨rfl, rfl, rfl, trivial⟩ ⟨rfl, trivial⟩)
    refine ref_exit (x_then ?_)
    exact brkX () (weak [] trivial trivial)
  refine n_then (ref_seq (ref_region ?_))
  refine as1 rfl rfl ?_
  refine l_nil (n_then (ref_ret ?_))
  exact fin1 (.inl rfl) () [] rfl trivial rfl (rv_tmp rfl)

/-! deliberation/deliberationref05.Validate -/
noncomputable def ref05_Validate_l1 (b_0 : T_api_Base) (s12 : Int) : Option (Sum ((Sum (Int) (Unit))) (Int)) :=
  bif decide (s12 < (b_0.Premises.length : Int)) then
    Option.bind (idxM b_0.Premises s12) fun t15 =>
    Option.bind (ref05_premise_m t15) fun e16 =>
    bif e16 != 0 then
      some (Sum.inl (Sum.inl e16))
    else
      Option.bind (idxM b_0.Premises s12) fun t18 =>
      Option.bind (ref05_Premise_m b_0 t18.Literal) fun t19 =>
      bif decide (t19 < s12) then
        some (Sum.inl (Sum.inl 5))
      else
        letM (iadd .i64 s12 1) fun i21 =>
        some (Sum.inr i21)
  else
    some (Sum.inl (Sum.inr ()))

noncomputable def ref05_Validate_l2 (b_0 : T_api_Base) (s33 : Int) : Option (Sum ((Sum (Int) (Unit))) (Int)) :=
  bif decide (s33 < (b_0.Rules.length : Int)) then
    Option.bind (idxM b_0.Rules s33) fun t36 =>
    Option.bind (ref05_rule_m t36) fun e37 =>
    bif e37 != 0 then
      some (Sum.inl (Sum.inl e37))
    else
      Option.bind (idxM b_0.Rules s33) fun t39 =>
      Option.bind (ref05_Find_m b_0 t39.Name) fun t40 =>
      bif decide (t40 < s33) then
        some (Sum.inl (Sum.inl 5))
      else
        letM (iadd .i64 s33 1) fun i42 =>
        some (Sum.inr i42)
  else
    some (Sum.inl (Sum.inr ()))

noncomputable def ref05_Validate_l3 (b_0 : T_api_Base) (s57 : Int) : Option (Sum ((Sum (Int) (Unit))) (Int)) :=
  bif decide (s57 < (b_0.Promotions.length : Int)) then
    Option.bind (idxM b_0.Promotions s57) fun t60 =>
    Option.bind (ref05_rank_m t60.Rank) fun t62 =>
    bif !t62 then
      some (Sum.inl (Sum.inl 1))
    else
      Option.bind (ref01_Valid_m t60.If) fun t63 =>
      bif !t63 then
        some (Sum.inl (Sum.inl 1))
      else
        Option.bind (ref05_Find_m b_0 t60.Rule) fun k65 =>
        bif decide (k65 < 0) then
          some (Sum.inl (Sum.inl 6))
        else
          Option.bind (idxM b_0.Rules k65) fun t67 =>
          bif t67.Strict then
            some (Sum.inl (Sum.inl 4))
          else
            letM (iadd .i64 s57 1) fun i69 =>
            some (Sum.inr i69)
  else
    some (Sum.inl (Sum.inr ()))

noncomputable def ref05_Validate_m (b_0 : T_api_Base) : Option (Int) :=
  bif decide ((b_0.Premises.length : Int) > 16) then
    some 2
  else
    bif decide ((b_0.Rules.length : Int) > 24) then
      some 2
    else
      bif decide ((b_0.Promotions.length : Int) > 8) then
        some 2
      else
        Option.bind (loopC (ref05_Validate_l1 b_0) 0) (sumK (fun a : Int => some a) fun q22 : Unit =>
          Option.bind (loopC (ref05_Validate_l2 b_0) 0) (sumK (fun a : Int => some a) fun q43 : Unit =>
            Option.bind (loopC (ref05_Validate_l3 b_0) 0) (sumK (fun a : Int => some a) fun q70 : Unit =>
              some 0)))

theorem ref05_Validate_ok {b_0 : T_api_Base} {r : Int} (hm : ref05_Validate_m b_0 = some r) :
    FnOk prog 52 [ag [slv rT_api_Premise b_0.Premises, slv rT_api_Rule b_0.Rules, slv rT_api_Promotion b_0.Promotions]] [] (fun (x : Unit) => [iv .i64 r]) (fun (x : Unit) => []) := by
  refine fn_ok (fn := Tryz.f52) (N := 112) (res := fun r x => [iv .i64 r]) (Ω1 := fun r x => []) Tryz.func52 rfl rfl hm rfl (fun E hM => ?_)
  unfold ref05_Validate_m
  refine ref_seq (ref_region ?_)
  refine s_st (s_box (part_agO (ψs := [slv rT_api_Premise b_0.Premises, slv rT_api_Rule b_0.Rules, slv rT_api_Promotion b_0.Promotions]) rfl ⟨.inl slv_at, .inl slv_at, .inl slv_at, trivial⟩)) rfl (fun b1 => ?_)
  refine as1 rfl rfl ?_
  refine l_nil (n_then (ref_seq (ref_seq (ref_region ?_))))
  refine s_rd (r_faddr (fo := 0) Tryz.underlying26 rfl rfl Tryz.sizeOf22 rfl) rfl ?_
  refine s_rd (r_cload Tryz.isAgg22 rfl (j := 0) rfl rfl) rfl ?_
  refine s_rd (r_len Tryz.underlying22 rfl) rfl ?_
  refine s_rd (r_gtr rfl rfl) rfl ?_
  refine mv1 rfl rfl ?_
  refine b_split (t := 14) rfl (fun _ => ?_) (fun _ => ?_)
  · refine s_off rfl rfl rfl rfl rfl ?_
    refine s_off rfl rfl rfl rfl rfl ?_
    refine s_off rfl rfl rfl rfl rfl ?_
    refine s_off rfl rfl rfl rfl rfl ?_
    refine s_rd (r_pickT rfl rfl) rfl ?_
    refine mv1 rfl rfl ?_
    refine s_off rfl rfl rfl rfl rfl ?_
    refine s_off rfl rfl rfl rfl rfl ?_
    refine s_off rfl rfl rfl rfl rfl ?_
    refine s_off rfl rfl rfl rfl rfl ?_
    refine s_rd (r_pickT rfl rfl) rfl ?_
    refine l_nil (n_then ?_)
    refine ref_condT rfl rfl ?_
    refine ref_seq (ref_region ?_)
    refine as1 rfl rfl ?_
    refine l_nil (n_then (ref_ret (r_then ?_)))
    exact fin1 (.inl rfl) () [] rfl trivial rfl (rv_tmp rfl)
  refine s_on rfl rfl rfl ?_
  refine s_rd (r_faddr (fo := 1) Tryz.underlying26 rfl rfl Tryz.sizeOf23 rfl) rfl ?_
  refine s_on rfl rfl rfl ?_
  refine s_rd (r_cload Tryz.isAgg23 rfl (j := 0) rfl rfl) rfl ?_
  refine s_on rfl rfl rfl ?_
  refine s_rd (r_len Tryz.underlying23 rfl) rfl ?_
  refine s_on rfl rfl rfl ?_
  refine s_rd (r_gtr rfl rfl) rfl ?_
  refine s_rd (r_pickF rfl rfl) rfl ?_
  refine mv1 rfl rfl ?_
  refine b_split (t := 20) rfl (fun _ => ?_) (fun _ => ?_)
  · refine s_off rfl rfl rfl rfl rfl ?_
    refine s_off rfl rfl rfl rfl rfl ?_
    refine s_off rfl rfl rfl rfl rfl ?_
    refine s_off rfl rfl rfl rfl rfl ?_
    refine s_rd (r_pickT rfl rfl) rfl ?_
    refine l_nil (n_then ?_)
    refine ref_condT rfl rfl ?_
    refine ref_seq (ref_region ?_)
    refine as1 rfl rfl ?_
    refine l_nil (n_then (ref_ret (r_then ?_)))
    exact fin1 (.inl rfl) () [] rfl trivial rfl (rv_tmp rfl)
  refine s_on rfl rfl rfl ?_
  refine s_rd (r_faddr (fo := 2) Tryz.underlying26 rfl rfl Tryz.sizeOf24 rfl) rfl ?_
  refine s_on rfl rfl rfl ?_
  refine s_rd (r_cload Tryz.isAgg24 rfl (j := 0) rfl rfl) rfl ?_
  refine s_on rfl rfl rfl ?_
  refine s_rd (r_len Tryz.underlying24 rfl) rfl ?_
  refine s_on rfl rfl rfl ?_
  refine s_rd (r_gtr rfl rfl) rfl ?_
  refine s_rd (r_pickF rfl rfl) rfl ?_
  refine l_nil (n_then ?_)
  refine ref_cond rfl (fun hb2 => ?_) (fun hb2 => ?_)
  · refine ref_seq (ref_region ?_)
    refine as1 rfl rfl ?_
    refine l_nil (n_then (ref_ret (r_then ?_)))
    exact fin1 (.inl rfl) () [] rfl trivial rfl (rv_tmp rfl)
  refine ref_skip (n_then (ref_seq (ref_seq (ref_region ?_))))
  refine as1 rfl rfl ?_
  refine l_nil (n_then ?_)
  refine ref_loopX (f := (ref05_Validate_l1 b_0)) (Γl := (fun (s12 : Int) (x13 : Unit) => [(1, pv (ptr b1 0)), (3, iv .i64 s12)])) (Ωl := (fun (s12 : Int) (x13 : Unit) => [oc b1 [slv rT_api_Premise b_0.Premises, slv rT_api_Rule b_0.Rules, slv rT_api_Promotion b_0.Promotions]])) (Γb := (fun (q22 : Unit) (y23 : Unit) => [(1, pv (ptr b1 0))])) (Ωb := (fun (q22 : Unit) (y23 : Unit) => [oc b1 [slv rT_api_Premise b_0.Premises, slv rT_api_Rule b_0.Rules, slv rT_api_Promotion b_0.Promotions]])) (kr := (fun a : Int => some a)) 0 () (weak [0] ⟨rfl, rfl, trivial⟩ ⟨rfl, trivial⟩) (fun s12 x13 => ?_) (fun q22 y23 => ?_)
  · unfold ref05_Validate_l1
    refine ref_seq (ref_seq (ref_region ?_))
    refine mv1 rfl rfl ?_
    refine s_rd (r_faddr (fo := 0) Tryz.underlying26 rfl rfl Tryz.sizeOf22 rfl) rfl ?_
    refine s_rd (r_cload Tryz.isAgg22 rfl (j := 0) rfl rfl) rfl ?_
    refine s_rd (r_len Tryz.underlying22 rfl) rfl ?_
    refine s_rd (r_lss rfl rfl) rfl ?_
    refine l_nil (n_then ?_)
    refine ref_cond rfl (fun hb14 => ?_) (fun hb14 => ?_)
    · refine ref_skip (n_then (ref_seq (ref_block (ref_seq (ref_seq (ref_region ?_))))))
      refine s_rd (r_faddr (fo := 0) Tryz.underlying26 rfl rfl Tryz.sizeOf22 rfl) rfl ?_
      refine s_rd (r_cload Tryz.isAgg22 rfl (j := 0) rfl rfl) rfl ?_
      refine mv1 rfl rfl ?_
      refine pull fun t15 h_t15 => ?_
      refine s_rd (r_index h_t15 Tryz.underlying22 el_58 rfl rfl) rfl ?_
      refine s_rd (r_load el_58 rfl) rfl ?_
      refine pull fun e16 h_e16 => ?_
      refine s_st (s_call (ψ := fun (_ : Unit) => iv .i64 e16) (args := [.tmp 37]) Tryz.call80 rfl (ref05_premise_ok h_e16) ⟨arg rfl, trivial⟩ (fun _ _ _ _ h => h)) rfl (fun _ => ?_)
      refine as1 rfl rfl ?_
      refine l_nil (n_then (ref_seq (ref_region ?_)))
      refine mv1 rfl rfl ?_
      refine s_rd (r_neq rfl rfl) rfl ?_
      refine l_nil (n_then ?_)
      refine ref_cond rfl (fun hb17 => ?_) (fun hb17 => ?_)
      · refine ref_seq (ref_region ?_)
        refine mv1 rfl rfl ?_
        refine as1 rfl rfl ?_
        refine l_nil (n_then (ref_ret (r_then (r_block (r_then ?_)))))
        refine retX ?_
        refine r_block (r_then ?_)
        exact fin1 (.inl rfl) () [] rfl trivial rfl (rv_tmp rfl)
      refine ref_skip (n_then (ref_seq ?_))
      refine ref_draw [0, 1, 2, 3, 4, 5, 6, 8, 9] rfl (by kernel_rfl) (fun hok => ?_)
      refine a_rd (i := 0) hok rfl (by kernel_rfl) rfl (r_cloadS Tryz.isAgg26 Tryz.sizeOf26 rfl (j := 0) rfl rfl rfl) rfl ?_
      refine a_rd (i := 1) hok rfl (by kernel_rfl) rfl (r_faddr (fo := 0) Tryz.underlying26 rfl rfl Tryz.sizeOf22 rfl) rfl ?_
      refine a_rd (i := 2) hok rfl (by kernel_rfl) rfl (r_cload Tryz.isAgg22 rfl (j := 0) rfl rfl) rfl ?_
      refine a_rd (i := 3) hok rfl (by kernel_rfl) rfl (r_move rfl) rfl ?_
      refine pull fun t18 h_t18 => ?_
      refine a_rd (i := 4) hok rfl (by kernel_rfl) rfl (r_index h_t18 Tryz.underlying22 el_58 rfl rfl) rfl ?_
      refine a_rd (i := 5) hok rfl (by kernel_rfl) rfl (r_fea (fo := 0) (ρ := rT_api_Premise) (y := t18) (ρ' := rT_api_Literal) (z := t18.Literal) Tryz.underlying58 rfl rfl Tryz.sizeOf29 rfl rfl rfl) rfl ?_
      refine a_rd (i := 6) hok rfl (by kernel_rfl) rfl (r_load el_29 rfl) rfl ?_
      refine a_rd (i := 8) hok rfl (by kernel_rfl) rfl (r_move rfl) rfl ?_
      refine pull fun t19 h_t19 => ?_
      refine a_next hok 7 [] (by kernel_rfl) ?_ trivial
      refine a_st (i := 7) hok rfl rfl (s_call (ψ := fun (_ : Unit) => iv .i64 t19) (args := [.tmp 42, .tmp 48]) Tryz.call81 rfl (ref05_Premise_ok h_t19) ⟨arg rfl, arg rfl, trivial⟩ (fun _ _ _ _ h => h)) (by intro _ h; cases h; rfl) (fun _ => ⟨trivial, ⟨trivial, ⟨trivial, ⟨trivial, ⟨trivial, ⟨⟨⟨rfl, rfl⟩, trivial⟩, ⟨trivial, ⟨trivial, trivial⟩⟩⟩⟩⟩⟩⟩⟩) (fun _ => ?_)
      refine a_rd (i := 9) hok rfl (by kernel_rfl) rfl (r_lss rfl rfl) rfl ?_
      refine a_fin hok (by kernel_rfl) ?_
      refine n_then ?_
      refine ref_cond rfl (fun hb20 => ?_) (fun hb20 => ?_)
      · refine ref_seq (ref_region ?_)
        refine as1 rfl rfl ?_
        refine l_nil (n_then (ref_ret (r_block (r_then ?_))))
        refine retX ?_
        refine r_block (r_then ?_)
        exact fin1 (.inl rfl) () [] rfl trivial rfl (rv_tmp rfl)
      refine ref_skip (n_block (n_then (ref_region ?_)))
      refine mv1 rfl rfl ?_
      refine s_rd (r_add rfl rfl) rfl ?_
      refine as1 rfl rfl ?_
      refine b_let (f := iv .i64) (t := 3) rfl fun i21 => ?_
      refine l_nil ?_
      exact goX () (weak [0] ⟨rfl, rfl, trivial⟩ ⟨rfl, trivial⟩)
    refine ref_exit (x_then ?_)
    exact brkX () (weak [0] ⟨rfl, trivial⟩ ⟨rfl, trivial⟩)
  refine n_then (ref_seq (ref_seq (ref_region ?_)))
  refine as1 rfl rfl ?_
  refine l_nil (n_then ?_)
  refine ref_loopX (f := (ref05_Validate_l2 b_0)) (Γl := (fun (s33 : Int) (x34 : Unit) => [(1, pv (ptr b1 0)), (5, iv .i64 s33)])) (Ωl := (fun (s33 : Int) (x34 : Unit) => [oc b1 [slv rT_api_Premise b_0.Premises, slv rT_api_Rule b_0.Rules, slv rT_api_Promotion b_0.Promotions]])) (Γb := (fun (q43 : Unit) (y44 : Unit) => [(1, pv (ptr b1 0))])) (Ωb := (fun (q43 : Unit) (y44 : Unit) => [oc b1 [slv rT_api_Premise b_0.Premises, slv rT_api_Rule b_0.Rules, slv rT_api_Promotion b_0.Promotions]])) (kr := (fun a : Int => some a)) 0 () (weak [0] ⟨rfl, rfl, trivial⟩ ⟨rfl, trivial⟩) (fun s33 x34 => ?_) (fun q43 y44 => ?_)
  · unfold ref05_Validate_l2
    refine ref_seq (ref_seq (ref_region ?_))
    refine mv1 rfl rfl ?_
    refine s_rd (r_faddr (fo := 1) Tryz.underlying26 rfl rfl Tryz.sizeOf23 rfl) rfl ?_
    refine s_rd (r_cload Tryz.isAgg23 rfl (j := 0) rfl rfl) rfl ?_
    refine s_rd (r_len Tryz.underlying23 rfl) rfl ?_
    refine s_rd (r_lss rfl rfl) rfl ?_
    refine l_nil (n_then ?_)
    refine ref_cond rfl (fun hb35 => ?_) (fun hb35 => ?_)
    · refine ref_skip (n_then (ref_seq (ref_block (ref_seq (ref_seq (ref_region ?_))))))
      refine s_rd (r_faddr (fo := 1) Tryz.underlying26 rfl rfl Tryz.sizeOf23 rfl) rfl ?_
      refine s_rd (r_cload Tryz.isAgg23 rfl (j := 0) rfl rfl) rfl ?_
      refine mv1 rfl rfl ?_
      refine pull fun t36 h_t36 => ?_
      refine s_rd (r_index h_t36 Tryz.underlying23 el_60 rfl rfl) rfl ?_
      refine s_rd (r_load el_60 rfl) rfl ?_
      refine pull fun e37 h_e37 => ?_
      refine s_st (s_call (ψ := fun (_ : Unit) => iv .i64 e37) (args := [.tmp 63]) Tryz.call82 rfl (ref05_rule_ok h_e37) ⟨arg rfl, trivial⟩ (fun _ _ _ _ h => h)) rfl (fun _ => ?_)
      refine as1 rfl rfl ?_
      refine l_nil (n_then (ref_seq (ref_region ?_)))
      refine mv1 rfl rfl ?_
      refine s_rd (r_neq rfl rfl) rfl ?_
      refine l_nil (n_then ?_)
      refine ref_cond rfl (fun hb38 => ?_) (fun hb38 => ?_)
      · refine ref_seq (ref_region ?_)
        refine mv1 rfl rfl ?_
        refine as1 rfl rfl ?_
        refine l_nil (n_then (ref_ret (r_then (r_block (r_then ?_)))))
        refine retX ?_
        refine r_block (r_then ?_)
        exact fin1 (.inl rfl) () [] rfl trivial rfl (rv_tmp rfl)
      refine ref_skip (n_then (ref_seq ?_))
      refine ref_draw [0, 1, 2, 3, 4, 5, 6, 8, 9] rfl (by kernel_rfl) (fun hok => ?_)
      refine a_rd (i := 0) hok rfl (by kernel_rfl) rfl (r_cloadS Tryz.isAgg26 Tryz.sizeOf26 rfl (j := 0) rfl rfl rfl) rfl ?_
      refine a_rd (i := 1) hok rfl (by kernel_rfl) rfl (r_faddr (fo := 1) Tryz.underlying26 rfl rfl Tryz.sizeOf23 rfl) rfl ?_
      refine a_rd (i := 2) hok rfl (by kernel_rfl) rfl (r_cload Tryz.isAgg23 rfl (j := 0) rfl rfl) rfl ?_
      refine a_rd (i := 3) hok rfl (by kernel_rfl) rfl (r_move rfl) rfl ?_
      refine pull fun t39 h_t39 => ?_
      refine a_rd (i := 4) hok rfl (by kernel_rfl) rfl (r_index h_t39 Tryz.underlying23 el_60 rfl rfl) rfl ?_
      refine a_rd (i := 5) hok rfl (by kernel_rfl) rfl (r_fea (fo := 0) (ρ := rT_api_Rule) (y := t39) (ρ' := rS) (z := t39.Name) Tryz.underlying60 rfl rfl Tryz.sizeOf9 rfl rfl rfl) rfl ?_
      refine a_rd (i := 6) hok rfl (by kernel_rfl) rfl (r_load el_9 rfl) rfl ?_
      refine a_rd (i := 8) hok rfl (by kernel_rfl) rfl (r_move rfl) rfl ?_
      refine pull fun t40 h_t40 => ?_
      refine a_next hok 7 [] (by kernel_rfl) ?_ trivial
      refine a_st (i := 7) hok rfl rfl (s_call (ψ := fun (_ : Unit) => iv .i64 t40) (args := [.tmp 68, .tmp 74]) Tryz.call83 rfl (ref05_Find_ok h_t40) ⟨arg rfl, arg rfl, trivial⟩ (fun _ _ _ _ h => h)) (by intro _ h; cases h; rfl) (fun _ => ⟨trivial, ⟨trivial, ⟨trivial, ⟨trivial, ⟨trivial, ⟨⟨⟨rfl, rfl⟩, trivial⟩, ⟨trivial, ⟨trivial, trivial⟩⟩⟩⟩⟩⟩⟩⟩) (fun _ => ?_)
      refine a_rd (i := 9) hok rfl (by kernel_rfl) rfl (r_lss rfl rfl) rfl ?_
      refine a_fin hok (by kernel_rfl) ?_
      refine n_then ?_
      refine ref_cond rfl (fun hb41 => ?_) (fun hb41 => ?_)
      · refine ref_seq (ref_region ?_)
        refine as1 rfl rfl ?_
        refine l_nil (n_then (ref_ret (r_block (r_then ?_))))
        refine retX ?_
        refine r_block (r_then ?_)
        exact fin1 (.inl rfl) () [] rfl trivial rfl (rv_tmp rfl)
      refine ref_skip (n_block (n_then (ref_region ?_)))
      refine mv1 rfl rfl ?_
      refine s_rd (r_add rfl rfl) rfl ?_
      refine as1 rfl rfl ?_
      refine b_let (f := iv .i64) (t := 5) rfl fun i42 => ?_
      refine l_nil ?_
      exact goX () (weak [0] ⟨rfl, rfl, trivial⟩ ⟨rfl, trivial⟩)
    refine ref_exit (x_then ?_)
    exact brkX () (weak [0] ⟨rfl, trivial⟩ ⟨rfl, trivial⟩)
  refine n_then (ref_seq (ref_seq (ref_region ?_)))
  refine as1 rfl rfl ?_
  refine l_nil (n_then ?_)
  refine ref_loopX (f := (ref05_Validate_l3 b_0)) (Γl := (fun (s57 : Int) (x58 : Unit) => [(1, pv (ptr b1 0)), (7, iv .i64 s57)])) (Ωl := (fun (s57 : Int) (x58 : Unit) => [oc b1 [slv rT_api_Premise b_0.Premises, slv rT_api_Rule b_0.Rules, slv rT_api_Promotion b_0.Promotions]])) (Γb := (fun (q70 : Unit) (y71 : Unit) => [])) (Ωb := (fun (q70 : Unit) (y71 : Unit) => [])) (kr := (fun a : Int => some a)) 0 () (weak [0] ⟨rfl, rfl, trivial⟩ ⟨rfl, trivial⟩) (fun s57 x58 => ?_) (fun q70 y71 => ?_)
  · unfold ref05_Validate_l3
    refine ref_seq (ref_seq (ref_region ?_))
    refine mv1 rfl rfl ?_
    refine s_rd (r_faddr (fo := 2) Tryz.underlying26 rfl rfl Tryz.sizeOf24 rfl) rfl ?_
    refine s_rd (r_cload Tryz.isAgg24 rfl (j := 0) rfl rfl) rfl ?_
    refine s_rd (r_len Tryz.underlying24 rfl) rfl ?_
    refine s_rd (r_lss rfl rfl) rfl ?_
    refine l_nil (n_then ?_)
    refine ref_cond rfl (fun hb59 => ?_) (fun hb59 => ?_)
    · refine ref_skip (n_then (ref_seq (ref_block (ref_seq (ref_region ?_)))))
      refine s_rd (r_faddr (fo := 2) Tryz.underlying26 rfl rfl Tryz.sizeOf24 rfl) rfl ?_
      refine s_rd (r_cload Tryz.isAgg24 rfl (j := 0) rfl rfl) rfl ?_
      refine mv1 rfl rfl ?_
      refine pull fun t60 h_t60 => ?_
      refine s_rd (r_index h_t60 Tryz.underlying24 el_62 rfl rfl) rfl ?_
      refine s_rd (r_load el_62 rfl) rfl ?_
      refine s_st (s_alloc zt_62) rfl (fun b61 => ?_)
      refine s_st0 (s_cstore (out := [sv t60.Rule, iv .i64 t60.Rank, bv t60.If.Neg, sv t60.If.Name]) Tryz.sizeOf62 rfl (j := 1) rfl (part_agO (ψs := [sv t60.Rule, iv .i64 t60.Rank, bv t60.If.Neg, sv t60.If.Name]) rfl ⟨.inl sv_at, .inl iv_at, .inl bv_at, .inl sv_at, trivial⟩) rfl rfl rfl) (fun _ => ?_)
      refine l_nil (n_then (ref_seq (ref_seq (ref_region ?_))))
      refine s_rd (r_faddr (fo := 1) Tryz.underlying62 rfl rfl Tryz.sizeOf3 rfl) rfl ?_
      refine s_rd (r_cload Tryz.isAgg3 rfl (j := 1) rfl rfl) rfl ?_
      refine pull fun t62 h_t62 => ?_
      refine s_st (s_call (ψ := fun (_ : Unit) => bv t62) (args := [.tmp 91]) Tryz.call84 rfl (ref05_rank_ok h_t62) ⟨arg rfl, trivial⟩ (fun _ _ _ _ h => h)) rfl (fun _ => ?_)
      refine s_rd (r_not rfl) rfl ?_
      refine mv1 rfl rfl ?_
      refine b_split (t := 94) rfl (fun _ => ?_) (fun _ => ?_)
      · refine s_off rfl rfl rfl rfl rfl ?_
        refine s_off rfl rfl rfl rfl rfl ?_
        refine s_off rfl rfl rfl rfl rfl ?_
        refine s_off rfl rfl rfl rfl rfl ?_
        refine s_rd (r_pickT rfl rfl) rfl ?_
        refine l_nil (n_then ?_)
        refine ref_condT rfl rfl ?_
        refine ref_seq (ref_region ?_)
        refine as1 rfl rfl ?_
        refine l_nil (n_then (ref_ret (r_then (r_block (r_then ?_)))))
        refine retX ?_
        refine r_block (r_then ?_)
        exact fin1 (.inl rfl) () [] rfl trivial rfl (rv_tmp rfl)
      refine s_on rfl rfl rfl ?_
      refine s_rd (r_faddr (fo := 2) Tryz.underlying62 rfl rfl Tryz.sizeOf29 rfl) rfl ?_
      refine s_on rfl rfl rfl ?_
      refine s_rd (r_cloadS Tryz.isAgg29 Tryz.sizeOf29 rfl (j := 1) rfl rfl rfl) rfl ?_
      refine s_on rfl rfl rfl ?_
      refine pull fun t63 h_t63 => ?_
      refine s_st (s_call (ψ := fun (_ : Unit) => bv t63) (args := [.tmp 96]) Tryz.call85 rfl (ref01_Valid_ok h_t63) ⟨arg rfl, trivial⟩ (fun _ _ _ _ h => h)) rfl (fun _ => ?_)
      refine s_on rfl rfl rfl ?_
      refine s_rd (r_not rfl) rfl ?_
      refine s_rd (r_pickF rfl rfl) rfl ?_
      refine l_nil ?_
      refine b_of (nrm [oc b1 [slv rT_api_Premise b_0.Premises, slv rT_api_Rule b_0.Rules, slv rT_api_Promotion b_0.Promotions], oc b61 [sv t60.Rule, iv .i64 t60.Rank, bv t60.If.Neg, sv t60.If.Name]] rfl) ?_
      refine n_then ?_
      refine ref_cond rfl (fun hb64 => ?_) (fun hb64 => ?_)
      · refine ref_seq (ref_region ?_)
        refine as1 rfl rfl ?_
        refine l_nil (n_then (ref_ret (r_then (r_block (r_then ?_)))))
        refine retX ?_
        refine r_block (r_then ?_)
        exact fin1 (.inl rfl) () [] rfl trivial rfl (rv_tmp rfl)
      refine ref_skip (n_then (ref_seq (ref_region ?_)))
      refine s_rd (r_cloadS Tryz.isAgg26 Tryz.sizeOf26 rfl (j := 0) rfl rfl rfl) rfl ?_
      refine s_rd (r_faddr (fo := 0) Tryz.underlying62 rfl rfl Tryz.sizeOf9 rfl) rfl ?_
      refine s_rd (r_cload Tryz.isAgg9 rfl (j := 1) rfl rfl) rfl ?_
      refine pull fun k65 h_k65 => ?_
      refine s_st (s_call (ψ := fun (_ : Unit) => iv .i64 k65) (args := [.tmp 100, .tmp 102]) Tryz.call83 rfl (ref05_Find_ok h_k65) ⟨arg rfl, arg rfl, trivial⟩ (fun _ _ _ _ h => h)) rfl (fun _ => ?_)
      refine as1 rfl rfl ?_
      refine l_nil (n_then (ref_seq (ref_seq (ref_region ?_))))
      refine mv1 rfl rfl ?_
      refine s_rd (r_lss rfl rfl) rfl ?_
      refine l_nil (n_then ?_)
      refine ref_cond rfl (fun hb66 => ?_) (fun hb66 => ?_)
      · refine ref_seq (ref_region ?_)
        refine as1 rfl rfl ?_
        refine l_nil (n_then (ref_ret (r_then (r_block (r_then ?_)))))
        refine retX ?_
        refine r_block (r_then ?_)
        exact fin1 (.inl rfl) () [] rfl trivial rfl (rv_tmp rfl)
      refine ref_skip (n_then (ref_seq (ref_region ?_)))
      refine s_rd (r_faddr (fo := 1) Tryz.underlying26 rfl rfl Tryz.sizeOf23 rfl) rfl ?_
      refine s_rd (r_cload Tryz.isAgg23 rfl (j := 0) rfl rfl) rfl ?_
      refine mv1 rfl rfl ?_
      refine pull fun t67 h_t67 => ?_
      refine s_rd (r_index h_t67 Tryz.underlying23 el_60 rfl rfl) rfl ?_
      refine s_rd (r_fea (fo := 1) (ρ := rT_api_Rule) (y := t67) (ρ' := rB) (z := t67.Strict) Tryz.underlying60 rfl rfl Tryz.sizeOf4 rfl rfl rfl) rfl ?_
      refine s_rd (r_load el_4 rfl) rfl ?_
      refine l_nil (n_then ?_)
      refine ref_cond rfl (fun hb68 => ?_) (fun hb68 => ?_)
      · refine ref_seq (ref_region ?_)
        refine as1 rfl rfl ?_
        refine l_nil (n_then (ref_ret (r_block (r_then ?_))))
        refine retX ?_
        refine r_block (r_then ?_)
        exact fin1 (.inl rfl) () [] rfl trivial rfl (rv_tmp rfl)
      refine ref_skip (n_block (n_then (ref_region ?_)))
      refine mv1 rfl rfl ?_
      refine s_rd (r_add rfl rfl) rfl ?_
      refine as1 rfl rfl ?_
      refine b_let (f := iv .i64) (t := 7) rfl fun i69 => ?_
      refine l_nil ?_
      exact goX () (weak [0] ⟨rfl, rfl, trivial⟩ ⟨rfl, trivial⟩)
    refine ref_exit (x_then ?_)
    exact brkX () (weak [] trivial trivial)
  refine n_then (ref_seq (ref_region ?_))
  refine as1 rfl rfl ?_
  refine l_nil (n_then (ref_ret ?_))
  exact fin1 (.inl rfl) () [] rfl trivial rfl (rv_tmp rfl)

/-! deliberation/deliberationref05.Copy -/
noncomputable def ref05_Copy_l1 (b_0 : T_api_Base) (s43 : Int × (List T_api_Rule)) : Option (Sum ((List T_api_Rule)) (Int × (List T_api_Rule))) :=
  bif decide (s43.1 < (b_0.Rules.length : Int)) then
    Option.bind (idxM b_0.Rules s43.1) fun t46 =>
    Option.bind (appM 24 [] t46.Body) fun t49 =>
    Option.bind (appM 80 s43.2 [(T_api_Rule.mk t46.Name t46.Strict t46.Rank t49 t46.Head)]) fun t51 =>
    letM (iadd .i64 s43.1 1) fun i53 =>
    some (Sum.inr (i53, t51))
  else
    some (Sum.inl s43.2)

noncomputable def ref05_Copy_m (b_0 : T_api_Base) : Option (T_api_Base) :=
  Option.bind (appM 56 [] b_0.Premises) fun t5 =>
  Option.bind (appM 48 [] b_0.Promotions) fun t8 =>
  Option.bind (loopC (ref05_Copy_l1 b_0) (0, [])) fun q54 : (List T_api_Rule) =>
  some (T_api_Base.mk t5 q54 t8)

theorem ref05_Copy_ok {b_0 : T_api_Base} {r : T_api_Base} (hm : ref05_Copy_m b_0 = some r) :
    FnOk prog 53 [ag [slv rT_api_Premise b_0.Premises, slv rT_api_Rule b_0.Rules, slv rT_api_Promotion b_0.Promotions]] [] (fun (x : (Value × List Nat)) => [ag [slv rT_api_Premise r.Premises, pv x.1, slv rT_api_Promotion r.Promotions]]) (fun (x : (Value × List Nat)) => [oa rT_api_Rule x.1 x.2 r.Rules]) := by
  refine fn_ok (X := (Value × List Nat)) (fn := Tryz.f53) (N := 39) (res := fun r x => [ag [slv rT_api_Premise r.Premises, pv x.1, slv rT_api_Promotion r.Promotions]]) (Ω1 := fun r x => [oa rT_api_Rule x.1 x.2 r.Rules]) Tryz.func53 rfl rfl hm rfl (fun E hM => ?_)
  unfold ref05_Copy_m
  refine ref_seq (ref_region ?_)
  refine s_st (s_box (part_agO (ψs := [slv rT_api_Premise b_0.Premises, slv rT_api_Rule b_0.Rules, slv rT_api_Promotion b_0.Promotions]) rfl ⟨.inl slv_at, .inl slv_at, .inl slv_at, trivial⟩)) rfl (fun b1 => ?_)
  refine s_st (s_alloc zt_26) rfl (fun b2 => ?_)
  refine l_nil (n_then (ref_seq ?_))
  refine pull fun t5 h_t5 => ?_
  refine pull fun t8 h_t8 => ?_
  refine ref_drawI 3 [⟨[], [], [2], [2], [], fun us u => pv u.V.1, fun us u => [oa rT_api_Premise u.V.1 u.V.2 []]⟩, ⟨[], [], [], [], [], fun us u => pv (ptr b1 0), fun us u => []⟩, ⟨[1], [], [], [0], [], fun us u => slv rT_api_Premise b_0.Premises, fun us u => []⟩, ⟨[0, 1, 2], [], [2], [2], [2], fun us u => pv u.V.1, fun us u => [oa rT_api_Premise u.V.1 u.V.2 t5]⟩, ⟨[], [], [3], [3], [], fun us u => pv u.V.1, fun us u => [oa rT_api_Promotion u.V.1 u.V.2 []]⟩, ⟨[], [], [], [], [], fun us u => pv (ptr b1 2), fun us u => []⟩, ⟨[5], [], [], [0], [], fun us u => slv rT_api_Promotion b_0.Promotions, fun us u => []⟩, ⟨[0, 1, 2, 3, 4, 5, 6], [], [3], [3], [3], fun us u => pv u.V.1, fun us u => [oa rT_api_Promotion u.V.1 u.V.2 t8]⟩, ⟨[0, 1, 2, 3, 4, 5, 6, 7], [3, 7], [], [2, 3], [], fun us u => ag [pv (us.getD 0 .none).V.1, pv (.slice none 0 0), pv (us.getD 1 .none).V.1], fun us u => []⟩, ⟨[], [], [4], [4], [], fun us u => pv (ptr u.Nn 0), fun us u => [oc u.Nn [pv (.slice none 0 0), pv (.slice none 0 0), pv (.slice none 0 0)]]⟩, ⟨[0, 1, 2, 3, 4, 5, 6, 7, 8, 9], [3, 7, 9], [4], [2, 3, 4], [4], fun us u => pv undef, fun us u => [oc (us.getD 2 .none).Nn [pv (us.getD 0 .none).V.1, pv (.slice none 0 0), pv (us.getD 1 .none).V.1]]⟩] (fun χ3 => [(1, pv (ptr b1 0)), (2, pv (ptr b2 0)), (3, pv (ptr (χ3 9).Nn 0))]) (fun χ3 => [oc b1 [slv rT_api_Premise b_0.Premises, slv rT_api_Rule b_0.Rules, slv rT_api_Promotion b_0.Promotions], oc b2 [pv (.slice none 0 0), pv (.slice none 0 0), pv (.slice none 0 0)], oa rT_api_Premise (χ3 3).V.1 (χ3 3).V.2 t5, oa rT_api_Promotion (χ3 7).V.1 (χ3 7).V.2 t8, oc (χ3 9).Nn [pv (χ3 3).V.1, pv (.slice none 0 0), pv (χ3 7).V.1]]) rfl (by kernel_rfl) ⟨fun χ3 Ω ⟨h2, _⟩ => St.to XU.V XU.hV (St.placeL (os := fun _ => [_]) [2] (s_bsliceO (xs := []) (ds := []) Tryz.underlying22 el_58 rfl (Nat.le_of_ble_eq_true rfl) trivial) (fun _ => rfl) (fun _ => ⟨h2, rfl, trivial⟩)) (fun _ => rfl) (fun _ => rfl), (by intro _ h; cases h; rfl), ⟨fun χ3 Ω _ => St.toR (r_faddr (fo := 0) Tryz.underlying26 rfl rfl Tryz.sizeOf22 rfl) (fun _ => rfl) (fun _ => rfl), (by intro _ h; cases h; rfl), ⟨fun χ3 Ω ⟨h0, _⟩ => St.toR (r_cload Tryz.isAgg22 rfl (j := 0) h0 rfl) (fun _ => rfl) (fun _ => rfl), (by intro _ h; cases h; rfl), ⟨fun χ3 Ω ⟨h2, _⟩ => St.to XU.V XU.hV (s_append h_t5 Tryz.underlying22 el_58 rfl (j := 2) h2 rfl) (fun _ => rfl) (fun _ => rfl), (by intro _ h; cases h; rfl), ⟨fun χ3 Ω ⟨h3, _⟩ => St.to XU.V XU.hV (St.placeL (os := fun _ => [_]) [3] (s_bsliceO (xs := []) (ds := []) Tryz.underlying24 el_62 rfl (Nat.le_of_ble_eq_true rfl) trivial) (fun _ => rfl) (fun _ => ⟨h3, rfl, trivial⟩)) (fun _ => rfl) (fun _ => rfl), (by intro _ h; cases h; rfl), ⟨fun χ3 Ω _ => St.toR (r_faddr (fo := 2) Tryz.underlying26 rfl rfl Tryz.sizeOf24 rfl) (fun _ => rfl) (fun _ => rfl), (by intro _ h; cases h; rfl), ⟨fun χ3 Ω ⟨h0, _⟩ => St.toR (r_cload Tryz.isAgg24 rfl (j := 0) h0 rfl) (fun _ => rfl) (fun _ => rfl), (by intro _ h; cases h; rfl), ⟨fun χ3 Ω ⟨h3, _⟩ => St.to XU.V XU.hV (s_append h_t8 Tryz.underlying24 el_62 rfl (j := 3) h3 rfl) (fun _ => rfl) (fun _ => rfl), (by intro _ h; cases h; rfl), ⟨fun χ3 Ω ⟨h2, h3, _⟩ => St.toR (r_build (ps := [(0, .tmp 9), (2, .tmp 13)]) (rs := [(0, [pv (χ3 3).V.1]), (2, [pv (χ3 7).V.1])]) st_26 zs_26 ⟨rfl, (part_own rfl (j := 2) h2), ⟨rfl, (part_own rfl (j := 3) h3), trivial⟩⟩ rfl rfl) (fun _ => rfl) (fun _ => rfl), (by intro _ h; cases h; rfl), ⟨fun χ3 Ω ⟨h4, _⟩ => St.to XU.Nn XU.hN (St.placeL (os := fun _ => [_]) [4] (s_alloc zt_26) (fun _ => rfl) (fun _ => ⟨h4, rfl, trivial⟩)) (fun _ => rfl) (fun _ => rfl), (by intro _ h; cases h; rfl), ⟨fun χ3 Ω ⟨h2, h3, h4, _⟩ => St.to XU.U XU.hU (s_cstore (out := [pv (χ3 3).V.1, pv (.slice none 0 0), pv (χ3 7).V.1]) Tryz.sizeOf26 rfl (j := 4) h4 (part_agO (ψs := [pv (χ3 3).V.1, pv (.slice none 0 0), pv (χ3 7).V.1]) rfl ⟨.inr ⟨_, _, _, _, _, 2, rfl, h2⟩, .inl (pv_at rfl), .inr ⟨_, _, _, _, _, 3, rfl, h3⟩, trivial⟩) rfl rfl rfl) (fun _ => rfl) (fun _ => rfl), (by intro _ h; cases h), trivial⟩⟩⟩⟩⟩⟩⟩⟩⟩⟩⟩ (fun _ => ⟨rfl, rfl, rfl, trivial⟩) (fun _ => rfl) (fun χ3 => ?_)
  refine n_then (ref_seq (ref_seq (ref_region ?_)))
  refine as1 rfl rfl ?_
  refine l_nil (n_then ?_)
  refine b_of (own_nil rT_api_Rule) ?_
  refine ref_loopB (f := (ref05_Copy_l1 b_0)) (Γl := (fun (s43 : Int × (List T_api_Rule)) (x44 : (Value × List Nat)) => [(1, pv (ptr b1 0)), (2, pv (ptr b2 0)), (3, pv (ptr (χ3 9).Nn 0)), (4, iv .i64 s43.1)])) (Ωl := (fun (s43 : Int × (List T_api_Rule)) (x44 : (Value × List Nat)) => [oc b1 [slv rT_api_Premise b_0.Premises, slv rT_api_Rule b_0.Rules, slv rT_api_Promotion b_0.Promotions], oc b2 [pv (.slice none 0 0), pv (.slice none 0 0), pv (.slice none 0 0)], oc (χ3 9).Nn [pv (χ3 3).V.1, pv x44.1, pv (χ3 7).V.1], oa rT_api_Premise (χ3 3).V.1 (χ3 3).V.2 t5, oa rT_api_Rule x44.1 x44.2 s43.2, oa rT_api_Promotion (χ3 7).V.1 (χ3 7).V.2 t8])) (Γb := (fun (q54 : (List T_api_Rule)) (y55 : (Value × List Nat)) => [(2, pv (ptr b2 0)), (3, pv (ptr (χ3 9).Nn 0))])) (Ωb := (fun (q54 : (List T_api_Rule)) (y55 : (Value × List Nat)) => [oc b2 [pv (.slice none 0 0), pv (.slice none 0 0), pv (.slice none 0 0)], oc (χ3 9).Nn [pv (χ3 3).V.1, pv y55.1, pv (χ3 7).V.1], oa rT_api_Premise (χ3 3).V.1 (χ3 3).V.2 t5, oa rT_api_Rule y55.1 y55.2 q54, oa rT_api_Promotion (χ3 7).V.1 (χ3 7).V.2 t8])) (0, []) ((.slice none 0 0), []) (weak [0, 1, 4, 2, 5, 3] ⟨rfl, rfl, rfl, rfl, trivial⟩ ⟨rfl, rfl, rfl, rfl, rfl, rfl, trivial⟩) (fun s43 x44 => ?_) (fun q54 y55 => ?_)
  · unfold ref05_Copy_l1
    refine ref_seq (ref_seq (ref_region ?_))
    refine mv1 rfl rfl ?_
    refine s_rd (r_faddr (fo := 1) Tryz.underlying26 rfl rfl Tryz.sizeOf23 rfl) rfl ?_
    refine s_rd (r_cload Tryz.isAgg23 rfl (j := 0) rfl rfl) rfl ?_
    refine s_rd (r_len Tryz.underlying23 rfl) rfl ?_
    refine s_rd (r_lss rfl rfl) rfl ?_
    refine l_nil (n_then ?_)
    refine ref_cond rfl (fun hb45 => ?_) (fun hb45 => ?_)
    · refine ref_skip (n_then (ref_seq (ref_block (ref_seq (ref_region ?_)))))
      refine s_rd (r_faddr (fo := 1) Tryz.underlying26 rfl rfl Tryz.sizeOf23 rfl) rfl ?_
      refine s_rd (r_cload Tryz.isAgg23 rfl (j := 0) rfl rfl) rfl ?_
      refine mv1 rfl rfl ?_
      refine pull fun t46 h_t46 => ?_
      refine s_rd (r_index h_t46 Tryz.underlying23 el_60 rfl rfl) rfl ?_
      refine s_rd (r_load el_60 rfl) rfl ?_
      refine s_st (s_alloc zt_60) rfl (fun b47 => ?_)
      refine s_st0 (s_cstore (out := [sv t46.Name, bv t46.Strict, iv .i64 t46.Rank, slv rT_api_Literal t46.Body, bv t46.Head.Neg, sv t46.Head.Name]) Tryz.sizeOf60 rfl (j := 6) rfl (part_agO (ψs := [sv t46.Name, bv t46.Strict, iv .i64 t46.Rank, slv rT_api_Literal t46.Body, bv t46.Head.Neg, sv t46.Head.Name]) rfl ⟨.inl sv_at, .inl bv_at, .inl iv_at, .inl slv_at, .inl bv_at, .inl sv_at, trivial⟩) rfl rfl rfl) (fun _ => ?_)
      refine l_nil (n_then (ref_seq (ref_region ?_)))
      refine s_st (s_bsliceO (xs := []) (ds := []) Tryz.underlying27 el_29 rfl (Nat.le_of_ble_eq_true rfl) trivial) rfl (fun o48 => ?_)
      refine s_rd (r_faddr (fo := 3) Tryz.underlying60 rfl rfl Tryz.sizeOf27 rfl) rfl ?_
      refine s_rd (r_cload Tryz.isAgg27 rfl (j := 6) rfl rfl) rfl ?_
      refine pull fun t49 h_t49 => ?_
      refine s_st (s_append h_t49 Tryz.underlying27 el_29 rfl (j := 7) rfl rfl) rfl (fun o50 => ?_)
      refine s_rd (r_faddr (fo := 3) Tryz.underlying60 rfl rfl Tryz.sizeOf27 rfl) rfl ?_
      refine s_st0 (s_cstore (out := [sv t46.Name, bv t46.Strict, iv .i64 t46.Rank, pv o50.1, bv t46.Head.Neg, sv t46.Head.Name]) Tryz.sizeOf27 rfl (j := 6) rfl (part_own rfl (j := 7) rfl) rfl rfl rfl) (fun _ => ?_)
      refine l_nil ?_
      refine b_of (nrm [oc b1 [slv rT_api_Premise b_0.Premises, slv rT_api_Rule b_0.Rules, slv rT_api_Promotion b_0.Promotions], oc b2 [pv (.slice none 0 0), pv (.slice none 0 0), pv (.slice none 0 0)], oc (χ3 9).Nn [pv (χ3 3).V.1, pv x44.1, pv (χ3 7).V.1], oa rT_api_Premise (χ3 3).V.1 (χ3 3).V.2 t5, oa rT_api_Rule x44.1 x44.2 s43.2, oa rT_api_Promotion (χ3 7).V.1 (χ3 7).V.2 t8, oc b47 [sv t46.Name, bv t46.Strict, iv .i64 t46.Rank, pv o50.1, bv t46.Head.Neg, sv t46.Head.Name], oa rT_api_Literal o50.1 o50.2 t49] rfl) ?_
      refine n_then (ref_region ?_)
      refine s_rd (r_faddr (fo := 1) Tryz.underlying26 rfl rfl Tryz.sizeOf23 rfl) rfl ?_
      refine s_rd (r_cload Tryz.isAgg23 rfl (j := 2) rfl rfl) rfl ?_
      refine s_rd (r_cloadS Tryz.isAgg60 Tryz.sizeOf60 rfl (j := 6) rfl rfl rfl) rfl ?_
      refine b_of (frzGL [(30, slv rT_api_Literal t49), (34, ag [sv t46.Name, bv t46.Strict, iv .i64 t46.Rank, slv rT_api_Literal t49, bv t46.Head.Neg, sv t46.Head.Name])] [(6, b47, [sv t46.Name, bv t46.Strict, iv .i64 t46.Rank, slv rT_api_Literal t49, bv t46.Head.Neg, sv t46.Head.Name])] (j := 7) rfl ⟨⟨_, rfl, .inl ⟨rfl, rfl⟩⟩, ⟨_, rfl, .inr ⟨_, _, rfl, rfl, ⟨.inl rfl, .inl rfl, .inl rfl, .inr ⟨rfl, rfl⟩, .inl rfl, .inl rfl, trivial⟩⟩⟩, trivial⟩ ⟨⟨_, rfl, ⟨.inl rfl, .inl rfl, .inl rfl, .inr ⟨rfl, rfl⟩, .inl rfl, .inl rfl, trivial⟩⟩, trivial⟩) ?_
      refine s_st (s_bslice (xs := [.tmp 34]) (ds := [(T_api_Rule.mk t46.Name t46.Strict t46.Rank t49 t46.Head)]) Tryz.underlying23 el_60 rfl (Nat.le_of_ble_eq_true rfl) ⟨(part_agO (ψs := [sv t46.Name, bv t46.Strict, iv .i64 t46.Rank, slv rT_api_Literal t49, bv t46.Head.Neg, sv t46.Head.Name]) rfl ⟨.inl sv_at, .inl bv_at, .inl iv_at, .inl slv_at, .inl bv_at, .inl sv_at, trivial⟩), trivial⟩) rfl (fun _ => ?_)
      refine pull fun t51 h_t51 => ?_
      refine s_st (s_append h_t51 Tryz.underlying23 el_60 rfl (j := 4) rfl rfl) rfl (fun o52 => ?_)
      refine s_rd (r_faddr (fo := 1) Tryz.underlying26 rfl rfl Tryz.sizeOf23 rfl) rfl ?_
      refine s_st0 (s_cstore (out := [pv (χ3 3).V.1, pv o52.1, pv (χ3 7).V.1]) Tryz.sizeOf23 rfl (j := 2) rfl (part_own rfl (j := 4) rfl) rfl rfl rfl) (fun _ => ?_)
      refine l_nil (n_block (n_then (ref_region ?_)))
      refine mv1 rfl rfl ?_
      refine s_rd (r_add rfl rfl) rfl ?_
      refine as1 rfl rfl ?_
      refine b_let (f := iv .i64) (t := 4) rfl fun i53 => ?_
      refine l_nil ?_
      exact goB o52 (weak [0, 1, 2, 3, 4, 5] ⟨rfl, rfl, rfl, rfl, trivial⟩ ⟨rfl, rfl, rfl, rfl, rfl, rfl, trivial⟩)
    refine ref_exit (x_then ?_)
    exact brkB x44 (weak [1, 2, 3, 4, 5] ⟨rfl, rfl, trivial⟩ ⟨rfl, rfl, rfl, rfl, rfl, trivial⟩)
  refine n_then (ref_seq (ref_region ?_))
  refine s_rd (r_cloadS Tryz.isAgg26 Tryz.sizeOf26 rfl (j := 1) rfl rfl rfl) rfl ?_
  refine s_st0 (s_cstore (out := [pv (χ3 3).V.1, pv y55.1, pv (χ3 7).V.1]) Tryz.sizeOf26 rfl (j := 0) rfl (part_agO (ψs := [pv (χ3 3).V.1, pv y55.1, pv (χ3 7).V.1]) rfl ⟨.inr ⟨_, _, _, _, _, 2, rfl, rfl⟩, .inr ⟨_, _, _, _, _, 3, rfl, rfl⟩, .inr ⟨_, _, _, _, _, 4, rfl, rfl⟩, trivial⟩) rfl rfl rfl) (fun _ => ?_)
  refine l_nil (n_then (ref_ret ?_))
  refine b_of (frzGL [(38, ag [slv rT_api_Premise t5, pv y55.1, pv (χ3 7).V.1])] [(0, b2, [slv rT_api_Premise t5, pv y55.1, pv (χ3 7).V.1]), (1, (χ3 9).Nn, [slv rT_api_Premise t5, pv y55.1, pv (χ3 7).V.1])] (j := 2) rfl ⟨⟨_, rfl, .inr ⟨_, _, rfl, rfl, ⟨.inr ⟨rfl, rfl⟩, .inl rfl, .inl rfl, trivial⟩⟩⟩, trivial⟩ ⟨⟨_, rfl, ⟨.inr ⟨rfl, rfl⟩, .inl rfl, .inl rfl, trivial⟩⟩, ⟨_, rfl, ⟨.inr ⟨rfl, rfl⟩, .inl rfl, .inl rfl, trivial⟩⟩, trivial⟩) ?_
  refine b_of (nrm [oc b2 [slv rT_api_Premise t5, pv y55.1, pv (χ3 7).V.1], oc (χ3 9).Nn [slv rT_api_Premise t5, pv y55.1, pv (χ3 7).V.1], dead, oa rT_api_Rule y55.1 y55.2 q54, oa rT_api_Promotion (χ3 7).V.1 (χ3 7).V.2 t8] rfl) ?_
  refine b_of (frzGL [(38, ag [slv rT_api_Premise t5, pv y55.1, slv rT_api_Promotion t8])] [(0, b2, [slv rT_api_Premise t5, pv y55.1, slv rT_api_Promotion t8]), (1, (χ3 9).Nn, [slv rT_api_Premise t5, pv y55.1, slv rT_api_Promotion t8])] (j := 4) rfl ⟨⟨_, rfl, .inr ⟨_, _, rfl, rfl, ⟨.inl rfl, .inl rfl, .inr ⟨rfl, rfl⟩, trivial⟩⟩⟩, trivial⟩ ⟨⟨_, rfl, ⟨.inl rfl, .inl rfl, .inr ⟨rfl, rfl⟩, trivial⟩⟩, ⟨_, rfl, ⟨.inl rfl, .inl rfl, .inr ⟨rfl, rfl⟩, trivial⟩⟩, trivial⟩) ?_
  refine b_of (nrm [oc b2 [slv rT_api_Premise t5, pv y55.1, slv rT_api_Promotion t8], oc (χ3 9).Nn [slv rT_api_Premise t5, pv y55.1, slv rT_api_Promotion t8], dead, oa rT_api_Rule y55.1 y55.2 q54, dead] rfl) ?_
  exact fin1 (.inl rfl) y55 [3] rfl ⟨rfl, trivial⟩ rfl (rv_cell rfl (j := 0) rfl Tryz.isAgg26 Tryz.sizeOf26 rfl rfl)

/-! deliberation/deliberationref01.Complement -/
noncomputable def ref01_Complement_m (x_0 : T_api_Literal) : Option (T_api_Literal) :=
  some (T_api_Literal.mk (!x_0.Neg) x_0.Name)

theorem ref01_Complement_ok {x_0 : T_api_Literal} {r : T_api_Literal} (hm : ref01_Complement_m x_0 = some r) :
    FnOk prog 86 [ag [bv x_0.Neg, sv x_0.Name]] [] (fun (x : Unit) => [ag [bv r.Neg, sv r.Name]]) (fun (x : Unit) => []) := by
  refine fn_ok (fn := Tryz.f86) (N := 9) (res := fun r x => [ag [bv r.Neg, sv r.Name]]) (Ω1 := fun r x => []) Tryz.func86 rfl rfl hm rfl (fun E hM => ?_)
  unfold ref01_Complement_m
  refine ref_seq (ref_region ?_)
  refine s_st (s_box (part_agO (ψs := [bv x_0.Neg, sv x_0.Name]) rfl ⟨.inl bv_at, .inl sv_at, trivial⟩)) rfl (fun b1 => ?_)
  refine s_st (s_alloc zt_29) rfl (fun b2 => ?_)
  refine l_nil (n_then (ref_seq (ref_region ?_)))
  refine s_rd (r_faddr (fo := 0) Tryz.underlying29 rfl rfl Tryz.sizeOf4 rfl) rfl ?_
  refine s_rd (r_cload Tryz.isAgg4 rfl (j := 0) rfl rfl) rfl ?_
  refine s_rd (r_not rfl) rfl ?_
  refine s_rd (r_faddr (fo := 1) Tryz.underlying29 rfl rfl Tryz.sizeOf9 rfl) rfl ?_
  refine s_rd (r_cload Tryz.isAgg9 rfl (j := 0) rfl rfl) rfl ?_
  refine s_rd (r_build (ps := [(0, .tmp 5), (1, .tmp 7)]) (rs := [(0, [bv (!x_0.Neg)]), (1, [sv x_0.Name])]) st_29 zs_29 ⟨rfl, (part_at rfl bv_at), ⟨rfl, (part_at rfl sv_at), trivial⟩⟩ rfl rfl) rfl ?_
  refine s_st0 (s_cstore (out := [bv (!x_0.Neg), sv x_0.Name]) Tryz.sizeOf29 rfl (j := 1) rfl (part_agO (ψs := [bv (!x_0.Neg), sv x_0.Name]) rfl ⟨.inl bv_at, .inl sv_at, trivial⟩) rfl rfl rfl) (fun _ => ?_)
  refine l_nil (n_then (ref_ret ?_))
  exact fin1 (.inl rfl) () [] rfl trivial rfl (rv_cell rfl (j := 1) rfl Tryz.isAgg29 Tryz.sizeOf29 rfl rfl)

end Go.Dc
