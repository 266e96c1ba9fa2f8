/- Part LAW08T.A1 of a proof: lemmas. -/
import Derived.Test.YtofcoilhjmkejaaLAW08TA0
import Derived.Test.YtofcoilhjmkejaaProg
set_option linter.unusedVariables false
set_option maxRecDepth 100000
set_option maxHeartbeats 4000000
namespace Go.Dc
open Go.Proofs
open Go.Proofs.Try (prog)

/-! deliberation/deliberationref07.Build -/
noncomputable def ref07_Build_l1 (b_0 : T_api_Base) (s17 : Int × (List T_api_Argument)) : Option (Sum ((List T_api_Argument)) (Int × (List T_api_Argument))) :=
  bif decide (s17.1 < (b_0.Premises.length : Int)) then
    Option.bind (idxM b_0.Premises s17.1) fun t20 =>
    Option.bind (appM 64 s17.2 [(T_api_Argument.mk s17.1 (-1) [] t20.Literal)]) fun l21 =>
    letM (iadd .i64 s17.1 1) fun i23 =>
    some (Sum.inr (i23, l21))
  else
    some (Sum.inl s17.2)

noncomputable def ref07_Build_l4 (b_0 : T_api_Base) (s283 : Int × Int × (List T_api_Argument)) (s369 : Int × (List T_api_Argument)) (t373 : List (List Int)) (s390 : Int × (List T_api_Argument)) : Option (Sum ((Sum (List T_api_Argument × Int) ((List T_api_Argument)))) (Int × (List T_api_Argument))) :=
  bif decide (s390.1 < (t373.length : Int)) then
    Option.bind (idxM t373 s390.1) fun subs393 =>
    joinM (fun j399 : Bool × Bool =>
        Option.bind (idxM b_0.Rules s369.1) fun t402 =>
        Option.bind (appM 64 s390.2 [(T_api_Argument.mk (-1) s369.1 subs393 t402.Head)]) fun l403 =>
        bif decide ((l403.length : Int) > 40) then
          some (Sum.inl (Sum.inl ([], 2)))
        else
          some (Sum.inr (iadd .i64 s390.1 1, l403))) fun k401 =>
    Option.bind (ref07_recent_m subs393 s283.1) fun t394 =>
    bif !t394 then
      bif decide (s283.2.1 > 1) then
        some (Sum.inr (iadd .i64 s390.1 1, s390.2))
      else
        bif decide ((subs393.length : Int) > 0) then
          some (Sum.inr (iadd .i64 s390.1 1, s390.2))
        else
          Option.bind (ref07_Within_m b_0 s390.2 s369.1 subs393) fun t395 =>
          bif !t395 then
            some (Sum.inr (iadd .i64 s390.1 1, s390.2))
          else
            k401 (t395, !t395)
    else
      Option.bind (ref07_Within_m b_0 s390.2 s369.1 subs393) fun t396 =>
      bif !t396 then
        some (Sum.inr (iadd .i64 s390.1 1, s390.2))
      else
        k401 (t396, !t396)
  else
    some (Sum.inl (Sum.inr s390.2))

noncomputable def ref07_Build_l3 (b_0 : T_api_Base) (s283 : Int × Int × (List T_api_Argument)) (n289 : Int) (s369 : Int × (List T_api_Argument)) : Option (Sum ((Sum (List T_api_Argument × Int) ((List T_api_Argument)))) (Int × (List T_api_Argument))) :=
  bif decide (s369.1 < (b_0.Rules.length : Int)) then
    Option.bind (idxM b_0.Rules s369.1) fun t372 =>
    Option.bind (ref07_choices_m s369.2 n289 t372.Body []) fun t373 =>
    Option.bind (loopC (ref07_Build_l4 b_0 s283 s369 t373) (0, s369.2)) (sumK (fun a : List T_api_Argument × Int => some (Sum.inl (Sum.inl a))) fun q406 : (List T_api_Argument) =>
      letM (iadd .i64 s369.1 1) fun i408 =>
      some (Sum.inr (i408, q406)))
  else
    some (Sum.inl (Sum.inr s369.2))

noncomputable def ref07_Build_l2 (b_0 : T_api_Base) (s283 : Int × Int × (List T_api_Argument)) : Option (Sum ((Sum (List T_api_Argument × Int) ((List T_api_Argument)))) (Int × Int × (List T_api_Argument))) :=
  joinM (fun j286 : Unit =>
      letM ((s283.2.2.length : Int)) fun n289 =>
      Option.bind (loopC (ref07_Build_l3 b_0 s283 n289) (0, s283.2.2)) (sumK (fun a : List T_api_Argument × Int => some (Sum.inl (Sum.inl a))) fun q409 : (List T_api_Argument) =>
        letM (iadd .i64 s283.2.1 1) fun round411 =>
        some (Sum.inr (n289, round411, q409)))) fun k288 =>
  bif s283.2.1 == 1 then
    k288 ()
  else
    bif decide (s283.1 < (s283.2.2.length : Int)) then
      k288 ()
    else
      some (Sum.inl (Sum.inr s283.2.2))

noncomputable def ref07_Build_m (b_0 : T_api_Base) : Option (List T_api_Argument × Int) :=
  Option.bind (ref05_Validate_m b_0) fun e2 =>
  bif e2 != 0 then
    some ([], e2)
  else
    Option.bind (loopC (ref07_Build_l1 b_0) (0, [])) fun q24 : (List T_api_Argument) =>
    Option.bind (loopC (ref07_Build_l2 b_0) (0, 1, q24)) (sumK (fun a : List T_api_Argument × Int => some a) fun q412 : (List T_api_Argument) =>
      some (q412, 0))

theorem ref07_Build_ok {b_0 : T_api_Base} {r : List T_api_Argument × Int} (hm : ref07_Build_m b_0 = some r) :
    FnOk prog 31 [ag [slv rT_api_Premise b_0.Premises, slv rT_api_Rule b_0.Rules, slv rT_api_Promotion b_0.Promotions]] [] (fun (x : (Value × List Nat)) => [pv x.1, iv .i64 r.2]) (fun (x : (Value × List Nat)) => [oa rT_api_Argument x.1 x.2 r.1]) := by
  refine fn_ok (X := (Value × List Nat)) (fn := Try.f31) (N := 108) (res := fun r x => [pv x.1, iv .i64 r.2]) (Ω1 := fun r x => [oa rT_api_Argument x.1 x.2 r.1]) Try.func31 rfl rfl hm rfl (fun E hM => ?_)
  unfold ref07_Build_m
  refine ref_seq (ref_region ?_)
  refine s_st (s_box (part_agO (ψs := [slv rT_api_Premise b_0.Premises, slv rT_api_Rule b_0.Rules, slv rT_api_Promotion b_0.Promotions]) rfl ⟨.inl slv_at, .inl slv_at, .inl slv_at, trivial⟩)) rfl (fun b1 => ?_)
  refine as1 rfl rfl ?_
  refine as1 rfl rfl ?_
  refine l_nil (n_then (ref_seq (ref_seq (ref_region ?_))))
  refine s_rd (r_cloadS Try.isAgg34 Try.sizeOf34 rfl (j := 0) rfl rfl rfl) rfl ?_
  refine pull fun e2 h_e2 => ?_
  refine s_st (s_call (ψ := fun (_ : Unit) => iv .i64 e2) (args := [.tmp 13]) Try.call46 rfl (ref05_Validate_ok h_e2) ⟨arg rfl, trivial⟩ (fun _ _ _ _ h => h)) rfl (fun _ => ?_)
  refine as1 rfl rfl ?_
  refine l_nil (n_then (ref_seq (ref_region ?_)))
  refine mv1 rfl rfl ?_
  refine s_rd (r_neq rfl rfl) rfl ?_
  refine l_nil (n_then ?_)
  refine ref_cond rfl (fun hb3 => ?_) (fun hb3 => ?_)
  · refine ref_seq (ref_region ?_)
    refine mv1 rfl rfl ?_
    refine as1 rfl rfl ?_
    refine as1 rfl rfl ?_
    refine l_nil (n_then (ref_ret (r_then ?_)))
    refine b_of (own_nil rT_api_Argument) ?_
    exact fin2 (.inl rfl) ((.slice none 0 0), []) [1] rfl ⟨rfl, trivial⟩ rfl (rv_tmp rfl) (rv_tmp rfl)
  refine ref_skip (n_then (ref_seq (ref_region ?_)))
  refine as1 rfl rfl ?_
  refine l_nil (n_then (ref_seq (ref_seq (ref_region ?_))))
  refine as1 rfl rfl ?_
  refine l_nil (n_then ?_)
  refine b_of (own_nil rT_api_Argument) ?_
  refine ref_loopB (f := (ref07_Build_l1 b_0)) (Γl := (fun (s17 : Int × (List T_api_Argument)) (x18 : (Value × List Nat)) => [(1, pv (ptr b1 0)), (5, pv x18.1), (6, iv .i64 s17.1)])) (Ωl := (fun (s17 : Int × (List T_api_Argument)) (x18 : (Value × List Nat)) => [oc b1 [slv rT_api_Premise b_0.Premises, slv rT_api_Rule b_0.Rules, slv rT_api_Promotion b_0.Promotions], oa rT_api_Argument x18.1 x18.2 s17.2])) (Γb := (fun (q24 : (List T_api_Argument)) (y25 : (Value × List Nat)) => [(1, pv (ptr b1 0)), (5, pv y25.1)])) (Ωb := (fun (q24 : (List T_api_Argument)) (y25 : (Value × List Nat)) => [oc b1 [slv rT_api_Premise b_0.Premises, slv rT_api_Rule b_0.Rules, slv rT_api_Promotion b_0.Promotions], oa rT_api_Argument y25.1 y25.2 q24])) (0, []) ((.slice none 0 0), []) (weak [0, 1] ⟨rfl, rfl, rfl, trivial⟩ ⟨rfl, rfl, trivial⟩) (fun s17 x18 => ?_) (fun q24 y25 => ?_)
  · unfold ref07_Build_l1
    refine ref_seq (ref_seq (ref_region ?_))
    refine mv1 rfl rfl ?_
    refine s_rd (r_faddr (fo := 0) Try.underlying34 rfl rfl Try.sizeOf30 rfl) rfl ?_
    refine s_rd (r_cload Try.isAgg30 rfl (j := 0) rfl rfl) rfl ?_
    refine s_rd (r_len Try.underlying30 rfl) rfl ?_
    refine s_rd (r_lss rfl rfl) rfl ?_
    refine l_nil (n_then ?_)
    refine ref_cond rfl (fun hb19 => ?_) (fun hb19 => ?_)
    · refine ref_skip (n_then (ref_seq (ref_block (ref_region ?_))))
      refine mv1 rfl rfl ?_
      refine mv1 rfl rfl ?_
      refine s_rd (r_faddr (fo := 0) Try.underlying34 rfl rfl Try.sizeOf30 rfl) rfl ?_
      refine s_rd (r_cload Try.isAgg30 rfl (j := 0) rfl rfl) rfl ?_
      refine mv1 rfl rfl ?_
      refine pull fun t20 h_t20 => ?_
      refine s_rd (r_index h_t20 Try.underlying30 el_64 rfl rfl) rfl ?_
      refine s_rd (r_fea (fo := 0) (ρ := rT_api_Premise) (y := t20) (ρ' := rT_api_Literal) (z := t20.Literal) Try.underlying64 rfl rfl Try.sizeOf50 rfl rfl rfl) rfl ?_
      refine s_rd (r_load el_50 rfl) rfl ?_
      refine s_rd (r_build (ps := [(0, .tmp 26), (1, .const (.int .i64 (-1))), (3, .tmp 32)]) (rs := [(0, [iv .i64 s17.1]), (1, [iv .i64 (-1)]), (3, [bv t20.Literal.Neg, sv t20.Literal.Name])]) st_52 zs_52 ⟨rfl, (part_at rfl iv_at), ⟨rfl, (part_at rfl iv_at), ⟨rfl, (part_agO (ψs := [bv t20.Literal.Neg, sv t20.Literal.Name]) rfl ⟨.inl bv_at, .inl sv_at, trivial⟩), trivial⟩⟩⟩ rfl rfl) rfl ?_
      refine b_of (nilG (rI .i64) [(33, ag [iv .i64 s17.1, iv .i64 (-1), slv (rI .i64) [], bv t20.Literal.Neg, sv t20.Literal.Name])] [] ⟨⟨_, rfl, .inr ⟨_, _, rfl, rfl, ⟨.inl rfl, .inl rfl, .inr ⟨rfl, rfl⟩, .inl rfl, .inl rfl, trivial⟩⟩⟩, trivial⟩ trivial) ?_
      refine s_st (s_bslice (xs := [.tmp 33]) (ds := [(T_api_Argument.mk s17.1 (-1) [] t20.Literal)]) Try.underlying35 el_52 rfl (Nat.le_of_ble_eq_true rfl) ⟨(part_agO (ψs := [iv .i64 s17.1, iv .i64 (-1), slv (rI .i64) [], bv t20.Literal.Neg, sv t20.Literal.Name]) rfl ⟨.inl iv_at, .inl iv_at, .inl slv_at, .inl bv_at, .inl sv_at, trivial⟩), trivial⟩) rfl (fun _ => ?_)
      refine pull fun l21 h_l21 => ?_
      refine s_st (s_append h_l21 Try.underlying35 el_52 rfl (j := 1) rfl rfl) rfl (fun o22 => ?_)
      refine as1 rfl rfl ?_
      refine l_nil ?_
      refine b_of (nrm [oc b1 [slv rT_api_Premise b_0.Premises, slv rT_api_Rule b_0.Rules, slv rT_api_Promotion b_0.Promotions], oa rT_api_Argument o22.1 o22.2 l21] rfl) ?_
      refine n_block (n_then (ref_region ?_))
      refine mv1 rfl rfl ?_
      refine s_rd (r_add rfl rfl) rfl ?_
      refine as1 rfl rfl ?_
      refine b_let (f := iv .i64) (t := 6) rfl fun i23 => ?_
      refine l_nil ?_
      exact goB o22 (weak [0, 1] ⟨rfl, rfl, rfl, trivial⟩ ⟨rfl, rfl, trivial⟩)
    refine ref_exit (x_then ?_)
    exact brkB x18 (weak [0, 1] ⟨rfl, rfl, trivial⟩ ⟨rfl, rfl, trivial⟩)
  refine n_then (ref_seq (ref_region ?_))
  refine as1 rfl rfl ?_
  refine l_nil (n_then (ref_seq (ref_seq (ref_region ?_))))
  refine as1 rfl rfl ?_
  refine l_nil (n_then ?_)
  refine ref_loopX (f := (ref07_Build_l2 b_0)) (Γl := (fun (s283 : Int × Int × (List T_api_Argument)) (x284 : (Value × List Nat)) => [(1, pv (ptr b1 0)), (5, pv x284.1), (7, iv .i64 s283.1), (8, iv .i64 s283.2.1)])) (Ωl := (fun (s283 : Int × Int × (List T_api_Argument)) (x284 : (Value × List Nat)) => [oc b1 [slv rT_api_Premise b_0.Premises, slv rT_api_Rule b_0.Rules, slv rT_api_Promotion b_0.Promotions], oa rT_api_Argument x284.1 x284.2 s283.2.2])) (Γb := (fun (q412 : (List T_api_Argument)) (y413 : (Value × List Nat)) => [(5, pv y413.1)])) (Ωb := (fun (q412 : (List T_api_Argument)) (y413 : (Value × List Nat)) => [oa rT_api_Argument y413.1 y413.2 q412])) (kr := (fun a : List T_api_Argument × Int => some a)) (0, 1, q24) y25 (weak [0, 1] ⟨rfl, rfl, rfl, rfl, trivial⟩ ⟨rfl, rfl, trivial⟩) (fun s283 x284 => ?_) (fun q412 y413 => ?_)
  · unfold ref07_Build_l2
    refine ref_seq ?_
    refine ref_join (fun (j286 : Unit) (x287 : Unit) => [(1, pv (ptr b1 0)), (5, pv x284.1), (7, iv .i64 s283.1), (8, iv .i64 s283.2.1)]) (fun (j286 : Unit) (x287 : Unit) => [oc b1 [slv rT_api_Premise b_0.Premises, slv rT_api_Rule b_0.Rules, slv rT_api_Promotion b_0.Promotions], oa rT_api_Argument x284.1 x284.2 s283.2.2]) (fun k288 hk288 => ?_) (fun j286 x287 => ?_)
    · refine ref_seq (ref_region ?_)
      refine mv1 rfl rfl ?_
      refine s_rd (r_eql rfl rfl) rfl ?_
      refine mv1 rfl rfl ?_
      refine b_split (t := 38) rfl (fun _ => ?_) (fun _ => ?_)
      · refine s_off rfl rfl rfl rfl rfl ?_
        refine s_off rfl rfl rfl rfl rfl ?_
        refine s_off rfl rfl rfl rfl rfl ?_
        refine s_off rfl rfl rfl rfl rfl ?_
        refine s_rd (r_pickT rfl rfl) rfl ?_
        refine l_nil (n_then ?_)
        refine ref_condT rfl rfl ?_
        refine ref_skip ?_
        exact b_to (hk288 () ()) (weak [0, 1] ⟨rfl, rfl, rfl, rfl, trivial⟩ ⟨rfl, rfl, trivial⟩)
      refine s_on rfl rfl rfl ?_
      refine mv1 rfl rfl ?_
      refine s_on rfl rfl rfl ?_
      refine mv1 rfl rfl ?_
      refine s_on rfl rfl rfl ?_
      refine s_rd (r_olen Try.underlying35 rfl (j := 1) rfl) rfl ?_
      refine s_on rfl rfl rfl ?_
      refine s_rd (r_lss rfl rfl) rfl ?_
      refine s_rd (r_pickF rfl rfl) rfl ?_
      refine l_nil (n_then ?_)
      refine ref_cond rfl (fun hb285 => ?_) (fun hb285 => ?_)
      · refine ref_skip ?_
        exact b_to (hk288 () ()) (weak [0, 1] ⟨rfl, rfl, rfl, rfl, trivial⟩ ⟨rfl, rfl, trivial⟩)
      refine ref_exit (x_then ?_)
      exact brkX x284 (weak [1] ⟨rfl, trivial⟩ ⟨rfl, trivial⟩)
    refine n_then (ref_seq (ref_block (ref_seq (ref_region ?_))))
    refine mv1 rfl rfl ?_
    refine s_rd (r_olen Try.underlying35 rfl (j := 1) rfl) rfl ?_
    refine as1 rfl rfl ?_
    refine b_let (f := iv .i64) (t := 9) rfl fun n289 => ?_
    refine l_nil (n_then (ref_seq (ref_seq (ref_region ?_))))
    refine as1 rfl rfl ?_
    refine l_nil (n_then ?_)
    refine ref_loopX (f := (ref07_Build_l3 b_0 s283 n289)) (Γl := (fun (s369 : Int × (List T_api_Argument)) (x370 : (Value × List Nat)) => [(1, pv (ptr b1 0)), (5, pv x370.1), (7, iv .i64 s283.1), (8, iv .i64 s283.2.1), (9, iv .i64 n289), (10, iv .i64 s369.1)])) (Ωl := (fun (s369 : Int × (List T_api_Argument)) (x370 : (Value × List Nat)) => [oc b1 [slv rT_api_Premise b_0.Premises, slv rT_api_Rule b_0.Rules, slv rT_api_Promotion b_0.Promotions], oa rT_api_Argument x370.1 x370.2 s369.2])) (Γb := (fun (q409 : (List T_api_Argument)) (y410 : (Value × List Nat)) => [(1, pv (ptr b1 0)), (5, pv y410.1), (8, iv .i64 s283.2.1), (9, iv .i64 n289)])) (Ωb := (fun (q409 : (List T_api_Argument)) (y410 : (Value × List Nat)) => [oc b1 [slv rT_api_Premise b_0.Premises, slv rT_api_Rule b_0.Rules, slv rT_api_Promotion b_0.Promotions], oa rT_api_Argument y410.1 y410.2 q409])) (kr := (fun a : List T_api_Argument × Int => some (Sum.inl (Sum.inl a)))) (0, s283.2.2) x284 (weak [0, 1] ⟨rfl, rfl, rfl, rfl, rfl, rfl, trivial⟩ ⟨rfl, rfl, trivial⟩) (fun s369 x370 => ?_) (fun q409 y410 => ?_)
    · unfold ref07_Build_l3
      refine ref_seq (ref_seq (ref_region ?_))
      refine mv1 rfl rfl ?_
      refine s_rd (r_faddr (fo := 1) Try.underlying34 rfl rfl Try.sizeOf31 rfl) rfl ?_
      refine s_rd (r_cload Try.isAgg31 rfl (j := 0) rfl rfl) rfl ?_
      refine s_rd (r_len Try.underlying31 rfl) rfl ?_
      refine s_rd (r_lss rfl rfl) rfl ?_
      refine l_nil (n_then ?_)
      refine ref_cond rfl (fun hb371 => ?_) (fun hb371 => ?_)
      · refine ref_skip (n_then (ref_seq (ref_block (ref_seq (ref_region ?_)))))
        refine mv1 rfl rfl ?_
        refine mv1 rfl rfl ?_
        refine s_rd (r_faddr (fo := 1) Try.underlying34 rfl rfl Try.sizeOf31 rfl) rfl ?_
        refine s_rd (r_cload Try.isAgg31 rfl (j := 0) rfl rfl) rfl ?_
        refine mv1 rfl rfl ?_
        refine pull fun t372 h_t372 => ?_
        refine s_rd (r_index h_t372 Try.underlying31 el_55 rfl rfl) rfl ?_
        refine s_rd (r_fea (fo := 3) (ρ := rT_api_Rule) (y := t372) (ρ' := (rSl rT_api_Literal)) (z := t372.Body) Try.underlying55 rfl rfl Try.sizeOf53 rfl rfl rfl) rfl ?_
        refine s_rd (r_load el_53 rfl) rfl ?_
        refine pull fun t373 h_t373 => ?_
        refine s_st (s_callC [1] [true] (fun (_ : Unit) => [oa rT_api_Argument x370.1 x370.2 s369.2]) (fun (_ : Unit) => []) (fun (_ : Unit) => slv (rSl (rI .i64)) t373) (args := [.tmp 55, .tmp 56, .tmp 62, .const (.slice none 0 0)]) (caps := []) Try.call47 rfl (ref07_choices_ok h_t373) ⟨rfl, rfl, trivial⟩ (fun _ => rfl) (fun _ => trivial) (fun _ => rfl) ⟨arg rfl, arg rfl, arg rfl, arg_nil _ rfl, trivial⟩ (fun _ _ _ _ h => h)) rfl (fun _ => ?_)
        refine s_rd (r_len Try.underlying26 rfl) rfl ?_
        refine mv1 rfl rfl ?_
        refine l_nil (n_then ?_)
        refine ref_loopX (f := (ref07_Build_l4 b_0 s283 s369 t373)) (Γl := (fun (s390 : Int × (List T_api_Argument)) (x391 : (Value × List Nat)) => [(1, pv (ptr b1 0)), (5, pv x391.1), (7, iv .i64 s283.1), (8, iv .i64 s283.2.1), (9, iv .i64 n289), (10, iv .i64 s369.1), (63, slv (rSl (rI .i64)) t373), (64, iv .i64 (t373.length : Int)), (65, iv .i64 s390.1)])) (Ωl := (fun (s390 : Int × (List T_api_Argument)) (x391 : (Value × List Nat)) => [oc b1 [slv rT_api_Premise b_0.Premises, slv rT_api_Rule b_0.Rules, slv rT_api_Promotion b_0.Promotions], oa rT_api_Argument x391.1 x391.2 s390.2])) (Γb := (fun (q406 : (List T_api_Argument)) (y407 : (Value × List Nat)) => [(1, pv (ptr b1 0)), (5, pv y407.1), (7, iv .i64 s283.1), (8, iv .i64 s283.2.1), (9, iv .i64 n289), (10, iv .i64 s369.1)])) (Ωb := (fun (q406 : (List T_api_Argument)) (y407 : (Value × List Nat)) => [oc b1 [slv rT_api_Premise b_0.Premises, slv rT_api_Rule b_0.Rules, slv rT_api_Promotion b_0.Promotions], oa rT_api_Argument y407.1 y407.2 q406])) (kr := (fun a : List T_api_Argument × Int => some (Sum.inl (Sum.inl a)))) (0, s369.2) x370 (weak [0, 1] ⟨rfl, rfl, rfl, rfl, rfl, rfl, rfl, rfl, rfl, trivial⟩ ⟨rfl, rfl, trivial⟩) (fun s390 x391 => ?_) (fun q406 y407 => ?_)
        · unfold ref07_Build_l4
          refine ref_seq (ref_region ?_)
          refine s_rd (r_lss rfl rfl) rfl ?_
          refine l_nil (n_then (ref_seq ?_))
          refine ref_cond rfl (fun hb392 => ?_) (fun hb392 => ?_)
          · refine ref_skip (n_then (ref_seq (ref_block (ref_seq (ref_region ?_)))))
            refine pull fun subs393 h_subs393 => ?_
            refine s_rd (r_index h_subs393 Try.underlying26 el_22 rfl rfl) rfl ?_
            refine s_rd (r_load el_22 rfl) rfl ?_
            refine as1 rfl rfl ?_
            refine l_nil (n_then (ref_seq ?_))
            refine ref_join (fun (j399 : Bool × Bool) (x400 : Unit) => [(1, pv (ptr b1 0)), (5, pv x391.1), (7, iv .i64 s283.1), (8, iv .i64 s283.2.1), (9, iv .i64 n289), (10, iv .i64 s369.1), (12, slv (rI .i64) subs393), (63, slv (rSl (rI .i64)) t373), (64, iv .i64 (t373.length : Int)), (65, iv .i64 s390.1), (83, ag [slv rT_api_Premise b_0.Premises, slv rT_api_Rule b_0.Rules, slv rT_api_Promotion b_0.Promotions]), (84, pv x391.1), (85, iv .i64 s369.1), (86, slv (rI .i64) subs393), (87, bv j399.1), (88, bv j399.2)]) (fun (j399 : Bool × Bool) (x400 : Unit) => [oc b1 [slv rT_api_Premise b_0.Premises, slv rT_api_Rule b_0.Rules, slv rT_api_Promotion b_0.Promotions], oa rT_api_Argument x391.1 x391.2 s390.2]) (fun k401 hk401 => ?_) (fun j399 x400 => ?_)
            · refine ref_seq (ref_region ?_)
              refine mv1 rfl rfl ?_
              refine mv1 rfl rfl ?_
              refine pull fun t394 h_t394 => ?_
              refine s_st (s_call (ψ := fun (_ : Unit) => bv t394) (args := [.tmp 69, .tmp 70]) Try.call48 rfl (ref07_recent_ok h_t394) ⟨arg rfl, arg rfl, trivial⟩ (fun _ _ _ _ h => h)) rfl (fun _ => ?_)
              refine s_rd (r_not rfl) rfl ?_
              refine mv1 rfl rfl ?_
              refine b_split (t := 73) rfl (fun _ => ?_) (fun _ => ?_)
              · refine s_on rfl rfl rfl ?_
                refine mv1 rfl rfl ?_
                refine s_on rfl rfl rfl ?_
                refine s_rd (r_gtr rfl rfl) rfl ?_
                refine s_on rfl rfl rfl ?_
                refine mv1 rfl rfl ?_
                refine b_split (t := 76) rfl (fun _ => ?_) (fun _ => ?_)
                · refine s_off rfl rfl rfl rfl rfl ?_
                  refine s_off rfl rfl rfl rfl rfl ?_
                  refine s_off rfl rfl rfl rfl rfl ?_
                  refine s_on rfl rfl rfl ?_
                  refine s_rd (r_pickT rfl rfl) rfl ?_
                  refine s_rd (r_pickT rfl rfl) rfl ?_
                  refine mv1 rfl rfl ?_
                  refine s_off rfl rfl rfl rfl rfl ?_
                  refine s_off rfl rfl rfl rfl rfl ?_
                  refine s_off rfl rfl rfl rfl rfl ?_
                  refine s_off rfl rfl rfl rfl rfl ?_
                  refine s_off rfl rfl rfl rfl rfl ?_
                  refine s_off rfl rfl rfl rfl rfl ?_
                  refine s_rd (r_pickT rfl rfl) rfl ?_
                  refine l_nil (n_then ?_)
                  refine ref_condT rfl rfl ?_
                  refine ref_exit (x_then (x_eq (n_then (ref_region ?_))))
                  refine s_rd (r_add rfl rfl) rfl ?_
                  refine mv1 rfl rfl ?_
                  refine l_nil ?_
                  exact goX x391 (weak [0, 1] ⟨rfl, rfl, rfl, rfl, rfl, rfl, rfl, rfl, rfl, trivial⟩ ⟨rfl, rfl, trivial⟩)
                refine s_on rfl rfl rfl ?_
                refine mv1 rfl rfl ?_
                refine s_on rfl rfl rfl ?_
                refine s_rd (r_len Try.underlying22 rfl) rfl ?_
                refine s_on rfl rfl rfl ?_
                refine s_rd (r_gtr rfl rfl) rfl ?_
                refine s_on rfl rfl rfl ?_
                refine s_rd (r_pickF rfl rfl) rfl ?_
                refine s_rd (r_pickT rfl rfl) rfl ?_
                refine mv1 rfl rfl ?_
                refine b_split (t := 82) rfl (fun _ => ?_) (fun _ => ?_)
                · refine s_off rfl rfl rfl rfl rfl ?_
                  refine s_off rfl rfl rfl rfl rfl ?_
                  refine s_off rfl rfl rfl rfl rfl ?_
                  refine s_off rfl rfl rfl rfl rfl ?_
                  refine s_off rfl rfl rfl rfl rfl ?_
                  refine s_off rfl rfl rfl rfl rfl ?_
                  refine s_rd (r_pickT rfl rfl) rfl ?_
                  refine l_nil (n_then ?_)
                  refine ref_condT rfl rfl ?_
                  refine ref_exit (x_then (x_eq (n_then (ref_region ?_))))
                  refine s_rd (r_add rfl rfl) rfl ?_
                  refine mv1 rfl rfl ?_
                  refine l_nil ?_
                  exact goX x391 (weak [0, 1] ⟨rfl, rfl, rfl, rfl, rfl, rfl, rfl, rfl, rfl, trivial⟩ ⟨rfl, rfl, trivial⟩)
                refine s_on rfl rfl rfl ?_
                refine s_rd (r_cloadS Try.isAgg34 Try.sizeOf34 rfl (j := 0) rfl rfl rfl) rfl ?_
                refine s_on rfl rfl rfl ?_
                refine mv1 rfl rfl ?_
                refine s_on rfl rfl rfl ?_
                refine mv1 rfl rfl ?_
                refine s_on rfl rfl rfl ?_
                refine mv1 rfl rfl ?_
                refine s_on rfl rfl rfl ?_
                refine pull fun t395 h_t395 => ?_
                refine s_st (s_callB (ψ := fun (_ : Unit) => bv t395) (args := [.tmp 83, .tmp 84, .tmp 85, .tmp 86]) Try.call49 rfl (ref07_Within_ok h_t395) ⟨argB rfl, argO rfl (j := 1) rfl, argB rfl, argB rfl, trivial⟩ (fun _ _ _ _ _ h => h)) rfl (fun _ => ?_)
                refine s_on rfl rfl rfl ?_
                refine s_rd (r_not rfl) rfl ?_
                refine s_rd (r_pickF rfl rfl) rfl ?_
                refine l_nil (n_then ?_)
                refine ref_cond rfl (fun hb397 => ?_) (fun hb397 => ?_)
                · refine ref_exit (x_then (x_eq (n_then (ref_region ?_))))
                  refine s_rd (r_add rfl rfl) rfl ?_
                  refine mv1 rfl rfl ?_
                  refine l_nil ?_
                  exact goX x391 (weak [0, 1] ⟨rfl, rfl, rfl, rfl, rfl, rfl, rfl, rfl, rfl, trivial⟩ ⟨rfl, rfl, trivial⟩)
                refine ref_skip ?_
                exact b_to (hk401 (t395, !t395) ()) (weak [0, 1] ⟨rfl, rfl, rfl, rfl, rfl, rfl, rfl, rfl, rfl, rfl, rfl, rfl, rfl, rfl, rfl, rfl, trivial⟩ ⟨rfl, rfl, trivial⟩)
              refine s_off rfl rfl rfl rfl rfl ?_
              refine s_off rfl rfl rfl rfl rfl ?_
              refine s_off rfl rfl rfl rfl rfl ?_
              refine s_offU rfl rfl rfl ?_
              refine s_offU rfl rfl rfl ?_
              refine s_offU rfl rfl rfl ?_
              refine s_off rfl rfl rfl rfl rfl ?_
              refine s_rd (r_pickF rfl rfl) rfl ?_
              refine mv1 rfl rfl ?_
              refine s_on rfl rfl rfl ?_
              refine s_rd (r_cloadS Try.isAgg34 Try.sizeOf34 rfl (j := 0) rfl rfl rfl) rfl ?_
              refine s_on rfl rfl rfl ?_
              refine mv1 rfl rfl ?_
              refine s_on rfl rfl rfl ?_
              refine mv1 rfl rfl ?_
              refine s_on rfl rfl rfl ?_
              refine mv1 rfl rfl ?_
              refine s_on rfl rfl rfl ?_
              refine pull fun t396 h_t396 => ?_
              refine s_st (s_callB (ψ := fun (_ : Unit) => bv t396) (args := [.tmp 83, .tmp 84, .tmp 85, .tmp 86]) Try.call49 rfl (ref07_Within_ok h_t396) ⟨argB rfl, argO rfl (j := 1) rfl, argB rfl, argB rfl, trivial⟩ (fun _ _ _ _ _ h => h)) rfl (fun _ => ?_)
              refine s_on rfl rfl rfl ?_
              refine s_rd (r_not rfl) rfl ?_
              refine s_rd (r_pickF rfl rfl) rfl ?_
              refine l_nil (n_then ?_)
              refine ref_cond rfl (fun hb398 => ?_) (fun hb398 => ?_)
              · refine ref_exit (x_then (x_eq (n_then (ref_region ?_))))
                refine s_rd (r_add rfl rfl) rfl ?_
                refine mv1 rfl rfl ?_
                refine l_nil ?_
                exact goX x391 (weak [0, 1] ⟨rfl, rfl, rfl, rfl, rfl, rfl, rfl, rfl, rfl, trivial⟩ ⟨rfl, rfl, trivial⟩)
              refine ref_skip ?_
              exact b_to (hk401 (t396, !t396) ()) (weak [0, 1] ⟨rfl, rfl, rfl, rfl, rfl, rfl, rfl, rfl, rfl, rfl, rfl, rfl, rfl, rfl, rfl, rfl, trivial⟩ ⟨rfl, rfl, trivial⟩)
            refine n_then (ref_seq (ref_region ?_))
            refine mv1 rfl rfl ?_
            refine mv1 rfl rfl ?_
            refine mv1 rfl rfl ?_
            refine s_rd (r_faddr (fo := 1) Try.underlying34 rfl rfl Try.sizeOf31 rfl) rfl ?_
            refine s_rd (r_cload Try.isAgg31 rfl (j := 0) rfl rfl) rfl ?_
            refine mv1 rfl rfl ?_
            refine pull fun t402 h_t402 => ?_
            refine s_rd (r_index h_t402 Try.underlying31 el_55 rfl rfl) rfl ?_
            refine s_rd (r_fea (fo := 4) (ρ := rT_api_Rule) (y := t402) (ρ' := rT_api_Literal) (z := t402.Head) Try.underlying55 rfl rfl Try.sizeOf50 rfl rfl rfl) rfl ?_
            refine s_rd (r_load el_50 rfl) rfl ?_
            refine s_rd (r_build (ps := [(0, .const (.int .i64 (-1))), (1, .tmp 91), (2, .tmp 92), (3, .tmp 98)]) (rs := [(0, [iv .i64 (-1)]), (1, [iv .i64 s369.1]), (2, [slv (rI .i64) subs393]), (3, [bv t402.Head.Neg, sv t402.Head.Name])]) st_52 zs_52 ⟨rfl, (part_at rfl iv_at), ⟨rfl, (part_at rfl iv_at), ⟨rfl, (part_at rfl slv_at), ⟨rfl, (part_agO (ψs := [bv t402.Head.Neg, sv t402.Head.Name]) rfl ⟨.inl bv_at, .inl sv_at, trivial⟩), trivial⟩⟩⟩⟩ rfl rfl) rfl ?_
            refine s_st (s_bslice (xs := [.tmp 99]) (ds := [(T_api_Argument.mk (-1) s369.1 subs393 t402.Head)]) Try.underlying35 el_52 rfl (Nat.le_of_ble_eq_true rfl) ⟨(part_agO (ψs := [iv .i64 (-1), iv .i64 s369.1, slv (rI .i64) subs393, bv t402.Head.Neg, sv t402.Head.Name]) rfl ⟨.inl iv_at, .inl iv_at, .inl slv_at, .inl bv_at, .inl sv_at, trivial⟩), trivial⟩) rfl (fun _ => ?_)
            refine pull fun l403 h_l403 => ?_
            refine s_st (s_append h_l403 Try.underlying35 el_52 rfl (j := 1) rfl rfl) rfl (fun o404 => ?_)
            refine as1 rfl rfl ?_
            refine l_nil (n_then (ref_seq (ref_region ?_)))
            refine mv1 rfl rfl ?_
            refine s_rd (r_olen Try.underlying35 rfl (j := 1) rfl) rfl ?_
            refine s_rd (r_gtr rfl rfl) rfl ?_
            refine l_nil (n_then ?_)
            refine ref_cond rfl (fun hb405 => ?_) (fun hb405 => ?_)
            · refine ref_seq (ref_region ?_)
              refine as1 rfl rfl ?_
              refine as1 rfl rfl ?_
              refine l_nil (n_then (ref_ret (r_block (r_then ?_))))
              refine retX ?_
              refine r_block (r_block (r_then ?_))
              refine retX ?_
              refine r_block (r_then (r_block (r_then ?_)))
              refine retX ?_
              refine r_block (r_then ?_)
              refine b_of (own_nil rT_api_Argument) ?_
              exact fin2 (.inl rfl) ((.slice none 0 0), []) [2] rfl ⟨rfl, trivial⟩ rfl (rv_tmp rfl) (rv_tmp rfl)
            refine ref_skip (n_block (n_then (ref_region ?_)))
            refine s_rd (r_add rfl rfl) rfl ?_
            refine mv1 rfl rfl ?_
            refine l_nil ?_
            exact goX o404 (weak [0, 1] ⟨rfl, rfl, rfl, rfl, rfl, rfl, rfl, rfl, rfl, trivial⟩ ⟨rfl, rfl, trivial⟩)
          refine ref_exit (x_then ?_)
          exact brkX x391 (weak [0, 1] ⟨rfl, rfl, rfl, rfl, rfl, rfl, trivial⟩ ⟨rfl, rfl, trivial⟩)
        refine n_block (n_then (ref_region ?_))
        refine mv1 rfl rfl ?_
        refine s_rd (r_add rfl rfl) rfl ?_
        refine as1 rfl rfl ?_
        refine b_let (f := iv .i64) (t := 10) rfl fun i408 => ?_
        refine l_nil ?_
        exact goX y407 (weak [0, 1] ⟨rfl, rfl, rfl, rfl, rfl, rfl, trivial⟩ ⟨rfl, rfl, trivial⟩)
      refine ref_exit (x_then ?_)
      exact brkX x370 (weak [0, 1] ⟨rfl, rfl, rfl, rfl, trivial⟩ ⟨rfl, rfl, trivial⟩)
    refine n_then (ref_region ?_)
    refine mv1 rfl rfl ?_
    refine as1 rfl rfl ?_
    refine l_nil (n_block (n_then (ref_region ?_)))
    refine mv1 rfl rfl ?_
    refine s_rd (r_add rfl rfl) rfl ?_
    refine as1 rfl rfl ?_
    refine b_let (f := iv .i64) (t := 8) rfl fun round411 => ?_
    refine l_nil ?_
    exact goX y410 (weak [0, 1] ⟨rfl, rfl, rfl, rfl, trivial⟩ ⟨rfl, rfl, trivial⟩)
  refine n_then (ref_seq (ref_region ?_))
  refine mv1 rfl rfl ?_
  refine as1 rfl rfl ?_
  refine as1 rfl rfl ?_
  refine l_nil (n_then (ref_ret ?_))
  exact fin2 (.inl rfl) y413 [0] rfl ⟨rfl, trivial⟩ rfl (rv_tmp rfl) (rv_tmp rfl)

/-! deliberation/argument.inside -/
noncomputable def argument_inside_m (l_0 : (List T_api_Argument)) (i_1 : Int) : Option (Bool) :=
  bif decide (i_1 ≥ 0) then
    letM (decide (i_1 < (l_0.length : Int))) fun t1 =>
    some t1
  else
    some false

theorem argument_inside_ok {l_0 : (List T_api_Argument)} {i_1 : Int} {r : Bool} (hm : argument_inside_m l_0 i_1 = some r) :
    FnOk prog 61 [slv rT_api_Argument l_0, iv .i64 i_1] [] (fun (x : Unit) => [bv r]) (fun (x : Unit) => []) := by
  refine fn_ok (fn := Try.f61) (N := 13) (res := fun r x => [bv r]) (Ω1 := fun r x => []) Try.func61 rfl rfl hm rfl (fun E hM => ?_)
  unfold argument_inside_m
  refine ref_seq (ref_region ?_)
  refine as1 rfl rfl ?_
  refine l_nil (n_then (ref_seq (ref_region ?_)))
  refine mv1 rfl rfl ?_
  refine s_rd (r_geq rfl rfl) rfl ?_
  refine mv1 rfl rfl ?_
  refine b_split (t := 7) rfl (fun _ => ?_) (fun _ => ?_)
  · refine s_on rfl rfl rfl ?_
    refine mv1 rfl rfl ?_
    refine s_on rfl rfl rfl ?_
    refine mv1 rfl rfl ?_
    refine s_on rfl rfl rfl ?_
    refine s_rd (r_len Try.underlying35 rfl) rfl ?_
    refine s_on rfl rfl rfl ?_
    refine s_rd (r_lss rfl rfl) rfl ?_
    refine s_rd (r_pickT rfl rfl) rfl ?_
    refine as1 rfl rfl ?_
    refine b_let (f := bv) (t := 4) rfl fun t1 => ?_
    refine l_nil (n_then (ref_ret ?_))
    exact fin1 (.inl rfl) () [] rfl trivial rfl (rv_tmp rfl)
  refine s_off rfl rfl rfl rfl rfl ?_
  refine s_off rfl rfl rfl rfl rfl ?_
  refine s_off rfl rfl rfl rfl rfl ?_
  refine s_off rfl rfl rfl rfl rfl ?_
  refine s_rd (r_pickF rfl rfl) rfl ?_
  refine as1 rfl rfl ?_
  refine l_nil (n_then (ref_ret ?_))
  exact fin1 (.inl rfl) () [] rfl trivial rfl (rv_tmp rfl)

/-! deliberation/argument.Subs -/
noncomputable def argument_Subs_l1 (l_0 : (List T_api_Argument)) (t4 : T_api_Argument) (rec_ : (List T_api_Argument) → Int → Option (List Int)) (s21 : Int × (List Int)) : Option (Sum ((List Int)) (Int × (List Int))) :=
  bif decide (s21.1 < (t4.Subs.length : Int)) then
    Option.bind (idxM t4.Subs s21.1) fun k24 =>
    Option.bind (rec_ l_0 k24) fun t25 =>
    Option.bind (appM 8 s21.2 t25) fun out27 =>
    some (Sum.inr (iadd .i64 s21.1 1, out27))
  else
    some (Sum.inl s21.2)

noncomputable def argument_Subs_b (rec_ : (List T_api_Argument) → Int → Option (List Int)) (l_0 : (List T_api_Argument)) (i_1 : Int) : Option (List Int) :=
  Option.bind (argument_inside_m l_0 i_1) fun t1 =>
  bif !t1 then
    some []
  else
    Option.bind (idxM l_0 i_1) fun t4 =>
    Option.bind (loopC (argument_Subs_l1 l_0 t4 rec_) (0, [i_1])) fun q29 : (List Int) =>
    Option.bind (sortedM q29) fun t31 =>
    Option.bind (compactM t31) fun t32 =>
    some t32

noncomputable def argument_Subs_n : Nat → (List T_api_Argument) → Int → Option (List Int)
  | 0 => fun _ _ => none
  | n_ + 1 => argument_Subs_b (argument_Subs_n n_)

noncomputable def argument_Subs_m (l_0 : (List T_api_Argument)) (i_1 : Int) : Option (List Int) := recC fun n_ => argument_Subs_n n_ l_0 i_1

theorem argument_Subs_step (rec_ : (List T_api_Argument) → Int → Option (List Int)) (ih : ∀ {l_0 : (List T_api_Argument)} {i_1 : Int} {r : List Int}, rec_ l_0 i_1 = some r →
    FnOk prog 56 [slv rT_api_Argument l_0, iv .i64 i_1] [] (fun (x : (Value × List Nat)) => [pv x.1]) (fun (x : (Value × List Nat)) => [oa (rI .i64) x.1 x.2 r])) {l_0 : (List T_api_Argument)} {i_1 : Int} {r : List Int} (hm : argument_Subs_b rec_ l_0 i_1 = some r) :
    FnOk prog 56 [slv rT_api_Argument l_0, iv .i64 i_1] [] (fun (x : (Value × List Nat)) => [pv x.1]) (fun (x : (Value × List Nat)) => [oa (rI .i64) x.1 x.2 r]) := by
  refine fn_ok (X := (Value × List Nat)) (fn := Try.f56) (N := 34) (res := fun r x => [pv x.1]) (Ω1 := fun r x => [oa (rI .i64) x.1 x.2 r]) Try.func56 rfl rfl hm rfl (fun E hM => ?_)
  unfold argument_Subs_b
  refine ref_seq (ref_region ?_)
  refine as1 rfl rfl ?_
  refine l_nil (n_then (ref_seq (ref_seq (ref_region ?_))))
  refine mv1 rfl rfl ?_
  refine mv1 rfl rfl ?_
  refine pull fun t1 h_t1 => ?_
  refine s_st (s_call (ψ := fun (_ : Unit) => bv t1) (args := [.tmp 8, .tmp 9]) Try.call61 rfl (argument_inside_ok h_t1) ⟨arg rfl, arg rfl, trivial⟩ (fun _ _ _ _ h => h)) rfl (fun _ => ?_)
  refine s_rd (r_not rfl) rfl ?_
  refine l_nil (n_then ?_)
  refine ref_cond rfl (fun hb2 => ?_) (fun hb2 => ?_)
  · refine ref_seq (ref_region ?_)
    refine as1 rfl rfl ?_
    refine l_nil (n_then (ref_ret (r_then ?_)))
    refine b_of (own_nil (rI .i64)) ?_
    exact fin1 (.inl rfl) ((.slice none 0 0), []) [0] rfl ⟨rfl, trivial⟩ rfl (rv_tmp rfl)
  refine ref_skip (n_then (ref_seq (ref_region ?_)))
  refine mv1 rfl rfl ?_
  refine s_st (s_bsliceO (xs := [.tmp 12]) (ds := [i_1]) Try.underlying22 el_3 rfl (Nat.le_of_ble_eq_true rfl) ⟨(part_at rfl iv_at), trivial⟩) rfl (fun o3 => ?_)
  refine as1 rfl rfl ?_
  refine l_nil (n_then (ref_seq (ref_seq (ref_region ?_))))
  refine mv1 rfl rfl ?_
  refine mv1 rfl rfl ?_
  refine pull fun t4 h_t4 => ?_
  refine s_rd (r_index h_t4 Try.underlying35 el_52 rfl rfl) rfl ?_
  refine s_rd (r_fea (fo := 2) (ρ := rT_api_Argument) (y := t4) (ρ' := (rSl (rI .i64))) (z := t4.Subs) Try.underlying52 rfl rfl Try.sizeOf22 rfl rfl rfl) rfl ?_
  refine s_rd (r_load el_22 rfl) rfl ?_
  refine s_rd (r_len Try.underlying22 rfl) rfl ?_
  refine mv1 rfl rfl ?_
  refine l_nil (n_then ?_)
  refine ref_loopB (f := (argument_Subs_l1 l_0 t4 rec_)) (Γl := (fun (s21 : Int × (List Int)) (x22 : (Value × List Nat)) => [(0, slv rT_api_Argument l_0), (5, pv x22.1), (18, slv (rI .i64) t4.Subs), (19, iv .i64 (t4.Subs.length : Int)), (20, iv .i64 s21.1)])) (Ωl := (fun (s21 : Int × (List Int)) (x22 : (Value × List Nat)) => [oa (rI .i64) x22.1 x22.2 s21.2])) (Γb := (fun (q29 : (List Int)) (y30 : (Value × List Nat)) => [(5, pv y30.1)])) (Ωb := (fun (q29 : (List Int)) (y30 : (Value × List Nat)) => [oa (rI .i64) y30.1 y30.2 q29])) (0, [i_1]) o3 (weak [0] ⟨rfl, rfl, rfl, rfl, rfl, trivial⟩ ⟨rfl, trivial⟩) (fun s21 x22 => ?_) (fun q29 y30 => ?_)
  · unfold argument_Subs_l1
    refine ref_seq (ref_region ?_)
    refine s_rd (r_lss rfl rfl) rfl ?_
    refine l_nil (n_then (ref_seq ?_))
    refine ref_cond rfl (fun hb23 => ?_) (fun hb23 => ?_)
    · refine ref_skip (n_then (ref_seq (ref_block (ref_seq (ref_region ?_)))))
      refine pull fun k24 h_k24 => ?_
      refine s_rd (r_index h_k24 Try.underlying22 el_3 rfl rfl) rfl ?_
      refine s_rd (r_load el_3 rfl) rfl ?_
      refine as1 rfl rfl ?_
      refine l_nil (n_then (ref_region ?_))
      refine mv1 rfl rfl ?_
      refine mv1 rfl rfl ?_
      refine mv1 rfl rfl ?_
      refine pull fun t25 h_t25 => ?_
      refine s_st (s_call (ψ := fun (x26 : (Value × List Nat)) => pv x26.1) (args := [.tmp 25, .tmp 26]) Try.call56 rfl (ih h_t25) ⟨arg rfl, arg rfl, trivial⟩ (fun _ _ _ _ h => h)) rfl (fun x26 => ?_)
      refine b_of (frzL [27] (j := 1) rfl ⟨rfl, trivial⟩) ?_
      refine pull fun out27 h_out27 => ?_
      refine s_st (s_append h_out27 Try.underlying22 el_3 rfl (j := 0) rfl rfl) rfl (fun o28 => ?_)
      refine as1 rfl rfl ?_
      refine l_nil ?_
      refine b_of (nrm [oa (rI .i64) o28.1 o28.2 out27, dead] rfl) ?_
      refine n_block (n_then (ref_region ?_))
      refine s_rd (r_add rfl rfl) rfl ?_
      refine mv1 rfl rfl ?_
      refine l_nil ?_
      exact goB o28 (weak [0] ⟨rfl, rfl, rfl, rfl, rfl, trivial⟩ ⟨rfl, trivial⟩)
    refine ref_exit (x_then ?_)
    exact brkB x22 (weak [0] ⟨rfl, trivial⟩ ⟨rfl, trivial⟩)
  refine n_then (ref_seq (ref_region ?_))
  refine mv1 rfl rfl ?_
  refine pull fun t31 h_t31 => ?_
  refine s_st (s_callC [0] [true] (fun (_ : Unit) => [oa (rI .i64) y30.1 y30.2 t31]) (fun (_ : Unit) => []) (fun (_ : Unit) => tup []) (args := [.tmp 30]) (caps := []) Try.call57 rfl (slices_Sort_ok h_t31) ⟨rfl, rfl, trivial⟩ (fun _ => rfl) (fun _ => trivial) (fun _ => rfl) ⟨arg rfl, trivial⟩ (fun _ _ _ _ h => h)) rfl (fun _ => ?_)
  refine l_nil (n_then (ref_seq (ref_region ?_)))
  refine mv1 rfl rfl ?_
  refine pull fun t32 h_t32 => ?_
  refine s_st (s_callC [0] [false] (fun (x33 : (Value × List Nat)) => [dead]) (fun (x33 : (Value × List Nat)) => [oa (rI .i64) x33.1 x33.2 t32]) (fun (x33 : (Value × List Nat)) => pv x33.1) (args := [.tmp 32]) (caps := []) Try.call60 rfl (slices_Compact_ok h_t32) ⟨rfl, rfl, trivial⟩ (fun _ => rfl) (fun _ => ⟨rfl, trivial⟩) (fun _ => rfl) ⟨arg rfl, trivial⟩ (fun _ _ _ _ h => h)) rfl (fun x33 => ?_)
  refine as1 rfl rfl ?_
  refine l_nil (n_then (ref_ret ?_))
  exact fin1 (.inl rfl) x33 [1] rfl ⟨rfl, trivial⟩ rfl (rv_tmp rfl)

theorem argument_Subs_n_ok : ∀ (n_ : Nat) {l_0 : (List T_api_Argument)} {i_1 : Int} {r : List Int}, argument_Subs_n n_ l_0 i_1 = some r →
    FnOk prog 56 [slv rT_api_Argument l_0, iv .i64 i_1] [] (fun (x : (Value × List Nat)) => [pv x.1]) (fun (x : (Value × List Nat)) => [oa (rI .i64) x.1 x.2 r]) := by
  intro n_
  induction n_ with
  | zero => intros; rename_i h; cases h
  | succ n_ ih => intros; rename_i h; exact argument_Subs_step _ @ih h

theorem argument_Subs_ok {l_0 : (List T_api_Argument)} {i_1 : Int} {r : List Int} (hm : argument_Subs_m l_0 i_1 = some r) :
    FnOk prog 56 [slv rT_api_Argument l_0, iv .i64 i_1] [] (fun (x : (Value × List Nat)) => [pv x.1]) (fun (x : (Value × List Nat)) => [oa (rI .i64) x.1 x.2 r]) := by
  obtain ⟨n_, h⟩ := recC_some hm
  exact argument_Subs_n_ok n_ h

theorem argument_Subs_l1_le {rec_ rec_' : (List T_api_Argument) → Int → Option (List Int)} (h : ∀ l_0 i_1, Le (rec_ l_0 i_1) (rec_' l_0 i_1)) {l_0 : (List T_api_Argument)} {t4 : T_api_Argument} {s21 : Int × (List Int)}  : Le (argument_Subs_l1 l_0 t4 rec_ s21) (argument_Subs_l1 l_0 t4 rec_' s21) := by
  unfold argument_Subs_l1
  repeat' with_reducible (first | exact Le.refl _ | exact h _ _ | refine Le.bind ?_ (Le.sumK fun _ => ?_) | refine Le.bind ?_ (fun _ => ?_) | refine Le.cond ?_ ?_ | refine Le.letM (fun _ => ?_) | refine Le.join (fun _ => ?_) (fun _ _ hj => ?_) | exact hj _)

theorem argument_Subs_b_le {rec_ rec_' : (List T_api_Argument) → Int → Option (List Int)} (h : ∀ l_0 i_1, Le (rec_ l_0 i_1) (rec_' l_0 i_1)) {l_0 : (List T_api_Argument)} {i_1 : Int} : Le (argument_Subs_b rec_ l_0 i_1) (argument_Subs_b rec_' l_0 i_1) := by
  unfold argument_Subs_b
  repeat' with_reducible (first | exact Le.refl _ | exact h _ _ | refine Le.loopC (fun _ => argument_Subs_l1_le h) | refine Le.bind ?_ (Le.sumK fun _ => ?_) | refine Le.bind ?_ (fun _ => ?_) | refine Le.cond ?_ ?_ | refine Le.letM (fun _ => ?_) | refine Le.join (fun _ => ?_) (fun _ _ hj => ?_) | exact hj _)

theorem argument_Subs_n_le : ∀ (n_ : Nat) (l_0 : (List T_api_Argument)) (i_1 : Int), Le (argument_Subs_n n_ l_0 i_1) (argument_Subs_n (n_ + 1) l_0 i_1)
  | 0, _, _ => fun _ h => by cases h
  | n_ + 1, _, _ => argument_Subs_b_le (argument_Subs_n_le n_)

/-! deliberation/argument.Premises -/
noncomputable def argument_Premises_l1 (l_0 : (List T_api_Argument)) (t1 : List Int) (s21 : Int × (List Int)) : Option (Sum ((List Int)) (Int × (List Int))) :=
  bif decide (s21.1 < (t1.length : Int)) then
    Option.bind (idxM t1 s21.1) fun k24 =>
    Option.bind (idxM l_0 k24) fun t25 =>
    bif decide (t25.Premise ≥ 0) then
      Option.bind (idxM l_0 k24) fun t27 =>
      Option.bind (appM 8 s21.2 [t27.Premise]) fun out28 =>
      some (Sum.inr (iadd .i64 s21.1 1, out28))
    else
      some (Sum.inr (iadd .i64 s21.1 1, s21.2))
  else
    some (Sum.inl s21.2)

noncomputable def argument_Premises_m (l_0 : (List T_api_Argument)) (i_1 : Int) : Option (List Int) :=
  Option.bind (argument_Subs_m l_0 i_1) fun t1 =>
  Option.bind (loopC (argument_Premises_l1 l_0 t1) (0, [])) fun q30 : (List Int) =>
  Option.bind (sortedM q30) fun t32 =>
  some t32

theorem argument_Premises_ok {l_0 : (List T_api_Argument)} {i_1 : Int} {r : List Int} (hm : argument_Premises_m l_0 i_1 = some r) :
    FnOk prog 33 [slv rT_api_Argument l_0, iv .i64 i_1] [] (fun (x : (Value × List Nat)) => [pv x.1]) (fun (x : (Value × List Nat)) => [oa (rI .i64) x.1 x.2 r]) := by
  refine fn_ok (X := (Value × List Nat)) (fn := Try.f33) (N := 34) (res := fun r x => [pv x.1]) (Ω1 := fun r x => [oa (rI .i64) x.1 x.2 r]) Try.func33 rfl rfl hm rfl (fun E hM => ?_)
  unfold argument_Premises_m
  refine ref_seq (ref_region ?_)
  refine as1 rfl rfl ?_
  refine l_nil (n_then (ref_seq (ref_region ?_)))
  refine as1 rfl rfl ?_
  refine l_nil (n_then (ref_seq (ref_seq (ref_region ?_))))
  refine mv1 rfl rfl ?_
  refine mv1 rfl rfl ?_
  refine pull fun t1 h_t1 => ?_
  refine s_st (s_call (ψ := fun (x2 : (Value × List Nat)) => pv x2.1) (args := [.tmp 8, .tmp 9]) Try.call56 rfl (argument_Subs_ok h_t1) ⟨arg rfl, arg rfl, trivial⟩ (fun _ _ _ _ h => h)) rfl (fun x2 => ?_)
  refine s_rd (r_olen Try.underlying22 rfl (j := 0) rfl) rfl ?_
  refine mv1 rfl rfl ?_
  refine l_nil (n_then ?_)
  refine b_of (own_nil (rI .i64)) ?_
  refine ref_loopB (f := (argument_Premises_l1 l_0 t1)) (Γl := (fun (s21 : Int × (List Int)) (x22 : (Value × List Nat)) => [(0, slv rT_api_Argument l_0), (5, pv x22.1), (10, pv x2.1), (11, iv .i64 (t1.length : Int)), (12, iv .i64 s21.1)])) (Ωl := (fun (s21 : Int × (List Int)) (x22 : (Value × List Nat)) => [oa (rI .i64) x22.1 x22.2 s21.2, oa (rI .i64) x2.1 x2.2 t1])) (Γb := (fun (q30 : (List Int)) (y31 : (Value × List Nat)) => [(5, pv y31.1)])) (Ωb := (fun (q30 : (List Int)) (y31 : (Value × List Nat)) => [oa (rI .i64) y31.1 y31.2 q30])) (0, []) ((.slice none 0 0), []) (weak [1, 0] ⟨rfl, rfl, rfl, rfl, rfl, trivial⟩ ⟨rfl, rfl, trivial⟩) (fun s21 x22 => ?_) (fun q30 y31 => ?_)
  · unfold argument_Premises_l1
    refine ref_seq (ref_region ?_)
    refine s_rd (r_lss rfl rfl) rfl ?_
    refine l_nil (n_then (ref_seq ?_))
    refine ref_cond rfl (fun hb23 => ?_) (fun hb23 => ?_)
    · refine ref_skip (n_then (ref_seq (ref_block (ref_seq (ref_region ?_)))))
      refine pull fun k24 h_k24 => ?_
      refine s_rd (r_oindex h_k24 Try.underlying22 el_3 rfl (j := 1) rfl rfl) rfl ?_
      refine s_rd (r_oload h_k24 el_3 rfl (j := 1) rfl) rfl ?_
      refine as1 rfl rfl ?_
      refine l_nil (n_then (ref_seq (ref_region ?_)))
      refine mv1 rfl rfl ?_
      refine mv1 rfl rfl ?_
      refine pull fun t25 h_t25 => ?_
      refine s_rd (r_index h_t25 Try.underlying35 el_52 rfl rfl) rfl ?_
      refine s_rd (r_fea (fo := 0) (ρ := rT_api_Argument) (y := t25) (ρ' := (rI .i64)) (z := t25.Premise) Try.underlying52 rfl rfl Try.sizeOf3 rfl rfl rfl) rfl ?_
      refine s_rd (r_load el_3 rfl) rfl ?_
      refine s_rd (r_geq rfl rfl) rfl ?_
      refine l_nil (n_then ?_)
      refine ref_cond rfl (fun hb26 => ?_) (fun hb26 => ?_)
      · refine ref_region ?_
        refine mv1 rfl rfl ?_
        refine mv1 rfl rfl ?_
        refine mv1 rfl rfl ?_
        refine pull fun t27 h_t27 => ?_
        refine s_rd (r_index h_t27 Try.underlying35 el_52 rfl rfl) rfl ?_
        refine s_rd (r_fea (fo := 0) (ρ := rT_api_Argument) (y := t27) (ρ' := (rI .i64)) (z := t27.Premise) Try.underlying52 rfl rfl Try.sizeOf3 rfl rfl rfl) rfl ?_
        refine s_rd (r_load el_3 rfl) rfl ?_
        refine s_st (s_bslice (xs := [.tmp 27]) (ds := [t27.Premise]) Try.underlying22 el_3 rfl (Nat.le_of_ble_eq_true rfl) ⟨(part_at rfl iv_at), trivial⟩) rfl (fun _ => ?_)
        refine pull fun out28 h_out28 => ?_
        refine s_st (s_append h_out28 Try.underlying22 el_3 rfl (j := 0) rfl rfl) rfl (fun o29 => ?_)
        refine as1 rfl rfl ?_
        refine l_nil (n_block (n_then (ref_region ?_)))
        refine s_rd (r_add rfl rfl) rfl ?_
        refine mv1 rfl rfl ?_
        refine l_nil ?_
        exact goB o29 (weak [0, 1] ⟨rfl, rfl, rfl, rfl, rfl, trivial⟩ ⟨rfl, rfl, trivial⟩)
      refine ref_skip (n_block (n_then (ref_region ?_)))
      refine s_rd (r_add rfl rfl) rfl ?_
      refine mv1 rfl rfl ?_
      refine l_nil ?_
      exact goB x22 (weak [0, 1] ⟨rfl, rfl, rfl, rfl, rfl, trivial⟩ ⟨rfl, rfl, trivial⟩)
    refine ref_exit (x_then ?_)
    exact brkB x22 (weak [0] ⟨rfl, trivial⟩ ⟨rfl, trivial⟩)
  refine n_then (ref_seq (ref_region ?_))
  refine mv1 rfl rfl ?_
  refine pull fun t32 h_t32 => ?_
  refine s_st (s_callC [0] [true] (fun (_ : Unit) => [oa (rI .i64) y31.1 y31.2 t32]) (fun (_ : Unit) => []) (fun (_ : Unit) => tup []) (args := [.tmp 31]) (caps := []) Try.call57 rfl (slices_Sort_ok h_t32) ⟨rfl, rfl, trivial⟩ (fun _ => rfl) (fun _ => trivial) (fun _ => rfl) ⟨arg rfl, trivial⟩ (fun _ _ _ _ h => h)) rfl (fun _ => ?_)
  refine l_nil (n_then (ref_seq (ref_region ?_)))
  refine mv1 rfl rfl ?_
  refine as1 rfl rfl ?_
  refine l_nil (n_then (ref_ret ?_))
  exact fin1 (.inl rfl) y31 [0] rfl ⟨rfl, trivial⟩ rfl (rv_tmp rfl)

/-! deliberation/lift.Assumes$1 -/
noncomputable def lift_Assumes_1_m (k_0 : Int) (p_1 : T_api_Base) : Option (Bool) :=
  Option.bind (idxM p_1.Premises k_0) fun t1 =>
  some (t1.Kind == 3)

theorem lift_Assumes_1_ok {k_0 : Int} {p_1 : T_api_Base} {b_1 : Nat} {r : Bool} (hm : lift_Assumes_1_m k_0 p_1 = some r) :
    FnOk prog 41 [iv .i64 k_0, pv (ptr b_1 0)] [oc b_1 [slv rT_api_Premise p_1.Premises, slv rT_api_Rule p_1.Rules, slv rT_api_Promotion p_1.Promotions]] (fun (x : Unit) => [bv r]) (fun (x : Unit) => [oc b_1 [slv rT_api_Premise p_1.Premises, slv rT_api_Rule p_1.Rules, slv rT_api_Promotion p_1.Promotions]]) := by
  refine fn_ok (fn := Try.f41) (N := 11) (res := fun r x => [bv r]) (Ω1 := fun r x => [oc b_1 [slv rT_api_Premise p_1.Premises, slv rT_api_Rule p_1.Rules, slv rT_api_Promotion p_1.Promotions]]) Try.func41 rfl rfl hm rfl (fun E hM => ?_)
  unfold lift_Assumes_1_m
  refine ref_seq (ref_region ?_)
  refine as1 rfl rfl ?_
  refine l_nil (n_then (ref_seq (ref_region ?_)))
  refine s_rd (r_faddr (fo := 0) Try.underlying34 rfl rfl Try.sizeOf30 rfl) rfl ?_
  refine s_rd (r_cload Try.isAgg30 rfl (j := 0) rfl rfl) rfl ?_
  refine mv1 rfl rfl ?_
  refine pull fun t1 h_t1 => ?_
  refine s_rd (r_index h_t1 Try.underlying30 el_64 rfl rfl) rfl ?_
  refine s_rd (r_fea (fo := 2) (ρ := rT_api_Premise) (y := t1) (ρ' := (rI .i64)) (z := t1.Kind) Try.underlying64 rfl rfl Try.sizeOf3 rfl rfl rfl) rfl ?_
  refine s_rd (r_load el_3 rfl) rfl ?_
  refine s_rd (r_eql rfl rfl) rfl ?_
  refine as1 rfl rfl ?_
  refine l_nil (n_then (ref_ret ?_))
  exact fin1 (.inl rfl) () [0] rfl ⟨rfl, trivial⟩ rfl (rv_tmp rfl)

/-! slices.IndexFunc[[]int,int] -/
noncomputable def slices_IndexFunc_int_int_l1 (s_0 : (List Int)) (e_1 : T_api_Base) (s7 : Int) : Option (Sum ((Sum (Int) (Unit))) (Int)) :=
  bif decide (s7 < (s_0.length : Int)) then
    Option.bind (idxM s_0 s7) fun t10 =>
    Option.bind (lift_Assumes_1_m t10 e_1) fun t11 =>
    bif t11 then
      some (Sum.inl (Sum.inl s7))
    else
      some (Sum.inr (iadd .i64 s7 1))
  else
    some (Sum.inl (Sum.inr ()))

noncomputable def slices_IndexFunc_int_int_m (s_0 : (List Int)) (e_1 : T_api_Base) : Option (Int) :=
  Option.bind (loopC (slices_IndexFunc_int_int_l1 s_0 e_1) 0) (sumK (fun a : Int => some a) fun q13 : Unit =>
    some (-1))

theorem slices_IndexFunc_int_int_ok {s_0 : (List Int)} {e_1 : T_api_Base} {h_0 : Value × List Nat} {be_1 : Nat} {r : Int} (hm : slices_IndexFunc_int_int_m s_0 e_1 = some r) :
    FnOk prog 63 [pv h_0.1, pv (.func (.func 41) #[] #[(ptr be_1 0)])] [oa (rI .i64) h_0.1 h_0.2 s_0, oc be_1 [slv rT_api_Premise e_1.Premises, slv rT_api_Rule e_1.Rules, slv rT_api_Promotion e_1.Promotions]] (fun (x : Unit) => [iv .i64 r]) (fun (x : Unit) => [oa (rI .i64) h_0.1 h_0.2 s_0, oc be_1 [slv rT_api_Premise e_1.Premises, slv rT_api_Rule e_1.Rules, slv rT_api_Promotion e_1.Promotions]]) := by
  refine fn_ok (fn := Try.f63) (N := 19) (res := fun r x => [iv .i64 r]) (Ω1 := fun r x => [oa (rI .i64) h_0.1 h_0.2 s_0, oc be_1 [slv rT_api_Premise e_1.Premises, slv rT_api_Rule e_1.Rules, slv rT_api_Promotion e_1.Promotions]]) Try.func63 rfl rfl hm rfl (fun E hM => ?_)
  unfold slices_IndexFunc_int_int_m
  refine ref_seq (ref_region ?_)
  refine as1 rfl rfl ?_
  refine l_nil (n_then (ref_seq (ref_seq (ref_region ?_))))
  refine mv1 rfl rfl ?_
  refine s_rd (r_olen Try.underlying22 rfl (j := 0) rfl) rfl ?_
  refine mv1 rfl rfl ?_
  refine l_nil (n_then ?_)
  refine ref_loopX (f := (slices_IndexFunc_int_int_l1 s_0 e_1)) (Γl := (fun (s7 : Int) (x8 : Unit) => [(0, pv h_0.1), (1, pv (.func (.func 41) #[] #[(ptr be_1 0)])), (7, iv .i64 (s_0.length : Int)), (8, iv .i64 s7)])) (Ωl := (fun (s7 : Int) (x8 : Unit) => [oa (rI .i64) h_0.1 h_0.2 s_0, oc be_1 [slv rT_api_Premise e_1.Premises, slv rT_api_Rule e_1.Rules, slv rT_api_Promotion e_1.Promotions]])) (Γb := (fun (q13 : Unit) (y14 : Unit) => [(0, pv h_0.1), (1, pv (.func (.func 41) #[] #[(ptr be_1 0)]))])) (Ωb := (fun (q13 : Unit) (y14 : Unit) => [oa (rI .i64) h_0.1 h_0.2 s_0, oc be_1 [slv rT_api_Premise e_1.Premises, slv rT_api_Rule e_1.Rules, slv rT_api_Promotion e_1.Promotions]])) (kr := (fun a : Int => some a)) 0 () (weak [0, 1] ⟨rfl, rfl, rfl, rfl, trivial⟩ ⟨rfl, rfl, trivial⟩) (fun s7 x8 => ?_) (fun q13 y14 => ?_)
  · unfold slices_IndexFunc_int_int_l1
    refine ref_seq (ref_region ?_)
    refine s_rd (r_lss rfl rfl) rfl ?_
    refine l_nil (n_then (ref_seq ?_))
    refine ref_cond rfl (fun hb9 => ?_) (fun hb9 => ?_)
    · refine ref_skip (n_then (ref_seq (ref_block (ref_seq (ref_region ?_)))))
      refine mv1 rfl rfl ?_
      refine as1 rfl rfl ?_
      refine l_nil (n_then (ref_seq (ref_region ?_)))
      refine mv1 rfl rfl ?_
      refine mv1 rfl rfl ?_
      refine mv1 rfl rfl ?_
      refine pull fun t10 h_t10 => ?_
      refine s_rd (r_oindex h_t10 Try.underlying22 el_3 rfl (j := 0) rfl rfl) rfl ?_
      refine s_rd (r_oload h_t10 el_3 rfl (j := 0) rfl) rfl ?_
      refine pull fun t11 h_t11 => ?_
      refine s_st (s_callC [1] [true] (fun (_ : Unit) => [oc be_1 [slv rT_api_Premise e_1.Premises, slv rT_api_Rule e_1.Rules, slv rT_api_Promotion e_1.Promotions]]) (fun (_ : Unit) => []) (fun (_ : Unit) => bv t11) (args := [.tmp 15]) (caps := [(ptr be_1 0)]) Try.call41 rfl (lift_Assumes_1_ok h_t11) ⟨rfl, rfl, trivial⟩ (fun _ => rfl) (fun _ => trivial) (fun _ => rfl) ⟨arg rfl, arg rfl, trivial⟩ (fun _ _ _ _ h => h)) rfl (fun _ => ?_)
      refine l_nil (n_then ?_)
      refine ref_cond rfl (fun hb12 => ?_) (fun hb12 => ?_)
      · refine ref_seq (ref_region ?_)
        refine mv1 rfl rfl ?_
        refine as1 rfl rfl ?_
        refine l_nil (n_then (ref_ret (r_block (r_then ?_))))
        refine retX ?_
        refine r_block (r_then ?_)
        exact fin1 (.inl rfl) () [0, 1] rfl ⟨rfl, rfl, trivial⟩ rfl (rv_tmp rfl)
      refine ref_skip (n_block (n_then (ref_region ?_)))
      refine s_rd (r_add rfl rfl) rfl ?_
      refine mv1 rfl rfl ?_
      refine l_nil ?_
      exact goX () (weak [0, 1] ⟨rfl, rfl, rfl, rfl, trivial⟩ ⟨rfl, rfl, trivial⟩)
    refine ref_exit (x_then ?_)
    exact brkX () (weak [0, 1] ⟨rfl, rfl, trivial⟩ ⟨rfl, rfl, trivial⟩)
  refine n_then (ref_seq (ref_region ?_))
  refine as1 rfl rfl ?_
  refine l_nil (n_then (ref_ret ?_))
  exact fin1 (.inl rfl) () [0, 1] rfl ⟨rfl, rfl, trivial⟩ rfl (rv_tmp rfl)

/-! slices.ContainsFunc[[]int,int] -/
noncomputable def slices_ContainsFunc_int_int_m (s_0 : (List Int)) (e_1 : T_api_Base) : Option (Bool) :=
  Option.bind (slices_IndexFunc_int_int_m s_0 e_1) fun t1 =>
  letM (decide (t1 ≥ 0)) fun t2 =>
  some t2

theorem slices_ContainsFunc_int_int_ok {s_0 : (List Int)} {e_1 : T_api_Base} {h_0 : Value × List Nat} {be_1 : Nat} {r : Bool} (hm : slices_ContainsFunc_int_int_m s_0 e_1 = some r) :
    FnOk prog 40 [pv h_0.1, pv (.func (.func 41) #[] #[(ptr be_1 0)])] [oa (rI .i64) h_0.1 h_0.2 s_0, oc be_1 [slv rT_api_Premise e_1.Premises, slv rT_api_Rule e_1.Rules, slv rT_api_Promotion e_1.Promotions]] (fun (x : Unit) => [bv r]) (fun (x : Unit) => [oa (rI .i64) h_0.1 h_0.2 s_0, oc be_1 [slv rT_api_Premise e_1.Premises, slv rT_api_Rule e_1.Rules, slv rT_api_Promotion e_1.Promotions]]) := by
  refine fn_ok (fn := Try.f40) (N := 9) (res := fun r x => [bv r]) (Ω1 := fun r x => [oa (rI .i64) h_0.1 h_0.2 s_0, oc be_1 [slv rT_api_Premise e_1.Premises, slv rT_api_Rule e_1.Rules, slv rT_api_Promotion e_1.Promotions]]) Try.func40 rfl rfl hm rfl (fun E hM => ?_)
  unfold slices_ContainsFunc_int_int_m
  refine ref_seq (ref_region ?_)
  refine as1 rfl rfl ?_
  refine l_nil (n_then (ref_seq (ref_region ?_)))
  refine mv1 rfl rfl ?_
  refine mv1 rfl rfl ?_
  refine pull fun t1 h_t1 => ?_
  refine s_st (s_callC [0, 1] [true, true] (fun (_ : Unit) => [oa (rI .i64) h_0.1 h_0.2 s_0, oc be_1 [slv rT_api_Premise e_1.Premises, slv rT_api_Rule e_1.Rules, slv rT_api_Promotion e_1.Promotions]]) (fun (_ : Unit) => []) (fun (_ : Unit) => iv .i64 t1) (args := [.tmp 5, .tmp 6]) (caps := []) Try.call63 rfl (slices_IndexFunc_int_int_ok h_t1) ⟨rfl, rfl, ⟨rfl, rfl, trivial⟩⟩ (fun _ => rfl) (fun _ => trivial) (fun _ => rfl) ⟨arg rfl, arg rfl, trivial⟩ (fun _ _ _ _ h => h)) rfl (fun _ => ?_)
  refine s_rd (r_geq rfl rfl) rfl ?_
  refine as1 rfl rfl ?_
  refine b_let (f := bv) (t := 4) rfl fun t2 => ?_
  refine l_nil (n_then (ref_ret ?_))
  exact fin1 (.inl rfl) () [0, 1] rfl ⟨rfl, rfl, trivial⟩ rfl (rv_tmp rfl)

/-! deliberation/lift.Assumes -/
noncomputable def lift_Assumes_m (b_0 : T_api_Base) (l_1 : (List T_api_Argument)) (i_2 : Int) : Option (Bool) :=
  Option.bind (argument_Premises_m l_1 i_2) fun t2 =>
  Option.bind (slices_ContainsFunc_int_int_m t2 b_0) fun t4 =>
  some t4

theorem lift_Assumes_ok {b_0 : T_api_Base} {l_1 : (List T_api_Argument)} {i_2 : Int} {r : Bool} (hm : lift_Assumes_m b_0 l_1 i_2 = some r) :
    FnOk prog 21 [ag [slv rT_api_Premise b_0.Premises, slv rT_api_Rule b_0.Rules, slv rT_api_Promotion b_0.Promotions], slv rT_api_Argument l_1, iv .i64 i_2] [] (fun (x : Unit) => [bv r]) (fun (x : Unit) => []) := by
  refine fn_ok (fn := Try.f21) (N := 12) (res := fun r x => [bv r]) (Ω1 := fun r x => []) Try.func21 rfl rfl hm rfl (fun E hM => ?_)
  unfold lift_Assumes_m
  refine ref_seq (ref_region ?_)
  refine s_st (s_box (part_agO (ψs := [slv rT_api_Premise b_0.Premises, slv rT_api_Rule b_0.Rules, slv rT_api_Promotion b_0.Promotions]) rfl ⟨.inl slv_at, .inl slv_at, .inl slv_at, trivial⟩)) rfl (fun b1 => ?_)
  refine as1 rfl rfl ?_
  refine l_nil (n_then (ref_seq (ref_region ?_)))
  refine mv1 rfl rfl ?_
  refine mv1 rfl rfl ?_
  refine pull fun t2 h_t2 => ?_
  refine s_st (s_call (ψ := fun (x3 : (Value × List Nat)) => pv x3.1) (args := [.tmp 7, .tmp 8]) Try.call33 rfl (argument_Premises_ok h_t2) ⟨arg rfl, arg rfl, trivial⟩ (fun _ _ _ _ h => h)) rfl (fun x3 => ?_)
  refine s_rd (r_mkfn (xs := [.tmp 3]) (vs := [(ptr b1 0)]) ⟨rfl, trivial⟩) rfl ?_
  refine pull fun t4 h_t4 => ?_
  refine s_st (s_callC [1, 0] [true, true] (fun (_ : Unit) => [oa (rI .i64) x3.1 x3.2 t2, oc b1 [slv rT_api_Premise b_0.Premises, slv rT_api_Rule b_0.Rules, slv rT_api_Promotion b_0.Promotions]]) (fun (_ : Unit) => []) (fun (_ : Unit) => bv t4) (args := [.tmp 9, .tmp 10]) (caps := []) Try.call40 rfl (slices_ContainsFunc_int_int_ok h_t4) ⟨rfl, rfl, ⟨rfl, rfl, trivial⟩⟩ (fun _ => rfl) (fun _ => trivial) (fun _ => rfl) ⟨arg rfl, arg rfl, trivial⟩ (fun _ _ _ _ h => h)) rfl (fun _ => ?_)
  refine as1 rfl rfl ?_
  refine l_nil (n_then (ref_ret ?_))
  exact fin1 (.inl rfl) () [] rfl trivial rfl (rv_tmp rfl)

/-! deliberation/argument.Last -/
noncomputable def argument_Last_l1 (b_0 : T_api_Base) (l_1 : (List T_api_Argument)) (t9 : T_api_Argument) (rec_ : T_api_Base → (List T_api_Argument) → Int → Option (List Int)) (s24 : Int × (List Int)) : Option (Sum ((List Int)) (Int × (List Int))) :=
  bif decide (s24.1 < (t9.Subs.length : Int)) then
    Option.bind (idxM t9.Subs s24.1) fun k27 =>
    Option.bind (rec_ b_0 l_1 k27) fun t28 =>
    Option.bind (appM 8 s24.2 t28) fun out29 =>
    some (Sum.inr (iadd .i64 s24.1 1, out29))
  else
    some (Sum.inl s24.2)

noncomputable def argument_Last_b (rec_ : T_api_Base → (List T_api_Argument) → Int → Option (List Int)) (b_0 : T_api_Base) (l_1 : (List T_api_Argument)) (i_2 : Int) : Option (List Int) :=
  Option.bind (argument_inside_m l_1 i_2) fun t2 =>
  bif !t2 then
    some []
  else
    Option.bind (idxM l_1 i_2) fun t3 =>
    bif decide (t3.Rule < 0) then
      some []
    else
      Option.bind (idxM l_1 i_2) fun t5 =>
      Option.bind (idxM b_0.Rules t5.Rule) fun t6 =>
      bif !t6.Strict then
        Option.bind (idxM l_1 i_2) fun t8 =>
        some [t8.Rule]
      else
        Option.bind (idxM l_1 i_2) fun t9 =>
        Option.bind (loopC (argument_Last_l1 b_0 l_1 t9 rec_) (0, [])) fun q31 : (List Int) =>
        Option.bind (sortedM q31) fun t33 =>
        Option.bind (compactM t33) fun t34 =>
        some t34

noncomputable def argument_Last_n : Nat → T_api_Base → (List T_api_Argument) → Int → Option (List Int)
  | 0 => fun _ _ _ => none
  | n_ + 1 => argument_Last_b (argument_Last_n n_)

noncomputable def argument_Last_m (b_0 : T_api_Base) (l_1 : (List T_api_Argument)) (i_2 : Int) : Option (List Int) := recC fun n_ => argument_Last_n n_ b_0 l_1 i_2

theorem argument_Last_step (rec_ : T_api_Base → (List T_api_Argument) → Int → Option (List Int)) (ih : ∀ {b_0 : T_api_Base} {l_1 : (List T_api_Argument)} {i_2 : Int} {r : List Int}, rec_ b_0 l_1 i_2 = some r →
    FnOk prog 38 [ag [slv rT_api_Premise b_0.Premises, slv rT_api_Rule b_0.Rules, slv rT_api_Promotion b_0.Promotions], slv rT_api_Argument l_1, iv .i64 i_2] [] (fun (x : Unit) => [slv (rI .i64) r]) (fun (x : Unit) => [])) {b_0 : T_api_Base} {l_1 : (List T_api_Argument)} {i_2 : Int} {r : List Int} (hm : argument_Last_b rec_ b_0 l_1 i_2 = some r) :
    FnOk prog 38 [ag [slv rT_api_Premise b_0.Premises, slv rT_api_Rule b_0.Rules, slv rT_api_Promotion b_0.Promotions], slv rT_api_Argument l_1, iv .i64 i_2] [] (fun (x : Unit) => [slv (rI .i64) r]) (fun (x : Unit) => []) := by
  refine fn_ok (fn := Try.f38) (N := 60) (res := fun r x => [slv (rI .i64) r]) (Ω1 := fun r x => []) Try.func38 rfl rfl hm rfl (fun E hM => ?_)
  unfold argument_Last_b
  refine ref_seq (ref_region ?_)
  refine s_st (s_box (part_agO (ψs := [slv rT_api_Premise b_0.Premises, slv rT_api_Rule b_0.Rules, slv rT_api_Promotion b_0.Promotions]) rfl ⟨.inl slv_at, .inl slv_at, .inl slv_at, trivial⟩)) rfl (fun b1 => ?_)
  refine as1 rfl rfl ?_
  refine l_nil (n_then (ref_seq (ref_seq (ref_region ?_))))
  refine mv1 rfl rfl ?_
  refine mv1 rfl rfl ?_
  refine pull fun t2 h_t2 => ?_
  refine s_st (s_call (ψ := fun (_ : Unit) => bv t2) (args := [.tmp 10, .tmp 11]) Try.call61 rfl (argument_inside_ok h_t2) ⟨arg rfl, arg rfl, trivial⟩ (fun _ _ _ _ h => h)) rfl (fun _ => ?_)
  refine s_rd (r_not rfl) rfl ?_
  refine mv1 rfl rfl ?_
  refine b_split (t := 14) rfl (fun _ => ?_) (fun _ => ?_)
  · refine s_off rfl rfl rfl rfl rfl ?_
    refine s_off rfl rfl rfl rfl rfl ?_
    refine s_off rfl rfl rfl rfl rfl ?_
    refine s_off rfl rfl rfl rfl rfl ?_
    refine s_off rfl rfl rfl rfl rfl ?_
    refine s_off rfl rfl rfl rfl rfl ?_
    refine s_rd (r_pickT rfl rfl) rfl ?_
    refine l_nil (n_then ?_)
    refine ref_condT rfl rfl ?_
    refine ref_seq (ref_region ?_)
    refine as1 rfl rfl ?_
    refine l_nil (n_then (ref_ret (r_then ?_)))
    refine b_of (sl_nil (rI .i64) (t := 6) rfl) ?_
    exact fin1 (.inl rfl) () [] rfl trivial rfl (rv_tmp rfl)
  refine s_on rfl rfl rfl ?_
  refine mv1 rfl rfl ?_
  refine s_on rfl rfl rfl ?_
  refine mv1 rfl rfl ?_
  refine s_on rfl rfl rfl ?_
  refine pull fun t3 h_t3 => ?_
  refine s_rd (r_index h_t3 Try.underlying35 el_52 rfl rfl) rfl ?_
  refine s_on rfl rfl rfl ?_
  refine s_rd (r_fea (fo := 1) (ρ := rT_api_Argument) (y := t3) (ρ' := (rI .i64)) (z := t3.Rule) Try.underlying52 rfl rfl Try.sizeOf3 rfl rfl rfl) rfl ?_
  refine s_on rfl rfl rfl ?_
  refine s_rd (r_load el_3 rfl) rfl ?_
  refine s_on rfl rfl rfl ?_
  refine s_rd (r_lss rfl rfl) rfl ?_
  refine s_rd (r_pickF rfl rfl) rfl ?_
  refine l_nil (n_then ?_)
  refine ref_cond rfl (fun hb4 => ?_) (fun hb4 => ?_)
  · refine ref_seq (ref_region ?_)
    refine as1 rfl rfl ?_
    refine l_nil (n_then (ref_ret (r_then ?_)))
    refine b_of (sl_nil (rI .i64) (t := 6) rfl) ?_
    exact fin1 (.inl rfl) () [] rfl trivial rfl (rv_tmp rfl)
  refine ref_skip (n_then (ref_seq (ref_seq ?_)))
  refine ref_draw [0, 1, 2, 3, 4, 5, 6, 7, 8, 9, 10] rfl (by kernel_rfl) (fun hok => ?_)
  refine a_rd (i := 0) hok rfl (by kernel_rfl) rfl (r_faddr (fo := 1) Try.underlying34 rfl rfl Try.sizeOf31 rfl) rfl ?_
  refine a_rd (i := 1) hok rfl (by kernel_rfl) rfl (r_cload Try.isAgg31 rfl (j := 0) rfl rfl) rfl ?_
  refine a_rd (i := 2) hok rfl (by kernel_rfl) rfl (r_move rfl) rfl ?_
  refine a_rd (i := 3) hok rfl (by kernel_rfl) rfl (r_move rfl) rfl ?_
  refine pull fun t5 h_t5 => ?_
  refine a_rd (i := 4) hok rfl (by kernel_rfl) rfl (r_index h_t5 Try.underlying35 el_52 rfl rfl) rfl ?_
  refine a_rd (i := 5) hok rfl (by kernel_rfl) rfl (r_fea (fo := 1) (ρ := rT_api_Argument) (y := t5) (ρ' := (rI .i64)) (z := t5.Rule) Try.underlying52 rfl rfl Try.sizeOf3 rfl rfl rfl) rfl ?_
  refine a_rd (i := 6) hok rfl (by kernel_rfl) rfl (r_load el_3 rfl) rfl ?_
  refine pull fun t6 h_t6 => ?_
  refine a_rd (i := 7) hok rfl (by kernel_rfl) rfl (r_index h_t6 Try.underlying31 el_55 rfl rfl) rfl ?_
  refine a_rd (i := 8) hok rfl (by kernel_rfl) rfl (r_fea (fo := 1) (ρ := rT_api_Rule) (y := t6) (ρ' := rB) (z := t6.Strict) Try.underlying55 rfl rfl Try.sizeOf4 rfl rfl rfl) rfl ?_
  refine a_rd (i := 9) hok rfl (by kernel_rfl) rfl (r_load el_4 rfl) rfl ?_
  refine a_rd (i := 10) hok rfl (by kernel_rfl) rfl (r_not rfl) rfl ?_
  refine a_fin hok (by kernel_rfl) ?_
  refine n_then ?_
  refine ref_cond rfl (fun hb7 => ?_) (fun hb7 => ?_)
  · refine ref_seq (ref_region ?_)
    refine mv1 rfl rfl ?_
    refine mv1 rfl rfl ?_
    refine pull fun t8 h_t8 => ?_
    refine s_rd (r_index h_t8 Try.underlying35 el_52 rfl rfl) rfl ?_
    refine s_rd (r_fea (fo := 1) (ρ := rT_api_Argument) (y := t8) (ρ' := (rI .i64)) (z := t8.Rule) Try.underlying52 rfl rfl Try.sizeOf3 rfl rfl rfl) rfl ?_
    refine s_rd (r_load el_3 rfl) rfl ?_
    refine s_st (s_bslice (xs := [.tmp 37]) (ds := [t8.Rule]) Try.underlying22 el_3 rfl (Nat.le_of_ble_eq_true rfl) ⟨(part_at rfl iv_at), trivial⟩) rfl (fun _ => ?_)
    refine as1 rfl rfl ?_
    refine l_nil (n_then (ref_ret (r_then ?_)))
    exact fin1 (.inl rfl) () [] rfl trivial rfl (rv_tmp rfl)
  refine ref_skip (n_then (ref_seq (ref_region ?_)))
  refine as1 rfl rfl ?_
  refine l_nil (n_then (ref_seq (ref_seq (ref_region ?_))))
  refine mv1 rfl rfl ?_
  refine mv1 rfl rfl ?_
  refine pull fun t9 h_t9 => ?_
  refine s_rd (r_index h_t9 Try.underlying35 el_52 rfl rfl) rfl ?_
  refine s_rd (r_fea (fo := 2) (ρ := rT_api_Argument) (y := t9) (ρ' := (rSl (rI .i64))) (z := t9.Subs) Try.underlying52 rfl rfl Try.sizeOf22 rfl rfl rfl) rfl ?_
  refine s_rd (r_load el_22 rfl) rfl ?_
  refine s_rd (r_len Try.underlying22 rfl) rfl ?_
  refine mv1 rfl rfl ?_
  refine l_nil (n_then ?_)
  refine b_of (own_nil (rI .i64)) ?_
  refine ref_loopB (f := (argument_Last_l1 b_0 l_1 t9 rec_)) (Γl := (fun (s24 : Int × (List Int)) (x25 : (Value × List Nat)) => [(1, slv rT_api_Argument l_1), (3, pv (ptr b1 0)), (7, pv x25.1), (43, slv (rI .i64) t9.Subs), (44, iv .i64 (t9.Subs.length : Int)), (45, iv .i64 s24.1)])) (Ωl := (fun (s24 : Int × (List Int)) (x25 : (Value × List Nat)) => [oc b1 [slv rT_api_Premise b_0.Premises, slv rT_api_Rule b_0.Rules, slv rT_api_Promotion b_0.Promotions], oa (rI .i64) x25.1 x25.2 s24.2])) (Γb := (fun (q31 : (List Int)) (y32 : (Value × List Nat)) => [(7, pv y32.1)])) (Ωb := (fun (q31 : (List Int)) (y32 : (Value × List Nat)) => [oa (rI .i64) y32.1 y32.2 q31])) (0, []) ((.slice none 0 0), []) (weak [0, 1] ⟨rfl, rfl, rfl, rfl, rfl, rfl, trivial⟩ ⟨rfl, rfl, trivial⟩) (fun s24 x25 => ?_) (fun q31 y32 => ?_)
  · unfold argument_Last_l1
    refine ref_seq (ref_region ?_)
    refine s_rd (r_lss rfl rfl) rfl ?_
    refine l_nil (n_then (ref_seq ?_))
    refine ref_cond rfl (fun hb26 => ?_) (fun hb26 => ?_)
    · refine ref_skip (n_then (ref_seq (ref_block (ref_seq (ref_region ?_)))))
      refine pull fun k27 h_k27 => ?_
      refine s_rd (r_index h_k27 Try.underlying22 el_3 rfl rfl) rfl ?_
      refine s_rd (r_load el_3 rfl) rfl ?_
      refine as1 rfl rfl ?_
      refine l_nil (n_then (ref_region ?_))
      refine mv1 rfl rfl ?_
      refine s_rd (r_cloadS Try.isAgg34 Try.sizeOf34 rfl (j := 0) rfl rfl rfl) rfl ?_
      refine mv1 rfl rfl ?_
      refine mv1 rfl rfl ?_
      refine pull fun t28 h_t28 => ?_
      refine s_st (s_call (ψ := fun (_ : Unit) => slv (rI .i64) t28) (args := [.tmp 50, .tmp 51, .tmp 52]) Try.call38 rfl (ih h_t28) ⟨arg rfl, arg rfl, arg rfl, trivial⟩ (fun _ _ _ _ h => h)) rfl (fun _ => ?_)
      refine pull fun out29 h_out29 => ?_
      refine s_st (s_append h_out29 Try.underlying22 el_3 rfl (j := 1) rfl rfl) rfl (fun o30 => ?_)
      refine as1 rfl rfl ?_
      refine l_nil ?_
      refine b_of (nrm [oc b1 [slv rT_api_Premise b_0.Premises, slv rT_api_Rule b_0.Rules, slv rT_api_Promotion b_0.Promotions], oa (rI .i64) o30.1 o30.2 out29] rfl) ?_
      refine n_block (n_then (ref_region ?_))
      refine s_rd (r_add rfl rfl) rfl ?_
      refine mv1 rfl rfl ?_
      refine l_nil ?_
      exact goB o30 (weak [0, 1] ⟨rfl, rfl, rfl, rfl, rfl, rfl, trivial⟩ ⟨rfl, rfl, trivial⟩)
    refine ref_exit (x_then ?_)
    exact brkB x25 (weak [1] ⟨rfl, trivial⟩ ⟨rfl, trivial⟩)
  refine n_then (ref_seq (ref_region ?_))
  refine mv1 rfl rfl ?_
  refine pull fun t33 h_t33 => ?_
  refine s_st (s_callC [0] [true] (fun (_ : Unit) => [oa (rI .i64) y32.1 y32.2 t33]) (fun (_ : Unit) => []) (fun (_ : Unit) => tup []) (args := [.tmp 56]) (caps := []) Try.call57 rfl (slices_Sort_ok h_t33) ⟨rfl, rfl, trivial⟩ (fun _ => rfl) (fun _ => trivial) (fun _ => rfl) ⟨arg rfl, trivial⟩ (fun _ _ _ _ h => h)) rfl (fun _ => ?_)
  refine l_nil (n_then (ref_seq (ref_region ?_)))
  refine mv1 rfl rfl ?_
  refine pull fun t34 h_t34 => ?_
  refine s_st (s_callC [0] [false] (fun (x35 : (Value × List Nat)) => [dead]) (fun (x35 : (Value × List Nat)) => [oa (rI .i64) x35.1 x35.2 t34]) (fun (x35 : (Value × List Nat)) => pv x35.1) (args := [.tmp 58]) (caps := []) Try.call60 rfl (slices_Compact_ok h_t34) ⟨rfl, rfl, trivial⟩ (fun _ => rfl) (fun _ => ⟨rfl, trivial⟩) (fun _ => rfl) ⟨arg rfl, trivial⟩ (fun _ _ _ _ h => h)) rfl (fun x35 => ?_)
  refine as1 rfl rfl ?_
  refine l_nil (n_then (ref_ret ?_))
  refine b_of (frzL [59, 6] (j := 1) rfl ⟨rfl, rfl, trivial⟩) ?_
  exact fin1 (.inl rfl) () [] rfl trivial rfl (rv_tmp rfl)

theorem argument_Last_n_ok : ∀ (n_ : Nat) {b_0 : T_api_Base} {l_1 : (List T_api_Argument)} {i_2 : Int} {r : List Int}, argument_Last_n n_ b_0 l_1 i_2 = some r →
    FnOk prog 38 [ag [slv rT_api_Premise b_0.Premises, slv rT_api_Rule b_0.Rules, slv rT_api_Promotion b_0.Promotions], slv rT_api_Argument l_1, iv .i64 i_2] [] (fun (x : Unit) => [slv (rI .i64) r]) (fun (x : Unit) => []) := by
  intro n_
  induction n_ with
  | zero => intros; rename_i h; cases h
  | succ n_ ih => intros; rename_i h; exact argument_Last_step _ @ih h

theorem argument_Last_ok {b_0 : T_api_Base} {l_1 : (List T_api_Argument)} {i_2 : Int} {r : List Int} (hm : argument_Last_m b_0 l_1 i_2 = some r) :
    FnOk prog 38 [ag [slv rT_api_Premise b_0.Premises, slv rT_api_Rule b_0.Rules, slv rT_api_Promotion b_0.Promotions], slv rT_api_Argument l_1, iv .i64 i_2] [] (fun (x : Unit) => [slv (rI .i64) r]) (fun (x : Unit) => []) := by
  obtain ⟨n_, h⟩ := recC_some hm
  exact argument_Last_n_ok n_ h

theorem argument_Last_l1_le {rec_ rec_' : T_api_Base → (List T_api_Argument) → Int → Option (List Int)} (h : ∀ b_0 l_1 i_2, Le (rec_ b_0 l_1 i_2) (rec_' b_0 l_1 i_2)) {b_0 : T_api_Base} {l_1 : (List T_api_Argument)} {t9 : T_api_Argument} {s24 : Int × (List Int)}  : Le (argument_Last_l1 b_0 l_1 t9 rec_ s24) (argument_Last_l1 b_0 l_1 t9 rec_' s24) := by
  unfold argument_Last_l1
  repeat' with_reducible (first | exact Le.refl _ | exact h _ _ _ | refine Le.bind ?_ (Le.sumK fun _ => ?_) | refine Le.bind ?_ (fun _ => ?_) | refine Le.cond ?_ ?_ | refine Le.letM (fun _ => ?_) | refine Le.join (fun _ => ?_) (fun _ _ hj => ?_) | exact hj _)

theorem argument_Last_b_le {rec_ rec_' : T_api_Base → (List T_api_Argument) → Int → Option (List Int)} (h : ∀ b_0 l_1 i_2, Le (rec_ b_0 l_1 i_2) (rec_' b_0 l_1 i_2)) {b_0 : T_api_Base} {l_1 : (List T_api_Argument)} {i_2 : Int} : Le (argument_Last_b rec_ b_0 l_1 i_2) (argument_Last_b rec_' b_0 l_1 i_2) := by
  unfold argument_Last_b
  repeat' with_reducible (first | exact Le.refl _ | exact h _ _ _ | refine Le.loopC (fun _ => argument_Last_l1_le h) | refine Le.bind ?_ (Le.sumK fun _ => ?_) | refine Le.bind ?_ (fun _ => ?_) | refine Le.cond ?_ ?_ | refine Le.letM (fun _ => ?_) | refine Le.join (fun _ => ?_) (fun _ _ hj => ?_) | exact hj _)

theorem argument_Last_n_le : ∀ (n_ : Nat) (b_0 : T_api_Base) (l_1 : (List T_api_Argument)) (i_2 : Int), Le (argument_Last_n n_ b_0 l_1 i_2) (argument_Last_n (n_ + 1) b_0 l_1 i_2)
  | 0, _, _, _ => fun _ h => by cases h
  | n_ + 1, _, _, _ => argument_Last_b_le (argument_Last_n_le n_)

/-! deliberation/lift.ranks -/
noncomputable def lift_ranks_l1 (b_0 : T_api_Base) (rules_1 : (List Int)) (s16 : Int × (List Int)) : Option (Sum ((List Int)) (Int × (List Int))) :=
  bif decide (s16.1 < (rules_1.length : Int)) then
    Option.bind (idxM rules_1 s16.1) fun k19 =>
    Option.bind (idxM b_0.Rules k19) fun t20 =>
    Option.bind (appM 8 s16.2 [t20.Rank]) fun out21 =>
    some (Sum.inr (iadd .i64 s16.1 1, out21))
  else
    some (Sum.inl s16.2)

noncomputable def lift_ranks_m (b_0 : T_api_Base) (rules_1 : (List Int)) : Option (List Int) :=
  Option.bind (loopC (lift_ranks_l1 b_0 rules_1) (0, [])) fun q23 : (List Int) =>
  some q23

theorem lift_ranks_ok {b_0 : T_api_Base} {rules_1 : (List Int)} {r : List Int} (hm : lift_ranks_m b_0 rules_1 = some r) :
    FnOk prog 35 [ag [slv rT_api_Premise b_0.Premises, slv rT_api_Rule b_0.Rules, slv rT_api_Promotion b_0.Promotions], slv (rI .i64) rules_1] [] (fun (x : (Value × List Nat)) => [pv x.1]) (fun (x : (Value × List Nat)) => [oa (rI .i64) x.1 x.2 r]) := by
  refine fn_ok (X := (Value × List Nat)) (fn := Try.f35) (N := 25) (res := fun r x => [pv x.1]) (Ω1 := fun r x => [oa (rI .i64) x.1 x.2 r]) Try.func35 rfl rfl hm rfl (fun E hM => ?_)
  unfold lift_ranks_m
  refine ref_seq (ref_region ?_)
  refine s_st (s_box (part_agO (ψs := [slv rT_api_Premise b_0.Premises, slv rT_api_Rule b_0.Rules, slv rT_api_Promotion b_0.Promotions]) rfl ⟨.inl slv_at, .inl slv_at, .inl slv_at, trivial⟩)) rfl (fun b1 => ?_)
  refine as1 rfl rfl ?_
  refine l_nil (n_then (ref_seq (ref_region ?_)))
  refine as1 rfl rfl ?_
  refine l_nil (n_then (ref_seq (ref_seq (ref_region ?_))))
  refine mv1 rfl rfl ?_
  refine s_rd (r_len Try.underlying22 rfl) rfl ?_
  refine mv1 rfl rfl ?_
  refine l_nil (n_then ?_)
  refine b_of (own_nil (rI .i64)) ?_
  refine ref_loopB (f := (lift_ranks_l1 b_0 rules_1)) (Γl := (fun (s16 : Int × (List Int)) (x17 : (Value × List Nat)) => [(2, pv (ptr b1 0)), (5, pv x17.1), (8, slv (rI .i64) rules_1), (9, iv .i64 (rules_1.length : Int)), (10, iv .i64 s16.1)])) (Ωl := (fun (s16 : Int × (List Int)) (x17 : (Value × List Nat)) => [oc b1 [slv rT_api_Premise b_0.Premises, slv rT_api_Rule b_0.Rules, slv rT_api_Promotion b_0.Promotions], oa (rI .i64) x17.1 x17.2 s16.2])) (Γb := (fun (q23 : (List Int)) (y24 : (Value × List Nat)) => [(5, pv y24.1)])) (Ωb := (fun (q23 : (List Int)) (y24 : (Value × List Nat)) => [oa (rI .i64) y24.1 y24.2 q23])) (0, []) ((.slice none 0 0), []) (weak [0, 1] ⟨rfl, rfl, rfl, rfl, rfl, trivial⟩ ⟨rfl, rfl, trivial⟩) (fun s16 x17 => ?_) (fun q23 y24 => ?_)
  · unfold lift_ranks_l1
    refine ref_seq (ref_region ?_)
    refine s_rd (r_lss rfl rfl) rfl ?_
    refine l_nil (n_then (ref_seq ?_))
    refine ref_cond rfl (fun hb18 => ?_) (fun hb18 => ?_)
    · refine ref_skip (n_then (ref_seq (ref_block (ref_seq (ref_region ?_)))))
      refine pull fun k19 h_k19 => ?_
      refine s_rd (r_index h_k19 Try.underlying22 el_3 rfl rfl) rfl ?_
      refine s_rd (r_load el_3 rfl) rfl ?_
      refine as1 rfl rfl ?_
      refine l_nil (n_then (ref_region ?_))
      refine mv1 rfl rfl ?_
      refine s_rd (r_faddr (fo := 1) Try.underlying34 rfl rfl Try.sizeOf31 rfl) rfl ?_
      refine s_rd (r_cload Try.isAgg31 rfl (j := 0) rfl rfl) rfl ?_
      refine mv1 rfl rfl ?_
      refine pull fun t20 h_t20 => ?_
      refine s_rd (r_index h_t20 Try.underlying31 el_55 rfl rfl) rfl ?_
      refine s_rd (r_fea (fo := 2) (ρ := rT_api_Rule) (y := t20) (ρ' := (rI .i64)) (z := t20.Rank) Try.underlying55 rfl rfl Try.sizeOf3 rfl rfl rfl) rfl ?_
      refine s_rd (r_load el_3 rfl) rfl ?_
      refine s_st (s_bslice (xs := [.tmp 20]) (ds := [t20.Rank]) Try.underlying22 el_3 rfl (Nat.le_of_ble_eq_true rfl) ⟨(part_at rfl iv_at), trivial⟩) rfl (fun _ => ?_)
      refine pull fun out21 h_out21 => ?_
      refine s_st (s_append h_out21 Try.underlying22 el_3 rfl (j := 1) rfl rfl) rfl (fun o22 => ?_)
      refine as1 rfl rfl ?_
      refine l_nil (n_block (n_then (ref_region ?_)))
      refine s_rd (r_add rfl rfl) rfl ?_
      refine mv1 rfl rfl ?_
      refine l_nil ?_
      exact goB o22 (weak [0, 1] ⟨rfl, rfl, rfl, rfl, rfl, trivial⟩ ⟨rfl, rfl, trivial⟩)
    refine ref_exit (x_then ?_)
    exact brkB x17 (weak [1] ⟨rfl, trivial⟩ ⟨rfl, trivial⟩)
  refine n_then (ref_seq (ref_region ?_))
  refine mv1 rfl rfl ?_
  refine as1 rfl rfl ?_
  refine l_nil (n_then (ref_ret ?_))
  exact fin1 (.inl rfl) y24 [0] rfl ⟨rfl, trivial⟩ rfl (rv_tmp rfl)

/-! deliberation/lift.LastRanks -/
noncomputable def lift_LastRanks_m (b_0 : T_api_Base) (l_1 : (List T_api_Argument)) (i_2 : Int) : Option (List Int) :=
  Option.bind (argument_Last_m b_0 l_1 i_2) fun t2 =>
  Option.bind (lift_ranks_m b_0 t2) fun t3 =>
  some t3

theorem lift_LastRanks_ok {b_0 : T_api_Base} {l_1 : (List T_api_Argument)} {i_2 : Int} {r : List Int} (hm : lift_LastRanks_m b_0 l_1 i_2 = some r) :
    FnOk prog 19 [ag [slv rT_api_Premise b_0.Premises, slv rT_api_Rule b_0.Rules, slv rT_api_Promotion b_0.Promotions], slv rT_api_Argument l_1, iv .i64 i_2] [] (fun (x : (Value × List Nat)) => [pv x.1]) (fun (x : (Value × List Nat)) => [oa (rI .i64) x.1 x.2 r]) := by
  refine fn_ok (X := (Value × List Nat)) (fn := Try.f19) (N := 13) (res := fun r x => [pv x.1]) (Ω1 := fun r x => [oa (rI .i64) x.1 x.2 r]) Try.func19 rfl rfl hm rfl (fun E hM => ?_)
  unfold lift_LastRanks_m
  refine ref_seq (ref_region ?_)
  refine s_st (s_box (part_agO (ψs := [slv rT_api_Premise b_0.Premises, slv rT_api_Rule b_0.Rules, slv rT_api_Promotion b_0.Promotions]) rfl ⟨.inl slv_at, .inl slv_at, .inl slv_at, trivial⟩)) rfl (fun b1 => ?_)
  refine as1 rfl rfl ?_
  refine l_nil (n_then (ref_seq ?_))
  refine ref_draw [0, 1, 2, 3] rfl (by kernel_rfl) (fun hok => ?_)
  refine a_rd (i := 0) hok rfl (by kernel_rfl) rfl (r_cloadS Try.isAgg34 Try.sizeOf34 rfl (j := 0) rfl rfl rfl) rfl ?_
  refine a_rd (i := 1) hok rfl (by kernel_rfl) rfl (r_cloadS Try.isAgg34 Try.sizeOf34 rfl (j := 0) rfl rfl rfl) rfl ?_
  refine a_rd (i := 2) hok rfl (by kernel_rfl) rfl (r_move rfl) rfl ?_
  refine a_rd (i := 3) hok rfl (by kernel_rfl) rfl (r_move rfl) rfl ?_
  refine pull fun t2 h_t2 => ?_
  refine a_next hok 4 [] (by kernel_rfl) ?_ trivial
  refine a_st (i := 4) hok rfl rfl (s_call (ψ := fun (_ : Unit) => slv (rI .i64) t2) (args := [.tmp 8, .tmp 9, .tmp 10]) Try.call38 rfl (argument_Last_ok h_t2) ⟨arg rfl, arg rfl, arg rfl, trivial⟩ (fun _ _ _ _ h => h)) (by intro _ h; cases h; rfl) (fun _ => ⟨trivial, ⟨trivial, ⟨trivial, ⟨⟨⟨rfl, rfl⟩, trivial⟩, trivial⟩⟩⟩⟩) (fun _ => ?_)
  refine pull fun t3 h_t3 => ?_
  refine a_next hok 5 [] (by kernel_rfl) ?_ trivial
  refine a_st (i := 5) hok rfl rfl (s_call (ψ := fun (x4 : (Value × List Nat)) => pv x4.1) (args := [.tmp 7, .tmp 11]) Try.call35 rfl (lift_ranks_ok h_t3) ⟨arg rfl, arg rfl, trivial⟩ (fun _ _ _ _ h => h)) (by intro _ h; cases h; rfl) (fun _ => ⟨trivial, ⟨trivial, ⟨⟨⟨rfl, rfl⟩, trivial⟩, ⟨trivial, trivial⟩⟩⟩⟩) (fun x4 => ?_)
  refine a_next hok 6 [] (by kernel_rfl) ?_ trivial
  refine a_st (i := 6) hok rfl rfl (St.ofRd (r_assign rfl)) (by intro _ h; cases h; rfl) (fun _ => ⟨trivial, ⟨trivial, ⟨trivial, ⟨trivial, trivial⟩⟩⟩⟩) (fun _ => ?_)
  refine a_fin hok (by kernel_rfl) ?_
  refine b_of (nrm [oc b1 [slv rT_api_Premise b_0.Premises, slv rT_api_Rule b_0.Rules, slv rT_api_Promotion b_0.Promotions], oa (rI .i64) x4.1 x4.2 t3] rfl) ?_
  refine n_then (ref_ret ?_)
  exact fin1 (.inl rfl) x4 [1] rfl ⟨rfl, trivial⟩ rfl (rv_tmp rfl)

/-! deliberation/lift.Less$1 -/
noncomputable def lift_Less_1_m (p_1 : T_api_Base) (p_2 : (List T_api_Argument)) (p_3 : Int) (p_4 : Int) (p_5 : T_api_Ordering) : Option (Bool) :=
  Option.bind (lift_LastRanks_m p_1 p_2 p_3) fun t1 =>
  Option.bind (lift_LastRanks_m p_1 p_2 p_4) fun t3 =>
  Option.bind (lift_SetLess_m t1 t3 p_5.Lift) fun t5 =>
  some t5

theorem lift_Less_1_ok {p_1 : T_api_Base} {p_2 : (List T_api_Argument)} {p_3 : Int} {p_4 : Int} {p_5 : T_api_Ordering} {b_1 : Nat} {b_2 : Nat} {b_3 : Nat} {b_4 : Nat} {b_5 : Nat} {r : Bool} (hm : lift_Less_1_m p_1 p_2 p_3 p_4 p_5 = some r) :
    FnOk prog 42 [pv (.func (.func 19) #[] #[]), pv (ptr b_1 0), pv (ptr b_2 0), pv (ptr b_3 0), pv (ptr b_4 0), pv (ptr b_5 0)] [oc b_1 [slv rT_api_Premise p_1.Premises, slv rT_api_Rule p_1.Rules, slv rT_api_Promotion p_1.Promotions], oc b_2 [slv rT_api_Argument p_2], oc b_3 [iv .i64 p_3], oc b_4 [iv .i64 p_4], oc b_5 [iv .i64 p_5.Link, iv .i64 p_5.Lift]] (fun (x : Unit) => [bv r]) (fun (x : Unit) => [oc b_1 [slv rT_api_Premise p_1.Premises, slv rT_api_Rule p_1.Rules, slv rT_api_Promotion p_1.Promotions], oc b_2 [slv rT_api_Argument p_2], oc b_3 [iv .i64 p_3], oc b_4 [iv .i64 p_4], oc b_5 [iv .i64 p_5.Link, iv .i64 p_5.Lift]]) := by
  refine fn_ok (fn := Try.f42) (N := 21) (res := fun r x => [bv r]) (Ω1 := fun r x => [oc b_1 [slv rT_api_Premise p_1.Premises, slv rT_api_Rule p_1.Rules, slv rT_api_Promotion p_1.Promotions], oc b_2 [slv rT_api_Argument p_2], oc b_3 [iv .i64 p_3], oc b_4 [iv .i64 p_4], oc b_5 [iv .i64 p_5.Link, iv .i64 p_5.Lift]]) Try.func42 rfl rfl hm rfl (fun E hM => ?_)
  unfold lift_Less_1_m
  refine ref_seq (ref_region ?_)
  refine as1 rfl rfl ?_
  refine l_nil (n_then (ref_seq ?_))
  refine ref_draw [0, 1, 2, 3, 5, 6, 7, 8, 10, 11] rfl (by kernel_rfl) (fun hok => ?_)
  refine a_rd (i := 0) hok rfl (by kernel_rfl) rfl (r_move rfl) rfl ?_
  refine a_rd (i := 1) hok rfl (by kernel_rfl) rfl (r_cloadS Try.isAgg34 Try.sizeOf34 rfl (j := 0) rfl rfl rfl) rfl ?_
  refine a_rd (i := 2) hok rfl (by kernel_rfl) rfl (r_cload Try.isAgg35 rfl (j := 1) rfl rfl) rfl ?_
  refine a_rd (i := 3) hok rfl (by kernel_rfl) rfl (r_cload Try.isAgg3 rfl (j := 2) rfl rfl) rfl ?_
  refine a_rd (i := 5) hok rfl (by kernel_rfl) rfl (r_move rfl) rfl ?_
  refine a_rd (i := 6) hok rfl (by kernel_rfl) rfl (r_cloadS Try.isAgg34 Try.sizeOf34 rfl (j := 0) rfl rfl rfl) rfl ?_
  refine a_rd (i := 7) hok rfl (by kernel_rfl) rfl (r_cload Try.isAgg35 rfl (j := 1) rfl rfl) rfl ?_
  refine a_rd (i := 8) hok rfl (by kernel_rfl) rfl (r_cload Try.isAgg3 rfl (j := 3) rfl rfl) rfl ?_
  refine a_rd (i := 10) hok rfl (by kernel_rfl) rfl (r_faddr (fo := 1) Try.underlying43 rfl rfl Try.sizeOf3 rfl) rfl ?_
  refine a_rd (i := 11) hok rfl (by kernel_rfl) rfl (r_cload Try.isAgg3 rfl (j := 4) rfl rfl) rfl ?_
  refine pull fun t1 h_t1 => ?_
  refine a_next hok 4 [] (by kernel_rfl) ?_ trivial
  refine a_st (i := 4) hok rfl rfl (s_call (ψ := fun (x2 : (Value × List Nat)) => pv x2.1) (args := [.tmp 9, .tmp 10, .tmp 11]) Try.call19 rfl (lift_LastRanks_ok h_t1) ⟨arg rfl, arg rfl, arg rfl, trivial⟩ (fun _ _ _ _ h => h)) (by intro _ h; cases h; rfl) (fun _ => ⟨⟨⟨rfl, rfl⟩, trivial⟩, ⟨trivial, ⟨⟨⟨rfl, rfl⟩, trivial⟩, ⟨⟨⟨rfl, rfl⟩, trivial⟩, ⟨⟨⟨rfl, rfl⟩, trivial⟩, ⟨trivial, ⟨trivial, ⟨trivial, ⟨trivial, ⟨trivial, trivial⟩⟩⟩⟩⟩⟩⟩⟩⟩⟩) (fun x2 => ?_)
  refine pull fun t3 h_t3 => ?_
  refine a_next hok 9 [] (by kernel_rfl) ?_ trivial
  refine a_st (i := 9) hok rfl rfl (s_call (ψ := fun (x4 : (Value × List Nat)) => pv x4.1) (args := [.tmp 14, .tmp 15, .tmp 16]) Try.call19 rfl (lift_LastRanks_ok h_t3) ⟨arg rfl, arg rfl, arg rfl, trivial⟩ (fun _ _ _ _ h => h)) (by intro _ h; cases h; rfl) (fun _ => ⟨⟨⟨rfl, rfl⟩, trivial⟩, ⟨trivial, ⟨trivial, ⟨trivial, ⟨trivial, ⟨trivial, ⟨⟨⟨rfl, rfl⟩, trivial⟩, ⟨⟨⟨rfl, rfl⟩, trivial⟩, ⟨⟨⟨rfl, rfl⟩, trivial⟩, ⟨trivial, trivial⟩⟩⟩⟩⟩⟩⟩⟩⟩⟩) (fun x4 => ?_)
  refine pull fun t5 h_t5 => ?_
  refine a_next hok 12 [] (by kernel_rfl) ?_ trivial
  refine a_st (i := 12) hok rfl rfl (s_callB (ψ := fun (_ : Unit) => bv t5) (args := [.tmp 12, .tmp 17, .tmp 19]) Try.call10 rfl (lift_SetLess_ok h_t5) ⟨argO rfl (j := 5) rfl, argO rfl (j := 6) rfl, argB rfl, trivial⟩ (fun _ _ _ _ _ h => h)) (by intro _ h; cases h; rfl) (fun _ => ⟨trivial, ⟨trivial, ⟨⟨⟨rfl, rfl⟩, trivial⟩, ⟨⟨⟨rfl, rfl⟩, trivial⟩, ⟨⟨⟨rfl, rfl⟩, trivial⟩, ⟨trivial, ⟨⟨⟨rfl, rfl⟩, trivial⟩, ⟨⟨⟨rfl, rfl⟩, trivial⟩, ⟨⟨⟨rfl, rfl⟩, trivial⟩, ⟨trivial, trivial⟩⟩⟩⟩⟩⟩⟩⟩⟩⟩) (fun _ => ?_)
  refine a_next hok 13 [] (by kernel_rfl) ?_ trivial
  refine a_st (i := 13) hok rfl rfl (St.ofRd (r_assign rfl)) (by intro _ h; cases h; rfl) (fun _ => ⟨trivial, ⟨trivial, ⟨trivial, ⟨trivial, ⟨trivial, ⟨trivial, ⟨trivial, ⟨trivial, ⟨trivial, ⟨trivial, trivial⟩⟩⟩⟩⟩⟩⟩⟩⟩⟩) (fun _ => ?_)
  refine a_fin hok (by kernel_rfl) ?_
  refine b_of (nrm [oc b_1 [slv rT_api_Premise p_1.Premises, slv rT_api_Rule p_1.Rules, slv rT_api_Promotion p_1.Promotions], oc b_2 [slv rT_api_Argument p_2], oc b_3 [iv .i64 p_3], oc b_4 [iv .i64 p_4], oc b_5 [iv .i64 p_5.Link, iv .i64 p_5.Lift], oa (rI .i64) x2.1 x2.2 t1, oa (rI .i64) x4.1 x4.2 t3] rfl) ?_
  refine n_then (ref_ret ?_)
  exact fin1 (.inl rfl) () [0, 1, 2, 3, 4] rfl ⟨rfl, rfl, rfl, rfl, rfl, trivial⟩ rfl (rv_tmp rfl)

/-! deliberation/lift.Less$2 -/
noncomputable def lift_Less_2_m (p_1 : T_api_Base) (p_2 : (List T_api_Argument)) (p_3 : Int) (p_4 : Int) : Option (Bool) :=
  Option.bind (lift_LastRanks_m p_1 p_2 p_3) fun t1 =>
  bif (t1.length : Int) == 0 then
    Option.bind (lift_LastRanks_m p_1 p_2 p_4) fun t3 =>
    letM ((t3.length : Int) == 0) fun t5 =>
    some t5
  else
    some false

theorem lift_Less_2_ok {p_1 : T_api_Base} {p_2 : (List T_api_Argument)} {p_3 : Int} {p_4 : Int} {b_1 : Nat} {b_2 : Nat} {b_3 : Nat} {b_4 : Nat} {r : Bool} (hm : lift_Less_2_m p_1 p_2 p_3 p_4 = some r) :
    FnOk prog 43 [pv (.func (.func 19) #[] #[]), pv (ptr b_1 0), pv (ptr b_2 0), pv (ptr b_3 0), pv (ptr b_4 0)] [oc b_1 [slv rT_api_Premise p_1.Premises, slv rT_api_Rule p_1.Rules, slv rT_api_Promotion p_1.Promotions], oc b_2 [slv rT_api_Argument p_2], oc b_3 [iv .i64 p_3], oc b_4 [iv .i64 p_4]] (fun (x : Unit) => [bv r]) (fun (x : Unit) => [oc b_1 [slv rT_api_Premise p_1.Premises, slv rT_api_Rule p_1.Rules, slv rT_api_Promotion p_1.Promotions], oc b_2 [slv rT_api_Argument p_2], oc b_3 [iv .i64 p_3], oc b_4 [iv .i64 p_4]]) := by
  refine fn_ok (fn := Try.f43) (N := 23) (res := fun r x => [bv r]) (Ω1 := fun r x => [oc b_1 [slv rT_api_Premise p_1.Premises, slv rT_api_Rule p_1.Rules, slv rT_api_Promotion p_1.Promotions], oc b_2 [slv rT_api_Argument p_2], oc b_3 [iv .i64 p_3], oc b_4 [iv .i64 p_4]]) Try.func43 rfl rfl hm rfl (fun E hM => ?_)
  unfold lift_Less_2_m
  refine ref_seq (ref_region ?_)
  refine as1 rfl rfl ?_
  refine l_nil (n_then (ref_seq (ref_region ?_)))
  refine mv1 rfl rfl ?_
  refine s_rd (r_cloadS Try.isAgg34 Try.sizeOf34 rfl (j := 0) rfl rfl rfl) rfl ?_
  refine s_rd (r_cload Try.isAgg35 rfl (j := 1) rfl rfl) rfl ?_
  refine s_rd (r_cload Try.isAgg3 rfl (j := 2) rfl rfl) rfl ?_
  refine pull fun t1 h_t1 => ?_
  refine s_st (s_call (ψ := fun (x2 : (Value × List Nat)) => pv x2.1) (args := [.tmp 8, .tmp 9, .tmp 10]) Try.call19 rfl (lift_LastRanks_ok h_t1) ⟨arg rfl, arg rfl, arg rfl, trivial⟩ (fun _ _ _ _ h => h)) rfl (fun x2 => ?_)
  refine s_rd (r_olen Try.underlying22 rfl (j := 4) rfl) rfl ?_
  refine s_rd (r_eql rfl rfl) rfl ?_
  refine mv1 rfl rfl ?_
  refine b_split (t := 14) rfl (fun _ => ?_) (fun _ => ?_)
  · refine s_on rfl rfl rfl ?_
    refine mv1 rfl rfl ?_
    refine s_on rfl rfl rfl ?_
    refine s_rd (r_cloadS Try.isAgg34 Try.sizeOf34 rfl (j := 0) rfl rfl rfl) rfl ?_
    refine s_on rfl rfl rfl ?_
    refine s_rd (r_cload Try.isAgg35 rfl (j := 1) rfl rfl) rfl ?_
    refine s_on rfl rfl rfl ?_
    refine s_rd (r_cload Try.isAgg3 rfl (j := 3) rfl rfl) rfl ?_
    refine s_on rfl rfl rfl ?_
    refine pull fun t3 h_t3 => ?_
    refine s_st (s_call (ψ := fun (x4 : (Value × List Nat)) => pv x4.1) (args := [.tmp 16, .tmp 17, .tmp 18]) Try.call19 rfl (lift_LastRanks_ok h_t3) ⟨arg rfl, arg rfl, arg rfl, trivial⟩ (fun _ _ _ _ h => h)) rfl (fun x4 => ?_)
    refine s_on rfl rfl rfl ?_
    refine s_rd (r_olen Try.underlying22 rfl (j := 5) rfl) rfl ?_
    refine s_on rfl rfl rfl ?_
    refine s_rd (r_eql rfl rfl) rfl ?_
    refine s_rd (r_pickT rfl rfl) rfl ?_
    refine as1 rfl rfl ?_
    refine b_let (f := bv) (t := 6) rfl fun t5 => ?_
    refine l_nil (n_then (ref_ret ?_))
    exact fin1 (.inl rfl) () [0, 1, 2, 3] rfl ⟨rfl, rfl, rfl, rfl, trivial⟩ rfl (rv_tmp rfl)
  refine s_off rfl rfl rfl rfl rfl ?_
  refine s_off rfl rfl rfl rfl rfl ?_
  refine s_off rfl rfl rfl rfl rfl ?_
  refine s_off rfl rfl rfl rfl rfl ?_
  refine s_off rfl rfl rfl rfl rfl ?_
  refine s_off rfl rfl rfl rfl rfl ?_
  refine s_off rfl rfl rfl rfl rfl ?_
  refine s_rd (r_pickF rfl rfl) rfl ?_
  refine as1 rfl rfl ?_
  refine l_nil (n_then (ref_ret ?_))
  exact fin1 (.inl rfl) () [0, 1, 2, 3] rfl ⟨rfl, rfl, rfl, rfl, trivial⟩ rfl (rv_tmp rfl)

/-! deliberation/lift.PremiseRanks -/
noncomputable def lift_PremiseRanks_l1 (b_0 : T_api_Base) (t2 : List Int) (s28 : Int × (List Int)) : Option (Sum ((List Int)) (Int × (List Int))) :=
  bif decide (s28.1 < (t2.length : Int)) then
    Option.bind (idxM t2 s28.1) fun k31 =>
    Option.bind (idxM b_0.Premises k31) fun t32 =>
    bif t32.Kind == 2 then
      Option.bind (appM 8 s28.2 [t32.Rank]) fun out35 =>
      some (Sum.inr (iadd .i64 s28.1 1, out35))
    else
      bif t32.Kind == 3 then
        Option.bind (appM 8 s28.2 [(-1)]) fun out38 =>
        some (Sum.inr (iadd .i64 s28.1 1, out38))
      else
        some (Sum.inr (iadd .i64 s28.1 1, s28.2))
  else
    some (Sum.inl s28.2)

noncomputable def lift_PremiseRanks_m (b_0 : T_api_Base) (l_1 : (List T_api_Argument)) (i_2 : Int) : Option (List Int) :=
  Option.bind (argument_Premises_m l_1 i_2) fun t2 =>
  Option.bind (loopC (lift_PremiseRanks_l1 b_0 t2) (0, [])) fun q40 : (List Int) =>
  some q40

theorem lift_PremiseRanks_ok {b_0 : T_api_Base} {l_1 : (List T_api_Argument)} {i_2 : Int} {r : List Int} (hm : lift_PremiseRanks_m b_0 l_1 i_2 = some r) :
    FnOk prog 15 [ag [slv rT_api_Premise b_0.Premises, slv rT_api_Rule b_0.Rules, slv rT_api_Promotion b_0.Promotions], slv rT_api_Argument l_1, iv .i64 i_2] [] (fun (x : (Value × List Nat)) => [pv x.1]) (fun (x : (Value × List Nat)) => [oa (rI .i64) x.1 x.2 r]) := by
  refine fn_ok (X := (Value × List Nat)) (fn := Try.f15) (N := 40) (res := fun r x => [pv x.1]) (Ω1 := fun r x => [oa (rI .i64) x.1 x.2 r]) Try.func15 rfl rfl hm rfl (fun E hM => ?_)
  unfold lift_PremiseRanks_m
  refine ref_seq (ref_region ?_)
  refine s_st (s_box (part_agO (ψs := [slv rT_api_Premise b_0.Premises, slv rT_api_Rule b_0.Rules, slv rT_api_Promotion b_0.Promotions]) rfl ⟨.inl slv_at, .inl slv_at, .inl slv_at, trivial⟩)) rfl (fun b1 => ?_)
  refine as1 rfl rfl ?_
  refine l_nil (n_then (ref_seq (ref_region ?_)))
  refine as1 rfl rfl ?_
  refine l_nil (n_then (ref_seq (ref_seq (ref_region ?_))))
  refine mv1 rfl rfl ?_
  refine mv1 rfl rfl ?_
  refine pull fun t2 h_t2 => ?_
  refine s_st (s_call (ψ := fun (x3 : (Value × List Nat)) => pv x3.1) (args := [.tmp 11, .tmp 12]) Try.call33 rfl (argument_Premises_ok h_t2) ⟨arg rfl, arg rfl, trivial⟩ (fun _ _ _ _ h => h)) rfl (fun x3 => ?_)
  refine s_rd (r_olen Try.underlying22 rfl (j := 1) rfl) rfl ?_
  refine mv1 rfl rfl ?_
  refine l_nil (n_then ?_)
  refine b_of (own_nil (rI .i64)) ?_
  refine ref_loopB (f := (lift_PremiseRanks_l1 b_0 t2)) (Γl := (fun (s28 : Int × (List Int)) (x29 : (Value × List Nat)) => [(3, pv (ptr b1 0)), (7, pv x29.1), (13, pv x3.1), (14, iv .i64 (t2.length : Int)), (15, iv .i64 s28.1)])) (Ωl := (fun (s28 : Int × (List Int)) (x29 : (Value × List Nat)) => [oc b1 [slv rT_api_Premise b_0.Premises, slv rT_api_Rule b_0.Rules, slv rT_api_Promotion b_0.Promotions], oa (rI .i64) x29.1 x29.2 s28.2, oa (rI .i64) x3.1 x3.2 t2])) (Γb := (fun (q40 : (List Int)) (y41 : (Value × List Nat)) => [(7, pv y41.1)])) (Ωb := (fun (q40 : (List Int)) (y41 : (Value × List Nat)) => [oa (rI .i64) y41.1 y41.2 q40])) (0, []) ((.slice none 0 0), []) (weak [0, 2, 1] ⟨rfl, rfl, rfl, rfl, rfl, trivial⟩ ⟨rfl, rfl, rfl, trivial⟩) (fun s28 x29 => ?_) (fun q40 y41 => ?_)
  · unfold lift_PremiseRanks_l1
    refine ref_seq (ref_region ?_)
    refine s_rd (r_lss rfl rfl) rfl ?_
    refine l_nil (n_then (ref_seq ?_))
    refine ref_cond rfl (fun hb30 => ?_) (fun hb30 => ?_)
    · refine ref_skip (n_then (ref_seq (ref_block (ref_seq (ref_region ?_)))))
      refine pull fun k31 h_k31 => ?_
      refine s_rd (r_oindex h_k31 Try.underlying22 el_3 rfl (j := 2) rfl rfl) rfl ?_
      refine s_rd (r_oload h_k31 el_3 rfl (j := 2) rfl) rfl ?_
      refine as1 rfl rfl ?_
      refine l_nil (n_then (ref_seq (ref_region ?_)))
      refine s_rd (r_faddr (fo := 0) Try.underlying34 rfl rfl Try.sizeOf30 rfl) rfl ?_
      refine s_rd (r_cload Try.isAgg30 rfl (j := 0) rfl rfl) rfl ?_
      refine mv1 rfl rfl ?_
      refine pull fun t32 h_t32 => ?_
      refine s_rd (r_index h_t32 Try.underlying30 el_64 rfl rfl) rfl ?_
      refine s_rd (r_load el_64 rfl) rfl ?_
      refine s_st (s_alloc zt_64) rfl (fun b33 => ?_)
      refine s_st0 (s_cstore (out := [bv t32.Literal.Neg, sv t32.Literal.Name, iv .i64 t32.Kind, iv .i64 t32.Rank, sv t32.Source]) Try.sizeOf64 rfl (j := 3) rfl (part_agO (ψs := [bv t32.Literal.Neg, sv t32.Literal.Name, iv .i64 t32.Kind, iv .i64 t32.Rank, sv t32.Source]) rfl ⟨.inl bv_at, .inl sv_at, .inl iv_at, .inl iv_at, .inl sv_at, trivial⟩) rfl rfl rfl) (fun _ => ?_)
      refine l_nil ?_
      refine b_of (nrm [oc b1 [slv rT_api_Premise b_0.Premises, slv rT_api_Rule b_0.Rules, slv rT_api_Promotion b_0.Promotions], oa (rI .i64) x29.1 x29.2 s28.2, oa (rI .i64) x3.1 x3.2 t2, oc b33 [bv t32.Literal.Neg, sv t32.Literal.Name, iv .i64 t32.Kind, iv .i64 t32.Rank, sv t32.Source]] rfl) ?_
      refine n_then (ref_seq (ref_region ?_))
      refine s_rd (r_faddr (fo := 2) Try.underlying64 rfl rfl Try.sizeOf3 rfl) rfl ?_
      refine s_rd (r_cload Try.isAgg3 rfl (j := 3) rfl rfl) rfl ?_
      refine l_nil (n_then (ref_block (ref_seq (ref_region ?_))))
      refine s_rd (r_eql rfl rfl) rfl ?_
      refine as1 rfl rfl ?_
      refine l_nil (n_then ?_)
      refine ref_cond rfl (fun hb34 => ?_) (fun hb34 => ?_)
      · refine ref_region ?_
        refine mv1 rfl rfl ?_
        refine s_rd (r_faddr (fo := 3) Try.underlying64 rfl rfl Try.sizeOf3 rfl) rfl ?_
        refine s_rd (r_cload Try.isAgg3 rfl (j := 3) rfl rfl) rfl ?_
        refine s_st (s_bslice (xs := [.tmp 30]) (ds := [t32.Rank]) Try.underlying22 el_3 rfl (Nat.le_of_ble_eq_true rfl) ⟨(part_at rfl iv_at), trivial⟩) rfl (fun _ => ?_)
        refine pull fun out35 h_out35 => ?_
        refine s_st (s_append h_out35 Try.underlying22 el_3 rfl (j := 1) rfl rfl) rfl (fun o36 => ?_)
        refine as1 rfl rfl ?_
        refine l_nil (n_block (n_block (n_then (ref_region ?_))))
        refine s_rd (r_add rfl rfl) rfl ?_
        refine mv1 rfl rfl ?_
        refine l_nil ?_
        exact goB o36 (weak [0, 1, 2] ⟨rfl, rfl, rfl, rfl, rfl, trivial⟩ ⟨rfl, rfl, rfl, trivial⟩)
      refine ref_seq (ref_region ?_)
      refine s_rd (r_eql rfl rfl) rfl ?_
      refine as1 rfl rfl ?_
      refine l_nil (n_then ?_)
      refine ref_cond rfl (fun hb37 => ?_) (fun hb37 => ?_)
      · refine ref_region ?_
        refine mv1 rfl rfl ?_
        refine s_st (s_bslice (xs := [.const (.int .i64 (-1))]) (ds := [(-1)]) Try.underlying22 el_3 rfl (Nat.le_of_ble_eq_true rfl) ⟨(part_at rfl iv_at), trivial⟩) rfl (fun _ => ?_)
        refine pull fun out38 h_out38 => ?_
        refine s_st (s_append h_out38 Try.underlying22 el_3 rfl (j := 1) rfl rfl) rfl (fun o39 => ?_)
        refine as1 rfl rfl ?_
        refine l_nil (n_block (n_block (n_then (ref_region ?_))))
        refine s_rd (r_add rfl rfl) rfl ?_
        refine mv1 rfl rfl ?_
        refine l_nil ?_
        exact goB o39 (weak [0, 1, 2] ⟨rfl, rfl, rfl, rfl, rfl, trivial⟩ ⟨rfl, rfl, rfl, trivial⟩)
      refine ref_skip (n_block (n_block (n_then (ref_region ?_))))
      refine s_rd (r_add rfl rfl) rfl ?_
      refine mv1 rfl rfl ?_
      refine l_nil ?_
      exact goB x29 (weak [0, 1, 2] ⟨rfl, rfl, rfl, rfl, rfl, trivial⟩ ⟨rfl, rfl, rfl, trivial⟩)
    refine ref_exit (x_then ?_)
    exact brkB x29 (weak [1] ⟨rfl, trivial⟩ ⟨rfl, trivial⟩)
  refine n_then (ref_seq (ref_region ?_))
  refine mv1 rfl rfl ?_
  refine as1 rfl rfl ?_
  refine l_nil (n_then (ref_ret ?_))
  exact fin1 (.inl rfl) y41 [0] rfl ⟨rfl, trivial⟩ rfl (rv_tmp rfl)

/-! deliberation/lift.Less$1 -/
noncomputable def lift_Less_1_1_m (p_1 : T_api_Base) (p_2 : (List T_api_Argument)) (p_3 : Int) (p_4 : Int) (p_5 : T_api_Ordering) : Option (Bool) :=
  Option.bind (lift_PremiseRanks_m p_1 p_2 p_3) fun t1 =>
  Option.bind (lift_PremiseRanks_m p_1 p_2 p_4) fun t3 =>
  Option.bind (lift_SetLess_m t1 t3 p_5.Lift) fun t5 =>
  some t5

theorem lift_Less_1_1_ok {p_1 : T_api_Base} {p_2 : (List T_api_Argument)} {p_3 : Int} {p_4 : Int} {p_5 : T_api_Ordering} {b_1 : Nat} {b_2 : Nat} {b_3 : Nat} {b_4 : Nat} {b_5 : Nat} {r : Bool} (hm : lift_Less_1_1_m p_1 p_2 p_3 p_4 p_5 = some r) :
    FnOk prog 42 [pv (.func (.func 15) #[] #[]), pv (ptr b_1 0), pv (ptr b_2 0), pv (ptr b_3 0), pv (ptr b_4 0), pv (ptr b_5 0)] [oc b_1 [slv rT_api_Premise p_1.Premises, slv rT_api_Rule p_1.Rules, slv rT_api_Promotion p_1.Promotions], oc b_2 [slv rT_api_Argument p_2], oc b_3 [iv .i64 p_3], oc b_4 [iv .i64 p_4], oc b_5 [iv .i64 p_5.Link, iv .i64 p_5.Lift]] (fun (x : Unit) => [bv r]) (fun (x : Unit) => [oc b_1 [slv rT_api_Premise p_1.Premises, slv rT_api_Rule p_1.Rules, slv rT_api_Promotion p_1.Promotions], oc b_2 [slv rT_api_Argument p_2], oc b_3 [iv .i64 p_3], oc b_4 [iv .i64 p_4], oc b_5 [iv .i64 p_5.Link, iv .i64 p_5.Lift]]) := by
  refine fn_ok (fn := Try.f42) (N := 21) (res := fun r x => [bv r]) (Ω1 := fun r x => [oc b_1 [slv rT_api_Premise p_1.Premises, slv rT_api_Rule p_1.Rules, slv rT_api_Promotion p_1.Promotions], oc b_2 [slv rT_api_Argument p_2], oc b_3 [iv .i64 p_3], oc b_4 [iv .i64 p_4], oc b_5 [iv .i64 p_5.Link, iv .i64 p_5.Lift]]) Try.func42 rfl rfl hm rfl (fun E hM => ?_)
  unfold lift_Less_1_1_m
  refine ref_seq (ref_region ?_)
  refine as1 rfl rfl ?_
  refine l_nil (n_then (ref_seq ?_))
  refine ref_draw [0, 1, 2, 3, 5, 6, 7, 8, 10, 11] rfl (by kernel_rfl) (fun hok => ?_)
  refine a_rd (i := 0) hok rfl (by kernel_rfl) rfl (r_move rfl) rfl ?_
  refine a_rd (i := 1) hok rfl (by kernel_rfl) rfl (r_cloadS Try.isAgg34 Try.sizeOf34 rfl (j := 0) rfl rfl rfl) rfl ?_
  refine a_rd (i := 2) hok rfl (by kernel_rfl) rfl (r_cload Try.isAgg35 rfl (j := 1) rfl rfl) rfl ?_
  refine a_rd (i := 3) hok rfl (by kernel_rfl) rfl (r_cload Try.isAgg3 rfl (j := 2) rfl rfl) rfl ?_
  refine a_rd (i := 5) hok rfl (by kernel_rfl) rfl (r_move rfl) rfl ?_
  refine a_rd (i := 6) hok rfl (by kernel_rfl) rfl (r_cloadS Try.isAgg34 Try.sizeOf34 rfl (j := 0) rfl rfl rfl) rfl ?_
  refine a_rd (i := 7) hok rfl (by kernel_rfl) rfl (r_cload Try.isAgg35 rfl (j := 1) rfl rfl) rfl ?_
  refine a_rd (i := 8) hok rfl (by kernel_rfl) rfl (r_cload Try.isAgg3 rfl (j := 3) rfl rfl) rfl ?_
  refine a_rd (i := 10) hok rfl (by kernel_rfl) rfl (r_faddr (fo := 1) Try.underlying43 rfl rfl Try.sizeOf3 rfl) rfl ?_
  refine a_rd (i := 11) hok rfl (by kernel_rfl) rfl (r_cload Try.isAgg3 rfl (j := 4) rfl rfl) rfl ?_
  refine pull fun t1 h_t1 => ?_
  refine a_next hok 4 [] (by kernel_rfl) ?_ trivial
  refine a_st (i := 4) hok rfl rfl (s_call (ψ := fun (x2 : (Value × List Nat)) => pv x2.1) (args := [.tmp 9, .tmp 10, .tmp 11]) Try.call15 rfl (lift_PremiseRanks_ok h_t1) ⟨arg rfl, arg rfl, arg rfl, trivial⟩ (fun _ _ _ _ h => h)) (by intro _ h; cases h; rfl) (fun _ => ⟨⟨⟨rfl, rfl⟩, trivial⟩, ⟨trivial, ⟨⟨⟨rfl, rfl⟩, trivial⟩, ⟨⟨⟨rfl, rfl⟩, trivial⟩, ⟨⟨⟨rfl, rfl⟩, trivial⟩, ⟨trivial, ⟨trivial, ⟨trivial, ⟨trivial, ⟨trivial, trivial⟩⟩⟩⟩⟩⟩⟩⟩⟩⟩) (fun x2 => ?_)
  refine pull fun t3 h_t3 => ?_
  refine a_next hok 9 [] (by kernel_rfl) ?_ trivial
  refine a_st (i := 9) hok rfl rfl (s_call (ψ := fun (x4 : (Value × List Nat)) => pv x4.1) (args := [.tmp 14, .tmp 15, .tmp 16]) Try.call15 rfl (lift_PremiseRanks_ok h_t3) ⟨arg rfl, arg rfl, arg rfl, trivial⟩ (fun _ _ _ _ h => h)) (by intro _ h; cases h; rfl) (fun _ => ⟨⟨⟨rfl, rfl⟩, trivial⟩, ⟨trivial, ⟨trivial, ⟨trivial, ⟨trivial, ⟨trivial, ⟨⟨⟨rfl, rfl⟩, trivial⟩, ⟨⟨⟨rfl, rfl⟩, trivial⟩, ⟨⟨⟨rfl, rfl⟩, trivial⟩, ⟨trivial, trivial⟩⟩⟩⟩⟩⟩⟩⟩⟩⟩) (fun x4 => ?_)
  refine pull fun t5 h_t5 => ?_
  refine a_next hok 12 [] (by kernel_rfl) ?_ trivial
  refine a_st (i := 12) hok rfl rfl (s_callB (ψ := fun (_ : Unit) => bv t5) (args := [.tmp 12, .tmp 17, .tmp 19]) Try.call10 rfl (lift_SetLess_ok h_t5) ⟨argO rfl (j := 5) rfl, argO rfl (j := 6) rfl, argB rfl, trivial⟩ (fun _ _ _ _ _ h => h)) (by intro _ h; cases h; rfl) (fun _ => ⟨trivial, ⟨trivial, ⟨⟨⟨rfl, rfl⟩, trivial⟩, ⟨⟨⟨rfl, rfl⟩, trivial⟩, ⟨⟨⟨rfl, rfl⟩, trivial⟩, ⟨trivial, ⟨⟨⟨rfl, rfl⟩, trivial⟩, ⟨⟨⟨rfl, rfl⟩, trivial⟩, ⟨⟨⟨rfl, rfl⟩, trivial⟩, ⟨trivial, trivial⟩⟩⟩⟩⟩⟩⟩⟩⟩⟩) (fun _ => ?_)
  refine a_next hok 13 [] (by kernel_rfl) ?_ trivial
  refine a_st (i := 13) hok rfl rfl (St.ofRd (r_assign rfl)) (by intro _ h; cases h; rfl) (fun _ => ⟨trivial, ⟨trivial, ⟨trivial, ⟨trivial, ⟨trivial, ⟨trivial, ⟨trivial, ⟨trivial, ⟨trivial, ⟨trivial, trivial⟩⟩⟩⟩⟩⟩⟩⟩⟩⟩) (fun _ => ?_)
  refine a_fin hok (by kernel_rfl) ?_
  refine b_of (nrm [oc b_1 [slv rT_api_Premise p_1.Premises, slv rT_api_Rule p_1.Rules, slv rT_api_Promotion p_1.Promotions], oc b_2 [slv rT_api_Argument p_2], oc b_3 [iv .i64 p_3], oc b_4 [iv .i64 p_4], oc b_5 [iv .i64 p_5.Link, iv .i64 p_5.Lift], oa (rI .i64) x2.1 x2.2 t1, oa (rI .i64) x4.1 x4.2 t3] rfl) ?_
  refine n_then (ref_ret ?_)
  exact fin1 (.inl rfl) () [0, 1, 2, 3, 4] rfl ⟨rfl, rfl, rfl, rfl, rfl, trivial⟩ rfl (rv_tmp rfl)

/-! deliberation/lift.Less$3 -/
noncomputable def lift_Less_3_m (e_1 : T_api_Base) (e_2 : (List T_api_Argument)) (e_3 : Int) (e_4 : Int) (e_5 : T_api_Ordering) : Option (Bool) :=
  Option.bind (lift_Less_1_m e_1 e_2 e_3 e_4 e_5) fun t1 =>
  bif t1 then
    some true
  else
    Option.bind (lift_Less_2_m e_1 e_2 e_3 e_4) fun t2 =>
    bif t2 then
      Option.bind (lift_Less_1_1_m e_1 e_2 e_3 e_4 e_5) fun t3 =>
      some t3
    else
      some false

theorem lift_Less_3_ok {e_1 : T_api_Base} {e_2 : (List T_api_Argument)} {e_3 : Int} {e_4 : Int} {e_5 : T_api_Ordering} {b_0 : Nat} {be_1 : Nat} {be_2 : Nat} {be_3 : Nat} {be_4 : Nat} {be_5 : Nat} {b_1 : Nat} {r : Bool} (hm : lift_Less_3_m e_1 e_2 e_3 e_4 e_5 = some r) :
    FnOk prog 44 [pv (ptr b_0 0), pv (ptr b_1 0)] [oc b_0 [pv (.func (.func 42) #[] #[(ptr be_1 0), (ptr be_2 0), (ptr be_3 0), (ptr be_4 0), (ptr be_5 0)])], oc be_1 [slv rT_api_Premise e_1.Premises, slv rT_api_Rule e_1.Rules, slv rT_api_Promotion e_1.Promotions], oc be_2 [slv rT_api_Argument e_2], oc be_3 [iv .i64 e_3], oc be_4 [iv .i64 e_4], oc be_5 [iv .i64 e_5.Link, iv .i64 e_5.Lift], oc b_1 [pv (.func (.func 43) #[] #[(ptr be_1 0), (ptr be_2 0), (ptr be_3 0), (ptr be_4 0)])]] (fun (x : Unit) => [bv r]) (fun (x : Unit) => [oc b_0 [pv (.func (.func 42) #[] #[(ptr be_1 0), (ptr be_2 0), (ptr be_3 0), (ptr be_4 0), (ptr be_5 0)])], oc be_1 [slv rT_api_Premise e_1.Premises, slv rT_api_Rule e_1.Rules, slv rT_api_Promotion e_1.Promotions], oc be_2 [slv rT_api_Argument e_2], oc be_3 [iv .i64 e_3], oc be_4 [iv .i64 e_4], oc be_5 [iv .i64 e_5.Link, iv .i64 e_5.Lift], oc b_1 [pv (.func (.func 43) #[] #[(ptr be_1 0), (ptr be_2 0), (ptr be_3 0), (ptr be_4 0)])]]) := by
  refine fn_ok (fn := Try.f44) (N := 13) (res := fun r x => [bv r]) (Ω1 := fun r x => [oc b_0 [pv (.func (.func 42) #[] #[(ptr be_1 0), (ptr be_2 0), (ptr be_3 0), (ptr be_4 0), (ptr be_5 0)])], oc be_1 [slv rT_api_Premise e_1.Premises, slv rT_api_Rule e_1.Rules, slv rT_api_Promotion e_1.Promotions], oc be_2 [slv rT_api_Argument e_2], oc be_3 [iv .i64 e_3], oc be_4 [iv .i64 e_4], oc be_5 [iv .i64 e_5.Link, iv .i64 e_5.Lift], oc b_1 [pv (.func (.func 43) #[] #[(ptr be_1 0), (ptr be_2 0), (ptr be_3 0), (ptr be_4 0)])]]) Try.func44 rfl rfl hm rfl (fun E hM => ?_)
  unfold lift_Less_3_m
  refine ref_seq (ref_region ?_)
  refine as1 rfl rfl ?_
  refine l_nil (n_then (ref_seq (ref_region ?_)))
  refine s_rd (r_cload Try.isAgg73 rfl (j := 0) rfl rfl) rfl ?_
  refine pull fun t1 h_t1 => ?_
  refine s_st (s_callC [1, 2, 3, 4, 5] [true, true, true, true, true] (fun (_ : Unit) => [oc be_1 [slv rT_api_Premise e_1.Premises, slv rT_api_Rule e_1.Rules, slv rT_api_Promotion e_1.Promotions], oc be_2 [slv rT_api_Argument e_2], oc be_3 [iv .i64 e_3], oc be_4 [iv .i64 e_4], oc be_5 [iv .i64 e_5.Link, iv .i64 e_5.Lift]]) (fun (_ : Unit) => []) (fun (_ : Unit) => bv t1) (args := [.func 19]) (caps := [(ptr be_1 0), (ptr be_2 0), (ptr be_3 0), (ptr be_4 0), (ptr be_5 0)]) Try.call42 rfl (lift_Less_1_ok h_t1) ⟨rfl, rfl, ⟨rfl, rfl, ⟨rfl, rfl, ⟨rfl, rfl, ⟨rfl, rfl, trivial⟩⟩⟩⟩⟩ (fun _ => rfl) (fun _ => trivial) (fun _ => rfl) ⟨arg rfl, arg rfl, arg rfl, arg rfl, arg rfl, arg rfl, trivial⟩ (fun _ _ _ _ h => h)) rfl (fun _ => ?_)
  refine mv1 rfl rfl ?_
  refine b_split (t := 5) rfl (fun _ => ?_) (fun _ => ?_)
  · refine s_off rfl rfl rfl rfl rfl ?_
    refine s_off rfl rfl rfl rfl rfl ?_
    refine s_off rfl rfl rfl rfl rfl ?_
    refine s_offU rfl rfl rfl ?_
    refine s_offU rfl rfl rfl ?_
    refine s_off rfl rfl rfl rfl rfl ?_
    refine s_rd (r_pickT rfl rfl) rfl ?_
    refine as1 rfl rfl ?_
    refine l_nil ?_
    refine b_of (nrm [oc b_0 [pv (.func (.func 42) #[] #[(ptr be_1 0), (ptr be_2 0), (ptr be_3 0), (ptr be_4 0), (ptr be_5 0)])], oc be_1 [slv rT_api_Premise e_1.Premises, slv rT_api_Rule e_1.Rules, slv rT_api_Promotion e_1.Promotions], oc be_2 [slv rT_api_Argument e_2], oc be_3 [iv .i64 e_3], oc be_4 [iv .i64 e_4], oc be_5 [iv .i64 e_5.Link, iv .i64 e_5.Lift], oc b_1 [pv (.func (.func 43) #[] #[(ptr be_1 0), (ptr be_2 0), (ptr be_3 0), (ptr be_4 0)])]] rfl) ?_
    refine n_then (ref_ret ?_)
    exact fin1 (.inl rfl) () [0, 1, 2, 3, 4, 5, 6] rfl ⟨rfl, rfl, rfl, rfl, rfl, rfl, rfl, trivial⟩ rfl (rv_tmp rfl)
  refine s_on rfl rfl rfl ?_
  refine s_rd (r_cload Try.isAgg73 rfl (j := 6) rfl rfl) rfl ?_
  refine s_on rfl rfl rfl ?_
  refine pull fun t2 h_t2 => ?_
  refine s_st (s_callC [1, 2, 3, 4] [true, true, true, true] (fun (_ : Unit) => [oc be_1 [slv rT_api_Premise e_1.Premises, slv rT_api_Rule e_1.Rules, slv rT_api_Promotion e_1.Promotions], oc be_2 [slv rT_api_Argument e_2], oc be_3 [iv .i64 e_3], oc be_4 [iv .i64 e_4]]) (fun (_ : Unit) => []) (fun (_ : Unit) => bv t2) (args := [.func 19]) (caps := [(ptr be_1 0), (ptr be_2 0), (ptr be_3 0), (ptr be_4 0)]) Try.call43 rfl (lift_Less_2_ok h_t2) ⟨rfl, rfl, ⟨rfl, rfl, ⟨rfl, rfl, ⟨rfl, rfl, trivial⟩⟩⟩⟩ (fun _ => rfl) (fun _ => trivial) (fun _ => rfl) ⟨arg rfl, arg rfl, arg rfl, arg rfl, arg rfl, trivial⟩ (fun _ _ _ _ h => h)) rfl (fun _ => ?_)
  refine s_on rfl rfl rfl ?_
  refine mv1 rfl rfl ?_
  refine b_split (t := 8) rfl (fun _ => ?_) (fun _ => ?_)
  · refine s_on rfl rfl rfl ?_
    refine s_rd (r_cload Try.isAgg73 rfl (j := 0) rfl rfl) rfl ?_
    refine s_on rfl rfl rfl ?_
    refine pull fun t3 h_t3 => ?_
    refine s_st (s_callC [1, 2, 3, 4, 5] [true, true, true, true, true] (fun (_ : Unit) => [oc be_1 [slv rT_api_Premise e_1.Premises, slv rT_api_Rule e_1.Rules, slv rT_api_Promotion e_1.Promotions], oc be_2 [slv rT_api_Argument e_2], oc be_3 [iv .i64 e_3], oc be_4 [iv .i64 e_4], oc be_5 [iv .i64 e_5.Link, iv .i64 e_5.Lift]]) (fun (_ : Unit) => []) (fun (_ : Unit) => bv t3) (args := [.func 15]) (caps := [(ptr be_1 0), (ptr be_2 0), (ptr be_3 0), (ptr be_4 0), (ptr be_5 0)]) Try.call42 rfl (lift_Less_1_1_ok h_t3) ⟨rfl, rfl, ⟨rfl, rfl, ⟨rfl, rfl, ⟨rfl, rfl, ⟨rfl, rfl, trivial⟩⟩⟩⟩⟩ (fun _ => rfl) (fun _ => trivial) (fun _ => rfl) ⟨arg rfl, arg rfl, arg rfl, arg rfl, arg rfl, arg rfl, trivial⟩ (fun _ _ _ _ h => h)) rfl (fun _ => ?_)
    refine s_on rfl rfl rfl ?_
    refine s_rd (r_pickT rfl rfl) rfl ?_
    refine s_rd (r_pickF rfl rfl) rfl ?_
    refine as1 rfl rfl ?_
    refine l_nil ?_
    refine b_of (nrm [oc b_0 [pv (.func (.func 42) #[] #[(ptr be_1 0), (ptr be_2 0), (ptr be_3 0), (ptr be_4 0), (ptr be_5 0)])], oc be_1 [slv rT_api_Premise e_1.Premises, slv rT_api_Rule e_1.Rules, slv rT_api_Promotion e_1.Promotions], oc be_2 [slv rT_api_Argument e_2], oc be_3 [iv .i64 e_3], oc be_4 [iv .i64 e_4], oc be_5 [iv .i64 e_5.Link, iv .i64 e_5.Lift], oc b_1 [pv (.func (.func 43) #[] #[(ptr be_1 0), (ptr be_2 0), (ptr be_3 0), (ptr be_4 0)])]] rfl) ?_
    refine n_then (ref_ret ?_)
    exact fin1 (.inl rfl) () [0, 1, 2, 3, 4, 5, 6] rfl ⟨rfl, rfl, rfl, rfl, rfl, rfl, rfl, trivial⟩ rfl (rv_tmp rfl)
  refine s_off rfl rfl rfl rfl rfl ?_
  refine s_off rfl rfl rfl rfl rfl ?_
  refine s_on rfl rfl rfl ?_
  refine s_rd (r_pickF rfl rfl) rfl ?_
  refine s_rd (r_pickF rfl rfl) rfl ?_
  refine as1 rfl rfl ?_
  refine l_nil ?_
  refine b_of (nrm [oc b_0 [pv (.func (.func 42) #[] #[(ptr be_1 0), (ptr be_2 0), (ptr be_3 0), (ptr be_4 0), (ptr be_5 0)])], oc be_1 [slv rT_api_Premise e_1.Premises, slv rT_api_Rule e_1.Rules, slv rT_api_Promotion e_1.Promotions], oc be_2 [slv rT_api_Argument e_2], oc be_3 [iv .i64 e_3], oc be_4 [iv .i64 e_4], oc be_5 [iv .i64 e_5.Link, iv .i64 e_5.Lift], oc b_1 [pv (.func (.func 43) #[] #[(ptr be_1 0), (ptr be_2 0), (ptr be_3 0), (ptr be_4 0)])]] rfl) ?_
  refine n_then (ref_ret ?_)
  exact fin1 (.inl rfl) () [0, 1, 2, 3, 4, 5, 6] rfl ⟨rfl, rfl, rfl, rfl, rfl, rfl, rfl, trivial⟩ rfl (rv_tmp rfl)

/-! deliberation/argument.Defeasible -/
noncomputable def argument_Defeasible_l1 (b_0 : T_api_Base) (l_1 : (List T_api_Argument)) (t2 : List Int) (s28 : Int × (List Int)) : Option (Sum ((List Int)) (Int × (List Int))) :=
  bif decide (s28.1 < (t2.length : Int)) then
    Option.bind (idxM t2 s28.1) fun k31 =>
    Option.bind (idxM l_1 k31) fun t32 =>
    joinM (fun j34 : Bool =>
        bif j34 then
          Option.bind (appM 8 s28.2 [t32.Rule]) fun out38 =>
          some (Sum.inr (iadd .i64 s28.1 1, out38))
        else
          some (Sum.inr (iadd .i64 s28.1 1, s28.2))) fun k36 =>
    bif decide (t32.Rule ≥ 0) then
      Option.bind (idxM b_0.Rules t32.Rule) fun t33 =>
      k36 (!t33.Strict)
    else
      k36 false
  else
    some (Sum.inl s28.2)

noncomputable def argument_Defeasible_m (b_0 : T_api_Base) (l_1 : (List T_api_Argument)) (i_2 : Int) : Option (List Int) :=
  Option.bind (argument_Subs_m l_1 i_2) fun t2 =>
  Option.bind (loopC (argument_Defeasible_l1 b_0 l_1 t2) (0, [])) fun q40 : (List Int) =>
  Option.bind (sortedM q40) fun t42 =>
  Option.bind (compactM t42) fun t43 =>
  some t43

theorem argument_Defeasible_ok {b_0 : T_api_Base} {l_1 : (List T_api_Argument)} {i_2 : Int} {r : List Int} (hm : argument_Defeasible_m b_0 l_1 i_2 = some r) :
    FnOk prog 36 [ag [slv rT_api_Premise b_0.Premises, slv rT_api_Rule b_0.Rules, slv rT_api_Promotion b_0.Promotions], slv rT_api_Argument l_1, iv .i64 i_2] [] (fun (x : (Value × List Nat)) => [pv x.1]) (fun (x : (Value × List Nat)) => [oa (rI .i64) x.1 x.2 r]) := by
  refine fn_ok (X := (Value × List Nat)) (fn := Try.f36) (N := 44) (res := fun r x => [pv x.1]) (Ω1 := fun r x => [oa (rI .i64) x.1 x.2 r]) Try.func36 rfl rfl hm rfl (fun E hM => ?_)
  unfold argument_Defeasible_m
  refine ref_seq (ref_region ?_)
  refine s_st (s_box (part_agO (ψs := [slv rT_api_Premise b_0.Premises, slv rT_api_Rule b_0.Rules, slv rT_api_Promotion b_0.Promotions]) rfl ⟨.inl slv_at, .inl slv_at, .inl slv_at, trivial⟩)) rfl (fun b1 => ?_)
  refine as1 rfl rfl ?_
  refine l_nil (n_then (ref_seq (ref_region ?_)))
  refine as1 rfl rfl ?_
  refine l_nil (n_then (ref_seq (ref_seq (ref_region ?_))))
  refine mv1 rfl rfl ?_
  refine mv1 rfl rfl ?_
  refine pull fun t2 h_t2 => ?_
  refine s_st (s_call (ψ := fun (x3 : (Value × List Nat)) => pv x3.1) (args := [.tmp 11, .tmp 12]) Try.call56 rfl (argument_Subs_ok h_t2) ⟨arg rfl, arg rfl, trivial⟩ (fun _ _ _ _ h => h)) rfl (fun x3 => ?_)
  refine s_rd (r_olen Try.underlying22 rfl (j := 1) rfl) rfl ?_
  refine mv1 rfl rfl ?_
  refine l_nil (n_then ?_)
  refine b_of (own_nil (rI .i64)) ?_
  refine ref_loopB (f := (argument_Defeasible_l1 b_0 l_1 t2)) (Γl := (fun (s28 : Int × (List Int)) (x29 : (Value × List Nat)) => [(1, slv rT_api_Argument l_1), (3, pv (ptr b1 0)), (7, pv x29.1), (13, pv x3.1), (14, iv .i64 (t2.length : Int)), (15, iv .i64 s28.1)])) (Ωl := (fun (s28 : Int × (List Int)) (x29 : (Value × List Nat)) => [oc b1 [slv rT_api_Premise b_0.Premises, slv rT_api_Rule b_0.Rules, slv rT_api_Promotion b_0.Promotions], oa (rI .i64) x29.1 x29.2 s28.2, oa (rI .i64) x3.1 x3.2 t2])) (Γb := (fun (q40 : (List Int)) (y41 : (Value × List Nat)) => [(7, pv y41.1)])) (Ωb := (fun (q40 : (List Int)) (y41 : (Value × List Nat)) => [oa (rI .i64) y41.1 y41.2 q40])) (0, []) ((.slice none 0 0), []) (weak [0, 2, 1] ⟨rfl, rfl, rfl, rfl, rfl, rfl, trivial⟩ ⟨rfl, rfl, rfl, trivial⟩) (fun s28 x29 => ?_) (fun q40 y41 => ?_)
  · unfold argument_Defeasible_l1
    refine ref_seq (ref_region ?_)
    refine s_rd (r_lss rfl rfl) rfl ?_
    refine l_nil (n_then (ref_seq ?_))
    refine ref_cond rfl (fun hb30 => ?_) (fun hb30 => ?_)
    · refine ref_skip (n_then (ref_seq (ref_block (ref_seq (ref_region ?_)))))
      refine pull fun k31 h_k31 => ?_
      refine s_rd (r_oindex h_k31 Try.underlying22 el_3 rfl (j := 2) rfl rfl) rfl ?_
      refine s_rd (r_oload h_k31 el_3 rfl (j := 2) rfl) rfl ?_
      refine as1 rfl rfl ?_
      refine l_nil (n_then (ref_seq (ref_region ?_)))
      refine mv1 rfl rfl ?_
      refine mv1 rfl rfl ?_
      refine pull fun t32 h_t32 => ?_
      refine s_rd (r_index h_t32 Try.underlying35 el_52 rfl rfl) rfl ?_
      refine s_rd (r_fea (fo := 1) (ρ := rT_api_Argument) (y := t32) (ρ' := (rI .i64)) (z := t32.Rule) Try.underlying52 rfl rfl Try.sizeOf3 rfl rfl rfl) rfl ?_
      refine s_rd (r_load el_3 rfl) rfl ?_
      refine as1 rfl rfl ?_
      refine l_nil (n_then (ref_seq ?_))
      refine ref_join (fun (j34 : Bool) (x35 : Unit) => [(1, slv rT_api_Argument l_1), (3, pv (ptr b1 0)), (7, pv x29.1), (10, iv .i64 t32.Rule), (13, pv x3.1), (14, iv .i64 (t2.length : Int)), (15, iv .i64 s28.1), (34, bv j34)]) (fun (j34 : Bool) (x35 : Unit) => [oc b1 [slv rT_api_Premise b_0.Premises, slv rT_api_Rule b_0.Rules, slv rT_api_Promotion b_0.Promotions], oa (rI .i64) x29.1 x29.2 s28.2, oa (rI .i64) x3.1 x3.2 t2]) (fun k36 hk36 => ?_) (fun j34 x35 => ?_)
      · refine ref_region ?_
        refine mv1 rfl rfl ?_
        refine s_rd (r_geq rfl rfl) rfl ?_
        refine mv1 rfl rfl ?_
        refine b_split (t := 26) rfl (fun _ => ?_) (fun _ => ?_)
        · refine s_on rfl rfl rfl ?_
          refine s_rd (r_faddr (fo := 1) Try.underlying34 rfl rfl Try.sizeOf31 rfl) rfl ?_
          refine s_on rfl rfl rfl ?_
          refine s_rd (r_cload Try.isAgg31 rfl (j := 0) rfl rfl) rfl ?_
          refine s_on rfl rfl rfl ?_
          refine mv1 rfl rfl ?_
          refine s_on rfl rfl rfl ?_
          refine pull fun t33 h_t33 => ?_
          refine s_rd (r_index h_t33 Try.underlying31 el_55 rfl rfl) rfl ?_
          refine s_on rfl rfl rfl ?_
          refine s_rd (r_fea (fo := 1) (ρ := rT_api_Rule) (y := t33) (ρ' := rB) (z := t33.Strict) Try.underlying55 rfl rfl Try.sizeOf4 rfl rfl rfl) rfl ?_
          refine s_on rfl rfl rfl ?_
          refine s_rd (r_load el_4 rfl) rfl ?_
          refine s_on rfl rfl rfl ?_
          refine s_rd (r_not rfl) rfl ?_
          refine s_rd (r_pickT rfl rfl) rfl ?_
          refine l_nil ?_
          exact b_to (hk36 (!t33.Strict) ()) (weak [0, 1, 2] ⟨rfl, rfl, rfl, rfl, rfl, rfl, rfl, rfl, trivial⟩ ⟨rfl, rfl, rfl, trivial⟩)
        refine s_off rfl rfl rfl rfl rfl ?_
        refine s_off rfl rfl rfl rfl rfl ?_
        refine s_off rfl rfl rfl rfl rfl ?_
        refine s_off rfl rfl rfl rfl rfl ?_
        refine s_off rfl rfl rfl rfl rfl ?_
        refine s_off rfl rfl rfl rfl rfl ?_
        refine s_off rfl rfl rfl rfl rfl ?_
        refine s_rd (r_pickF rfl rfl) rfl ?_
        refine l_nil ?_
        exact b_to (hk36 false ()) (weak [0, 1, 2] ⟨rfl, rfl, rfl, rfl, rfl, rfl, rfl, rfl, trivial⟩ ⟨rfl, rfl, rfl, trivial⟩)
      refine n_then ?_
      refine ref_cond rfl (fun hb37 => ?_) (fun hb37 => ?_)
      · refine ref_region ?_
        refine mv1 rfl rfl ?_
        refine mv1 rfl rfl ?_
        refine s_st (s_bslice (xs := [.tmp 36]) (ds := [t32.Rule]) Try.underlying22 el_3 rfl (Nat.le_of_ble_eq_true rfl) ⟨(part_at rfl iv_at), trivial⟩) rfl (fun _ => ?_)
        refine pull fun out38 h_out38 => ?_
        refine s_st (s_append h_out38 Try.underlying22 el_3 rfl (j := 1) rfl rfl) rfl (fun o39 => ?_)
        refine as1 rfl rfl ?_
        refine l_nil (n_block (n_then (ref_region ?_)))
        refine s_rd (r_add rfl rfl) rfl ?_
        refine mv1 rfl rfl ?_
        refine l_nil ?_
        exact goB o39 (weak [0, 1, 2] ⟨rfl, rfl, rfl, rfl, rfl, rfl, trivial⟩ ⟨rfl, rfl, rfl, trivial⟩)
      refine ref_skip (n_block (n_then (ref_region ?_)))
      refine s_rd (r_add rfl rfl) rfl ?_
      refine mv1 rfl rfl ?_
      refine l_nil ?_
      exact goB x29 (weak [0, 1, 2] ⟨rfl, rfl, rfl, rfl, rfl, rfl, trivial⟩ ⟨rfl, rfl, rfl, trivial⟩)
    refine ref_exit (x_then ?_)
    exact brkB x29 (weak [1] ⟨rfl, trivial⟩ ⟨rfl, trivial⟩)
  refine n_then (ref_seq (ref_region ?_))
  refine mv1 rfl rfl ?_
  refine pull fun t42 h_t42 => ?_
  refine s_st (s_callC [0] [true] (fun (_ : Unit) => [oa (rI .i64) y41.1 y41.2 t42]) (fun (_ : Unit) => []) (fun (_ : Unit) => tup []) (args := [.tmp 40]) (caps := []) Try.call57 rfl (slices_Sort_ok h_t42) ⟨rfl, rfl, trivial⟩ (fun _ => rfl) (fun _ => trivial) (fun _ => rfl) ⟨arg rfl, trivial⟩ (fun _ _ _ _ h => h)) rfl (fun _ => ?_)
  refine l_nil (n_then (ref_seq (ref_region ?_)))
  refine mv1 rfl rfl ?_
  refine pull fun t43 h_t43 => ?_
  refine s_st (s_callC [0] [false] (fun (x44 : (Value × List Nat)) => [dead]) (fun (x44 : (Value × List Nat)) => [oa (rI .i64) x44.1 x44.2 t43]) (fun (x44 : (Value × List Nat)) => pv x44.1) (args := [.tmp 42]) (caps := []) Try.call60 rfl (slices_Compact_ok h_t43) ⟨rfl, rfl, trivial⟩ (fun _ => rfl) (fun _ => ⟨rfl, trivial⟩) (fun _ => rfl) ⟨arg rfl, trivial⟩ (fun _ _ _ _ h => h)) rfl (fun x44 => ?_)
  refine as1 rfl rfl ?_
  refine l_nil (n_then (ref_ret ?_))
  exact fin1 (.inl rfl) x44 [1] rfl ⟨rfl, trivial⟩ rfl (rv_tmp rfl)

/-! deliberation/lift.ranks -/
noncomputable def lift_ranks_1_l1 (b_0 : T_api_Base) (rules_1 : (List Int)) (s16 : Int × (List Int)) : Option (Sum ((List Int)) (Int × (List Int))) :=
  bif decide (s16.1 < (rules_1.length : Int)) then
    Option.bind (idxM rules_1 s16.1) fun k19 =>
    Option.bind (idxM b_0.Rules k19) fun t20 =>
    Option.bind (appM 8 s16.2 [t20.Rank]) fun out21 =>
    some (Sum.inr (iadd .i64 s16.1 1, out21))
  else
    some (Sum.inl s16.2)

noncomputable def lift_ranks_1_m (b_0 : T_api_Base) (rules_1 : (List Int)) : Option (List Int) :=
  Option.bind (loopC (lift_ranks_1_l1 b_0 rules_1) (0, [])) fun q23 : (List Int) =>
  some q23

theorem lift_ranks_1_ok {b_0 : T_api_Base} {rules_1 : (List Int)} {h_0 : Value × List Nat} {r : List Int} (hm : lift_ranks_1_m b_0 rules_1 = some r) :
    FnOk prog 35 [ag [slv rT_api_Premise b_0.Premises, slv rT_api_Rule b_0.Rules, slv rT_api_Promotion b_0.Promotions], pv h_0.1] [oa (rI .i64) h_0.1 h_0.2 rules_1] (fun (x : (Value × List Nat)) => [pv x.1]) (fun (x : (Value × List Nat)) => [oa (rI .i64) h_0.1 h_0.2 rules_1, oa (rI .i64) x.1 x.2 r]) := by
  refine fn_ok (X := (Value × List Nat)) (fn := Try.f35) (N := 25) (res := fun r x => [pv x.1]) (Ω1 := fun r x => [oa (rI .i64) h_0.1 h_0.2 rules_1, oa (rI .i64) x.1 x.2 r]) Try.func35 rfl rfl hm rfl (fun E hM => ?_)
  unfold lift_ranks_1_m
  refine ref_seq (ref_region ?_)
  refine s_st (s_box (part_agO (ψs := [slv rT_api_Premise b_0.Premises, slv rT_api_Rule b_0.Rules, slv rT_api_Promotion b_0.Promotions]) rfl ⟨.inl slv_at, .inl slv_at, .inl slv_at, trivial⟩)) rfl (fun b1 => ?_)
  refine as1 rfl rfl ?_
  refine l_nil (n_then (ref_seq (ref_region ?_)))
  refine as1 rfl rfl ?_
  refine l_nil (n_then (ref_seq (ref_seq (ref_region ?_))))
  refine mv1 rfl rfl ?_
  refine s_rd (r_olen Try.underlying22 rfl (j := 0) rfl) rfl ?_
  refine mv1 rfl rfl ?_
  refine l_nil (n_then ?_)
  refine b_of (own_nil (rI .i64)) ?_
  refine ref_loopB (f := (lift_ranks_1_l1 b_0 rules_1)) (Γl := (fun (s16 : Int × (List Int)) (x17 : (Value × List Nat)) => [(1, pv h_0.1), (2, pv (ptr b1 0)), (5, pv x17.1), (8, pv h_0.1), (9, iv .i64 (rules_1.length : Int)), (10, iv .i64 s16.1)])) (Ωl := (fun (s16 : Int × (List Int)) (x17 : (Value × List Nat)) => [oa (rI .i64) h_0.1 h_0.2 rules_1, oc b1 [slv rT_api_Premise b_0.Premises, slv rT_api_Rule b_0.Rules, slv rT_api_Promotion b_0.Promotions], oa (rI .i64) x17.1 x17.2 s16.2])) (Γb := (fun (q23 : (List Int)) (y24 : (Value × List Nat)) => [(1, pv h_0.1), (5, pv y24.1)])) (Ωb := (fun (q23 : (List Int)) (y24 : (Value × List Nat)) => [oa (rI .i64) h_0.1 h_0.2 rules_1, oa (rI .i64) y24.1 y24.2 q23])) (0, []) ((.slice none 0 0), []) (weak [0, 1, 2] ⟨rfl, rfl, rfl, rfl, rfl, rfl, trivial⟩ ⟨rfl, rfl, rfl, trivial⟩) (fun s16 x17 => ?_) (fun q23 y24 => ?_)
  · unfold lift_ranks_1_l1
    refine ref_seq (ref_region ?_)
    refine s_rd (r_lss rfl rfl) rfl ?_
    refine l_nil (n_then (ref_seq ?_))
    refine ref_cond rfl (fun hb18 => ?_) (fun hb18 => ?_)
    · refine ref_skip (n_then (ref_seq (ref_block (ref_seq (ref_region ?_)))))
      refine pull fun k19 h_k19 => ?_
      refine s_rd (r_oindex h_k19 Try.underlying22 el_3 rfl (j := 0) rfl rfl) rfl ?_
      refine s_rd (r_oload h_k19 el_3 rfl (j := 0) rfl) rfl ?_
      refine as1 rfl rfl ?_
      refine l_nil (n_then (ref_region ?_))
      refine mv1 rfl rfl ?_
      refine s_rd (r_faddr (fo := 1) Try.underlying34 rfl rfl Try.sizeOf31 rfl) rfl ?_
      refine s_rd (r_cload Try.isAgg31 rfl (j := 1) rfl rfl) rfl ?_
      refine mv1 rfl rfl ?_
      refine pull fun t20 h_t20 => ?_
      refine s_rd (r_index h_t20 Try.underlying31 el_55 rfl rfl) rfl ?_
      refine s_rd (r_fea (fo := 2) (ρ := rT_api_Rule) (y := t20) (ρ' := (rI .i64)) (z := t20.Rank) Try.underlying55 rfl rfl Try.sizeOf3 rfl rfl rfl) rfl ?_
      refine s_rd (r_load el_3 rfl) rfl ?_
      refine s_st (s_bslice (xs := [.tmp 20]) (ds := [t20.Rank]) Try.underlying22 el_3 rfl (Nat.le_of_ble_eq_true rfl) ⟨(part_at rfl iv_at), trivial⟩) rfl (fun _ => ?_)
      refine pull fun out21 h_out21 => ?_
      refine s_st (s_append h_out21 Try.underlying22 el_3 rfl (j := 2) rfl rfl) rfl (fun o22 => ?_)
      refine as1 rfl rfl ?_
      refine l_nil (n_block (n_then (ref_region ?_)))
      refine s_rd (r_add rfl rfl) rfl ?_
      refine mv1 rfl rfl ?_
      refine l_nil ?_
      exact goB o22 (weak [0, 1, 2] ⟨rfl, rfl, rfl, rfl, rfl, rfl, trivial⟩ ⟨rfl, rfl, rfl, trivial⟩)
    refine ref_exit (x_then ?_)
    exact brkB x17 (weak [0, 2] ⟨rfl, rfl, trivial⟩ ⟨rfl, rfl, trivial⟩)
  refine n_then (ref_seq (ref_region ?_))
  refine mv1 rfl rfl ?_
  refine as1 rfl rfl ?_
  refine l_nil (n_then (ref_ret ?_))
  exact fin1 (.inl rfl) y24 [0, 1] rfl ⟨rfl, rfl, trivial⟩ rfl (rv_tmp rfl)

/-! deliberation/lift.RuleRanks -/
noncomputable def lift_RuleRanks_m (b_0 : T_api_Base) (l_1 : (List T_api_Argument)) (i_2 : Int) : Option (List Int) :=
  Option.bind (argument_Defeasible_m b_0 l_1 i_2) fun t2 =>
  Option.bind (lift_ranks_1_m b_0 t2) fun t4 =>
  some t4

theorem lift_RuleRanks_ok {b_0 : T_api_Base} {l_1 : (List T_api_Argument)} {i_2 : Int} {r : List Int} (hm : lift_RuleRanks_m b_0 l_1 i_2 = some r) :
    FnOk prog 17 [ag [slv rT_api_Premise b_0.Premises, slv rT_api_Rule b_0.Rules, slv rT_api_Promotion b_0.Promotions], slv rT_api_Argument l_1, iv .i64 i_2] [] (fun (x : (Value × List Nat)) => [pv x.1]) (fun (x : (Value × List Nat)) => [oa (rI .i64) x.1 x.2 r]) := by
  refine fn_ok (X := (Value × List Nat)) (fn := Try.f17) (N := 13) (res := fun r x => [pv x.1]) (Ω1 := fun r x => [oa (rI .i64) x.1 x.2 r]) Try.func17 rfl rfl hm rfl (fun E hM => ?_)
  unfold lift_RuleRanks_m
  refine ref_seq (ref_region ?_)
  refine s_st (s_box (part_agO (ψs := [slv rT_api_Premise b_0.Premises, slv rT_api_Rule b_0.Rules, slv rT_api_Promotion b_0.Promotions]) rfl ⟨.inl slv_at, .inl slv_at, .inl slv_at, trivial⟩)) rfl (fun b1 => ?_)
  refine as1 rfl rfl ?_
  refine l_nil (n_then (ref_seq ?_))
  refine ref_draw [0, 1, 2, 3] rfl (by kernel_rfl) (fun hok => ?_)
  refine a_rd (i := 0) hok rfl (by kernel_rfl) rfl (r_cloadS Try.isAgg34 Try.sizeOf34 rfl (j := 0) rfl rfl rfl) rfl ?_
  refine a_rd (i := 1) hok rfl (by kernel_rfl) rfl (r_cloadS Try.isAgg34 Try.sizeOf34 rfl (j := 0) rfl rfl rfl) rfl ?_
  refine a_rd (i := 2) hok rfl (by kernel_rfl) rfl (r_move rfl) rfl ?_
  refine a_rd (i := 3) hok rfl (by kernel_rfl) rfl (r_move rfl) rfl ?_
  refine pull fun t2 h_t2 => ?_
  refine a_next hok 4 [] (by kernel_rfl) ?_ trivial
  refine a_st (i := 4) hok rfl rfl (s_call (ψ := fun (x3 : (Value × List Nat)) => pv x3.1) (args := [.tmp 8, .tmp 9, .tmp 10]) Try.call36 rfl (argument_Defeasible_ok h_t2) ⟨arg rfl, arg rfl, arg rfl, trivial⟩ (fun _ _ _ _ h => h)) (by intro _ h; cases h; rfl) (fun _ => ⟨trivial, ⟨trivial, ⟨trivial, ⟨⟨⟨rfl, rfl⟩, trivial⟩, trivial⟩⟩⟩⟩) (fun x3 => ?_)
  refine pull fun t4 h_t4 => ?_
  refine a_next hok 5 [] (by kernel_rfl) ?_ trivial
  refine a_st (i := 5) hok rfl rfl (s_callC [1] [true] (fun (x5 : (Value × List Nat)) => [oa (rI .i64) x3.1 x3.2 t2]) (fun (x5 : (Value × List Nat)) => [oa (rI .i64) x5.1 x5.2 t4]) (fun (x5 : (Value × List Nat)) => pv x5.1) (args := [.tmp 7, .tmp 11]) (caps := []) Try.call35 rfl (lift_ranks_1_ok h_t4) ⟨rfl, rfl, trivial⟩ (fun _ => rfl) (fun _ => trivial) (fun _ => rfl) ⟨arg rfl, arg rfl, trivial⟩ (fun _ _ _ _ h => h)) (by intro _ h; cases h; rfl) (fun _ => ⟨trivial, ⟨trivial, ⟨⟨⟨rfl, rfl⟩, trivial⟩, ⟨trivial, trivial⟩⟩⟩⟩) (fun x5 => ?_)
  refine a_next hok 6 [] (by kernel_rfl) ?_ trivial
  refine a_st (i := 6) hok rfl rfl (St.ofRd (r_assign rfl)) (by intro _ h; cases h; rfl) (fun _ => ⟨trivial, ⟨trivial, ⟨trivial, ⟨trivial, trivial⟩⟩⟩⟩) (fun _ => ?_)
  refine a_fin hok (by kernel_rfl) ?_
  refine b_of (nrm [oc b1 [slv rT_api_Premise b_0.Premises, slv rT_api_Rule b_0.Rules, slv rT_api_Promotion b_0.Promotions], oa (rI .i64) x3.1 x3.2 t2, oa (rI .i64) x5.1 x5.2 t4] rfl) ?_
  refine n_then (ref_ret ?_)
  exact fin1 (.inl rfl) x5 [2] rfl ⟨rfl, trivial⟩ rfl (rv_tmp rfl)

/-! deliberation/lift.Less$2 -/
noncomputable def lift_Less_2_1_m (p_1 : T_api_Base) (p_2 : (List T_api_Argument)) (p_3 : Int) (p_4 : Int) : Option (Bool) :=
  Option.bind (lift_RuleRanks_m p_1 p_2 p_3) fun t1 =>
  bif (t1.length : Int) == 0 then
    Option.bind (lift_RuleRanks_m p_1 p_2 p_4) fun t3 =>
    letM ((t3.length : Int) == 0) fun t5 =>
    some t5
  else
    some false

theorem lift_Less_2_1_ok {p_1 : T_api_Base} {p_2 : (List T_api_Argument)} {p_3 : Int} {p_4 : Int} {b_1 : Nat} {b_2 : Nat} {b_3 : Nat} {b_4 : Nat} {r : Bool} (hm : lift_Less_2_1_m p_1 p_2 p_3 p_4 = some r) :
    FnOk prog 43 [pv (.func (.func 17) #[] #[]), pv (ptr b_1 0), pv (ptr b_2 0), pv (ptr b_3 0), pv (ptr b_4 0)] [oc b_1 [slv rT_api_Premise p_1.Premises, slv rT_api_Rule p_1.Rules, slv rT_api_Promotion p_1.Promotions], oc b_2 [slv rT_api_Argument p_2], oc b_3 [iv .i64 p_3], oc b_4 [iv .i64 p_4]] (fun (x : Unit) => [bv r]) (fun (x : Unit) => [oc b_1 [slv rT_api_Premise p_1.Premises, slv rT_api_Rule p_1.Rules, slv rT_api_Promotion p_1.Promotions], oc b_2 [slv rT_api_Argument p_2], oc b_3 [iv .i64 p_3], oc b_4 [iv .i64 p_4]]) := by
  refine fn_ok (fn := Try.f43) (N := 23) (res := fun r x => [bv r]) (Ω1 := fun r x => [oc b_1 [slv rT_api_Premise p_1.Premises, slv rT_api_Rule p_1.Rules, slv rT_api_Promotion p_1.Promotions], oc b_2 [slv rT_api_Argument p_2], oc b_3 [iv .i64 p_3], oc b_4 [iv .i64 p_4]]) Try.func43 rfl rfl hm rfl (fun E hM => ?_)
  unfold lift_Less_2_1_m
  refine ref_seq (ref_region ?_)
  refine as1 rfl rfl ?_
  refine l_nil (n_then (ref_seq (ref_region ?_)))
  refine mv1 rfl rfl ?_
  refine s_rd (r_cloadS Try.isAgg34 Try.sizeOf34 rfl (j := 0) rfl rfl rfl) rfl ?_
  refine s_rd (r_cload Try.isAgg35 rfl (j := 1) rfl rfl) rfl ?_
  refine s_rd (r_cload Try.isAgg3 rfl (j := 2) rfl rfl) rfl ?_
  refine pull fun t1 h_t1 => ?_
  refine s_st (s_call (ψ := fun (x2 : (Value × List Nat)) => pv x2.1) (args := [.tmp 8, .tmp 9, .tmp 10]) Try.call17 rfl (lift_RuleRanks_ok h_t1) ⟨arg rfl, arg rfl, arg rfl, trivial⟩ (fun _ _ _ _ h => h)) rfl (fun x2 => ?_)
  refine s_rd (r_olen Try.underlying22 rfl (j := 4) rfl) rfl ?_
  refine s_rd (r_eql rfl rfl) rfl ?_
  refine mv1 rfl rfl ?_
  refine b_split (t := 14) rfl (fun _ => ?_) (fun _ => ?_)
  · refine s_on rfl rfl rfl ?_
    refine mv1 rfl rfl ?_
    refine s_on rfl rfl rfl ?_
    refine s_rd (r_cloadS Try.isAgg34 Try.sizeOf34 rfl (j := 0) rfl rfl rfl) rfl ?_
    refine s_on rfl rfl rfl ?_
    refine s_rd (r_cload Try.isAgg35 rfl (j := 1) rfl rfl) rfl ?_
    refine s_on rfl rfl rfl ?_
    refine s_rd (r_cload Try.isAgg3 rfl (j := 3) rfl rfl) rfl ?_
    refine s_on rfl rfl rfl ?_
    refine pull fun t3 h_t3 => ?_
    refine s_st (s_call (ψ := fun (x4 : (Value × List Nat)) => pv x4.1) (args := [.tmp 16, .tmp 17, .tmp 18]) Try.call17 rfl (lift_RuleRanks_ok h_t3) ⟨arg rfl, arg rfl, arg rfl, trivial⟩ (fun _ _ _ _ h => h)) rfl (fun x4 => ?_)
    refine s_on rfl rfl rfl ?_
    refine s_rd (r_olen Try.underlying22 rfl (j := 5) rfl) rfl ?_
    refine s_on rfl rfl rfl ?_
    refine s_rd (r_eql rfl rfl) rfl ?_
    refine s_rd (r_pickT rfl rfl) rfl ?_
    refine as1 rfl rfl ?_
    refine b_let (f := bv) (t := 6) rfl fun t5 => ?_
    refine l_nil (n_then (ref_ret ?_))
    exact fin1 (.inl rfl) () [0, 1, 2, 3] rfl ⟨rfl, rfl, rfl, rfl, trivial⟩ rfl (rv_tmp rfl)
  refine s_off rfl rfl rfl rfl rfl ?_
  refine s_off rfl rfl rfl rfl rfl ?_
  refine s_off rfl rfl rfl rfl rfl ?_
  refine s_off rfl rfl rfl rfl rfl ?_
  refine s_off rfl rfl rfl rfl rfl ?_
  refine s_off rfl rfl rfl rfl rfl ?_
  refine s_off rfl rfl rfl rfl rfl ?_
  refine s_rd (r_pickF rfl rfl) rfl ?_
  refine as1 rfl rfl ?_
  refine l_nil (n_then (ref_ret ?_))
  exact fin1 (.inl rfl) () [0, 1, 2, 3] rfl ⟨rfl, rfl, rfl, rfl, trivial⟩ rfl (rv_tmp rfl)

/-! deliberation/lift.Less$2 -/
noncomputable def lift_Less_2_2_m (p_1 : T_api_Base) (p_2 : (List T_api_Argument)) (p_3 : Int) (p_4 : Int) : Option (Bool) :=
  Option.bind (lift_PremiseRanks_m p_1 p_2 p_3) fun t1 =>
  bif (t1.length : Int) == 0 then
    Option.bind (lift_PremiseRanks_m p_1 p_2 p_4) fun t3 =>
    letM ((t3.length : Int) == 0) fun t5 =>
    some t5
  else
    some false

theorem lift_Less_2_2_ok {p_1 : T_api_Base} {p_2 : (List T_api_Argument)} {p_3 : Int} {p_4 : Int} {b_1 : Nat} {b_2 : Nat} {b_3 : Nat} {b_4 : Nat} {r : Bool} (hm : lift_Less_2_2_m p_1 p_2 p_3 p_4 = some r) :
    FnOk prog 43 [pv (.func (.func 15) #[] #[]), pv (ptr b_1 0), pv (ptr b_2 0), pv (ptr b_3 0), pv (ptr b_4 0)] [oc b_1 [slv rT_api_Premise p_1.Premises, slv rT_api_Rule p_1.Rules, slv rT_api_Promotion p_1.Promotions], oc b_2 [slv rT_api_Argument p_2], oc b_3 [iv .i64 p_3], oc b_4 [iv .i64 p_4]] (fun (x : Unit) => [bv r]) (fun (x : Unit) => [oc b_1 [slv rT_api_Premise p_1.Premises, slv rT_api_Rule p_1.Rules, slv rT_api_Promotion p_1.Promotions], oc b_2 [slv rT_api_Argument p_2], oc b_3 [iv .i64 p_3], oc b_4 [iv .i64 p_4]]) := by
  refine fn_ok (fn := Try.f43) (N := 23) (res := fun r x => [bv r]) (Ω1 := fun r x => [oc b_1 [slv rT_api_Premise p_1.Premises, slv rT_api_Rule p_1.Rules, slv rT_api_Promotion p_1.Promotions], oc b_2 [slv rT_api_Argument p_2], oc b_3 [iv .i64 p_3], oc b_4 [iv .i64 p_4]]) Try.func43 rfl rfl hm rfl (fun E hM => ?_)
  unfold lift_Less_2_2_m
  refine ref_seq (ref_region ?_)
  refine as1 rfl rfl ?_
  refine l_nil (n_then (ref_seq (ref_region ?_)))
  refine mv1 rfl rfl ?_
  refine s_rd (r_cloadS Try.isAgg34 Try.sizeOf34 rfl (j := 0) rfl rfl rfl) rfl ?_
  refine s_rd (r_cload Try.isAgg35 rfl (j := 1) rfl rfl) rfl ?_
  refine s_rd (r_cload Try.isAgg3 rfl (j := 2) rfl rfl) rfl ?_
  refine pull fun t1 h_t1 => ?_
  refine s_st (s_call (ψ := fun (x2 : (Value × List Nat)) => pv x2.1) (args := [.tmp 8, .tmp 9, .tmp 10]) Try.call15 rfl (lift_PremiseRanks_ok h_t1) ⟨arg rfl, arg rfl, arg rfl, trivial⟩ (fun _ _ _ _ h => h)) rfl (fun x2 => ?_)
  refine s_rd (r_olen Try.underlying22 rfl (j := 4) rfl) rfl ?_
  refine s_rd (r_eql rfl rfl) rfl ?_
  refine mv1 rfl rfl ?_
  refine b_split (t := 14) rfl (fun _ => ?_) (fun _ => ?_)
  · refine s_on rfl rfl rfl ?_
    refine mv1 rfl rfl ?_
    refine s_on rfl rfl rfl ?_
    refine s_rd (r_cloadS Try.isAgg34 Try.sizeOf34 rfl (j := 0) rfl rfl rfl) rfl ?_
    refine s_on rfl rfl rfl ?_
    refine s_rd (r_cload Try.isAgg35 rfl (j := 1) rfl rfl) rfl ?_
    refine s_on rfl rfl rfl ?_
    refine s_rd (r_cload Try.isAgg3 rfl (j := 3) rfl rfl) rfl ?_
    refine s_on rfl rfl rfl ?_
    refine pull fun t3 h_t3 => ?_
    refine s_st (s_call (ψ := fun (x4 : (Value × List Nat)) => pv x4.1) (args := [.tmp 16, .tmp 17, .tmp 18]) Try.call15 rfl (lift_PremiseRanks_ok h_t3) ⟨arg rfl, arg rfl, arg rfl, trivial⟩ (fun _ _ _ _ h => h)) rfl (fun x4 => ?_)
    refine s_on rfl rfl rfl ?_
    refine s_rd (r_olen Try.underlying22 rfl (j := 5) rfl) rfl ?_
    refine s_on rfl rfl rfl ?_
    refine s_rd (r_eql rfl rfl) rfl ?_
    refine s_rd (r_pickT rfl rfl) rfl ?_
    refine as1 rfl rfl ?_
    refine b_let (f := bv) (t := 6) rfl fun t5 => ?_
    refine l_nil (n_then (ref_ret ?_))
    exact fin1 (.inl rfl) () [0, 1, 2, 3] rfl ⟨rfl, rfl, rfl, rfl, trivial⟩ rfl (rv_tmp rfl)
  refine s_off rfl rfl rfl rfl rfl ?_
  refine s_off rfl rfl rfl rfl rfl ?_
  refine s_off rfl rfl rfl rfl rfl ?_
  refine s_off rfl rfl rfl rfl rfl ?_
  refine s_off rfl rfl rfl rfl rfl ?_
  refine s_off rfl rfl rfl rfl rfl ?_
  refine s_off rfl rfl rfl rfl rfl ?_
  refine s_rd (r_pickF rfl rfl) rfl ?_
  refine as1 rfl rfl ?_
  refine l_nil (n_then (ref_ret ?_))
  exact fin1 (.inl rfl) () [0, 1, 2, 3] rfl ⟨rfl, rfl, rfl, rfl, trivial⟩ rfl (rv_tmp rfl)

/-! deliberation/lift.Less$1 -/
noncomputable def lift_Less_1_2_m (p_1 : T_api_Base) (p_2 : (List T_api_Argument)) (p_3 : Int) (p_4 : Int) (p_5 : T_api_Ordering) : Option (Bool) :=
  Option.bind (lift_RuleRanks_m p_1 p_2 p_3) fun t1 =>
  Option.bind (lift_RuleRanks_m p_1 p_2 p_4) fun t3 =>
  Option.bind (lift_SetLess_m t1 t3 p_5.Lift) fun t5 =>
  some t5

theorem lift_Less_1_2_ok {p_1 : T_api_Base} {p_2 : (List T_api_Argument)} {p_3 : Int} {p_4 : Int} {p_5 : T_api_Ordering} {b_1 : Nat} {b_2 : Nat} {b_3 : Nat} {b_4 : Nat} {b_5 : Nat} {r : Bool} (hm : lift_Less_1_2_m p_1 p_2 p_3 p_4 p_5 = some r) :
    FnOk prog 42 [pv (.func (.func 17) #[] #[]), pv (ptr b_1 0), pv (ptr b_2 0), pv (ptr b_3 0), pv (ptr b_4 0), pv (ptr b_5 0)] [oc b_1 [slv rT_api_Premise p_1.Premises, slv rT_api_Rule p_1.Rules, slv rT_api_Promotion p_1.Promotions], oc b_2 [slv rT_api_Argument p_2], oc b_3 [iv .i64 p_3], oc b_4 [iv .i64 p_4], oc b_5 [iv .i64 p_5.Link, iv .i64 p_5.Lift]] (fun (x : Unit) => [bv r]) (fun (x : Unit) => [oc b_1 [slv rT_api_Premise p_1.Premises, slv rT_api_Rule p_1.Rules, slv rT_api_Promotion p_1.Promotions], oc b_2 [slv rT_api_Argument p_2], oc b_3 [iv .i64 p_3], oc b_4 [iv .i64 p_4], oc b_5 [iv .i64 p_5.Link, iv .i64 p_5.Lift]]) := by
  refine fn_ok (fn := Try.f42) (N := 21) (res := fun r x => [bv r]) (Ω1 := fun r x => [oc b_1 [slv rT_api_Premise p_1.Premises, slv rT_api_Rule p_1.Rules, slv rT_api_Promotion p_1.Promotions], oc b_2 [slv rT_api_Argument p_2], oc b_3 [iv .i64 p_3], oc b_4 [iv .i64 p_4], oc b_5 [iv .i64 p_5.Link, iv .i64 p_5.Lift]]) Try.func42 rfl rfl hm rfl (fun E hM => ?_)
  unfold lift_Less_1_2_m
  refine ref_seq (ref_region ?_)
  refine as1 rfl rfl ?_
  refine l_nil (n_then (ref_seq ?_))
  refine ref_draw [0, 1, 2, 3, 5, 6, 7, 8, 10, 11] rfl (by kernel_rfl) (fun hok => ?_)
  refine a_rd (i := 0) hok rfl (by kernel_rfl) rfl (r_move rfl) rfl ?_
  refine a_rd (i := 1) hok rfl (by kernel_rfl) rfl (r_cloadS Try.isAgg34 Try.sizeOf34 rfl (j := 0) rfl rfl rfl) rfl ?_
  refine a_rd (i := 2) hok rfl (by kernel_rfl) rfl (r_cload Try.isAgg35 rfl (j := 1) rfl rfl) rfl ?_
  refine a_rd (i := 3) hok rfl (by kernel_rfl) rfl (r_cload Try.isAgg3 rfl (j := 2) rfl rfl) rfl ?_
  refine a_rd (i := 5) hok rfl (by kernel_rfl) rfl (r_move rfl) rfl ?_
  refine a_rd (i := 6) hok rfl (by kernel_rfl) rfl (r_cloadS Try.isAgg34 Try.sizeOf34 rfl (j := 0) rfl rfl rfl) rfl ?_
  refine a_rd (i := 7) hok rfl (by kernel_rfl) rfl (r_cload Try.isAgg35 rfl (j := 1) rfl rfl) rfl ?_
  refine a_rd (i := 8) hok rfl (by kernel_rfl) rfl (r_cload Try.isAgg3 rfl (j := 3) rfl rfl) rfl ?_
  refine a_rd (i := 10) hok rfl (by kernel_rfl) rfl (r_faddr (fo := 1) Try.underlying43 rfl rfl Try.sizeOf3 rfl) rfl ?_
  refine a_rd (i := 11) hok rfl (by kernel_rfl) rfl (r_cload Try.isAgg3 rfl (j := 4) rfl rfl) rfl ?_
  refine pull fun t1 h_t1 => ?_
  refine a_next hok 4 [] (by kernel_rfl) ?_ trivial
  refine a_st (i := 4) hok rfl rfl (s_call (ψ := fun (x2 : (Value × List Nat)) => pv x2.1) (args := [.tmp 9, .tmp 10, .tmp 11]) Try.call17 rfl (lift_RuleRanks_ok h_t1) ⟨arg rfl, arg rfl, arg rfl, trivial⟩ (fun _ _ _ _ h => h)) (by intro _ h; cases h; rfl) (fun _ => ⟨⟨⟨rfl, rfl⟩, trivial⟩, ⟨trivial, ⟨⟨⟨rfl, rfl⟩, trivial⟩, ⟨⟨⟨rfl, rfl⟩, trivial⟩, ⟨⟨⟨rfl, rfl⟩, trivial⟩, ⟨trivial, ⟨trivial, ⟨trivial, ⟨trivial, ⟨trivial, trivial⟩⟩⟩⟩⟩⟩⟩⟩⟩⟩) (fun x2 => ?_)
  refine pull fun t3 h_t3 => ?_
  refine a_next hok 9 [] (by kernel_rfl) ?_ trivial
  refine a_st (i := 9) hok rfl rfl (s_call (ψ := fun (x4 : (Value × List Nat)) => pv x4.1) (args := [.tmp 14, .tmp 15, .tmp 16]) Try.call17 rfl (lift_RuleRanks_ok h_t3) ⟨arg rfl, arg rfl, arg rfl, trivial⟩ (fun _ _ _ _ h => h)) (by intro _ h; cases h; rfl) (fun _ => ⟨⟨⟨rfl, rfl⟩, trivial⟩, ⟨trivial, ⟨trivial, ⟨trivial, ⟨trivial, ⟨trivial, ⟨⟨⟨rfl, rfl⟩, trivial⟩, ⟨⟨⟨rfl, rfl⟩, trivial⟩, ⟨⟨⟨rfl, rfl⟩, trivial⟩, ⟨trivial, trivial⟩⟩⟩⟩⟩⟩⟩⟩⟩⟩) (fun x4 => ?_)
  refine pull fun t5 h_t5 => ?_
  refine a_next hok 12 [] (by kernel_rfl) ?_ trivial
  refine a_st (i := 12) hok rfl rfl (s_callB (ψ := fun (_ : Unit) => bv t5) (args := [.tmp 12, .tmp 17, .tmp 19]) Try.call10 rfl (lift_SetLess_ok h_t5) ⟨argO rfl (j := 5) rfl, argO rfl (j := 6) rfl, argB rfl, trivial⟩ (fun _ _ _ _ _ h => h)) (by intro _ h; cases h; rfl) (fun _ => ⟨trivial, ⟨trivial, ⟨⟨⟨rfl, rfl⟩, trivial⟩, ⟨⟨⟨rfl, rfl⟩, trivial⟩, ⟨⟨⟨rfl, rfl⟩, trivial⟩, ⟨trivial, ⟨⟨⟨rfl, rfl⟩, trivial⟩, ⟨⟨⟨rfl, rfl⟩, trivial⟩, ⟨⟨⟨rfl, rfl⟩, trivial⟩, ⟨trivial, trivial⟩⟩⟩⟩⟩⟩⟩⟩⟩⟩) (fun _ => ?_)
  refine a_next hok 13 [] (by kernel_rfl) ?_ trivial
  refine a_st (i := 13) hok rfl rfl (St.ofRd (r_assign rfl)) (by intro _ h; cases h; rfl) (fun _ => ⟨trivial, ⟨trivial, ⟨trivial, ⟨trivial, ⟨trivial, ⟨trivial, ⟨trivial, ⟨trivial, ⟨trivial, ⟨trivial, trivial⟩⟩⟩⟩⟩⟩⟩⟩⟩⟩) (fun _ => ?_)
  refine a_fin hok (by kernel_rfl) ?_
  refine b_of (nrm [oc b_1 [slv rT_api_Premise p_1.Premises, slv rT_api_Rule p_1.Rules, slv rT_api_Promotion p_1.Promotions], oc b_2 [slv rT_api_Argument p_2], oc b_3 [iv .i64 p_3], oc b_4 [iv .i64 p_4], oc b_5 [iv .i64 p_5.Link, iv .i64 p_5.Lift], oa (rI .i64) x2.1 x2.2 t1, oa (rI .i64) x4.1 x4.2 t3] rfl) ?_
  refine n_then (ref_ret ?_)
  exact fin1 (.inl rfl) () [0, 1, 2, 3, 4] rfl ⟨rfl, rfl, rfl, rfl, rfl, trivial⟩ rfl (rv_tmp rfl)

/-! deliberation/lift.Less$4 -/
noncomputable def lift_Less_4_m (e_1 : T_api_Base) (e_2 : (List T_api_Argument)) (e_3 : Int) (e_4 : Int) (e_6 : T_api_Ordering) : Option (Bool) :=
  Option.bind (lift_Less_2_1_m e_1 e_2 e_3 e_4) fun t1 =>
  bif t1 then
    Option.bind (lift_Less_1_1_m e_1 e_2 e_3 e_4 e_6) fun t3 =>
    some t3
  else
    Option.bind (lift_Less_2_2_m e_1 e_2 e_3 e_4) fun t4 =>
    bif t4 then
      Option.bind (lift_Less_1_2_m e_1 e_2 e_3 e_4 e_6) fun t6 =>
      some t6
    else
      Option.bind (lift_Less_1_1_m e_1 e_2 e_3 e_4 e_6) fun t7 =>
      bif t7 then
        Option.bind (lift_Less_1_2_m e_1 e_2 e_3 e_4 e_6) fun t8 =>
        some t8
      else
        some false

theorem lift_Less_4_ok {e_1 : T_api_Base} {e_2 : (List T_api_Argument)} {e_3 : Int} {e_4 : Int} {e_6 : T_api_Ordering} {b_0 : Nat} {be_1 : Nat} {be_2 : Nat} {be_3 : Nat} {be_4 : Nat} {b_1 : Nat} {be_6 : Nat} {r : Bool} (hm : lift_Less_4_m e_1 e_2 e_3 e_4 e_6 = some r) :
    FnOk prog 45 [pv (ptr b_0 0), pv (ptr b_1 0)] [oc b_0 [pv (.func (.func 43) #[] #[(ptr be_1 0), (ptr be_2 0), (ptr be_3 0), (ptr be_4 0)])], oc be_1 [slv rT_api_Premise e_1.Premises, slv rT_api_Rule e_1.Rules, slv rT_api_Promotion e_1.Promotions], oc be_2 [slv rT_api_Argument e_2], oc be_3 [iv .i64 e_3], oc be_4 [iv .i64 e_4], oc b_1 [pv (.func (.func 42) #[] #[(ptr be_1 0), (ptr be_2 0), (ptr be_3 0), (ptr be_4 0), (ptr be_6 0)])], oc be_6 [iv .i64 e_6.Link, iv .i64 e_6.Lift]] (fun (x : Unit) => [bv r]) (fun (x : Unit) => [oc b_0 [pv (.func (.func 43) #[] #[(ptr be_1 0), (ptr be_2 0), (ptr be_3 0), (ptr be_4 0)])], oc be_1 [slv rT_api_Premise e_1.Premises, slv rT_api_Rule e_1.Rules, slv rT_api_Promotion e_1.Promotions], oc be_2 [slv rT_api_Argument e_2], oc be_3 [iv .i64 e_3], oc be_4 [iv .i64 e_4], oc b_1 [pv (.func (.func 42) #[] #[(ptr be_1 0), (ptr be_2 0), (ptr be_3 0), (ptr be_4 0), (ptr be_6 0)])], oc be_6 [iv .i64 e_6.Link, iv .i64 e_6.Lift]]) := by
  refine fn_ok (fn := Try.f45) (N := 19) (res := fun r x => [bv r]) (Ω1 := fun r x => [oc b_0 [pv (.func (.func 43) #[] #[(ptr be_1 0), (ptr be_2 0), (ptr be_3 0), (ptr be_4 0)])], oc be_1 [slv rT_api_Premise e_1.Premises, slv rT_api_Rule e_1.Rules, slv rT_api_Promotion e_1.Promotions], oc be_2 [slv rT_api_Argument e_2], oc be_3 [iv .i64 e_3], oc be_4 [iv .i64 e_4], oc b_1 [pv (.func (.func 42) #[] #[(ptr be_1 0), (ptr be_2 0), (ptr be_3 0), (ptr be_4 0), (ptr be_6 0)])], oc be_6 [iv .i64 e_6.Link, iv .i64 e_6.Lift]]) Try.func45 rfl rfl hm rfl (fun E hM => ?_)
  unfold lift_Less_4_m
  refine ref_seq (ref_region ?_)
  refine as1 rfl rfl ?_
  refine l_nil (n_then (ref_seq (ref_block (ref_seq (ref_region ?_)))))
  refine s_rd (r_cload Try.isAgg73 rfl (j := 0) rfl rfl) rfl ?_
  refine pull fun t1 h_t1 => ?_
  refine s_st (s_callC [1, 2, 3, 4] [true, true, true, true] (fun (_ : Unit) => [oc be_1 [slv rT_api_Premise e_1.Premises, slv rT_api_Rule e_1.Rules, slv rT_api_Promotion e_1.Promotions], oc be_2 [slv rT_api_Argument e_2], oc be_3 [iv .i64 e_3], oc be_4 [iv .i64 e_4]]) (fun (_ : Unit) => []) (fun (_ : Unit) => bv t1) (args := [.func 17]) (caps := [(ptr be_1 0), (ptr be_2 0), (ptr be_3 0), (ptr be_4 0)]) Try.call43 rfl (lift_Less_2_1_ok h_t1) ⟨rfl, rfl, ⟨rfl, rfl, ⟨rfl, rfl, ⟨rfl, rfl, trivial⟩⟩⟩⟩ (fun _ => rfl) (fun _ => trivial) (fun _ => rfl) ⟨arg rfl, arg rfl, arg rfl, arg rfl, arg rfl, trivial⟩ (fun _ _ _ _ h => h)) rfl (fun _ => ?_)
  refine as1 rfl rfl ?_
  refine l_nil ?_
  refine b_of (nrm [oc b_0 [pv (.func (.func 43) #[] #[(ptr be_1 0), (ptr be_2 0), (ptr be_3 0), (ptr be_4 0)])], oc be_1 [slv rT_api_Premise e_1.Premises, slv rT_api_Rule e_1.Rules, slv rT_api_Promotion e_1.Promotions], oc be_2 [slv rT_api_Argument e_2], oc be_3 [iv .i64 e_3], oc be_4 [iv .i64 e_4], oc b_1 [pv (.func (.func 42) #[] #[(ptr be_1 0), (ptr be_2 0), (ptr be_3 0), (ptr be_4 0), (ptr be_6 0)])], oc be_6 [iv .i64 e_6.Link, iv .i64 e_6.Lift]] rfl) ?_
  refine n_then ?_
  refine ref_cond rfl (fun hb2 => ?_) (fun hb2 => ?_)
  · refine ref_seq (ref_region ?_)
    refine s_rd (r_cload Try.isAgg73 rfl (j := 5) rfl rfl) rfl ?_
    refine pull fun t3 h_t3 => ?_
    refine s_st (s_callC [1, 2, 3, 4, 6] [true, true, true, true, true] (fun (_ : Unit) => [oc be_1 [slv rT_api_Premise e_1.Premises, slv rT_api_Rule e_1.Rules, slv rT_api_Promotion e_1.Promotions], oc be_2 [slv rT_api_Argument e_2], oc be_3 [iv .i64 e_3], oc be_4 [iv .i64 e_4], oc be_6 [iv .i64 e_6.Link, iv .i64 e_6.Lift]]) (fun (_ : Unit) => []) (fun (_ : Unit) => bv t3) (args := [.func 15]) (caps := [(ptr be_1 0), (ptr be_2 0), (ptr be_3 0), (ptr be_4 0), (ptr be_6 0)]) Try.call42 rfl (lift_Less_1_1_ok h_t3) ⟨rfl, rfl, ⟨rfl, rfl, ⟨rfl, rfl, ⟨rfl, rfl, ⟨rfl, rfl, trivial⟩⟩⟩⟩⟩ (fun _ => rfl) (fun _ => trivial) (fun _ => rfl) ⟨arg rfl, arg rfl, arg rfl, arg rfl, arg rfl, arg rfl, trivial⟩ (fun _ _ _ _ h => h)) rfl (fun _ => ?_)
    refine as1 rfl rfl ?_
    refine l_nil ?_
    refine b_of (nrm [oc b_0 [pv (.func (.func 43) #[] #[(ptr be_1 0), (ptr be_2 0), (ptr be_3 0), (ptr be_4 0)])], oc be_1 [slv rT_api_Premise e_1.Premises, slv rT_api_Rule e_1.Rules, slv rT_api_Promotion e_1.Promotions], oc be_2 [slv rT_api_Argument e_2], oc be_3 [iv .i64 e_3], oc be_4 [iv .i64 e_4], oc b_1 [pv (.func (.func 42) #[] #[(ptr be_1 0), (ptr be_2 0), (ptr be_3 0), (ptr be_4 0), (ptr be_6 0)])], oc be_6 [iv .i64 e_6.Link, iv .i64 e_6.Lift]] rfl) ?_
    refine n_then (ref_ret (r_block (r_then ?_)))
    exact fin1 (.inl rfl) () [0, 1, 2, 3, 4, 5, 6] rfl ⟨rfl, rfl, rfl, rfl, rfl, rfl, rfl, trivial⟩ rfl (rv_tmp rfl)
  refine ref_seq (ref_region ?_)
  refine s_rd (r_cload Try.isAgg73 rfl (j := 0) rfl rfl) rfl ?_
  refine pull fun t4 h_t4 => ?_
  refine s_st (s_callC [1, 2, 3, 4] [true, true, true, true] (fun (_ : Unit) => [oc be_1 [slv rT_api_Premise e_1.Premises, slv rT_api_Rule e_1.Rules, slv rT_api_Promotion e_1.Promotions], oc be_2 [slv rT_api_Argument e_2], oc be_3 [iv .i64 e_3], oc be_4 [iv .i64 e_4]]) (fun (_ : Unit) => []) (fun (_ : Unit) => bv t4) (args := [.func 15]) (caps := [(ptr be_1 0), (ptr be_2 0), (ptr be_3 0), (ptr be_4 0)]) Try.call43 rfl (lift_Less_2_2_ok h_t4) ⟨rfl, rfl, ⟨rfl, rfl, ⟨rfl, rfl, ⟨rfl, rfl, trivial⟩⟩⟩⟩ (fun _ => rfl) (fun _ => trivial) (fun _ => rfl) ⟨arg rfl, arg rfl, arg rfl, arg rfl, arg rfl, trivial⟩ (fun _ _ _ _ h => h)) rfl (fun _ => ?_)
  refine as1 rfl rfl ?_
  refine l_nil ?_
  refine b_of (nrm [oc b_0 [pv (.func (.func 43) #[] #[(ptr be_1 0), (ptr be_2 0), (ptr be_3 0), (ptr be_4 0)])], oc be_1 [slv rT_api_Premise e_1.Premises, slv rT_api_Rule e_1.Rules, slv rT_api_Promotion e_1.Promotions], oc be_2 [slv rT_api_Argument e_2], oc be_3 [iv .i64 e_3], oc be_4 [iv .i64 e_4], oc b_1 [pv (.func (.func 42) #[] #[(ptr be_1 0), (ptr be_2 0), (ptr be_3 0), (ptr be_4 0), (ptr be_6 0)])], oc be_6 [iv .i64 e_6.Link, iv .i64 e_6.Lift]] rfl) ?_
  refine n_then ?_
  refine ref_cond rfl (fun hb5 => ?_) (fun hb5 => ?_)
  · refine ref_seq (ref_region ?_)
    refine s_rd (r_cload Try.isAgg73 rfl (j := 5) rfl rfl) rfl ?_
    refine pull fun t6 h_t6 => ?_
    refine s_st (s_callC [1, 2, 3, 4, 6] [true, true, true, true, true] (fun (_ : Unit) => [oc be_1 [slv rT_api_Premise e_1.Premises, slv rT_api_Rule e_1.Rules, slv rT_api_Promotion e_1.Promotions], oc be_2 [slv rT_api_Argument e_2], oc be_3 [iv .i64 e_3], oc be_4 [iv .i64 e_4], oc be_6 [iv .i64 e_6.Link, iv .i64 e_6.Lift]]) (fun (_ : Unit) => []) (fun (_ : Unit) => bv t6) (args := [.func 17]) (caps := [(ptr be_1 0), (ptr be_2 0), (ptr be_3 0), (ptr be_4 0), (ptr be_6 0)]) Try.call42 rfl (lift_Less_1_2_ok h_t6) ⟨rfl, rfl, ⟨rfl, rfl, ⟨rfl, rfl, ⟨rfl, rfl, ⟨rfl, rfl, trivial⟩⟩⟩⟩⟩ (fun _ => rfl) (fun _ => trivial) (fun _ => rfl) ⟨arg rfl, arg rfl, arg rfl, arg rfl, arg rfl, arg rfl, trivial⟩ (fun _ _ _ _ h => h)) rfl (fun _ => ?_)
    refine as1 rfl rfl ?_
    refine l_nil ?_
    refine b_of (nrm [oc b_0 [pv (.func (.func 43) #[] #[(ptr be_1 0), (ptr be_2 0), (ptr be_3 0), (ptr be_4 0)])], oc be_1 [slv rT_api_Premise e_1.Premises, slv rT_api_Rule e_1.Rules, slv rT_api_Promotion e_1.Promotions], oc be_2 [slv rT_api_Argument e_2], oc be_3 [iv .i64 e_3], oc be_4 [iv .i64 e_4], oc b_1 [pv (.func (.func 42) #[] #[(ptr be_1 0), (ptr be_2 0), (ptr be_3 0), (ptr be_4 0), (ptr be_6 0)])], oc be_6 [iv .i64 e_6.Link, iv .i64 e_6.Lift]] rfl) ?_
    refine n_then (ref_ret (r_block (r_then ?_)))
    exact fin1 (.inl rfl) () [0, 1, 2, 3, 4, 5, 6] rfl ⟨rfl, rfl, rfl, rfl, rfl, rfl, rfl, trivial⟩ rfl (rv_tmp rfl)
  refine ref_skip (n_block (n_then (ref_seq (ref_region ?_))))
  refine s_rd (r_cload Try.isAgg73 rfl (j := 5) rfl rfl) rfl ?_
  refine pull fun t7 h_t7 => ?_
  refine s_st (s_callC [1, 2, 3, 4, 6] [true, true, true, true, true] (fun (_ : Unit) => [oc be_1 [slv rT_api_Premise e_1.Premises, slv rT_api_Rule e_1.Rules, slv rT_api_Promotion e_1.Promotions], oc be_2 [slv rT_api_Argument e_2], oc be_3 [iv .i64 e_3], oc be_4 [iv .i64 e_4], oc be_6 [iv .i64 e_6.Link, iv .i64 e_6.Lift]]) (fun (_ : Unit) => []) (fun (_ : Unit) => bv t7) (args := [.func 15]) (caps := [(ptr be_1 0), (ptr be_2 0), (ptr be_3 0), (ptr be_4 0), (ptr be_6 0)]) Try.call42 rfl (lift_Less_1_1_ok h_t7) ⟨rfl, rfl, ⟨rfl, rfl, ⟨rfl, rfl, ⟨rfl, rfl, ⟨rfl, rfl, trivial⟩⟩⟩⟩⟩ (fun _ => rfl) (fun _ => trivial) (fun _ => rfl) ⟨arg rfl, arg rfl, arg rfl, arg rfl, arg rfl, arg rfl, trivial⟩ (fun _ _ _ _ h => h)) rfl (fun _ => ?_)
  refine mv1 rfl rfl ?_
  refine b_split (t := 15) rfl (fun _ => ?_) (fun _ => ?_)
  · refine s_on rfl rfl rfl ?_
    refine s_rd (r_cload Try.isAgg73 rfl (j := 5) rfl rfl) rfl ?_
    refine s_on rfl rfl rfl ?_
    refine pull fun t8 h_t8 => ?_
    refine s_st (s_callC [1, 2, 3, 4, 6] [true, true, true, true, true] (fun (_ : Unit) => [oc be_1 [slv rT_api_Premise e_1.Premises, slv rT_api_Rule e_1.Rules, slv rT_api_Promotion e_1.Promotions], oc be_2 [slv rT_api_Argument e_2], oc be_3 [iv .i64 e_3], oc be_4 [iv .i64 e_4], oc be_6 [iv .i64 e_6.Link, iv .i64 e_6.Lift]]) (fun (_ : Unit) => []) (fun (_ : Unit) => bv t8) (args := [.func 17]) (caps := [(ptr be_1 0), (ptr be_2 0), (ptr be_3 0), (ptr be_4 0), (ptr be_6 0)]) Try.call42 rfl (lift_Less_1_2_ok h_t8) ⟨rfl, rfl, ⟨rfl, rfl, ⟨rfl, rfl, ⟨rfl, rfl, ⟨rfl, rfl, trivial⟩⟩⟩⟩⟩ (fun _ => rfl) (fun _ => trivial) (fun _ => rfl) ⟨arg rfl, arg rfl, arg rfl, arg rfl, arg rfl, arg rfl, trivial⟩ (fun _ _ _ _ h => h)) rfl (fun _ => ?_)
    refine s_rd (r_pickT rfl rfl) rfl ?_
    refine as1 rfl rfl ?_
    refine l_nil ?_
    refine b_of (nrm [oc b_0 [pv (.func (.func 43) #[] #[(ptr be_1 0), (ptr be_2 0), (ptr be_3 0), (ptr be_4 0)])], oc be_1 [slv rT_api_Premise e_1.Premises, slv rT_api_Rule e_1.Rules, slv rT_api_Promotion e_1.Promotions], oc be_2 [slv rT_api_Argument e_2], oc be_3 [iv .i64 e_3], oc be_4 [iv .i64 e_4], oc b_1 [pv (.func (.func 42) #[] #[(ptr be_1 0), (ptr be_2 0), (ptr be_3 0), (ptr be_4 0), (ptr be_6 0)])], oc be_6 [iv .i64 e_6.Link, iv .i64 e_6.Lift]] rfl) ?_
    refine n_then (ref_ret ?_)
    exact fin1 (.inl rfl) () [0, 1, 2, 3, 4, 5, 6] rfl ⟨rfl, rfl, rfl, rfl, rfl, rfl, rfl, trivial⟩ rfl (rv_tmp rfl)
  refine s_off rfl rfl rfl rfl rfl ?_
  refine s_off rfl rfl rfl rfl rfl ?_
  refine s_rd (r_pickF rfl rfl) rfl ?_
  refine as1 rfl rfl ?_
  refine l_nil ?_
  refine b_of (nrm [oc b_0 [pv (.func (.func 43) #[] #[(ptr be_1 0), (ptr be_2 0), (ptr be_3 0), (ptr be_4 0)])], oc be_1 [slv rT_api_Premise e_1.Premises, slv rT_api_Rule e_1.Rules, slv rT_api_Promotion e_1.Promotions], oc be_2 [slv rT_api_Argument e_2], oc be_3 [iv .i64 e_3], oc be_4 [iv .i64 e_4], oc b_1 [pv (.func (.func 42) #[] #[(ptr be_1 0), (ptr be_2 0), (ptr be_3 0), (ptr be_4 0), (ptr be_6 0)])], oc be_6 [iv .i64 e_6.Link, iv .i64 e_6.Lift]] rfl) ?_
  refine n_then (ref_ret ?_)
  exact fin1 (.inl rfl) () [0, 1, 2, 3, 4, 5, 6] rfl ⟨rfl, rfl, rfl, rfl, rfl, rfl, rfl, trivial⟩ rfl (rv_tmp rfl)

/-! deliberation/lift.Less -/
noncomputable def lift_Less_m (b_0 : T_api_Base) (l_1 : (List T_api_Argument)) (i_2 : Int) (k_3 : Int) (o_4 : T_api_Ordering) : Option (Bool) :=
  bif decide ((imin i_2 k_3) < 0) then
    some false
  else
    bif decide ((imax i_2 k_3) ≥ (l_1.length : Int)) then
      some false
    else
      Option.bind (lift_Assumes_m b_0 l_1 k_3) fun t6 =>
      bif t6 then
        some false
      else
        bif o_4.Link == 1 then
          Option.bind (lift_Less_3_m b_0 l_1 i_2 k_3 o_4) fun t12 =>
          some t12
        else
          bif o_4.Link == 2 then
            Option.bind (lift_Less_4_m b_0 l_1 i_2 k_3 o_4) fun t13 =>
            some t13
          else
            some false

theorem lift_Less_ok {b_0 : T_api_Base} {l_1 : (List T_api_Argument)} {i_2 : Int} {k_3 : Int} {o_4 : T_api_Ordering} {r : Bool} (hm : lift_Less_m b_0 l_1 i_2 k_3 o_4 = some r) :
    FnOk prog 24 [ag [slv rT_api_Premise b_0.Premises, slv rT_api_Rule b_0.Rules, slv rT_api_Promotion b_0.Promotions], slv rT_api_Argument l_1, iv .i64 i_2, iv .i64 k_3, ag [iv .i64 o_4.Link, iv .i64 o_4.Lift]] [] (fun (x : Unit) => [bv r]) (fun (x : Unit) => []) := by
  refine fn_ok (fn := Try.f24) (N := 44) (res := fun r x => [bv r]) (Ω1 := fun r x => []) Try.func24 rfl rfl hm rfl (fun E hM => ?_)
  unfold lift_Less_m
  refine ref_seq (ref_region ?_)
  refine s_st (s_box (part_agO (ψs := [slv rT_api_Premise b_0.Premises, slv rT_api_Rule b_0.Rules, slv rT_api_Promotion b_0.Promotions]) rfl ⟨.inl slv_at, .inl slv_at, .inl slv_at, trivial⟩)) rfl (fun b1 => ?_)
  refine s_st (s_box (part_at rfl slv_at)) rfl (fun b2 => ?_)
  refine s_st (s_box (part_at rfl iv_at)) rfl (fun b3 => ?_)
  refine s_st (s_box (part_at rfl iv_at)) rfl (fun b4 => ?_)
  refine s_st (s_box (part_agO (ψs := [iv .i64 o_4.Link, iv .i64 o_4.Lift]) rfl ⟨.inl iv_at, .inl iv_at, trivial⟩)) rfl (fun b5 => ?_)
  refine as1 rfl rfl ?_
  refine l_nil ?_
  refine b_of (nrm [oc b1 [slv rT_api_Premise b_0.Premises, slv rT_api_Rule b_0.Rules, slv rT_api_Promotion b_0.Promotions], oc b2 [slv rT_api_Argument l_1], oc b3 [iv .i64 i_2], oc b4 [iv .i64 k_3], oc b5 [iv .i64 o_4.Link, iv .i64 o_4.Lift]] rfl) ?_
  refine n_then (ref_seq (ref_seq (ref_region ?_)))
  refine s_rd (r_cload Try.isAgg3 rfl (j := 2) rfl rfl) rfl ?_
  refine s_rd (r_cload Try.isAgg3 rfl (j := 3) rfl rfl) rfl ?_
  refine s_rd (r_min rfl rfl) rfl ?_
  refine s_rd (r_lss rfl rfl) rfl ?_
  refine mv1 rfl rfl ?_
  refine b_split (t := 18) rfl (fun _ => ?_) (fun _ => ?_)
  · refine s_off rfl rfl rfl rfl rfl ?_
    refine s_off rfl rfl rfl rfl rfl ?_
    refine s_off rfl rfl rfl rfl rfl ?_
    refine s_off rfl rfl rfl rfl rfl ?_
    refine s_off rfl rfl rfl rfl rfl ?_
    refine s_off rfl rfl rfl rfl rfl ?_
    refine s_rd (r_pickT rfl rfl) rfl ?_
    refine mv1 rfl rfl ?_
    refine s_off rfl rfl rfl rfl rfl ?_
    refine s_off rfl rfl rfl rfl rfl ?_
    refine s_off rfl rfl rfl rfl rfl ?_
    refine s_off rfl rfl rfl rfl rfl ?_
    refine s_rd (r_pickT rfl rfl) rfl ?_
    refine l_nil (n_then ?_)
    refine ref_condT rfl rfl ?_
    refine ref_seq (ref_region ?_)
    refine as1 rfl rfl ?_
    refine l_nil (n_then (ref_ret (r_then ?_)))
    exact fin1 (.inl rfl) () [] rfl trivial rfl (rv_tmp rfl)
  refine s_on rfl rfl rfl ?_
  refine s_rd (r_cload Try.isAgg3 rfl (j := 2) rfl rfl) rfl ?_
  refine s_on rfl rfl rfl ?_
  refine s_rd (r_cload Try.isAgg3 rfl (j := 3) rfl rfl) rfl ?_
  refine s_on rfl rfl rfl ?_
  refine s_rd (r_max rfl rfl) rfl ?_
  refine s_on rfl rfl rfl ?_
  refine s_rd (r_cload Try.isAgg35 rfl (j := 1) rfl rfl) rfl ?_
  refine s_on rfl rfl rfl ?_
  refine s_rd (r_len Try.underlying35 rfl) rfl ?_
  refine s_on rfl rfl rfl ?_
  refine s_rd (r_geq rfl rfl) rfl ?_
  refine s_rd (r_pickF rfl rfl) rfl ?_
  refine mv1 rfl rfl ?_
  refine b_split (t := 26) rfl (fun _ => ?_) (fun _ => ?_)
  · refine s_off rfl rfl rfl rfl rfl ?_
    refine s_off rfl rfl rfl rfl rfl ?_
    refine s_off rfl rfl rfl rfl rfl ?_
    refine s_off rfl rfl rfl rfl rfl ?_
    refine s_rd (r_pickT rfl rfl) rfl ?_
    refine l_nil (n_then ?_)
    refine ref_condT rfl rfl ?_
    refine ref_seq (ref_region ?_)
    refine as1 rfl rfl ?_
    refine l_nil (n_then (ref_ret (r_then ?_)))
    exact fin1 (.inl rfl) () [] rfl trivial rfl (rv_tmp rfl)
  refine s_on rfl rfl rfl ?_
  refine s_rd (r_cloadS Try.isAgg34 Try.sizeOf34 rfl (j := 0) rfl rfl rfl) rfl ?_
  refine s_on rfl rfl rfl ?_
  refine s_rd (r_cload Try.isAgg35 rfl (j := 1) rfl rfl) rfl ?_
  refine s_on rfl rfl rfl ?_
  refine s_rd (r_cload Try.isAgg3 rfl (j := 3) rfl rfl) rfl ?_
  refine s_on rfl rfl rfl ?_
  refine pull fun t6 h_t6 => ?_
  refine s_st (s_call (ψ := fun (_ : Unit) => bv t6) (args := [.tmp 27, .tmp 28, .tmp 29]) Try.call21 rfl (lift_Assumes_ok h_t6) ⟨arg rfl, arg rfl, arg rfl, trivial⟩ (fun _ _ _ _ h => h)) rfl (fun _ => ?_)
  refine s_rd (r_pickF rfl rfl) rfl ?_
  refine l_nil (n_then ?_)
  refine ref_cond rfl (fun hb7 => ?_) (fun hb7 => ?_)
  · refine ref_seq (ref_region ?_)
    refine as1 rfl rfl ?_
    refine l_nil (n_then (ref_ret (r_then ?_)))
    exact fin1 (.inl rfl) () [] rfl trivial rfl (rv_tmp rfl)
  refine ref_skip (n_then (ref_seq (ref_region ?_)))
  refine s_rd (r_mkfn (xs := [.tmp 5, .tmp 6, .tmp 7, .tmp 8, .tmp 9]) (vs := [(ptr b1 0), (ptr b2 0), (ptr b3 0), (ptr b4 0), (ptr b5 0)]) ⟨rfl, rfl, rfl, rfl, rfl, trivial⟩) rfl ?_
  refine s_st (s_alloc zt_73) rfl (fun b8 => ?_)
  refine s_st0 (s_cstore (out := [pv (.func (.func 42) #[] #[(ptr b1 0), (ptr b2 0), (ptr b3 0), (ptr b4 0), (ptr b5 0)])]) Try.sizeOf73 rfl (j := 5) rfl (part_at (φ := pv (.func (.func 42) #[] #[(ptr b1 0), (ptr b2 0), (ptr b3 0), (ptr b4 0), (ptr b5 0)])) rfl (pv_at rfl)) rfl rfl rfl) (fun _ => ?_)
  refine l_nil (n_then (ref_seq (ref_region ?_)))
  refine s_rd (r_mkfn (xs := [.tmp 5, .tmp 6, .tmp 7, .tmp 8]) (vs := [(ptr b1 0), (ptr b2 0), (ptr b3 0), (ptr b4 0)]) ⟨rfl, rfl, rfl, rfl, trivial⟩) rfl ?_
  refine s_st (s_alloc zt_73) rfl (fun b9 => ?_)
  refine s_st0 (s_cstore (out := [pv (.func (.func 43) #[] #[(ptr b1 0), (ptr b2 0), (ptr b3 0), (ptr b4 0)])]) Try.sizeOf73 rfl (j := 6) rfl (part_at (φ := pv (.func (.func 43) #[] #[(ptr b1 0), (ptr b2 0), (ptr b3 0), (ptr b4 0)])) rfl (pv_at rfl)) rfl rfl rfl) (fun _ => ?_)
  refine l_nil ?_
  refine b_of (nrm [oc b1 [slv rT_api_Premise b_0.Premises, slv rT_api_Rule b_0.Rules, slv rT_api_Promotion b_0.Promotions], oc b2 [slv rT_api_Argument l_1], oc b3 [iv .i64 i_2], oc b4 [iv .i64 k_3], oc b5 [iv .i64 o_4.Link, iv .i64 o_4.Lift], oc b8 [pv (.func (.func 42) #[] #[(ptr b1 0), (ptr b2 0), (ptr b3 0), (ptr b4 0), (ptr b5 0)])], oc b9 [pv (.func (.func 43) #[] #[(ptr b1 0), (ptr b2 0), (ptr b3 0), (ptr b4 0)])]] rfl) ?_
  refine n_then (ref_seq (ref_region ?_))
  refine as1 rfl rfl ?_
  refine l_nil (n_then (ref_seq (ref_seq (ref_region ?_))))
  refine s_rd (r_faddr (fo := 0) Try.underlying43 rfl rfl Try.sizeOf3 rfl) rfl ?_
  refine s_rd (r_cload Try.isAgg3 rfl (j := 4) rfl rfl) rfl ?_
  refine l_nil (n_then (ref_block (ref_seq (ref_region ?_))))
  refine s_rd (r_eql rfl rfl) rfl ?_
  refine as1 rfl rfl ?_
  refine l_nil (n_then ?_)
  refine ref_cond rfl (fun hb10 => ?_) (fun hb10 => ?_)
  · refine ref_region ?_
    refine s_rd (r_mkfn (xs := [.tmp 11, .tmp 12]) (vs := [(ptr b8 0), (ptr b9 0)]) ⟨rfl, rfl, trivial⟩) rfl ?_
    refine as1 rfl rfl ?_
    refine l_nil (n_block (n_then (ref_seq (ref_region ?_))))
    refine mv1 rfl rfl ?_
    refine pull fun t12 h_t12 => ?_
    refine s_st (s_callC [5, 0, 1, 2, 3, 4, 6] [true, true, true, true, true, true, true] (fun (_ : Unit) => [oc b8 [pv (.func (.func 42) #[] #[(ptr b1 0), (ptr b2 0), (ptr b3 0), (ptr b4 0), (ptr b5 0)])], oc b1 [slv rT_api_Premise b_0.Premises, slv rT_api_Rule b_0.Rules, slv rT_api_Promotion b_0.Promotions], oc b2 [slv rT_api_Argument l_1], oc b3 [iv .i64 i_2], oc b4 [iv .i64 k_3], oc b5 [iv .i64 o_4.Link, iv .i64 o_4.Lift], oc b9 [pv (.func (.func 43) #[] #[(ptr b1 0), (ptr b2 0), (ptr b3 0), (ptr b4 0)])]]) (fun (_ : Unit) => []) (fun (_ : Unit) => bv t12) (args := []) (caps := [(ptr b8 0), (ptr b9 0)]) Try.call44 rfl (lift_Less_3_ok h_t12) ⟨rfl, rfl, ⟨rfl, rfl, ⟨rfl, rfl, ⟨rfl, rfl, ⟨rfl, rfl, ⟨rfl, rfl, ⟨rfl, rfl, trivial⟩⟩⟩⟩⟩⟩⟩ (fun _ => rfl) (fun _ => trivial) (fun _ => rfl) ⟨arg rfl, arg rfl, trivial⟩ (fun _ _ _ _ h => h)) rfl (fun _ => ?_)
    refine as1 rfl rfl ?_
    refine l_nil ?_
    refine b_of (nrm [oc b1 [slv rT_api_Premise b_0.Premises, slv rT_api_Rule b_0.Rules, slv rT_api_Promotion b_0.Promotions], oc b2 [slv rT_api_Argument l_1], oc b3 [iv .i64 i_2], oc b4 [iv .i64 k_3], oc b5 [iv .i64 o_4.Link, iv .i64 o_4.Lift], oc b8 [pv (.func (.func 42) #[] #[(ptr b1 0), (ptr b2 0), (ptr b3 0), (ptr b4 0), (ptr b5 0)])], oc b9 [pv (.func (.func 43) #[] #[(ptr b1 0), (ptr b2 0), (ptr b3 0), (ptr b4 0)])]] rfl) ?_
    refine n_then (ref_ret ?_)
    exact fin1 (.inl rfl) () [] rfl trivial rfl (rv_tmp rfl)
  refine ref_seq (ref_region ?_)
  refine s_rd (r_eql rfl rfl) rfl ?_
  refine as1 rfl rfl ?_
  refine l_nil (n_then ?_)
  refine ref_cond rfl (fun hb11 => ?_) (fun hb11 => ?_)
  · refine ref_region ?_
    refine s_rd (r_mkfn (xs := [.tmp 12, .tmp 11]) (vs := [(ptr b9 0), (ptr b8 0)]) ⟨rfl, rfl, trivial⟩) rfl ?_
    refine as1 rfl rfl ?_
    refine l_nil (n_block (n_then (ref_seq (ref_region ?_))))
    refine mv1 rfl rfl ?_
    refine pull fun t13 h_t13 => ?_
    refine s_st (s_callC [6, 0, 1, 2, 3, 5, 4] [true, true, true, true, true, true, true] (fun (_ : Unit) => [oc b9 [pv (.func (.func 43) #[] #[(ptr b1 0), (ptr b2 0), (ptr b3 0), (ptr b4 0)])], oc b1 [slv rT_api_Premise b_0.Premises, slv rT_api_Rule b_0.Rules, slv rT_api_Promotion b_0.Promotions], oc b2 [slv rT_api_Argument l_1], oc b3 [iv .i64 i_2], oc b4 [iv .i64 k_3], oc b8 [pv (.func (.func 42) #[] #[(ptr b1 0), (ptr b2 0), (ptr b3 0), (ptr b4 0), (ptr b5 0)])], oc b5 [iv .i64 o_4.Link, iv .i64 o_4.Lift]]) (fun (_ : Unit) => []) (fun (_ : Unit) => bv t13) (args := []) (caps := [(ptr b9 0), (ptr b8 0)]) Try.call45 rfl (lift_Less_4_ok h_t13) ⟨rfl, rfl, ⟨rfl, rfl, ⟨rfl, rfl, ⟨rfl, rfl, ⟨rfl, rfl, ⟨rfl, rfl, ⟨rfl, rfl, trivial⟩⟩⟩⟩⟩⟩⟩ (fun _ => rfl) (fun _ => trivial) (fun _ => rfl) ⟨arg rfl, arg rfl, trivial⟩ (fun _ _ _ _ h => h)) rfl (fun _ => ?_)
    refine as1 rfl rfl ?_
    refine l_nil ?_
    refine b_of (nrm [oc b1 [slv rT_api_Premise b_0.Premises, slv rT_api_Rule b_0.Rules, slv rT_api_Promotion b_0.Promotions], oc b2 [slv rT_api_Argument l_1], oc b3 [iv .i64 i_2], oc b4 [iv .i64 k_3], oc b5 [iv .i64 o_4.Link, iv .i64 o_4.Lift], oc b8 [pv (.func (.func 42) #[] #[(ptr b1 0), (ptr b2 0), (ptr b3 0), (ptr b4 0), (ptr b5 0)])], oc b9 [pv (.func (.func 43) #[] #[(ptr b1 0), (ptr b2 0), (ptr b3 0), (ptr b4 0)])]] rfl) ?_
    refine n_then (ref_ret ?_)
    exact fin1 (.inl rfl) () [] rfl trivial rfl (rv_tmp rfl)
  refine ref_seq (ref_region ?_)
  refine as1 rfl rfl ?_
  refine l_nil (n_then (ref_ret (r_block (r_then ?_))))
  exact fin1 (.inl rfl) () [] rfl trivial rfl (rv_tmp rfl)

/-! deliberation/deliberationlaw08.awake -/
noncomputable def law08_awake_m  : Option (Bool) :=
  Option.bind (ref07_Build_m (T_api_Base.mk [(T_api_Premise.mk (T_api_Literal.mk false (ByteArray.mk #[112])) 2 0 ByteArray.empty)] [(T_api_Rule.mk (ByteArray.mk #[100]) false 9 [(T_api_Literal.mk false (ByteArray.mk #[112]))] (T_api_Literal.mk false (ByteArray.mk #[113])))] [])) fun t3 =>
  Option.bind (lift_SetLess_m [2, 5] [3] 1) fun t6 =>
  bif t6 then
    Option.bind (lift_SetLess_m [2, 5] [3] 2) fun t7 =>
    bif !t7 then
      bif t3.2 == 0 then
        bif (t3.1.length : Int) == 2 then
          Option.bind (lift_Less_m (T_api_Base.mk [(T_api_Premise.mk (T_api_Literal.mk false (ByteArray.mk #[112])) 2 0 ByteArray.empty)] [(T_api_Rule.mk (ByteArray.mk #[100]) false 9 [(T_api_Literal.mk false (ByteArray.mk #[112]))] (T_api_Literal.mk false (ByteArray.mk #[113])))] []) t3.1 1 0 (T_api_Ordering.mk 1 1)) fun t8 =>
          bif t8 then
            Option.bind (lift_Less_m (T_api_Base.mk [(T_api_Premise.mk (T_api_Literal.mk false (ByteArray.mk #[112])) 2 0 ByteArray.empty)] [(T_api_Rule.mk (ByteArray.mk #[100]) false 9 [(T_api_Literal.mk false (ByteArray.mk #[112]))] (T_api_Literal.mk false (ByteArray.mk #[113])))] []) t3.1 0 1 (T_api_Ordering.mk 1 1)) fun t9 =>
            some (!t9)
          else
            some false
        else
          some false
      else
        some false
    else
      some false
  else
    some false

theorem law08_awake_ok  {r : Bool} (hm : law08_awake_m  = some r) :
    FnOk prog 12 [] [] (fun (x : Unit) => [bv r]) (fun (x : Unit) => []) := by
  refine fn_ok (fn := Try.f12) (N := 53) (res := fun r x => [bv r]) (Ω1 := fun r x => []) Try.func12 rfl rfl hm rfl (fun E hM => ?_)
  unfold law08_awake_m
  refine ref_seq (ref_region ?_)
  refine as1 rfl rfl ?_
  refine l_nil (n_then (ref_seq (ref_region ?_)))
  refine s_rd (r_build (ps := [(1, .const (.string (ByteArray.mk #[112])))]) (rs := [(1, [sv (ByteArray.mk #[112])])]) st_50 zs_50 ⟨rfl, (part_at rfl sv_at), trivial⟩ rfl rfl) rfl ?_
  refine s_st (s_alloc zt_50) rfl (fun b1 => ?_)
  refine s_st0 (s_cstore (out := [bv false, sv (ByteArray.mk #[112])]) Try.sizeOf50 rfl (j := 0) rfl (part_agO (ψs := [bv false, sv (ByteArray.mk #[112])]) rfl ⟨.inl bv_at, .inl sv_at, trivial⟩) rfl rfl rfl) (fun _ => ?_)
  refine l_nil (n_then (ref_seq (ref_region ?_)))
  refine s_rd (r_cloadS Try.isAgg50 Try.sizeOf50 rfl (j := 0) rfl rfl rfl) rfl ?_
  refine s_rd (r_build (ps := [(0, .tmp 7), (1, .const (.int .i64 (2))), (2, .const (.int .i64 (0)))]) (rs := [(0, [bv false, sv (ByteArray.mk #[112])]), (1, [iv .i64 2]), (2, [iv .i64 0])]) st_64 zs_64 ⟨rfl, (part_agO (ψs := [bv false, sv (ByteArray.mk #[112])]) rfl ⟨.inl bv_at, .inl sv_at, trivial⟩), ⟨rfl, (part_at rfl iv_at), ⟨rfl, (part_at rfl iv_at), trivial⟩⟩⟩ rfl rfl) rfl ?_
  refine s_st (s_bslice (xs := [.tmp 8]) (ds := [(T_api_Premise.mk (T_api_Literal.mk false (ByteArray.mk #[112])) 2 0 ByteArray.empty)]) Try.underlying30 el_64 rfl (Nat.le_of_ble_eq_true rfl) ⟨(part_agO (ψs := [bv false, sv (ByteArray.mk #[112]), iv .i64 2, iv .i64 0, sv ByteArray.empty]) rfl ⟨.inl bv_at, .inl sv_at, .inl iv_at, .inl iv_at, .inl sv_at, trivial⟩), trivial⟩) rfl (fun _ => ?_)
  refine s_rd (r_cloadS Try.isAgg50 Try.sizeOf50 rfl (j := 0) rfl rfl rfl) rfl ?_
  refine s_st (s_bslice (xs := [.tmp 10]) (ds := [(T_api_Literal.mk false (ByteArray.mk #[112]))]) Try.underlying53 el_50 rfl (Nat.le_of_ble_eq_true rfl) ⟨(part_agO (ψs := [bv false, sv (ByteArray.mk #[112])]) rfl ⟨.inl bv_at, .inl sv_at, trivial⟩), trivial⟩) rfl (fun _ => ?_)
  refine s_rd (r_build (ps := [(1, .const (.string (ByteArray.mk #[113])))]) (rs := [(1, [sv (ByteArray.mk #[113])])]) st_50 zs_50 ⟨rfl, (part_at rfl sv_at), trivial⟩ rfl rfl) rfl ?_
  refine s_rd (r_build (ps := [(0, .const (.string (ByteArray.mk #[100]))), (2, .const (.int .i64 (9))), (3, .tmp 11), (4, .tmp 12)]) (rs := [(0, [sv (ByteArray.mk #[100])]), (2, [iv .i64 9]), (3, [slv rT_api_Literal [(T_api_Literal.mk false (ByteArray.mk #[112]))]]), (4, [bv false, sv (ByteArray.mk #[113])])]) st_55 zs_55 ⟨rfl, (part_at rfl sv_at), ⟨rfl, (part_at rfl iv_at), ⟨rfl, (part_at rfl slv_at), ⟨rfl, (part_agO (ψs := [bv false, sv (ByteArray.mk #[113])]) rfl ⟨.inl bv_at, .inl sv_at, trivial⟩), trivial⟩⟩⟩⟩ rfl rfl) rfl ?_
  refine s_st (s_bslice (xs := [.tmp 13]) (ds := [(T_api_Rule.mk (ByteArray.mk #[100]) false 9 [(T_api_Literal.mk false (ByteArray.mk #[112]))] (T_api_Literal.mk false (ByteArray.mk #[113])))]) Try.underlying31 el_55 rfl (Nat.le_of_ble_eq_true rfl) ⟨(part_agO (ψs := [sv (ByteArray.mk #[100]), bv false, iv .i64 9, slv rT_api_Literal [(T_api_Literal.mk false (ByteArray.mk #[112]))], bv false, sv (ByteArray.mk #[113])]) rfl ⟨.inl sv_at, .inl bv_at, .inl iv_at, .inl slv_at, .inl bv_at, .inl sv_at, trivial⟩), trivial⟩) rfl (fun _ => ?_)
  refine s_rd (r_build (ps := [(0, .tmp 9), (1, .tmp 14)]) (rs := [(0, [slv rT_api_Premise [(T_api_Premise.mk (T_api_Literal.mk false (ByteArray.mk #[112])) 2 0 ByteArray.empty)]]), (1, [slv rT_api_Rule [(T_api_Rule.mk (ByteArray.mk #[100]) false 9 [(T_api_Literal.mk false (ByteArray.mk #[112]))] (T_api_Literal.mk false (ByteArray.mk #[113])))]])]) st_34 zs_34 ⟨rfl, (part_at rfl slv_at), ⟨rfl, (part_at rfl slv_at), trivial⟩⟩ rfl rfl) rfl ?_
  refine s_st (s_alloc zt_34) rfl (fun b2 => ?_)
  refine s_st0 (s_cstore (out := [slv rT_api_Premise [(T_api_Premise.mk (T_api_Literal.mk false (ByteArray.mk #[112])) 2 0 ByteArray.empty)], slv rT_api_Rule [(T_api_Rule.mk (ByteArray.mk #[100]) false 9 [(T_api_Literal.mk false (ByteArray.mk #[112]))] (T_api_Literal.mk false (ByteArray.mk #[113])))], pv (.slice none 0 0)]) Try.sizeOf34 rfl (j := 1) rfl (part_agO (ψs := [slv rT_api_Premise [(T_api_Premise.mk (T_api_Literal.mk false (ByteArray.mk #[112])) 2 0 ByteArray.empty)], slv rT_api_Rule [(T_api_Rule.mk (ByteArray.mk #[100]) false 9 [(T_api_Literal.mk false (ByteArray.mk #[112]))] (T_api_Literal.mk false (ByteArray.mk #[113])))], pv (.slice none 0 0)]) rfl ⟨.inl slv_at, .inl slv_at, .inl (pv_at rfl), trivial⟩) rfl rfl rfl) (fun _ => ?_)
  refine l_nil ?_
  refine b_of (nrm [oc b1 [bv false, sv (ByteArray.mk #[112])], oc b2 [slv rT_api_Premise [(T_api_Premise.mk (T_api_Literal.mk false (ByteArray.mk #[112])) 2 0 ByteArray.empty)], slv rT_api_Rule [(T_api_Rule.mk (ByteArray.mk #[100]) false 9 [(T_api_Literal.mk false (ByteArray.mk #[112]))] (T_api_Literal.mk false (ByteArray.mk #[113])))], pv (.slice none 0 0)]] rfl) ?_
  refine n_then (ref_seq (ref_region ?_))
  refine s_rd (r_cloadS Try.isAgg34 Try.sizeOf34 rfl (j := 1) rfl rfl rfl) rfl ?_
  refine b_of (nilG rT_api_Promotion [(17, ag [slv rT_api_Premise [(T_api_Premise.mk (T_api_Literal.mk false (ByteArray.mk #[112])) 2 0 ByteArray.empty)], slv rT_api_Rule [(T_api_Rule.mk (ByteArray.mk #[100]) false 9 [(T_api_Literal.mk false (ByteArray.mk #[112]))] (T_api_Literal.mk false (ByteArray.mk #[113])))], slv rT_api_Promotion []])] [] ⟨⟨_, rfl, .inr ⟨_, _, rfl, rfl, ⟨.inl rfl, .inl rfl, .inr ⟨rfl, rfl⟩, trivial⟩⟩⟩, trivial⟩ trivial) ?_
  refine pull fun t3 h_t3 => ?_
  refine s_st (s_call (ψ := fun (x4 : (Value × List Nat)) => tup [pv x4.1, iv .i64 t3.2]) (args := [.tmp 17]) Try.call31 rfl (ref07_Build_ok h_t3) ⟨arg rfl, trivial⟩ (fun _ _ _ _ h => h)) rfl (fun x4 => ?_)
  refine mv1 rfl rfl ?_
  refine s_rd (r_extract rfl rfl) rfl ?_
  refine s_rd (r_extract rfl rfl) rfl ?_
  refine as1 rfl rfl ?_
  refine as1 rfl rfl ?_
  refine l_nil (n_then (ref_seq (ref_region ?_)))
  refine s_rd (r_build (ps := [(0, .const (.int .i64 (1))), (1, .const (.int .i64 (1)))]) (rs := [(0, [iv .i64 1]), (1, [iv .i64 1])]) st_43 zs_43 ⟨rfl, (part_at rfl iv_at), ⟨rfl, (part_at rfl iv_at), trivial⟩⟩ rfl rfl) rfl ?_
  refine s_st (s_alloc zt_43) rfl (fun b5 => ?_)
  refine s_st0 (s_cstore (out := [iv .i64 1, iv .i64 1]) Try.sizeOf43 rfl (j := 3) rfl (part_agO (ψs := [iv .i64 1, iv .i64 1]) rfl ⟨.inl iv_at, .inl iv_at, trivial⟩) rfl rfl rfl) (fun _ => ?_)
  refine l_nil (n_then (ref_seq (ref_region ?_)))
  refine s_st (s_bslice (xs := [.const (.int .i64 (2)), .const (.int .i64 (5))]) (ds := [2, 5]) Try.underlying22 el_3 rfl (Nat.le_of_ble_eq_true rfl) ⟨(part_at rfl iv_at), ⟨(part_at rfl iv_at), trivial⟩⟩) rfl (fun _ => ?_)
  refine s_st (s_bslice (xs := [.const (.int .i64 (3))]) (ds := [3]) Try.underlying22 el_3 rfl (Nat.le_of_ble_eq_true rfl) ⟨(part_at rfl iv_at), trivial⟩) rfl (fun _ => ?_)
  refine pull fun t6 h_t6 => ?_
  refine s_st (s_call (ψ := fun (_ : Unit) => bv t6) (args := [.tmp 22, .tmp 23, .const (.int .i64 (1))]) Try.call10 rfl (lift_SetLess_ok h_t6) ⟨arg rfl, arg rfl, arg rfl, trivial⟩ (fun _ _ _ _ h => h)) rfl (fun _ => ?_)
  refine mv1 rfl rfl ?_
  refine b_split (t := 25) rfl (fun _ => ?_) (fun _ => ?_)
  · refine s_on rfl rfl rfl ?_
    refine s_st (s_bslice (xs := [.const (.int .i64 (2)), .const (.int .i64 (5))]) (ds := [2, 5]) Try.underlying22 el_3 rfl (Nat.le_of_ble_eq_true rfl) ⟨(part_at rfl iv_at), ⟨(part_at rfl iv_at), trivial⟩⟩) rfl (fun _ => ?_)
    refine s_on rfl rfl rfl ?_
    refine s_st (s_bslice (xs := [.const (.int .i64 (3))]) (ds := [3]) Try.underlying22 el_3 rfl (Nat.le_of_ble_eq_true rfl) ⟨(part_at rfl iv_at), trivial⟩) rfl (fun _ => ?_)
    refine s_on rfl rfl rfl ?_
    refine pull fun t7 h_t7 => ?_
    refine s_st (s_call (ψ := fun (_ : Unit) => bv t7) (args := [.tmp 26, .tmp 27, .const (.int .i64 (2))]) Try.call10 rfl (lift_SetLess_ok h_t7) ⟨arg rfl, arg rfl, arg rfl, trivial⟩ (fun _ _ _ _ h => h)) rfl (fun _ => ?_)
    refine s_on rfl rfl rfl ?_
    refine s_rd (r_not rfl) rfl ?_
    refine s_rd (r_pickT rfl rfl) rfl ?_
    refine mv1 rfl rfl ?_
    refine b_split (t := 31) rfl (fun _ => ?_) (fun _ => ?_)
    · refine s_on rfl rfl rfl ?_
      refine mv1 rfl rfl ?_
      refine s_on rfl rfl rfl ?_
      refine s_rd (r_eql rfl rfl) rfl ?_
      refine s_rd (r_pickT rfl rfl) rfl ?_
      refine mv1 rfl rfl ?_
      refine b_split (t := 35) rfl (fun _ => ?_) (fun _ => ?_)
      · refine s_on rfl rfl rfl ?_
        refine mv1 rfl rfl ?_
        refine s_on rfl rfl rfl ?_
        refine s_rd (r_olen Try.underlying35 rfl (j := 2) rfl) rfl ?_
        refine s_on rfl rfl rfl ?_
        refine s_rd (r_eql rfl rfl) rfl ?_
        refine s_rd (r_pickT rfl rfl) rfl ?_
        refine mv1 rfl rfl ?_
        refine b_split (t := 40) rfl (fun _ => ?_) (fun _ => ?_)
        · refine s_on rfl rfl rfl ?_
          refine s_rd (r_cloadS Try.isAgg34 Try.sizeOf34 rfl (j := 1) rfl rfl rfl) rfl ?_
          refine s_on rfl rfl rfl ?_
          refine mv1 rfl rfl ?_
          refine s_on rfl rfl rfl ?_
          refine s_rd (r_cloadS Try.isAgg43 Try.sizeOf43 rfl (j := 3) rfl rfl rfl) rfl ?_
          refine s_on rfl rfl rfl ?_
          refine b_of (nilG rT_api_Promotion [(41, ag [slv rT_api_Premise [(T_api_Premise.mk (T_api_Literal.mk false (ByteArray.mk #[112])) 2 0 ByteArray.empty)], slv rT_api_Rule [(T_api_Rule.mk (ByteArray.mk #[100]) false 9 [(T_api_Literal.mk false (ByteArray.mk #[112]))] (T_api_Literal.mk false (ByteArray.mk #[113])))], slv rT_api_Promotion []])] [] ⟨⟨_, rfl, .inr ⟨_, _, rfl, rfl, ⟨.inl rfl, .inl rfl, .inr ⟨rfl, rfl⟩, trivial⟩⟩⟩, trivial⟩ trivial) ?_
          refine pull fun t8 h_t8 => ?_
          refine s_st (s_callB (ψ := fun (_ : Unit) => bv t8) (args := [.tmp 41, .tmp 42, .const (.int .i64 (1)), .const (.int .i64 (0)), .tmp 43]) Try.call24 rfl (lift_Less_ok h_t8) ⟨argB rfl, argO rfl (j := 2) rfl, argB rfl, argB rfl, argB rfl, trivial⟩ (fun _ _ _ _ _ h => h)) rfl (fun _ => ?_)
          refine s_rd (r_pickT rfl rfl) rfl ?_
          refine mv1 rfl rfl ?_
          refine b_split (t := 46) rfl (fun _ => ?_) (fun _ => ?_)
          · refine s_on rfl rfl rfl ?_
            refine s_rd (r_cloadS Try.isAgg34 Try.sizeOf34 rfl (j := 1) rfl rfl rfl) rfl ?_
            refine s_on rfl rfl rfl ?_
            refine mv1 rfl rfl ?_
            refine s_on rfl rfl rfl ?_
            refine s_rd (r_cloadS Try.isAgg43 Try.sizeOf43 rfl (j := 3) rfl rfl rfl) rfl ?_
            refine s_on rfl rfl rfl ?_
            refine b_of (nilG rT_api_Promotion [(47, ag [slv rT_api_Premise [(T_api_Premise.mk (T_api_Literal.mk false (ByteArray.mk #[112])) 2 0 ByteArray.empty)], slv rT_api_Rule [(T_api_Rule.mk (ByteArray.mk #[100]) false 9 [(T_api_Literal.mk false (ByteArray.mk #[112]))] (T_api_Literal.mk false (ByteArray.mk #[113])))], slv rT_api_Promotion []])] [] ⟨⟨_, rfl, .inr ⟨_, _, rfl, rfl, ⟨.inl rfl, .inl rfl, .inr ⟨rfl, rfl⟩, trivial⟩⟩⟩, trivial⟩ trivial) ?_
            refine pull fun t9 h_t9 => ?_
            refine s_st (s_callB (ψ := fun (_ : Unit) => bv t9) (args := [.tmp 47, .tmp 48, .const (.int .i64 (0)), .const (.int .i64 (1)), .tmp 49]) Try.call24 rfl (lift_Less_ok h_t9) ⟨argB rfl, argO rfl (j := 2) rfl, argB rfl, argB rfl, argB rfl, trivial⟩ (fun _ _ _ _ _ h => h)) rfl (fun _ => ?_)
            refine s_on rfl rfl rfl ?_
            refine s_rd (r_not rfl) rfl ?_
            refine s_rd (r_pickT rfl rfl) rfl ?_
            refine as1 rfl rfl ?_
            refine l_nil ?_
            refine b_of (nrm [oc b1 [bv false, sv (ByteArray.mk #[112])], oc b2 [slv rT_api_Premise [(T_api_Premise.mk (T_api_Literal.mk false (ByteArray.mk #[112])) 2 0 ByteArray.empty)], slv rT_api_Rule [(T_api_Rule.mk (ByteArray.mk #[100]) false 9 [(T_api_Literal.mk false (ByteArray.mk #[112]))] (T_api_Literal.mk false (ByteArray.mk #[113])))], pv (.slice none 0 0)], oa rT_api_Argument x4.1 x4.2 t3.1, oc b5 [iv .i64 1, iv .i64 1]] rfl) ?_
            refine n_then (ref_ret ?_)
            exact fin1 (.inl rfl) () [] rfl trivial rfl (rv_tmp rfl)
          refine s_off rfl rfl rfl rfl rfl ?_
          refine s_off rfl rfl rfl rfl rfl ?_
          refine s_off rfl rfl rfl rfl rfl ?_
          refine s_off rfl rfl rfl rfl rfl ?_
          refine s_off rfl rfl rfl rfl rfl ?_
          refine s_rd (r_pickF rfl rfl) rfl ?_
          refine as1 rfl rfl ?_
          refine l_nil ?_
          refine b_of (nrm [oc b1 [bv false, sv (ByteArray.mk #[112])], oc b2 [slv rT_api_Premise [(T_api_Premise.mk (T_api_Literal.mk false (ByteArray.mk #[112])) 2 0 ByteArray.empty)], slv rT_api_Rule [(T_api_Rule.mk (ByteArray.mk #[100]) false 9 [(T_api_Literal.mk false (ByteArray.mk #[112]))] (T_api_Literal.mk false (ByteArray.mk #[113])))], pv (.slice none 0 0)], oa rT_api_Argument x4.1 x4.2 t3.1, oc b5 [iv .i64 1, iv .i64 1]] rfl) ?_
          refine n_then (ref_ret ?_)
          exact fin1 (.inl rfl) () [] rfl trivial rfl (rv_tmp rfl)
        refine s_off rfl rfl rfl rfl rfl ?_
        refine s_off rfl rfl rfl rfl rfl ?_
        refine s_off rfl rfl rfl rfl rfl ?_
        refine s_off rfl rfl rfl rfl rfl ?_
        refine s_rd (r_pickF rfl rfl) rfl ?_
        refine mv1 rfl rfl ?_
        refine s_off rfl rfl rfl rfl rfl ?_
        refine s_off rfl rfl rfl rfl rfl ?_
        refine s_off rfl rfl rfl rfl rfl ?_
        refine s_off rfl rfl rfl rfl rfl ?_
        refine s_off rfl rfl rfl rfl rfl ?_
        refine s_rd (r_pickF rfl rfl) rfl ?_
        refine as1 rfl rfl ?_
        refine l_nil ?_
        refine b_of (nrm [oc b1 [bv false, sv (ByteArray.mk #[112])], oc b2 [slv rT_api_Premise [(T_api_Premise.mk (T_api_Literal.mk false (ByteArray.mk #[112])) 2 0 ByteArray.empty)], slv rT_api_Rule [(T_api_Rule.mk (ByteArray.mk #[100]) false 9 [(T_api_Literal.mk false (ByteArray.mk #[112]))] (T_api_Literal.mk false (ByteArray.mk #[113])))], pv (.slice none 0 0)], oa rT_api_Argument x4.1 x4.2 t3.1, oc b5 [iv .i64 1, iv .i64 1]] rfl) ?_
        refine n_then (ref_ret ?_)
        exact fin1 (.inl rfl) () [] rfl trivial rfl (rv_tmp rfl)
      refine s_off rfl rfl rfl rfl rfl ?_
      refine s_off rfl rfl rfl rfl rfl ?_
      refine s_off rfl rfl rfl rfl rfl ?_
      refine s_rd (r_pickF rfl rfl) rfl ?_
      refine mv1 rfl rfl ?_
      refine s_off rfl rfl rfl rfl rfl ?_
      refine s_off rfl rfl rfl rfl rfl ?_
      refine s_off rfl rfl rfl rfl rfl ?_
      refine s_off rfl rfl rfl rfl rfl ?_
      refine s_rd (r_pickF rfl rfl) rfl ?_
      refine mv1 rfl rfl ?_
      refine s_off rfl rfl rfl rfl rfl ?_
      refine s_off rfl rfl rfl rfl rfl ?_
      refine s_off rfl rfl rfl rfl rfl ?_
      refine s_off rfl rfl rfl rfl rfl ?_
      refine s_off rfl rfl rfl rfl rfl ?_
      refine s_rd (r_pickF rfl rfl) rfl ?_
      refine as1 rfl rfl ?_
      refine l_nil ?_
      refine b_of (nrm [oc b1 [bv false, sv (ByteArray.mk #[112])], oc b2 [slv rT_api_Premise [(T_api_Premise.mk (T_api_Literal.mk false (ByteArray.mk #[112])) 2 0 ByteArray.empty)], slv rT_api_Rule [(T_api_Rule.mk (ByteArray.mk #[100]) false 9 [(T_api_Literal.mk false (ByteArray.mk #[112]))] (T_api_Literal.mk false (ByteArray.mk #[113])))], pv (.slice none 0 0)], oa rT_api_Argument x4.1 x4.2 t3.1, oc b5 [iv .i64 1, iv .i64 1]] rfl) ?_
      refine n_then (ref_ret ?_)
      exact fin1 (.inl rfl) () [] rfl trivial rfl (rv_tmp rfl)
    refine s_off rfl rfl rfl rfl rfl ?_
    refine s_off rfl rfl rfl rfl rfl ?_
    refine s_rd (r_pickF rfl rfl) rfl ?_
    refine mv1 rfl rfl ?_
    refine s_off rfl rfl rfl rfl rfl ?_
    refine s_off rfl rfl rfl rfl rfl ?_
    refine s_off rfl rfl rfl rfl rfl ?_
    refine s_rd (r_pickF rfl rfl) rfl ?_
    refine mv1 rfl rfl ?_
    refine s_off rfl rfl rfl rfl rfl ?_
    refine s_off rfl rfl rfl rfl rfl ?_
    refine s_off rfl rfl rfl rfl rfl ?_
    refine s_off rfl rfl rfl rfl rfl ?_
    refine s_rd (r_pickF rfl rfl) rfl ?_
    refine mv1 rfl rfl ?_
    refine s_off rfl rfl rfl rfl rfl ?_
    refine s_off rfl rfl rfl rfl rfl ?_
    refine s_off rfl rfl rfl rfl rfl ?_
    refine s_off rfl rfl rfl rfl rfl ?_
    refine s_off rfl rfl rfl rfl rfl ?_
    refine s_rd (r_pickF rfl rfl) rfl ?_
    refine as1 rfl rfl ?_
    refine l_nil ?_
    refine b_of (nrm [oc b1 [bv false, sv (ByteArray.mk #[112])], oc b2 [slv rT_api_Premise [(T_api_Premise.mk (T_api_Literal.mk false (ByteArray.mk #[112])) 2 0 ByteArray.empty)], slv rT_api_Rule [(T_api_Rule.mk (ByteArray.mk #[100]) false 9 [(T_api_Literal.mk false (ByteArray.mk #[112]))] (T_api_Literal.mk false (ByteArray.mk #[113])))], pv (.slice none 0 0)], oa rT_api_Argument x4.1 x4.2 t3.1, oc b5 [iv .i64 1, iv .i64 1]] rfl) ?_
    refine n_then (ref_ret ?_)
    exact fin1 (.inl rfl) () [] rfl trivial rfl (rv_tmp rfl)
  refine s_off rfl rfl rfl rfl rfl ?_
  refine s_off rfl rfl rfl rfl rfl ?_
  refine s_off rfl rfl rfl rfl rfl ?_
  refine s_off rfl rfl rfl rfl rfl ?_
  refine s_rd (r_pickF rfl rfl) rfl ?_
  refine mv1 rfl rfl ?_
  refine s_off rfl rfl rfl rfl rfl ?_
  refine s_off rfl rfl rfl rfl rfl ?_
  refine s_rd (r_pickF rfl rfl) rfl ?_
  refine mv1 rfl rfl ?_
  refine s_off rfl rfl rfl rfl rfl ?_
  refine s_off rfl rfl rfl rfl rfl ?_
  refine s_off rfl rfl rfl rfl rfl ?_
  refine s_rd (r_pickF rfl rfl) rfl ?_
  refine mv1 rfl rfl ?_
  refine s_off rfl rfl rfl rfl rfl ?_
  refine s_off rfl rfl rfl rfl rfl ?_
  refine s_off rfl rfl rfl rfl rfl ?_
  refine s_off rfl rfl rfl rfl rfl ?_
  refine s_rd (r_pickF rfl rfl) rfl ?_
  refine mv1 rfl rfl ?_
  refine s_off rfl rfl rfl rfl rfl ?_
  refine s_off rfl rfl rfl rfl rfl ?_
  refine s_off rfl rfl rfl rfl rfl ?_
  refine s_off rfl rfl rfl rfl rfl ?_
  refine s_off rfl rfl rfl rfl rfl ?_
  refine s_rd (r_pickF rfl rfl) rfl ?_
  refine as1 rfl rfl ?_
  refine l_nil ?_
  refine b_of (nrm [oc b1 [bv false, sv (ByteArray.mk #[112])], oc b2 [slv rT_api_Premise [(T_api_Premise.mk (T_api_Literal.mk false (ByteArray.mk #[112])) 2 0 ByteArray.empty)], slv rT_api_Rule [(T_api_Rule.mk (ByteArray.mk #[100]) false 9 [(T_api_Literal.mk false (ByteArray.mk #[112]))] (T_api_Literal.mk false (ByteArray.mk #[113])))], pv (.slice none 0 0)], oa rT_api_Argument x4.1 x4.2 t3.1, oc b5 [iv .i64 1, iv .i64 1]] rfl) ?_
  refine n_then (ref_ret ?_)
  exact fin1 (.inl rfl) () [] rfl trivial rfl (rv_tmp rfl)

/-! deliberation/deliberationlaw08.LiftSets -/
noncomputable def law08_LiftSets_l4 (a__0 : (List Int)) (b_1 : (List Int)) (c_2 : (List Int)) (t4 : Int × T_deliberationkeep_Src) (t5 : Int × T_deliberationkeep_Src) (t6 : (List Int)) (k142 : Int) (x209 : (List Int)) (y243 : (List Int)) (n244 : Bool) (s258 : Int) : Option (Sum ((Sum (Bool) (Unit))) (Int)) :=
  bif decide (s258 < ([a__0, b_1, c_2, [t4.1, t5.1], t6, []].length : Int)) then
    Option.bind (idxM [a__0, b_1, c_2, [t4.1, t5.1], t6, []] s258) fun z261 =>
    bif n244 then
      Option.bind (lift_SetLess_m x209 z261 k142) fun t262 =>
      bif !t262 then
        Option.bind (lift_SetLess_m z261 y243 k142) fun t263 =>
        bif !t263 then
          some (Sum.inl (Sum.inl false))
        else
          some (Sum.inr (iadd .i64 s258 1))
      else
        some (Sum.inr (iadd .i64 s258 1))
    else
      some (Sum.inr (iadd .i64 s258 1))
  else
    some (Sum.inl (Sum.inr ()))

noncomputable def law08_LiftSets_l3 (a__0 : (List Int)) (b_1 : (List Int)) (c_2 : (List Int)) (t4 : Int × T_deliberationkeep_Src) (t5 : Int × T_deliberationkeep_Src) (t6 : (List Int)) (k142 : Int) (x209 : (List Int)) (s240 : Int) : Option (Sum ((Sum (Bool) (Unit))) (Int)) :=
  bif decide (s240 < ([a__0, b_1, c_2, [t4.1, t5.1], t6, []].length : Int)) then
    Option.bind (idxM [a__0, b_1, c_2, [t4.1, t5.1], t6, []] s240) fun y243 =>
    Option.bind (lift_SetLess_m x209 y243 k142) fun n244 =>
    joinM (fun j248 : Bool × Bool =>
        Option.bind (loopC (law08_LiftSets_l4 a__0 b_1 c_2 t4 t5 t6 k142 x209 y243 n244) 0) (sumK (fun a : Bool => some (Sum.inl (Sum.inl a))) fun q265 : Unit =>
          some (Sum.inr (iadd .i64 s240 1)))) fun k250 =>
    Option.bind (ref08_SetLess_m x209 y243 k142) fun t245 =>
    bif !(n244 == t245) then
      some (Sum.inl (Sum.inl false))
    else
      bif n244 then
        Option.bind (lift_SetLess_m y243 x209 k142) fun t246 =>
        bif t246 then
          some (Sum.inl (Sum.inl false))
        else
          k250 (true, t246)
      else
        k250 (false, false)
  else
    some (Sum.inl (Sum.inr ()))

noncomputable def law08_LiftSets_l2 (a__0 : (List Int)) (b_1 : (List Int)) (c_2 : (List Int)) (t4 : Int × T_deliberationkeep_Src) (t5 : Int × T_deliberationkeep_Src) (t6 : (List Int)) (k142 : Int) (s206 : Int) : Option (Sum ((Sum (Bool) (Unit))) (Int)) :=
  bif decide (s206 < ([a__0, b_1, c_2, [t4.1, t5.1], t6, []].length : Int)) then
    Option.bind (idxM [a__0, b_1, c_2, [t4.1, t5.1], t6, []] s206) fun x209 =>
    Option.bind (lift_SetLess_m x209 x209 k142) fun t210 =>
    bif t210 then
      some (Sum.inl (Sum.inl false))
    else
      Option.bind (lift_SetLess_m [] x209 k142) fun t211 =>
      bif t211 then
        some (Sum.inl (Sum.inl false))
      else
        Option.bind (loopC (law08_LiftSets_l3 a__0 b_1 c_2 t4 t5 t6 k142 x209) 0) (sumK (fun a : Bool => some (Sum.inl (Sum.inl a))) fun q267 : Unit =>
          some (Sum.inr (iadd .i64 s206 1)))
  else
    some (Sum.inl (Sum.inr ()))

noncomputable def law08_LiftSets_l1 (a__0 : (List Int)) (b_1 : (List Int)) (c_2 : (List Int)) (which_3 : Int) (t4 : Int × T_deliberationkeep_Src) (t5 : Int × T_deliberationkeep_Src) (t6 : (List Int)) (s139 : Int) : Option (Sum ((Sum (Bool) (Unit))) (Int)) :=
  bif decide (s139 < ([which_3, 1, 2].length : Int)) then
    Option.bind (idxM [which_3, 1, 2] s139) fun k142 =>
    Option.bind (loopC (law08_LiftSets_l2 a__0 b_1 c_2 t4 t5 t6 k142) 0) (sumK (fun a : Bool => some (Sum.inl (Sum.inl a))) fun q269 : Unit =>
      some (Sum.inr (iadd .i64 s139 1)))
  else
    some (Sum.inl (Sum.inr ()))

noncomputable def law08_LiftSets_m (a__0 : (List Int)) (b_1 : (List Int)) (c_2 : (List Int)) (which_3 : Int) (l_4 : (List Int)) : Option (Bool) :=
  bif decide ((a__0.length : Int) > 20) then
    some true
  else
    bif decide ((b_1.length : Int) > 20) then
      some true
    else
      bif decide ((c_2.length : Int) > 20) then
        some true
      else
        Option.bind (keep_New_m l_4) fun s2 =>
        Option.bind (keep_Src_N_m s2 4) fun t4 =>
        Option.bind (keep_Src_N_m t4.2 4) fun t5 =>
        Option.bind (slM [t4.1, t5.1] 0 1) fun t6 =>
        Option.bind (loopC (law08_LiftSets_l1 a__0 b_1 c_2 which_3 t4 t5 t6) 0) (sumK (fun a : Bool => some a) fun q271 : Unit =>
          Option.bind (law08_awake_m ) fun t273 =>
          some t273)

theorem law08_LiftSets_ok {a__0 : (List Int)} {b_1 : (List Int)} {c_2 : (List Int)} {which_3 : Int} {l_4 : (List Int)} {r : Bool} (hm : law08_LiftSets_m a__0 b_1 c_2 which_3 l_4 = some r) :
    FnOk prog 3 [slv (rI .i64) a__0, slv (rI .i64) b_1, slv (rI .i64) c_2, iv .i64 which_3, slv (rI .i64) l_4] [] (fun (x : Unit) => [bv r]) (fun (x : Unit) => []) := by
  refine fn_ok (fn := Try.f3) (N := 123) (res := fun r x => [bv r]) (Ω1 := fun r x => []) Try.func3 rfl rfl hm rfl (fun E hM => ?_)
  unfold law08_LiftSets_m
  refine ref_seq (ref_region ?_)
  refine as1 rfl rfl ?_
  refine l_nil (n_then (ref_seq (ref_seq (ref_region ?_))))
  refine mv1 rfl rfl ?_
  refine s_rd (r_len Try.underlying22 rfl) rfl ?_
  refine s_rd (r_gtr rfl rfl) rfl ?_
  refine mv1 rfl rfl ?_
  refine b_split (t := 26) rfl (fun _ => ?_) (fun _ => ?_)
  · refine s_off rfl rfl rfl rfl rfl ?_
    refine s_off rfl rfl rfl rfl rfl ?_
    refine s_off rfl rfl rfl rfl rfl ?_
    refine s_rd (r_pickT rfl rfl) rfl ?_
    refine mv1 rfl rfl ?_
    refine s_off rfl rfl rfl rfl rfl ?_
    refine s_off rfl rfl rfl rfl rfl ?_
    refine s_off rfl rfl rfl rfl rfl ?_
    refine s_rd (r_pickT rfl rfl) rfl ?_
    refine l_nil (n_then ?_)
    refine ref_condT rfl rfl ?_
    refine ref_seq (ref_region ?_)
    refine as1 rfl rfl ?_
    refine l_nil (n_then (ref_ret (r_then ?_)))
    exact fin1 (.inl rfl) () [] rfl trivial rfl (rv_tmp rfl)
  refine s_on rfl rfl rfl ?_
  refine mv1 rfl rfl ?_
  refine s_on rfl rfl rfl ?_
  refine s_rd (r_len Try.underlying22 rfl) rfl ?_
  refine s_on rfl rfl rfl ?_
  refine s_rd (r_gtr rfl rfl) rfl ?_
  refine s_rd (r_pickF rfl rfl) rfl ?_
  refine mv1 rfl rfl ?_
  refine b_split (t := 31) rfl (fun _ => ?_) (fun _ => ?_)
  · refine s_off rfl rfl rfl rfl rfl ?_
    refine s_off rfl rfl rfl rfl rfl ?_
    refine s_off rfl rfl rfl rfl rfl ?_
    refine s_rd (r_pickT rfl rfl) rfl ?_
    refine l_nil (n_then ?_)
    refine ref_condT rfl rfl ?_
    refine ref_seq (ref_region ?_)
    refine as1 rfl rfl ?_
    refine l_nil (n_then (ref_ret (r_then ?_)))
    exact fin1 (.inl rfl) () [] rfl trivial rfl (rv_tmp rfl)
  refine s_on rfl rfl rfl ?_
  refine mv1 rfl rfl ?_
  refine s_on rfl rfl rfl ?_
  refine s_rd (r_len Try.underlying22 rfl) rfl ?_
  refine s_on rfl rfl rfl ?_
  refine s_rd (r_gtr rfl rfl) rfl ?_
  refine s_rd (r_pickF rfl rfl) rfl ?_
  refine l_nil (n_then ?_)
  refine ref_cond rfl (fun hb1 => ?_) (fun hb1 => ?_)
  · refine ref_seq (ref_region ?_)
    refine as1 rfl rfl ?_
    refine l_nil (n_then (ref_ret (r_then ?_)))
    exact fin1 (.inl rfl) () [] rfl trivial rfl (rv_tmp rfl)
  refine ref_skip (n_then (ref_seq (ref_region ?_)))
  refine mv1 rfl rfl ?_
  refine pull fun s2 h_s2 => ?_
  refine s_st (s_call (ψ := fun (x3 : Nat) => pv (ptr x3 0)) (args := [.tmp 36]) Try.call8 rfl (keep_New_ok h_s2) ⟨arg rfl, trivial⟩ (fun _ _ _ _ h => h)) rfl (fun x3 => ?_)
  refine as1 rfl rfl ?_
  refine l_nil (n_then (ref_seq (ref_region ?_)))
  refine mv1 rfl rfl ?_
  refine pull fun t4 h_t4 => ?_
  refine s_st (s_callC [0] [true] (fun (_ : Unit) => [oc x3 [slv (rI .i64) t4.2.L, iv .i64 t4.2.At]]) (fun (_ : Unit) => []) (fun (_ : Unit) => iv .i64 t4.1) (args := [.tmp 38, .const (.int .i64 (4))]) (caps := []) Try.call9 rfl (keep_Src_N_ok h_t4) ⟨rfl, rfl, trivial⟩ (fun _ => rfl) (fun _ => trivial) (fun _ => rfl) ⟨arg rfl, arg rfl, trivial⟩ (fun _ _ _ _ h => h)) rfl (fun _ => ?_)
  refine mv1 rfl rfl ?_
  refine pull fun t5 h_t5 => ?_
  refine s_st (s_callC [0] [true] (fun (_ : Unit) => [oc x3 [slv (rI .i64) t5.2.L, iv .i64 t5.2.At]]) (fun (_ : Unit) => []) (fun (_ : Unit) => iv .i64 t5.1) (args := [.tmp 40, .const (.int .i64 (4))]) (caps := []) Try.call9 rfl (keep_Src_N_ok h_t5) ⟨rfl, rfl, trivial⟩ (fun _ => rfl) (fun _ => trivial) (fun _ => rfl) ⟨arg rfl, arg rfl, trivial⟩ (fun _ _ _ _ h => h)) rfl (fun _ => ?_)
  refine s_st (s_bslice (xs := [.tmp 39, .tmp 41]) (ds := [t4.1, t5.1]) Try.underlying22 el_3 rfl (Nat.le_of_ble_eq_true rfl) ⟨(part_at rfl iv_at), ⟨(part_at rfl iv_at), trivial⟩⟩) rfl (fun _ => ?_)
  refine as1 rfl rfl ?_
  refine l_nil ?_
  refine b_of (nrm [oc x3 [slv (rI .i64) t5.2.L, iv .i64 t5.2.At]] rfl) ?_
  refine n_then (ref_seq (ref_region ?_))
  refine mv1 rfl rfl ?_
  refine mv1 rfl rfl ?_
  refine mv1 rfl rfl ?_
  refine mv1 rfl rfl ?_
  refine mv1 rfl rfl ?_
  refine pull fun t6 h_t6 => ?_
  refine s_rd (r_slice h_t6 Try.underlying22 el_3 rfl .dft (.of rfl)) rfl ?_
  refine s_st (s_bslice (xs := [.tmp 43, .tmp 44, .tmp 45, .tmp 46, .tmp 48, .const (.slice none 0 0)]) (ds := [a__0, b_1, c_2, [t4.1, t5.1], t6, []]) Try.underlying26 el_22 rfl (Nat.le_of_ble_eq_true rfl) ⟨(part_at rfl slv_at), ⟨(part_at rfl slv_at), ⟨(part_at rfl slv_at), ⟨(part_at rfl slv_at), ⟨(part_at rfl slv_at), ⟨(part_nil0 (rI .i64) rfl), trivial⟩⟩⟩⟩⟩⟩) rfl (fun _ => ?_)
  refine as1 rfl rfl ?_
  refine l_nil (n_then (ref_seq (ref_seq (ref_region ?_))))
  refine mv1 rfl rfl ?_
  refine s_st (s_bslice (xs := [.tmp 50, .const (.int .i64 (1)), .const (.int .i64 (2))]) (ds := [which_3, 1, 2]) Try.underlying22 el_3 rfl (Nat.le_of_ble_eq_true rfl) ⟨(part_at rfl iv_at), ⟨(part_at rfl iv_at), ⟨(part_at rfl iv_at), trivial⟩⟩⟩) rfl (fun _ => ?_)
  refine s_rd (r_len Try.underlying22 rfl) rfl ?_
  refine mv1 rfl rfl ?_
  refine l_nil (n_then ?_)
  refine ref_loopX (f := (law08_LiftSets_l1 a__0 b_1 c_2 which_3 t4 t5 t6)) (Γl := (fun (s139 : Int) (x140 : Unit) => [(13, slv (rSl (rI .i64)) [a__0, b_1, c_2, [t4.1, t5.1], t6, []]), (51, slv (rI .i64) [which_3, 1, 2]), (52, iv .i64 ([which_3, 1, 2].length : Int)), (53, iv .i64 s139)])) (Ωl := (fun (s139 : Int) (x140 : Unit) => [])) (Γb := (fun (q271 : Unit) (y272 : Unit) => [])) (Ωb := (fun (q271 : Unit) (y272 : Unit) => [])) (kr := (fun a : Bool => some a)) 0 () (weak [] ⟨rfl, rfl, rfl, rfl, trivial⟩ trivial) (fun s139 x140 => ?_) (fun q271 y272 => ?_)
  · unfold law08_LiftSets_l1
    refine ref_seq (ref_region ?_)
    refine s_rd (r_lss rfl rfl) rfl ?_
    refine l_nil (n_then (ref_seq ?_))
    refine ref_cond rfl (fun hb141 => ?_) (fun hb141 => ?_)
    · refine ref_skip (n_then (ref_seq (ref_block (ref_seq (ref_region ?_)))))
      refine pull fun k142 h_k142 => ?_
      refine s_rd (r_index h_k142 Try.underlying22 el_3 rfl rfl) rfl ?_
      refine s_rd (r_load el_3 rfl) rfl ?_
      refine as1 rfl rfl ?_
      refine l_nil (n_then (ref_seq (ref_region ?_)))
      refine mv1 rfl rfl ?_
      refine s_rd (r_len Try.underlying26 rfl) rfl ?_
      refine mv1 rfl rfl ?_
      refine l_nil (n_then ?_)
      refine ref_loopX (f := (law08_LiftSets_l2 a__0 b_1 c_2 t4 t5 t6 k142)) (Γl := (fun (s206 : Int) (x207 : Unit) => [(13, slv (rSl (rI .i64)) [a__0, b_1, c_2, [t4.1, t5.1], t6, []]), (15, iv .i64 k142), (51, slv (rI .i64) [which_3, 1, 2]), (52, iv .i64 ([which_3, 1, 2].length : Int)), (53, iv .i64 s139), (57, slv (rSl (rI .i64)) [a__0, b_1, c_2, [t4.1, t5.1], t6, []]), (58, iv .i64 ([a__0, b_1, c_2, [t4.1, t5.1], t6, []].length : Int)), (59, iv .i64 s206)])) (Ωl := (fun (s206 : Int) (x207 : Unit) => [])) (Γb := (fun (q269 : Unit) (y270 : Unit) => [(13, slv (rSl (rI .i64)) [a__0, b_1, c_2, [t4.1, t5.1], t6, []]), (51, slv (rI .i64) [which_3, 1, 2]), (52, iv .i64 ([which_3, 1, 2].length : Int)), (53, iv .i64 s139)])) (Ωb := (fun (q269 : Unit) (y270 : Unit) => [])) (kr := (fun a : Bool => some (Sum.inl (Sum.inl a)))) 0 () (weak [] ⟨rfl, rfl, rfl, rfl, rfl, rfl, rfl, rfl, trivial⟩ trivial) (fun s206 x207 => ?_) (fun q269 y270 => ?_)
      · unfold law08_LiftSets_l2
        refine ref_seq (ref_region ?_)
        refine s_rd (r_lss rfl rfl) rfl ?_
        refine l_nil (n_then (ref_seq ?_))
        refine ref_cond rfl (fun hb208 => ?_) (fun hb208 => ?_)
        · refine ref_skip (n_then (ref_seq (ref_block (ref_seq (ref_region ?_)))))
          refine pull fun x209 h_x209 => ?_
          refine s_rd (r_index h_x209 Try.underlying26 el_22 rfl rfl) rfl ?_
          refine s_rd (r_load el_22 rfl) rfl ?_
          refine as1 rfl rfl ?_
          refine l_nil (n_then (ref_seq (ref_seq (ref_region ?_))))
          refine mv1 rfl rfl ?_
          refine mv1 rfl rfl ?_
          refine mv1 rfl rfl ?_
          refine pull fun t210 h_t210 => ?_
          refine s_st (s_call (ψ := fun (_ : Unit) => bv t210) (args := [.tmp 63, .tmp 64, .tmp 65]) Try.call10 rfl (lift_SetLess_ok h_t210) ⟨arg rfl, arg rfl, arg rfl, trivial⟩ (fun _ _ _ _ h => h)) rfl (fun _ => ?_)
          refine mv1 rfl rfl ?_
          refine b_split (t := 67) rfl (fun _ => ?_) (fun _ => ?_)
          · refine s_off rfl rfl rfl rfl rfl ?_
            refine s_off rfl rfl rfl rfl rfl ?_
            refine s_off rfl rfl rfl rfl rfl ?_
            refine s_rd (r_pickT rfl rfl) rfl ?_
            refine l_nil (n_then ?_)
            refine ref_condT rfl rfl ?_
            refine ref_seq (ref_region ?_)
            refine as1 rfl rfl ?_
            refine l_nil (n_then (ref_ret (r_then (r_block (r_then ?_)))))
            refine retX ?_
            refine r_block (r_block (r_then ?_))
            refine retX ?_
            refine r_block (r_then ?_)
            exact fin1 (.inl rfl) () [] rfl trivial rfl (rv_tmp rfl)
          refine s_on rfl rfl rfl ?_
          refine mv1 rfl rfl ?_
          refine s_on rfl rfl rfl ?_
          refine mv1 rfl rfl ?_
          refine s_on rfl rfl rfl ?_
          refine pull fun t211 h_t211 => ?_
          refine s_st (s_call (ψ := fun (_ : Unit) => bv t211) (args := [.const (.slice none 0 0), .tmp 68, .tmp 69]) Try.call10 rfl (lift_SetLess_ok h_t211) ⟨arg_nil _ rfl, arg rfl, arg rfl, trivial⟩ (fun _ _ _ _ h => h)) rfl (fun _ => ?_)
          refine s_rd (r_pickF rfl rfl) rfl ?_
          refine l_nil (n_then ?_)
          refine ref_cond rfl (fun hb212 => ?_) (fun hb212 => ?_)
          · refine ref_seq (ref_region ?_)
            refine as1 rfl rfl ?_
            refine l_nil (n_then (ref_ret (r_then (r_block (r_then ?_)))))
            refine retX ?_
            refine r_block (r_block (r_then ?_))
            refine retX ?_
            refine r_block (r_then ?_)
            exact fin1 (.inl rfl) () [] rfl trivial rfl (rv_tmp rfl)
          refine ref_skip (n_then (ref_seq (ref_region ?_)))
          refine mv1 rfl rfl ?_
          refine s_rd (r_len Try.underlying26 rfl) rfl ?_
          refine mv1 rfl rfl ?_
          refine l_nil (n_then ?_)
          refine ref_loopX (f := (law08_LiftSets_l3 a__0 b_1 c_2 t4 t5 t6 k142 x209)) (Γl := (fun (s240 : Int) (x241 : Unit) => [(13, slv (rSl (rI .i64)) [a__0, b_1, c_2, [t4.1, t5.1], t6, []]), (15, iv .i64 k142), (17, slv (rI .i64) x209), (51, slv (rI .i64) [which_3, 1, 2]), (52, iv .i64 ([which_3, 1, 2].length : Int)), (53, iv .i64 s139), (57, slv (rSl (rI .i64)) [a__0, b_1, c_2, [t4.1, t5.1], t6, []]), (58, iv .i64 ([a__0, b_1, c_2, [t4.1, t5.1], t6, []].length : Int)), (59, iv .i64 s206), (68, slv (rI .i64) x209), (69, iv .i64 k142), (70, bv t211), (72, slv (rSl (rI .i64)) [a__0, b_1, c_2, [t4.1, t5.1], t6, []]), (73, iv .i64 ([a__0, b_1, c_2, [t4.1, t5.1], t6, []].length : Int)), (74, iv .i64 s240)])) (Ωl := (fun (s240 : Int) (x241 : Unit) => [])) (Γb := (fun (q267 : Unit) (y268 : Unit) => [(13, slv (rSl (rI .i64)) [a__0, b_1, c_2, [t4.1, t5.1], t6, []]), (15, iv .i64 k142), (51, slv (rI .i64) [which_3, 1, 2]), (52, iv .i64 ([which_3, 1, 2].length : Int)), (53, iv .i64 s139), (57, slv (rSl (rI .i64)) [a__0, b_1, c_2, [t4.1, t5.1], t6, []]), (58, iv .i64 ([a__0, b_1, c_2, [t4.1, t5.1], t6, []].length : Int)), (59, iv .i64 s206), (68, slv (rI .i64) x209), (69, iv .i64 k142), (70, bv t211)])) (Ωb := (fun (q267 : Unit) (y268 : Unit) => [])) (kr := (fun a : Bool => some (Sum.inl (Sum.inl a)))) 0 () (weak [] ⟨rfl, rfl, rfl, rfl, rfl, rfl, rfl, rfl, rfl, rfl, rfl, rfl, rfl, rfl, rfl, trivial⟩ trivial) (fun s240 x241 => ?_) (fun q267 y268 => ?_)
          · unfold law08_LiftSets_l3
            refine ref_seq (ref_region ?_)
            refine s_rd (r_lss rfl rfl) rfl ?_
            refine l_nil (n_then (ref_seq ?_))
            refine ref_cond rfl (fun hb242 => ?_) (fun hb242 => ?_)
            · refine ref_skip (n_then (ref_seq (ref_block (ref_seq (ref_region ?_)))))
              refine pull fun y243 h_y243 => ?_
              refine s_rd (r_index h_y243 Try.underlying26 el_22 rfl rfl) rfl ?_
              refine s_rd (r_load el_22 rfl) rfl ?_
              refine as1 rfl rfl ?_
              refine l_nil (n_then (ref_seq (ref_region ?_)))
              refine mv1 rfl rfl ?_
              refine mv1 rfl rfl ?_
              refine mv1 rfl rfl ?_
              refine pull fun n244 h_n244 => ?_
              refine s_st (s_call (ψ := fun (_ : Unit) => bv n244) (args := [.tmp 78, .tmp 79, .tmp 80]) Try.call10 rfl (lift_SetLess_ok h_n244) ⟨arg rfl, arg rfl, arg rfl, trivial⟩ (fun _ _ _ _ h => h)) rfl (fun _ => ?_)
              refine as1 rfl rfl ?_
              refine l_nil (n_then (ref_seq ?_))
              refine ref_join (fun (j248 : Bool × Bool) (x249 : Unit) => [(13, slv (rSl (rI .i64)) [a__0, b_1, c_2, [t4.1, t5.1], t6, []]), (15, iv .i64 k142), (17, slv (rI .i64) x209), (19, slv (rI .i64) y243), (20, bv n244), (51, slv (rI .i64) [which_3, 1, 2]), (52, iv .i64 ([which_3, 1, 2].length : Int)), (53, iv .i64 s139), (57, slv (rSl (rI .i64)) [a__0, b_1, c_2, [t4.1, t5.1], t6, []]), (58, iv .i64 ([a__0, b_1, c_2, [t4.1, t5.1], t6, []].length : Int)), (59, iv .i64 s206), (68, slv (rI .i64) x209), (69, iv .i64 k142), (70, bv t211), (72, slv (rSl (rI .i64)) [a__0, b_1, c_2, [t4.1, t5.1], t6, []]), (73, iv .i64 ([a__0, b_1, c_2, [t4.1, t5.1], t6, []].length : Int)), (74, iv .i64 s240), (89, bv n244), (90, bv j248.1), (95, bv j248.2)]) (fun (j248 : Bool × Bool) (x249 : Unit) => []) (fun k250 hk250 => ?_) (fun j248 x249 => ?_)
              · refine ref_seq (ref_region ?_)
                refine mv1 rfl rfl ?_
                refine mv1 rfl rfl ?_
                refine mv1 rfl rfl ?_
                refine mv1 rfl rfl ?_
                refine pull fun t245 h_t245 => ?_
                refine s_st (s_call (ψ := fun (_ : Unit) => bv t245) (args := [.tmp 83, .tmp 84, .tmp 85]) Try.call11 rfl (ref08_SetLess_ok h_t245) ⟨arg rfl, arg rfl, arg rfl, trivial⟩ (fun _ _ _ _ h => h)) rfl (fun _ => ?_)
                refine s_rd (r_bneq Try.underlying4 rfl rfl) rfl ?_
                refine mv1 rfl rfl ?_
                refine b_split (t := 88) rfl (fun _ => ?_) (fun _ => ?_)
                · refine s_off rfl rfl rfl rfl rfl ?_
                  refine s_off rfl rfl rfl rfl rfl ?_
                  refine s_offU rfl rfl rfl ?_
                  refine s_offU rfl rfl rfl ?_
                  refine s_offU rfl rfl rfl ?_
                  refine s_offU rfl rfl rfl ?_
                  refine s_off rfl rfl rfl rfl rfl ?_
                  refine s_rd (r_pickT rfl rfl) rfl ?_
                  refine l_nil (n_then ?_)
                  refine ref_condT rfl rfl ?_
                  refine ref_seq (ref_region ?_)
                  refine as1 rfl rfl ?_
                  refine l_nil (n_then (ref_ret (r_then (r_block (r_then ?_)))))
                  refine retX ?_
                  refine r_block (r_block (r_then ?_))
                  refine retX ?_
                  refine r_block (r_block (r_then ?_))
                  refine retX ?_
                  refine r_block (r_then ?_)
                  exact fin1 (.inl rfl) () [] rfl trivial rfl (rv_tmp rfl)
                refine s_on rfl rfl rfl ?_
                refine mv1 rfl rfl ?_
                refine s_on rfl rfl rfl ?_
                refine mv1 rfl rfl ?_
                refine b_split (t := 90) rfl (fun _ => ?_) (fun _ => ?_)
                · refine s_on rfl rfl rfl ?_
                  refine mv1 rfl rfl ?_
                  refine s_on rfl rfl rfl ?_
                  refine mv1 rfl rfl ?_
                  refine s_on rfl rfl rfl ?_
                  refine mv1 rfl rfl ?_
                  refine s_on rfl rfl rfl ?_
                  refine pull fun t246 h_t246 => ?_
                  refine s_st (s_call (ψ := fun (_ : Unit) => bv t246) (args := [.tmp 91, .tmp 92, .tmp 93]) Try.call10 rfl (lift_SetLess_ok h_t246) ⟨arg rfl, arg rfl, arg rfl, trivial⟩ (fun _ _ _ _ h => h)) rfl (fun _ => ?_)
                  refine s_on rfl rfl rfl ?_
                  refine s_rd (r_pickT rfl rfl) rfl ?_
                  refine s_rd (r_pickF rfl rfl) rfl ?_
                  refine l_nil (n_then ?_)
                  refine ref_cond rfl (fun hb247 => ?_) (fun hb247 => ?_)
                  · refine ref_seq (ref_region ?_)
                    refine as1 rfl rfl ?_
                    refine l_nil (n_then (ref_ret (r_then (r_block (r_then ?_)))))
                    refine retX ?_
                    refine r_block (r_block (r_then ?_))
                    refine retX ?_
                    refine r_block (r_block (r_then ?_))
                    refine retX ?_
                    refine r_block (r_then ?_)
                    exact fin1 (.inl rfl) () [] rfl trivial rfl (rv_tmp rfl)
                  refine ref_skip ?_
                  exact b_to (hk250 (true, t246) ()) (weak [] ⟨rfl, rfl, rfl, rfl, rfl, rfl, rfl, rfl, rfl, rfl, rfl, rfl, rfl, rfl, rfl, rfl, rfl, rfl, rfl, rfl, trivial⟩ trivial)
                refine s_off rfl rfl rfl rfl rfl ?_
                refine s_off rfl rfl rfl rfl rfl ?_
                refine s_off rfl rfl rfl rfl rfl ?_
                refine s_off rfl rfl rfl rfl rfl ?_
                refine s_on rfl rfl rfl ?_
                refine s_rd (r_pickF rfl rfl) rfl ?_
                refine s_rd (r_pickF rfl rfl) rfl ?_
                refine l_nil (n_then ?_)
                refine ref_condF rfl rfl ?_
                refine ref_skip ?_
                exact b_to (hk250 (false, false) ()) (weak [] ⟨rfl, rfl, rfl, rfl, rfl, rfl, rfl, rfl, rfl, rfl, rfl, rfl, rfl, rfl, rfl, rfl, rfl, rfl, rfl, rfl, trivial⟩ trivial)
              refine n_then (ref_seq (ref_region ?_))
              refine mv1 rfl rfl ?_
              refine s_rd (r_len Try.underlying26 rfl) rfl ?_
              refine mv1 rfl rfl ?_
              refine l_nil (n_then ?_)
              refine ref_loopX (f := (law08_LiftSets_l4 a__0 b_1 c_2 t4 t5 t6 k142 x209 y243 n244)) (Γl := (fun (s258 : Int) (x259 : Unit) => [(13, slv (rSl (rI .i64)) [a__0, b_1, c_2, [t4.1, t5.1], t6, []]), (15, iv .i64 k142), (17, slv (rI .i64) x209), (19, slv (rI .i64) y243), (20, bv n244), (51, slv (rI .i64) [which_3, 1, 2]), (52, iv .i64 ([which_3, 1, 2].length : Int)), (53, iv .i64 s139), (57, slv (rSl (rI .i64)) [a__0, b_1, c_2, [t4.1, t5.1], t6, []]), (58, iv .i64 ([a__0, b_1, c_2, [t4.1, t5.1], t6, []].length : Int)), (59, iv .i64 s206), (68, slv (rI .i64) x209), (69, iv .i64 k142), (70, bv t211), (72, slv (rSl (rI .i64)) [a__0, b_1, c_2, [t4.1, t5.1], t6, []]), (73, iv .i64 ([a__0, b_1, c_2, [t4.1, t5.1], t6, []].length : Int)), (74, iv .i64 s240), (89, bv n244), (90, bv j248.1), (95, bv j248.2), (97, slv (rSl (rI .i64)) [a__0, b_1, c_2, [t4.1, t5.1], t6, []]), (98, iv .i64 ([a__0, b_1, c_2, [t4.1, t5.1], t6, []].length : Int)), (99, iv .i64 s258)])) (Ωl := (fun (s258 : Int) (x259 : Unit) => [])) (Γb := (fun (q265 : Unit) (y266 : Unit) => [(13, slv (rSl (rI .i64)) [a__0, b_1, c_2, [t4.1, t5.1], t6, []]), (15, iv .i64 k142), (17, slv (rI .i64) x209), (51, slv (rI .i64) [which_3, 1, 2]), (52, iv .i64 ([which_3, 1, 2].length : Int)), (53, iv .i64 s139), (57, slv (rSl (rI .i64)) [a__0, b_1, c_2, [t4.1, t5.1], t6, []]), (58, iv .i64 ([a__0, b_1, c_2, [t4.1, t5.1], t6, []].length : Int)), (59, iv .i64 s206), (68, slv (rI .i64) x209), (69, iv .i64 k142), (70, bv t211), (72, slv (rSl (rI .i64)) [a__0, b_1, c_2, [t4.1, t5.1], t6, []]), (73, iv .i64 ([a__0, b_1, c_2, [t4.1, t5.1], t6, []].length : Int)), (74, iv .i64 s240), (89, bv n244), (90, bv j248.1), (95, bv j248.2)])) (Ωb := (fun (q265 : Unit) (y266 : Unit) => [])) (kr := (fun a : Bool => some (Sum.inl (Sum.inl a)))) 0 () (weak [] ⟨rfl, rfl, rfl, rfl, rfl, rfl, rfl, rfl, rfl, rfl, rfl, rfl, rfl, rfl, rfl, rfl, rfl, rfl, rfl, rfl, rfl, rfl, rfl, trivial⟩ trivial) (fun s258 x259 => ?_) (fun q265 y266 => ?_)
              · unfold law08_LiftSets_l4
                refine ref_seq (ref_region ?_)
                refine s_rd (r_lss rfl rfl) rfl ?_
                refine l_nil (n_then (ref_seq ?_))
                refine ref_cond rfl (fun hb260 => ?_) (fun hb260 => ?_)
                · refine ref_skip (n_then (ref_seq (ref_block (ref_seq (ref_region ?_)))))
                  refine pull fun z261 h_z261 => ?_
                  refine s_rd (r_index h_z261 Try.underlying26 el_22 rfl rfl) rfl ?_
                  refine s_rd (r_load el_22 rfl) rfl ?_
                  refine as1 rfl rfl ?_
                  refine l_nil (n_then (ref_seq (ref_region ?_)))
                  refine mv1 rfl rfl ?_
                  refine mv1 rfl rfl ?_
                  refine b_split (t := 104) rfl (fun _ => ?_) (fun _ => ?_)
                  · refine s_on rfl rfl rfl ?_
                    refine mv1 rfl rfl ?_
                    refine s_on rfl rfl rfl ?_
                    refine mv1 rfl rfl ?_
                    refine s_on rfl rfl rfl ?_
                    refine mv1 rfl rfl ?_
                    refine s_on rfl rfl rfl ?_
                    refine pull fun t262 h_t262 => ?_
                    refine s_st (s_call (ψ := fun (_ : Unit) => bv t262) (args := [.tmp 105, .tmp 106, .tmp 107]) Try.call10 rfl (lift_SetLess_ok h_t262) ⟨arg rfl, arg rfl, arg rfl, trivial⟩ (fun _ _ _ _ h => h)) rfl (fun _ => ?_)
                    refine s_on rfl rfl rfl ?_
                    refine s_rd (r_not rfl) rfl ?_
                    refine s_rd (r_pickT rfl rfl) rfl ?_
                    refine mv1 rfl rfl ?_
                    refine b_split (t := 111) rfl (fun _ => ?_) (fun _ => ?_)
                    · refine s_on rfl rfl rfl ?_
                      refine mv1 rfl rfl ?_
                      refine s_on rfl rfl rfl ?_
                      refine mv1 rfl rfl ?_
                      refine s_on rfl rfl rfl ?_
                      refine mv1 rfl rfl ?_
                      refine s_on rfl rfl rfl ?_
                      refine pull fun t263 h_t263 => ?_
                      refine s_st (s_call (ψ := fun (_ : Unit) => bv t263) (args := [.tmp 112, .tmp 113, .tmp 114]) Try.call10 rfl (lift_SetLess_ok h_t263) ⟨arg rfl, arg rfl, arg rfl, trivial⟩ (fun _ _ _ _ h => h)) rfl (fun _ => ?_)
                      refine s_on rfl rfl rfl ?_
                      refine s_rd (r_not rfl) rfl ?_
                      refine s_rd (r_pickT rfl rfl) rfl ?_
                      refine l_nil (n_then ?_)
                      refine ref_cond rfl (fun hb264 => ?_) (fun hb264 => ?_)
                      · refine ref_seq (ref_region ?_)
                        refine as1 rfl rfl ?_
                        refine l_nil (n_then (ref_ret (r_block (r_then ?_))))
                        refine retX ?_
                        refine r_block (r_block (r_then ?_))
                        refine retX ?_
                        refine r_block (r_block (r_then ?_))
                        refine retX ?_
                        refine r_block (r_block (r_then ?_))
                        refine retX ?_
                        refine r_block (r_then ?_)
                        exact fin1 (.inl rfl) () [] rfl trivial rfl (rv_tmp rfl)
                      refine ref_skip (n_block (n_then (ref_region ?_)))
                      refine s_rd (r_add rfl rfl) rfl ?_
                      refine mv1 rfl rfl ?_
                      refine l_nil ?_
                      exact goX () (weak [] ⟨rfl, rfl, rfl, rfl, rfl, rfl, rfl, rfl, rfl, rfl, rfl, rfl, rfl, rfl, rfl, rfl, rfl, rfl, rfl, rfl, rfl, rfl, rfl, trivial⟩ trivial)
                    refine s_off rfl rfl rfl rfl rfl ?_
                    refine s_off rfl rfl rfl rfl rfl ?_
                    refine s_off rfl rfl rfl rfl rfl ?_
                    refine s_off rfl rfl rfl rfl rfl ?_
                    refine s_off rfl rfl rfl rfl rfl ?_
                    refine s_rd (r_pickF rfl rfl) rfl ?_
                    refine l_nil (n_then ?_)
                    refine ref_condF rfl rfl ?_
                    refine ref_skip (n_block (n_then (ref_region ?_)))
                    refine s_rd (r_add rfl rfl) rfl ?_
                    refine mv1 rfl rfl ?_
                    refine l_nil ?_
                    exact goX () (weak [] ⟨rfl, rfl, rfl, rfl, rfl, rfl, rfl, rfl, rfl, rfl, rfl, rfl, rfl, rfl, rfl, rfl, rfl, rfl, rfl, rfl, rfl, rfl, rfl, trivial⟩ trivial)
                  refine s_off rfl rfl rfl rfl rfl ?_
                  refine s_off rfl rfl rfl rfl rfl ?_
                  refine s_off rfl rfl rfl rfl rfl ?_
                  refine s_off rfl rfl rfl rfl rfl ?_
                  refine s_off rfl rfl rfl rfl rfl ?_
                  refine s_rd (r_pickF rfl rfl) rfl ?_
                  refine mv1 rfl rfl ?_
                  refine s_off rfl rfl rfl rfl rfl ?_
                  refine s_off rfl rfl rfl rfl rfl ?_
                  refine s_off rfl rfl rfl rfl rfl ?_
                  refine s_off rfl rfl rfl rfl rfl ?_
                  refine s_off rfl rfl rfl rfl rfl ?_
                  refine s_rd (r_pickF rfl rfl) rfl ?_
                  refine l_nil (n_then ?_)
                  refine ref_condF rfl rfl ?_
                  refine ref_skip (n_block (n_then (ref_region ?_)))
                  refine s_rd (r_add rfl rfl) rfl ?_
                  refine mv1 rfl rfl ?_
                  refine l_nil ?_
                  exact goX () (weak [] ⟨rfl, rfl, rfl, rfl, rfl, rfl, rfl, rfl, rfl, rfl, rfl, rfl, rfl, rfl, rfl, rfl, rfl, rfl, rfl, rfl, rfl, rfl, rfl, trivial⟩ trivial)
                refine ref_exit (x_then ?_)
                exact brkX () (weak [] ⟨rfl, rfl, rfl, rfl, rfl, rfl, rfl, rfl, rfl, rfl, rfl, rfl, rfl, rfl, rfl, rfl, rfl, rfl, trivial⟩ trivial)
              refine n_block (n_then (ref_region ?_))
              refine s_rd (r_add rfl rfl) rfl ?_
              refine mv1 rfl rfl ?_
              refine l_nil ?_
              exact goX () (weak [] ⟨rfl, rfl, rfl, rfl, rfl, rfl, rfl, rfl, rfl, rfl, rfl, rfl, rfl, rfl, rfl, trivial⟩ trivial)
            refine ref_exit (x_then ?_)
            exact brkX () (weak [] ⟨rfl, rfl, rfl, rfl, rfl, rfl, rfl, rfl, rfl, rfl, rfl, trivial⟩ trivial)
          refine n_block (n_then (ref_region ?_))
          refine s_rd (r_add rfl rfl) rfl ?_
          refine mv1 rfl rfl ?_
          refine l_nil ?_
          exact goX () (weak [] ⟨rfl, rfl, rfl, rfl, rfl, rfl, rfl, rfl, trivial⟩ trivial)
        refine ref_exit (x_then ?_)
        exact brkX () (weak [] ⟨rfl, rfl, rfl, rfl, trivial⟩ trivial)
      refine n_block (n_then (ref_region ?_))
      refine s_rd (r_add rfl rfl) rfl ?_
      refine mv1 rfl rfl ?_
      refine l_nil ?_
      exact goX () (weak [] ⟨rfl, rfl, rfl, rfl, trivial⟩ trivial)
    refine ref_exit (x_then ?_)
    exact brkX () (weak [] trivial trivial)
  refine n_then (ref_seq (ref_region ?_))
  refine pull fun t273 h_t273 => ?_
  refine s_st (s_call (ψ := fun (_ : Unit) => bv t273) (args := []) Try.call12 rfl (law08_awake_ok h_t273) trivial (fun _ _ _ _ h => h)) rfl (fun _ => ?_)
  refine as1 rfl rfl ?_
  refine l_nil (n_then (ref_ret ?_))
  exact fin1 (.inl rfl) () [] rfl trivial rfl (rv_tmp rfl)

/-! (*deliberation/deliberationkeep.Src).Literal -/
noncomputable def keep_Src_Literal_m (s_0 : T_deliberationkeep_Src) (n_1 : Int) : Option (T_api_Literal × T_deliberationkeep_Src) :=
  Option.bind (keep_Src_N_m s_0 (imul .i64 2 n_1)) fun k2 =>
  some ((T_api_Literal.mk ((iand .i64 k2.1 1) == 1) (bstr [IntKind.wrap .u8 (iadd .i64 97 (iquo .i64 k2.1 2))])), k2.2)

theorem keep_Src_Literal_ok {s_0 : T_deliberationkeep_Src} {n_1 : Int} {b_0 : Nat} {r : T_api_Literal × T_deliberationkeep_Src} (hm : keep_Src_Literal_m s_0 n_1 = some r) :
    FnOk prog 50 [pv (ptr b_0 0), iv .i64 n_1] [oc b_0 [slv (rI .i64) s_0.L, iv .i64 s_0.At]] (fun (x : Unit) => [ag [bv r.1.Neg, sv r.1.Name]]) (fun (x : Unit) => [oc b_0 [slv (rI .i64) r.2.L, iv .i64 r.2.At]]) := by
  refine fn_ok (fn := Try.f50) (N := 20) (res := fun r x => [ag [bv r.1.Neg, sv r.1.Name]]) (Ω1 := fun r x => [oc b_0 [slv (rI .i64) r.2.L, iv .i64 r.2.At]]) Try.func50 rfl rfl hm rfl (fun E hM => ?_)
  unfold keep_Src_Literal_m
  refine ref_seq (ref_region ?_)
  refine s_st (s_alloc zt_50) rfl (fun b1 => ?_)
  refine l_nil (n_then (ref_seq (ref_region ?_)))
  refine mv1 rfl rfl ?_
  refine mv1 rfl rfl ?_
  refine s_rd (r_mul rfl rfl) rfl ?_
  refine pull fun k2 h_k2 => ?_
  refine s_st (s_callC [0] [true] (fun (_ : Unit) => [oc b_0 [slv (rI .i64) k2.2.L, iv .i64 k2.2.At]]) (fun (_ : Unit) => []) (fun (_ : Unit) => iv .i64 k2.1) (args := [.tmp 6, .tmp 8]) (caps := []) Try.call9 rfl (keep_Src_N_ok h_k2) ⟨rfl, rfl, trivial⟩ (fun _ => rfl) (fun _ => trivial) (fun _ => rfl) ⟨arg rfl, arg rfl, trivial⟩ (fun _ _ _ _ h => h)) rfl (fun _ => ?_)
  refine as1 rfl rfl ?_
  refine l_nil (n_then (ref_seq (ref_region ?_)))
  refine mv1 rfl rfl ?_
  refine s_rd (r_and rfl rfl) rfl ?_
  refine s_rd (r_eql rfl rfl) rfl ?_
  refine mv1 rfl rfl ?_
  refine s_rd (r_quo rfl rfl (by decide)) rfl ?_
  refine s_rd (r_add rfl rfl) rfl ?_
  refine s_rd (r_conv (k' := .u8) rfl rfl rfl) rfl ?_
  refine s_st (s_bslice (xs := [.tmp 16]) (ds := [IntKind.wrap .u8 (iadd .i64 97 (iquo .i64 k2.1 2))]) Try.underlying98 el_5 rfl (Nat.le_of_ble_eq_true rfl) ⟨(part_at rfl iv_at), trivial⟩) rfl (fun _ => ?_)
  refine s_rd (r_b2s Try.underlying98 Try.underlying9 Try.underlying5 rfl) rfl ?_
  refine s_rd (r_build (ps := [(0, .tmp 12), (1, .tmp 18)]) (rs := [(0, [bv ((iand .i64 k2.1 1) == 1)]), (1, [sv (bstr [IntKind.wrap .u8 (iadd .i64 97 (iquo .i64 k2.1 2))])])]) st_50 zs_50 ⟨rfl, (part_at rfl bv_at), ⟨rfl, (part_at rfl sv_at), trivial⟩⟩ rfl rfl) rfl ?_
  refine s_st0 (s_cstore (out := [bv ((iand .i64 k2.1 1) == 1), sv (bstr [IntKind.wrap .u8 (iadd .i64 97 (iquo .i64 k2.1 2))])]) Try.sizeOf50 rfl (j := 1) rfl (part_agO (ψs := [bv ((iand .i64 k2.1 1) == 1), sv (bstr [IntKind.wrap .u8 (iadd .i64 97 (iquo .i64 k2.1 2))])]) rfl ⟨.inl bv_at, .inl sv_at, trivial⟩) rfl rfl rfl) (fun _ => ?_)
  refine l_nil ?_
  refine b_of (nrm [oc b_0 [slv (rI .i64) k2.2.L, iv .i64 k2.2.At], oc b1 [bv ((iand .i64 k2.1 1) == 1), sv (bstr [IntKind.wrap .u8 (iadd .i64 97 (iquo .i64 k2.1 2))])]] rfl) ?_
  refine n_then (ref_ret ?_)
  exact fin1 (.inl rfl) () [0] rfl ⟨rfl, trivial⟩ rfl (rv_cell rfl (j := 1) rfl Try.isAgg50 Try.sizeOf50 rfl rfl)

/-! (*deliberation/deliberationkeep.Src).Pick -/
noncomputable def keep_Src_Pick_m (s_0 : T_deliberationkeep_Src) (l_1 : (List Int)) : Option (Int × T_deliberationkeep_Src) :=
  Option.bind (keep_Src_N_m s_0 (l_1.length : Int)) fun t1 =>
  Option.bind (idxM l_1 t1.1) fun t2 =>
  some (t2, t1.2)

theorem keep_Src_Pick_ok {s_0 : T_deliberationkeep_Src} {l_1 : (List Int)} {b_0 : Nat} {r : Int × T_deliberationkeep_Src} (hm : keep_Src_Pick_m s_0 l_1 = some r) :
    FnOk prog 51 [pv (ptr b_0 0), slv (rI .i64) l_1] [oc b_0 [slv (rI .i64) s_0.L, iv .i64 s_0.At]] (fun (x : Unit) => [iv .i64 r.1]) (fun (x : Unit) => [oc b_0 [slv (rI .i64) r.2.L, iv .i64 r.2.At]]) := by
  refine fn_ok (fn := Try.f51) (N := 12) (res := fun r x => [iv .i64 r.1]) (Ω1 := fun r x => [oc b_0 [slv (rI .i64) r.2.L, iv .i64 r.2.At]]) Try.func51 rfl rfl hm rfl (fun E hM => ?_)
  unfold keep_Src_Pick_m
  refine ref_seq (ref_region ?_)
  refine as1 rfl rfl ?_
  refine l_nil (n_then (ref_seq (ref_region ?_)))
  refine mv1 rfl rfl ?_
  refine mv1 rfl rfl ?_
  refine mv1 rfl rfl ?_
  refine s_rd (r_len Try.underlying22 rfl) rfl ?_
  refine pull fun t1 h_t1 => ?_
  refine s_st (s_callC [0] [true] (fun (_ : Unit) => [oc b_0 [slv (rI .i64) t1.2.L, iv .i64 t1.2.At]]) (fun (_ : Unit) => []) (fun (_ : Unit) => iv .i64 t1.1) (args := [.tmp 6, .tmp 8]) (caps := []) Try.call9 rfl (keep_Src_N_ok h_t1) ⟨rfl, rfl, trivial⟩ (fun _ => rfl) (fun _ => trivial) (fun _ => rfl) ⟨arg rfl, arg rfl, trivial⟩ (fun _ _ _ _ h => h)) rfl (fun _ => ?_)
  refine pull fun t2 h_t2 => ?_
  refine s_rd (r_index h_t2 Try.underlying22 el_3 rfl rfl) rfl ?_
  refine s_rd (r_load el_3 rfl) rfl ?_
  refine as1 rfl rfl ?_
  refine l_nil (n_then (ref_ret ?_))
  exact fin1 (.inl rfl) () [0] rfl ⟨rfl, trivial⟩ rfl (rv_tmp rfl)

/-! (*deliberation/deliberationkeep.Src).Text -/
noncomputable def keep_Src_Text_m (s_0 : T_deliberationkeep_Src) (l_1 : (List ByteArray)) : Option (ByteArray × T_deliberationkeep_Src) :=
  Option.bind (keep_Src_N_m s_0 (l_1.length : Int)) fun t1 =>
  Option.bind (idxM l_1 t1.1) fun t2 =>
  some (t2, t1.2)

theorem keep_Src_Text_ok {s_0 : T_deliberationkeep_Src} {l_1 : (List ByteArray)} {b_0 : Nat} {r : ByteArray × T_deliberationkeep_Src} (hm : keep_Src_Text_m s_0 l_1 = some r) :
    FnOk prog 52 [pv (ptr b_0 0), slv rS l_1] [oc b_0 [slv (rI .i64) s_0.L, iv .i64 s_0.At]] (fun (x : Unit) => [sv r.1]) (fun (x : Unit) => [oc b_0 [slv (rI .i64) r.2.L, iv .i64 r.2.At]]) := by
  refine fn_ok (fn := Try.f52) (N := 12) (res := fun r x => [sv r.1]) (Ω1 := fun r x => [oc b_0 [slv (rI .i64) r.2.L, iv .i64 r.2.At]]) Try.func52 rfl rfl hm rfl (fun E hM => ?_)
  unfold keep_Src_Text_m
  refine ref_seq (ref_region ?_)
  refine as1 rfl rfl ?_
  refine l_nil (n_then (ref_seq (ref_region ?_)))
  refine mv1 rfl rfl ?_
  refine mv1 rfl rfl ?_
  refine mv1 rfl rfl ?_
  refine s_rd (r_len Try.underlying79 rfl) rfl ?_
  refine pull fun t1 h_t1 => ?_
  refine s_st (s_callC [0] [true] (fun (_ : Unit) => [oc b_0 [slv (rI .i64) t1.2.L, iv .i64 t1.2.At]]) (fun (_ : Unit) => []) (fun (_ : Unit) => iv .i64 t1.1) (args := [.tmp 6, .tmp 8]) (caps := []) Try.call9 rfl (keep_Src_N_ok h_t1) ⟨rfl, rfl, trivial⟩ (fun _ => rfl) (fun _ => trivial) (fun _ => rfl) ⟨arg rfl, arg rfl, trivial⟩ (fun _ _ _ _ h => h)) rfl (fun _ => ?_)
  refine pull fun t2 h_t2 => ?_
  refine s_rd (r_index h_t2 Try.underlying79 el_9 rfl rfl) rfl ?_
  refine s_rd (r_load el_9 rfl) rfl ?_
  refine as1 rfl rfl ?_
  refine l_nil (n_then (ref_ret ?_))
  exact fin1 (.inl rfl) () [0] rfl ⟨rfl, trivial⟩ rfl (rv_tmp rfl)

/-! deliberation/deliberationkeep.RuleName -/
noncomputable def keep_RuleName_m (i_0 : Int) : Option (ByteArray) :=
  Option.bind (keep_Mod_m i_0 26) fun t1 =>
  Option.bind (sconM (ByteArray.mk #[114]) (bstr [IntKind.wrap .u8 (iadd .i64 97 t1)])) fun t2 =>
  some t2

theorem keep_RuleName_ok {i_0 : Int} {r : ByteArray} (hm : keep_RuleName_m i_0 = some r) :
    FnOk prog 53 [iv .i64 i_0] [] (fun (x : Unit) => [sv r]) (fun (x : Unit) => []) := by
  refine fn_ok (fn := Try.f53) (N := 10) (res := fun r x => [sv r]) (Ω1 := fun r x => []) Try.func53 rfl rfl hm rfl (fun E hM => ?_)
  unfold keep_RuleName_m
  refine ref_seq (ref_region ?_)
  refine as1 rfl rfl ?_
  refine l_nil (n_then (ref_seq (ref_region ?_)))
  refine mv1 rfl rfl ?_
  refine pull fun t1 h_t1 => ?_
  refine s_st (s_call (ψ := fun (_ : Unit) => iv .i64 t1) (args := [.tmp 3, .const (.int .i64 (26))]) Try.call26 rfl (keep_Mod_ok h_t1) ⟨arg rfl, arg rfl, trivial⟩ (fun _ _ _ _ h => h)) rfl (fun _ => ?_)
  refine s_rd (r_add rfl rfl) rfl ?_
  refine s_rd (r_conv (k' := .u8) rfl rfl rfl) rfl ?_
  refine s_st (s_bslice (xs := [.tmp 6]) (ds := [IntKind.wrap .u8 (iadd .i64 97 t1)]) Try.underlying98 el_5 rfl (Nat.le_of_ble_eq_true rfl) ⟨(part_at rfl iv_at), trivial⟩) rfl (fun _ => ?_)
  refine s_rd (r_b2s Try.underlying98 Try.underlying9 Try.underlying5 rfl) rfl ?_
  refine pull fun t2 h_t2 => ?_
  refine s_rd (r_sadd h_t2 rfl rfl) rfl ?_
  refine as1 rfl rfl ?_
  refine l_nil (n_then (ref_ret ?_))
  exact fin1 (.inl rfl) () [] rfl trivial rfl (rv_tmp rfl)

/-! (*deliberation/deliberationkeep.Src).Literals -/
noncomputable def keep_Src_Literals_l1 (n_2 : Int) (s15 : Int × T_deliberationkeep_Src × (List T_api_Literal)) : Option (Sum (T_deliberationkeep_Src × (List T_api_Literal)) (Int × T_deliberationkeep_Src × (List T_api_Literal))) :=
  bif decide (s15.1 > 0) then
    Option.bind (keep_Src_Literal_m s15.2.1 n_2) fun t18 =>
    Option.bind (appM 24 s15.2.2 [t18.1]) fun out19 =>
    letM (isub .i64 s15.1 1) fun k21 =>
    some (Sum.inr (k21, t18.2, out19))
  else
    some (Sum.inl (s15.2.1, s15.2.2))

noncomputable def keep_Src_Literals_m (s_0 : T_deliberationkeep_Src) (most_1 : Int) (n_2 : Int) : Option (List T_api_Literal × T_deliberationkeep_Src) :=
  Option.bind (keep_Src_N_m s_0 (iadd .i64 most_1 1)) fun k1 =>
  Option.bind (loopC (keep_Src_Literals_l1 n_2) (k1.1, k1.2, [])) fun q22 : T_deliberationkeep_Src × (List T_api_Literal) =>
  some (q22.2, q22.1)

theorem keep_Src_Literals_ok {s_0 : T_deliberationkeep_Src} {most_1 : Int} {n_2 : Int} {b_0 : Nat} {r : List T_api_Literal × T_deliberationkeep_Src} (hm : keep_Src_Literals_m s_0 most_1 n_2 = some r) :
    FnOk prog 55 [pv (ptr b_0 0), iv .i64 most_1, iv .i64 n_2] [oc b_0 [slv (rI .i64) s_0.L, iv .i64 s_0.At]] (fun (x : (Value × List Nat)) => [pv x.1]) (fun (x : (Value × List Nat)) => [oc b_0 [slv (rI .i64) r.2.L, iv .i64 r.2.At], oa rT_api_Literal x.1 x.2 r.1]) := by
  refine fn_ok (X := (Value × List Nat)) (fn := Try.f55) (N := 24) (res := fun r x => [pv x.1]) (Ω1 := fun r x => [oc b_0 [slv (rI .i64) r.2.L, iv .i64 r.2.At], oa rT_api_Literal x.1 x.2 r.1]) Try.func55 rfl rfl hm rfl (fun E hM => ?_)
  unfold keep_Src_Literals_m
  refine ref_seq (ref_region ?_)
  refine as1 rfl rfl ?_
  refine l_nil (n_then (ref_seq (ref_region ?_)))
  refine as1 rfl rfl ?_
  refine l_nil (n_then (ref_seq (ref_seq (ref_region ?_))))
  refine mv1 rfl rfl ?_
  refine mv1 rfl rfl ?_
  refine s_rd (r_add rfl rfl) rfl ?_
  refine pull fun k1 h_k1 => ?_
  refine s_st (s_callC [0] [true] (fun (_ : Unit) => [oc b_0 [slv (rI .i64) k1.2.L, iv .i64 k1.2.At]]) (fun (_ : Unit) => []) (fun (_ : Unit) => iv .i64 k1.1) (args := [.tmp 9, .tmp 11]) (caps := []) Try.call9 rfl (keep_Src_N_ok h_k1) ⟨rfl, rfl, trivial⟩ (fun _ => rfl) (fun _ => trivial) (fun _ => rfl) ⟨arg rfl, arg rfl, trivial⟩ (fun _ _ _ _ h => h)) rfl (fun _ => ?_)
  refine as1 rfl rfl ?_
  refine l_nil (n_then ?_)
  refine b_of (own_nil rT_api_Literal) ?_
  refine ref_loopB (f := (keep_Src_Literals_l1 n_2)) (Γl := (fun (s15 : Int × T_deliberationkeep_Src × (List T_api_Literal)) (x16 : (Value × List Nat)) => [(0, pv (ptr b_0 0)), (2, iv .i64 n_2), (7, pv x16.1), (8, iv .i64 s15.1)])) (Ωl := (fun (s15 : Int × T_deliberationkeep_Src × (List T_api_Literal)) (x16 : (Value × List Nat)) => [oc b_0 [slv (rI .i64) s15.2.1.L, iv .i64 s15.2.1.At], oa rT_api_Literal x16.1 x16.2 s15.2.2])) (Γb := (fun (q22 : T_deliberationkeep_Src × (List T_api_Literal)) (y23 : (Value × List Nat)) => [(0, pv (ptr b_0 0)), (7, pv y23.1)])) (Ωb := (fun (q22 : T_deliberationkeep_Src × (List T_api_Literal)) (y23 : (Value × List Nat)) => [oc b_0 [slv (rI .i64) q22.1.L, iv .i64 q22.1.At], oa rT_api_Literal y23.1 y23.2 q22.2])) (k1.1, k1.2, []) ((.slice none 0 0), []) (weak [0, 1] ⟨rfl, rfl, rfl, rfl, trivial⟩ ⟨rfl, rfl, trivial⟩) (fun s15 x16 => ?_) (fun q22 y23 => ?_)
  · unfold keep_Src_Literals_l1
    refine ref_seq (ref_seq (ref_region ?_))
    refine mv1 rfl rfl ?_
    refine s_rd (r_gtr rfl rfl) rfl ?_
    refine l_nil (n_then ?_)
    refine ref_cond rfl (fun hb17 => ?_) (fun hb17 => ?_)
    · refine ref_skip (n_then (ref_seq (ref_block (ref_region ?_))))
      refine mv1 rfl rfl ?_
      refine mv1 rfl rfl ?_
      refine mv1 rfl rfl ?_
      refine pull fun t18 h_t18 => ?_
      refine s_st (s_callC [0] [true] (fun (_ : Unit) => [oc b_0 [slv (rI .i64) t18.2.L, iv .i64 t18.2.At]]) (fun (_ : Unit) => []) (fun (_ : Unit) => ag [bv t18.1.Neg, sv t18.1.Name]) (args := [.tmp 18, .tmp 19]) (caps := []) Try.call50 rfl (keep_Src_Literal_ok h_t18) ⟨rfl, rfl, trivial⟩ (fun _ => rfl) (fun _ => trivial) (fun _ => rfl) ⟨arg rfl, arg rfl, trivial⟩ (fun _ _ _ _ h => h)) rfl (fun _ => ?_)
      refine s_st (s_bslice (xs := [.tmp 20]) (ds := [t18.1]) Try.underlying53 el_50 rfl (Nat.le_of_ble_eq_true rfl) ⟨(part_agO (ψs := [bv t18.1.Neg, sv t18.1.Name]) rfl ⟨.inl bv_at, .inl sv_at, trivial⟩), trivial⟩) rfl (fun _ => ?_)
      refine pull fun out19 h_out19 => ?_
      refine s_st (s_append h_out19 Try.underlying53 el_50 rfl (j := 1) rfl rfl) rfl (fun o20 => ?_)
      refine as1 rfl rfl ?_
      refine l_nil ?_
      refine b_of (nrm [oc b_0 [slv (rI .i64) t18.2.L, iv .i64 t18.2.At], oa rT_api_Literal o20.1 o20.2 out19] rfl) ?_
      refine n_block (n_then (ref_region ?_))
      refine mv1 rfl rfl ?_
      refine s_rd (r_sub rfl rfl) rfl ?_
      refine as1 rfl rfl ?_
      refine b_let (f := iv .i64) (t := 8) rfl fun k21 => ?_
      refine l_nil ?_
      exact goB o20 (weak [0, 1] ⟨rfl, rfl, rfl, rfl, trivial⟩ ⟨rfl, rfl, trivial⟩)
    refine ref_exit (x_then ?_)
    exact brkB x16 (weak [0, 1] ⟨rfl, rfl, trivial⟩ ⟨rfl, rfl, trivial⟩)
  refine n_then (ref_seq (ref_region ?_))
  refine mv1 rfl rfl ?_
  refine as1 rfl rfl ?_
  refine l_nil (n_then (ref_ret ?_))
  exact fin1 (.inl rfl) y23 [0, 1] rfl ⟨rfl, rfl, trivial⟩ rfl (rv_tmp rfl)

end Go.Dc
