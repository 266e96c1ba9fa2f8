/- Part LAW08T.A3 of a proof: lemmas. -/
import Derived.Test.YtofcoilhjmkejaaLAW08TA2
import Derived.Test.YtofcoilhjmkejaaProg
set_option linter.unusedVariables false
set_option maxRecDepth 100000
set_option maxHeartbeats 4000000
namespace Go.Dc
open Go.Proofs
open Go.Proofs.Try (prog)

/-! deliberation/deliberationlaw08.LiftFirm -/
noncomputable def law08_LiftFirm_l3 (t3 : T_api_Base × List T_api_Argument × T_deliberationkeep_Src) (t100 : T_api_Ordering) (s143 : Int) (j151 : Bool) (s168 : Int) : Option (Sum ((Sum (Bool) (Unit))) (Int)) :=
  bif decide (s168 < (t3.2.1.length : Int)) then
    joinM (fun j176 : Bool =>
        bif j151 then
          Option.bind (lift_Less_m t3.1 t3.2.1 s143 s168 t100) fun t179 =>
          bif t179 then
            some (Sum.inl (Sum.inl false))
          else
            Option.bind (lift_Less_m t3.1 t3.2.1 s168 s143 t100) fun t180 =>
            bif !(t180 == j176) then
              some (Sum.inl (Sum.inl false))
            else
              some (Sum.inr (iadd .i64 s168 1))
        else
          some (Sum.inr (iadd .i64 s168 1))) fun k178 =>
    Option.bind (ref08_PremiseRanks_m t3.1 t3.2.1 s168) fun t171 =>
    bif decide ((t171.length : Int) > 0) then
      k178 true
    else
      Option.bind (ref08_RuleRanks_m t3.1 t3.2.1 s168) fun t173 =>
      letM (decide ((t173.length : Int) > 0)) fun other175 =>
      k178 other175
  else
    some (Sum.inl (Sum.inr ()))

noncomputable def law08_LiftFirm_l2 (t3 : T_api_Base × List T_api_Argument × T_deliberationkeep_Src) (t100 : T_api_Ordering) (s143 : Int) : Option (Sum ((Sum (Bool) (Unit))) (Int)) :=
  bif decide (s143 < (t3.2.1.length : Int)) then
    joinM (fun j151 : Bool =>
        Option.bind (loopC (law08_LiftFirm_l3 t3 t100 s143 j151) 0) (sumK (fun a : Bool => some (Sum.inl (Sum.inl a))) fun q182 : Unit =>
          some (Sum.inr (iadd .i64 s143 1)))) fun k153 =>
    Option.bind (ref08_PremiseRanks_m t3.1 t3.2.1 s143) fun t146 =>
    bif (t146.length : Int) == 0 then
      Option.bind (ref08_RuleRanks_m t3.1 t3.2.1 s143) fun t148 =>
      letM ((t148.length : Int) == 0) fun firm150 =>
      k153 firm150
    else
      k153 false
  else
    some (Sum.inl (Sum.inr ()))

noncomputable def law08_LiftFirm_l1 (t3 : T_api_Base × List T_api_Argument × T_deliberationkeep_Src) (t6 : List T_api_Ordering) (s97 : Int) : Option (Sum ((Sum (Bool) (Unit))) (Int)) :=
  bif decide (s97 < (t6.length : Int)) then
    Option.bind (idxM t6 s97) fun t100 =>
    Option.bind (loopC (law08_LiftFirm_l2 t3 t100) 0) (sumK (fun a : Bool => some (Sum.inl (Sum.inl a))) fun q184 : Unit =>
      some (Sum.inr (iadd .i64 s97 1)))
  else
    some (Sum.inl (Sum.inr ()))

noncomputable def law08_LiftFirm_m (l_0 : (List Int)) : Option (Bool) :=
  Option.bind (keep_New_m l_0) fun s1 =>
  Option.bind (law08_built_m s1 4 6 8) fun t3 =>
  Option.bind (keep_Orderings_m ) fun t6 =>
  Option.bind (loopC (law08_LiftFirm_l1 t3 t6) 0) (sumK (fun a : Bool => some a) fun q186 : Unit =>
    Option.bind (law08_awake_m ) fun t188 =>
    some t188)

theorem law08_LiftFirm_ok {l_0 : (List Int)} {r : Bool} (hm : law08_LiftFirm_m l_0 = some r) :
    FnOk prog 6 [slv (rI .i64) l_0] [] (fun (x : Unit) => [bv r]) (fun (x : Unit) => []) := by
  refine fn_ok (fn := Try.f6) (N := 86) (res := fun r x => [bv r]) (Ω1 := fun r x => []) Try.func6 rfl rfl hm rfl (fun E hM => ?_)
  unfold law08_LiftFirm_m
  refine ref_seq (ref_region ?_)
  refine as1 rfl rfl ?_
  refine l_nil (n_then (ref_seq (ref_region ?_)))
  refine mv1 rfl rfl ?_
  refine pull fun s1 h_s1 => ?_
  refine s_st (s_call (ψ := fun (x2 : Nat) => pv (ptr x2 0)) (args := [.tmp 12]) Try.call8 rfl (keep_New_ok h_s1) ⟨arg rfl, trivial⟩ (fun _ _ _ _ h => h)) rfl (fun x2 => ?_)
  refine as1 rfl rfl ?_
  refine l_nil (n_then (ref_seq (ref_region ?_)))
  refine mv1 rfl rfl ?_
  refine pull fun t3 h_t3 => ?_
  refine s_st (s_callC [0] [true] (fun (x4 : (Value × List Nat)) => [oc x2 [slv (rI .i64) t3.2.2.L, iv .i64 t3.2.2.At]]) (fun (x4 : (Value × List Nat)) => [oa rT_api_Argument x4.1 x4.2 t3.2.1]) (fun (x4 : (Value × List Nat)) => tup [ag [slv rT_api_Premise t3.1.Premises, slv rT_api_Rule t3.1.Rules, slv rT_api_Promotion t3.1.Promotions], pv x4.1]) (args := [.tmp 15, .const (.int .i64 (4)), .const (.int .i64 (6)), .const (.int .i64 (8))]) (caps := []) Try.call13 rfl (law08_built_ok h_t3) ⟨rfl, rfl, trivial⟩ (fun _ => rfl) (fun _ => trivial) (fun _ => rfl) ⟨arg rfl, arg rfl, arg rfl, arg rfl, trivial⟩ (fun _ _ _ _ h => h)) rfl (fun x4 => ?_)
  refine mv1 rfl rfl ?_
  refine s_rd (r_extract rfl rfl) rfl ?_
  refine s_rd (r_extract rfl rfl) rfl ?_
  refine s_st (s_alloc zt_34) rfl (fun b5 => ?_)
  refine s_st0 (s_cstore (out := [slv rT_api_Premise t3.1.Premises, slv rT_api_Rule t3.1.Rules, slv rT_api_Promotion t3.1.Promotions]) Try.sizeOf34 rfl (j := 2) rfl (part_agO (ψs := [slv rT_api_Premise t3.1.Premises, slv rT_api_Rule t3.1.Rules, slv rT_api_Promotion t3.1.Promotions]) rfl ⟨.inl slv_at, .inl slv_at, .inl slv_at, trivial⟩) rfl rfl rfl) (fun _ => ?_)
  refine as1 rfl rfl ?_
  refine l_nil ?_
  refine b_of (nrm [oc x2 [slv (rI .i64) t3.2.2.L, iv .i64 t3.2.2.At], oa rT_api_Argument x4.1 x4.2 t3.2.1, oc b5 [slv rT_api_Premise t3.1.Premises, slv rT_api_Rule t3.1.Rules, slv rT_api_Promotion t3.1.Promotions]] rfl) ?_
  refine n_then (ref_seq (ref_seq (ref_region ?_)))
  refine pull fun t6 h_t6 => ?_
  refine s_st (s_call (ψ := fun (x7 : (Value × List Nat)) => pv x7.1) (args := []) Try.call23 rfl (keep_Orderings_ok h_t6) trivial (fun _ _ _ _ h => h)) rfl (fun x7 => ?_)
  refine s_rd (r_olen Try.underlying44 rfl (j := 3) rfl) rfl ?_
  refine mv1 rfl rfl ?_
  refine l_nil (n_then ?_)
  refine b_of (frzL [18, 5] (j := 1) rfl ⟨rfl, rfl, trivial⟩) ?_
  refine ref_loopX (f := (law08_LiftFirm_l1 t3 t6)) (Γl := (fun (s97 : Int) (x98 : Unit) => [(4, pv (ptr b5 0)), (5, slv rT_api_Argument t3.2.1), (19, pv x7.1), (20, iv .i64 (t6.length : Int)), (21, iv .i64 s97)])) (Ωl := (fun (s97 : Int) (x98 : Unit) => [oc b5 [slv rT_api_Premise t3.1.Premises, slv rT_api_Rule t3.1.Rules, slv rT_api_Promotion t3.1.Promotions], oa rT_api_Ordering x7.1 x7.2 t6])) (Γb := (fun (q186 : Unit) (y187 : Unit) => [])) (Ωb := (fun (q186 : Unit) (y187 : Unit) => [])) (kr := (fun a : Bool => some a)) 0 () (weak [2, 3] ⟨rfl, rfl, rfl, rfl, rfl, trivial⟩ ⟨rfl, rfl, trivial⟩) (fun s97 x98 => ?_) (fun q186 y187 => ?_)
  · unfold law08_LiftFirm_l1
    refine ref_seq (ref_region ?_)
    refine s_rd (r_lss rfl rfl) rfl ?_
    refine l_nil (n_then (ref_seq ?_))
    refine ref_cond rfl (fun hb99 => ?_) (fun hb99 => ?_)
    · refine ref_skip (n_then (ref_seq (ref_block (ref_seq (ref_region ?_)))))
      refine pull fun t100 h_t100 => ?_
      refine s_rd (r_oindex h_t100 Try.underlying44 el_43 rfl (j := 1) rfl rfl) rfl ?_
      refine s_rd (r_oload h_t100 el_43 rfl (j := 1) rfl) rfl ?_
      refine s_st (s_alloc zt_43) rfl (fun b101 => ?_)
      refine s_st0 (s_cstore (out := [iv .i64 t100.Link, iv .i64 t100.Lift]) Try.sizeOf43 rfl (j := 2) rfl (part_agO (ψs := [iv .i64 t100.Link, iv .i64 t100.Lift]) rfl ⟨.inl iv_at, .inl iv_at, trivial⟩) rfl rfl rfl) (fun _ => ?_)
      refine l_nil (n_then (ref_seq (ref_region ?_)))
      refine mv1 rfl rfl ?_
      refine s_rd (r_len Try.underlying35 rfl) rfl ?_
      refine mv1 rfl rfl ?_
      refine l_nil (n_then ?_)
      refine ref_loopX (f := (law08_LiftFirm_l2 t3 t100)) (Γl := (fun (s143 : Int) (x144 : Unit) => [(4, pv (ptr b5 0)), (5, slv rT_api_Argument t3.2.1), (7, pv (ptr b101 0)), (19, pv x7.1), (20, iv .i64 (t6.length : Int)), (21, iv .i64 s97), (26, iv .i64 (t3.2.1.length : Int)), (27, iv .i64 s143)])) (Ωl := (fun (s143 : Int) (x144 : Unit) => [oc b5 [slv rT_api_Premise t3.1.Premises, slv rT_api_Rule t3.1.Rules, slv rT_api_Promotion t3.1.Promotions], oc b101 [iv .i64 t100.Link, iv .i64 t100.Lift], oa rT_api_Ordering x7.1 x7.2 t6])) (Γb := (fun (q184 : Unit) (y185 : Unit) => [(4, pv (ptr b5 0)), (5, slv rT_api_Argument t3.2.1), (19, pv x7.1), (20, iv .i64 (t6.length : Int)), (21, iv .i64 s97)])) (Ωb := (fun (q184 : Unit) (y185 : Unit) => [oc b5 [slv rT_api_Premise t3.1.Premises, slv rT_api_Rule t3.1.Rules, slv rT_api_Promotion t3.1.Promotions], oa rT_api_Ordering x7.1 x7.2 t6])) (kr := (fun a : Bool => some (Sum.inl (Sum.inl a)))) 0 () (weak [0, 2, 1] ⟨rfl, rfl, rfl, rfl, rfl, rfl, rfl, rfl, trivial⟩ ⟨rfl, rfl, rfl, trivial⟩) (fun s143 x144 => ?_) (fun q184 y185 => ?_)
      · unfold law08_LiftFirm_l2
        refine ref_seq (ref_region ?_)
        refine s_rd (r_lss rfl rfl) rfl ?_
        refine l_nil (n_then (ref_seq ?_))
        refine ref_cond rfl (fun hb145 => ?_) (fun hb145 => ?_)
        · refine ref_skip (n_then (ref_seq (ref_block (ref_seq (ref_region ?_)))))
          refine mv1 rfl rfl ?_
          refine as1 rfl rfl ?_
          refine l_nil (n_then (ref_seq ?_))
          refine ref_join (fun (j151 : Bool) (x152 : Unit) => [(4, pv (ptr b5 0)), (5, slv rT_api_Argument t3.2.1), (7, pv (ptr b101 0)), (8, iv .i64 s143), (9, bv j151), (19, pv x7.1), (20, iv .i64 (t6.length : Int)), (21, iv .i64 s97), (26, iv .i64 (t3.2.1.length : Int)), (27, iv .i64 s143)]) (fun (j151 : Bool) (x152 : Unit) => [oc b5 [slv rT_api_Premise t3.1.Premises, slv rT_api_Rule t3.1.Rules, slv rT_api_Promotion t3.1.Promotions], oc b101 [iv .i64 t100.Link, iv .i64 t100.Lift], oa rT_api_Ordering x7.1 x7.2 t6]) (fun k153 hk153 => ?_) (fun j151 x152 => ?_)
          · refine ref_region ?_
            refine s_rd (r_cloadS Try.isAgg34 Try.sizeOf34 rfl (j := 0) rfl rfl rfl) rfl ?_
            refine mv1 rfl rfl ?_
            refine mv1 rfl rfl ?_
            refine pull fun t146 h_t146 => ?_
            refine s_st (s_call (ψ := fun (x147 : (Value × List Nat)) => pv x147.1) (args := [.tmp 30, .tmp 31, .tmp 32]) Try.call16 rfl (ref08_PremiseRanks_ok h_t146) ⟨arg rfl, arg rfl, arg rfl, trivial⟩ (fun _ _ _ _ h => h)) rfl (fun x147 => ?_)
            refine s_rd (r_olen Try.underlying22 rfl (j := 3) rfl) rfl ?_
            refine s_rd (r_eql rfl rfl) rfl ?_
            refine mv1 rfl rfl ?_
            refine b_split (t := 36) rfl (fun _ => ?_) (fun _ => ?_)
            · refine s_on rfl rfl rfl ?_
              refine s_rd (r_cloadS Try.isAgg34 Try.sizeOf34 rfl (j := 0) rfl rfl rfl) rfl ?_
              refine s_on rfl rfl rfl ?_
              refine mv1 rfl rfl ?_
              refine s_on rfl rfl rfl ?_
              refine mv1 rfl rfl ?_
              refine s_on rfl rfl rfl ?_
              refine pull fun t148 h_t148 => ?_
              refine s_st (s_call (ψ := fun (x149 : (Value × List Nat)) => pv x149.1) (args := [.tmp 37, .tmp 38, .tmp 39]) Try.call18 rfl (ref08_RuleRanks_ok h_t148) ⟨arg rfl, arg rfl, arg rfl, trivial⟩ (fun _ _ _ _ h => h)) rfl (fun x149 => ?_)
              refine s_on rfl rfl rfl ?_
              refine s_rd (r_olen Try.underlying22 rfl (j := 4) rfl) rfl ?_
              refine s_on rfl rfl rfl ?_
              refine s_rd (r_eql rfl rfl) rfl ?_
              refine s_rd (r_pickT rfl rfl) rfl ?_
              refine as1 rfl rfl ?_
              refine b_let (f := bv) (t := 9) rfl fun firm150 => ?_
              refine l_nil ?_
              refine b_of (nrm [oc b5 [slv rT_api_Premise t3.1.Premises, slv rT_api_Rule t3.1.Rules, slv rT_api_Promotion t3.1.Promotions], oc b101 [iv .i64 t100.Link, iv .i64 t100.Lift], oa rT_api_Ordering x7.1 x7.2 t6, oa (rI .i64) x147.1 x147.2 t146, oa (rI .i64) x149.1 x149.2 t148] rfl) ?_
              exact b_to (hk153 firm150 ()) (weak [0, 1, 2] ⟨rfl, rfl, rfl, rfl, rfl, rfl, rfl, rfl, rfl, rfl, trivial⟩ ⟨rfl, rfl, rfl, trivial⟩)
            refine s_off rfl rfl rfl rfl rfl ?_
            refine s_off rfl rfl rfl rfl rfl ?_
            refine s_off rfl rfl rfl rfl rfl ?_
            refine s_off rfl rfl rfl rfl rfl ?_
            refine s_off rfl rfl rfl rfl rfl ?_
            refine s_off rfl rfl rfl rfl rfl ?_
            refine s_rd (r_pickF rfl rfl) rfl ?_
            refine as1 rfl rfl ?_
            refine l_nil ?_
            refine b_of (nrm [oc b5 [slv rT_api_Premise t3.1.Premises, slv rT_api_Rule t3.1.Rules, slv rT_api_Promotion t3.1.Promotions], oc b101 [iv .i64 t100.Link, iv .i64 t100.Lift], oa rT_api_Ordering x7.1 x7.2 t6, oa (rI .i64) x147.1 x147.2 t146] rfl) ?_
            exact b_to (hk153 false ()) (weak [0, 1, 2] ⟨rfl, rfl, rfl, rfl, rfl, rfl, rfl, rfl, rfl, rfl, trivial⟩ ⟨rfl, rfl, rfl, trivial⟩)
          refine n_then (ref_seq (ref_region ?_))
          refine mv1 rfl rfl ?_
          refine s_rd (r_len Try.underlying35 rfl) rfl ?_
          refine mv1 rfl rfl ?_
          refine l_nil (n_then ?_)
          refine ref_loopX (f := (law08_LiftFirm_l3 t3 t100 s143 j151)) (Γl := (fun (s168 : Int) (x169 : Unit) => [(4, pv (ptr b5 0)), (5, slv rT_api_Argument t3.2.1), (7, pv (ptr b101 0)), (8, iv .i64 s143), (9, bv j151), (19, pv x7.1), (20, iv .i64 (t6.length : Int)), (21, iv .i64 s97), (26, iv .i64 (t3.2.1.length : Int)), (27, iv .i64 s143), (45, iv .i64 (t3.2.1.length : Int)), (46, iv .i64 s168)])) (Ωl := (fun (s168 : Int) (x169 : Unit) => [oc b5 [slv rT_api_Premise t3.1.Premises, slv rT_api_Rule t3.1.Rules, slv rT_api_Promotion t3.1.Promotions], oc b101 [iv .i64 t100.Link, iv .i64 t100.Lift], oa rT_api_Ordering x7.1 x7.2 t6])) (Γb := (fun (q182 : Unit) (y183 : Unit) => [(4, pv (ptr b5 0)), (5, slv rT_api_Argument t3.2.1), (7, pv (ptr b101 0)), (19, pv x7.1), (20, iv .i64 (t6.length : Int)), (21, iv .i64 s97), (26, iv .i64 (t3.2.1.length : Int)), (27, iv .i64 s143)])) (Ωb := (fun (q182 : Unit) (y183 : Unit) => [oc b5 [slv rT_api_Premise t3.1.Premises, slv rT_api_Rule t3.1.Rules, slv rT_api_Promotion t3.1.Promotions], oc b101 [iv .i64 t100.Link, iv .i64 t100.Lift], oa rT_api_Ordering x7.1 x7.2 t6])) (kr := (fun a : Bool => some (Sum.inl (Sum.inl a)))) 0 () (weak [0, 1, 2] ⟨rfl, rfl, rfl, rfl, rfl, rfl, rfl, rfl, rfl, rfl, rfl, rfl, trivial⟩ ⟨rfl, rfl, rfl, trivial⟩) (fun s168 x169 => ?_) (fun q182 y183 => ?_)
          · unfold law08_LiftFirm_l3
            refine ref_seq (ref_region ?_)
            refine s_rd (r_lss rfl rfl) rfl ?_
            refine l_nil (n_then (ref_seq ?_))
            refine ref_cond rfl (fun hb170 => ?_) (fun hb170 => ?_)
            · refine ref_skip (n_then (ref_seq (ref_block (ref_seq (ref_region ?_)))))
              refine mv1 rfl rfl ?_
              refine as1 rfl rfl ?_
              refine l_nil (n_then (ref_seq ?_))
              refine ref_join (fun (j176 : Bool) (x177 : Unit) => [(4, pv (ptr b5 0)), (5, slv rT_api_Argument t3.2.1), (7, pv (ptr b101 0)), (8, iv .i64 s143), (9, bv j151), (10, iv .i64 s168), (11, bv j176), (19, pv x7.1), (20, iv .i64 (t6.length : Int)), (21, iv .i64 s97), (26, iv .i64 (t3.2.1.length : Int)), (27, iv .i64 s143), (45, iv .i64 (t3.2.1.length : Int)), (46, iv .i64 s168)]) (fun (j176 : Bool) (x177 : Unit) => [oc b5 [slv rT_api_Premise t3.1.Premises, slv rT_api_Rule t3.1.Rules, slv rT_api_Promotion t3.1.Promotions], oc b101 [iv .i64 t100.Link, iv .i64 t100.Lift], oa rT_api_Ordering x7.1 x7.2 t6]) (fun k178 hk178 => ?_) (fun j176 x177 => ?_)
              · refine ref_region ?_
                refine s_rd (r_cloadS Try.isAgg34 Try.sizeOf34 rfl (j := 0) rfl rfl rfl) rfl ?_
                refine mv1 rfl rfl ?_
                refine mv1 rfl rfl ?_
                refine pull fun t171 h_t171 => ?_
                refine s_st (s_call (ψ := fun (x172 : (Value × List Nat)) => pv x172.1) (args := [.tmp 49, .tmp 50, .tmp 51]) Try.call16 rfl (ref08_PremiseRanks_ok h_t171) ⟨arg rfl, arg rfl, arg rfl, trivial⟩ (fun _ _ _ _ h => h)) rfl (fun x172 => ?_)
                refine s_rd (r_olen Try.underlying22 rfl (j := 3) rfl) rfl ?_
                refine s_rd (r_gtr rfl rfl) rfl ?_
                refine mv1 rfl rfl ?_
                refine b_split (t := 55) rfl (fun _ => ?_) (fun _ => ?_)
                · refine s_off rfl rfl rfl rfl rfl ?_
                  refine s_off rfl rfl rfl rfl rfl ?_
                  refine s_off rfl rfl rfl rfl rfl ?_
                  refine s_off rfl rfl rfl rfl rfl ?_
                  refine s_off rfl rfl rfl rfl rfl ?_
                  refine s_off rfl rfl rfl rfl rfl ?_
                  refine s_rd (r_pickT rfl rfl) rfl ?_
                  refine as1 rfl rfl ?_
                  refine l_nil ?_
                  exact b_to (hk178 true ()) (weak [0, 1, 2] ⟨rfl, rfl, rfl, rfl, rfl, rfl, rfl, rfl, rfl, rfl, rfl, rfl, rfl, rfl, trivial⟩ ⟨rfl, rfl, rfl, trivial⟩)
                refine s_on rfl rfl rfl ?_
                refine s_rd (r_cloadS Try.isAgg34 Try.sizeOf34 rfl (j := 0) rfl rfl rfl) rfl ?_
                refine s_on rfl rfl rfl ?_
                refine mv1 rfl rfl ?_
                refine s_on rfl rfl rfl ?_
                refine mv1 rfl rfl ?_
                refine s_on rfl rfl rfl ?_
                refine pull fun t173 h_t173 => ?_
                refine s_st (s_call (ψ := fun (x174 : (Value × List Nat)) => pv x174.1) (args := [.tmp 56, .tmp 57, .tmp 58]) Try.call18 rfl (ref08_RuleRanks_ok h_t173) ⟨arg rfl, arg rfl, arg rfl, trivial⟩ (fun _ _ _ _ h => h)) rfl (fun x174 => ?_)
                refine s_on rfl rfl rfl ?_
                refine s_rd (r_olen Try.underlying22 rfl (j := 4) rfl) rfl ?_
                refine s_on rfl rfl rfl ?_
                refine s_rd (r_gtr rfl rfl) rfl ?_
                refine s_rd (r_pickF rfl rfl) rfl ?_
                refine as1 rfl rfl ?_
                refine b_let (f := bv) (t := 11) rfl fun other175 => ?_
                refine l_nil ?_
                exact b_to (hk178 other175 ()) (weak [0, 1, 2] ⟨rfl, rfl, rfl, rfl, rfl, rfl, rfl, rfl, rfl, rfl, rfl, rfl, rfl, rfl, trivial⟩ ⟨rfl, rfl, rfl, trivial⟩)
              refine n_then (ref_seq (ref_region ?_))
              refine mv1 rfl rfl ?_
              refine mv1 rfl rfl ?_
              refine b_split (t := 64) rfl (fun _ => ?_) (fun _ => ?_)
              · refine s_on rfl rfl rfl ?_
                refine s_rd (r_cloadS Try.isAgg34 Try.sizeOf34 rfl (j := 0) rfl rfl rfl) rfl ?_
                refine s_on rfl rfl rfl ?_
                refine mv1 rfl rfl ?_
                refine s_on rfl rfl rfl ?_
                refine mv1 rfl rfl ?_
                refine s_on rfl rfl rfl ?_
                refine mv1 rfl rfl ?_
                refine s_on rfl rfl rfl ?_
                refine s_rd (r_cloadS Try.isAgg43 Try.sizeOf43 rfl (j := 1) rfl rfl rfl) rfl ?_
                refine s_on rfl rfl rfl ?_
                refine pull fun t179 h_t179 => ?_
                refine s_st (s_call (ψ := fun (_ : Unit) => bv t179) (args := [.tmp 65, .tmp 66, .tmp 67, .tmp 68, .tmp 69]) Try.call24 rfl (lift_Less_ok h_t179) ⟨arg rfl, arg rfl, arg rfl, arg rfl, arg rfl, trivial⟩ (fun _ _ _ _ h => h)) rfl (fun _ => ?_)
                refine s_on rfl rfl rfl ?_
                refine mv1 rfl rfl ?_
                refine b_split (t := 71) rfl (fun _ => ?_) (fun _ => ?_)
                · refine s_off rfl rfl rfl rfl rfl ?_
                  refine s_off rfl rfl rfl rfl rfl ?_
                  refine s_off rfl rfl rfl rfl rfl ?_
                  refine s_off rfl rfl rfl rfl rfl ?_
                  refine s_off rfl rfl rfl rfl rfl ?_
                  refine s_off rfl rfl rfl rfl rfl ?_
                  refine s_off rfl rfl rfl rfl rfl ?_
                  refine s_off rfl rfl rfl rfl rfl ?_
                  refine s_on rfl rfl rfl ?_
                  refine s_rd (r_pickT rfl rfl) rfl ?_
                  refine s_rd (r_pickT rfl rfl) rfl ?_
                  refine l_nil (n_then ?_)
                  refine ref_condT rfl rfl ?_
                  refine ref_seq (ref_region ?_)
                  refine as1 rfl rfl ?_
                  refine l_nil (n_then (ref_ret (r_block (r_then ?_))))
                  refine retX ?_
                  refine r_block (r_block (r_then ?_))
                  refine retX ?_
                  refine r_block (r_block (r_then ?_))
                  refine retX ?_
                  refine r_block (r_then ?_)
                  exact fin1 (.inl rfl) () [] rfl trivial rfl (rv_tmp rfl)
                refine s_on rfl rfl rfl ?_
                refine s_rd (r_cloadS Try.isAgg34 Try.sizeOf34 rfl (j := 0) rfl rfl rfl) rfl ?_
                refine s_on rfl rfl rfl ?_
                refine mv1 rfl rfl ?_
                refine s_on rfl rfl rfl ?_
                refine mv1 rfl rfl ?_
                refine s_on rfl rfl rfl ?_
                refine mv1 rfl rfl ?_
                refine s_on rfl rfl rfl ?_
                refine s_rd (r_cloadS Try.isAgg43 Try.sizeOf43 rfl (j := 1) rfl rfl rfl) rfl ?_
                refine s_on rfl rfl rfl ?_
                refine pull fun t180 h_t180 => ?_
                refine s_st (s_call (ψ := fun (_ : Unit) => bv t180) (args := [.tmp 72, .tmp 73, .tmp 74, .tmp 75, .tmp 76]) Try.call24 rfl (lift_Less_ok h_t180) ⟨arg rfl, arg rfl, arg rfl, arg rfl, arg rfl, trivial⟩ (fun _ _ _ _ h => h)) rfl (fun _ => ?_)
                refine s_on rfl rfl rfl ?_
                refine mv1 rfl rfl ?_
                refine s_on rfl rfl rfl ?_
                refine s_rd (r_bneq Try.underlying4 rfl rfl) rfl ?_
                refine s_on rfl rfl rfl ?_
                refine s_rd (r_pickF rfl rfl) rfl ?_
                refine s_rd (r_pickT rfl rfl) rfl ?_
                refine l_nil (n_then ?_)
                refine ref_cond rfl (fun hb181 => ?_) (fun hb181 => ?_)
                · refine ref_seq (ref_region ?_)
                  refine as1 rfl rfl ?_
                  refine l_nil (n_then (ref_ret (r_block (r_then ?_))))
                  refine retX ?_
                  refine r_block (r_block (r_then ?_))
                  refine retX ?_
                  refine r_block (r_block (r_then ?_))
                  refine retX ?_
                  refine r_block (r_then ?_)
                  exact fin1 (.inl rfl) () [] rfl trivial rfl (rv_tmp rfl)
                refine ref_skip (n_block (n_then (ref_region ?_)))
                refine s_rd (r_add rfl rfl) rfl ?_
                refine mv1 rfl rfl ?_
                refine l_nil ?_
                exact goX () (weak [0, 1, 2] ⟨rfl, rfl, rfl, rfl, rfl, rfl, rfl, rfl, rfl, rfl, rfl, rfl, trivial⟩ ⟨rfl, rfl, rfl, trivial⟩)
              refine s_off rfl rfl rfl rfl rfl ?_
              refine s_off rfl rfl rfl rfl rfl ?_
              refine s_off rfl rfl rfl rfl rfl ?_
              refine s_off rfl rfl rfl rfl rfl ?_
              refine s_off rfl rfl rfl rfl rfl ?_
              refine s_off rfl rfl rfl rfl rfl ?_
              refine s_off rfl rfl rfl rfl rfl ?_
              refine s_offU rfl rfl rfl ?_
              refine s_offU rfl rfl rfl ?_
              refine s_offU rfl rfl rfl ?_
              refine s_offU rfl rfl rfl ?_
              refine s_offU rfl rfl rfl ?_
              refine s_offU rfl rfl rfl ?_
              refine s_offU rfl rfl rfl ?_
              refine s_offU rfl rfl rfl ?_
              refine s_off rfl rfl rfl rfl rfl ?_
              refine s_rd (r_pickF rfl rfl) rfl ?_
              refine l_nil (n_then ?_)
              refine ref_condF rfl rfl ?_
              refine ref_skip (n_block (n_then (ref_region ?_)))
              refine s_rd (r_add rfl rfl) rfl ?_
              refine mv1 rfl rfl ?_
              refine l_nil ?_
              exact goX () (weak [0, 1, 2] ⟨rfl, rfl, rfl, rfl, rfl, rfl, rfl, rfl, rfl, rfl, rfl, rfl, trivial⟩ ⟨rfl, rfl, rfl, trivial⟩)
            refine ref_exit (x_then ?_)
            exact brkX () (weak [0, 1, 2] ⟨rfl, rfl, rfl, rfl, rfl, rfl, rfl, rfl, trivial⟩ ⟨rfl, rfl, rfl, trivial⟩)
          refine n_block (n_then (ref_region ?_))
          refine s_rd (r_add rfl rfl) rfl ?_
          refine mv1 rfl rfl ?_
          refine l_nil ?_
          exact goX () (weak [0, 1, 2] ⟨rfl, rfl, rfl, rfl, rfl, rfl, rfl, rfl, trivial⟩ ⟨rfl, rfl, rfl, trivial⟩)
        refine ref_exit (x_then ?_)
        exact brkX () (weak [0, 2] ⟨rfl, rfl, rfl, rfl, rfl, trivial⟩ ⟨rfl, rfl, trivial⟩)
      refine n_block (n_then (ref_region ?_))
      refine s_rd (r_add rfl rfl) rfl ?_
      refine mv1 rfl rfl ?_
      refine l_nil ?_
      exact goX () (weak [0, 1] ⟨rfl, rfl, rfl, rfl, rfl, trivial⟩ ⟨rfl, rfl, trivial⟩)
    refine ref_exit (x_then ?_)
    exact brkX () (weak [] trivial trivial)
  refine n_then (ref_seq (ref_region ?_))
  refine pull fun t188 h_t188 => ?_
  refine s_st (s_call (ψ := fun (_ : Unit) => bv t188) (args := []) Try.call12 rfl (law08_awake_ok h_t188) trivial (fun _ _ _ _ h => h)) rfl (fun _ => ?_)
  refine as1 rfl rfl ?_
  refine l_nil (n_then (ref_ret ?_))
  exact fin1 (.inl rfl) () [] rfl trivial rfl (rv_tmp rfl)

/-! deliberation/deliberationlaw08.LiftStrict -/
noncomputable def law08_LiftStrict_l3 (t3 : T_api_Base × List T_api_Argument × T_deliberationkeep_Src) (t106 : T_api_Ordering) (s152 : Int) (t160 : T_api_Argument) (s166 : Bool × Int) : Option (Sum (Bool) (Bool × Int)) :=
  bif decide (s166.2 < (t160.Subs.length : Int)) then
    Option.bind (idxM t160.Subs s166.2) fun q169 =>
    bif s166.1 then
      some (Sum.inr (true, iadd .i64 s166.2 1))
    else
      Option.bind (lift_Less_m t3.1 t3.2.1 s152 q169 t106) fun t170 =>
      some (Sum.inr (!t170, iadd .i64 s166.2 1))
  else
    some (Sum.inl s166.1)

noncomputable def law08_LiftStrict_l4 (t3 : T_api_Base × List T_api_Argument × T_deliberationkeep_Src) (t106 : T_api_Ordering) (s152 : Int) (one175 : Int) (s185 : Int) : Option (Sum ((Sum (Bool) (Unit))) (Int)) :=
  bif decide (s185 < (t3.2.1.length : Int)) then
    Option.bind (idxM t3.2.1 s152) fun t188 =>
    bif (t188.Subs.length : Int) == 1 then
      Option.bind (lift_Less_m t3.1 t3.2.1 s152 s185 t106) fun t189 =>
      Option.bind (lift_Less_m t3.1 t3.2.1 one175 s185 t106) fun t190 =>
      bif !(t189 == t190) then
        some (Sum.inl (Sum.inl false))
      else
        Option.bind (lift_Less_m t3.1 t3.2.1 s185 s152 t106) fun t191 =>
        Option.bind (lift_Less_m t3.1 t3.2.1 s185 one175 t106) fun t192 =>
        bif !(t191 == t192) then
          some (Sum.inl (Sum.inl false))
        else
          some (Sum.inr (iadd .i64 s185 1))
    else
      some (Sum.inr (iadd .i64 s185 1))
  else
    some (Sum.inl (Sum.inr ()))

noncomputable def law08_LiftStrict_l2 (t3 : T_api_Base × List T_api_Argument × T_deliberationkeep_Src) (t106 : T_api_Ordering) (s152 : Int) : Option (Sum ((Sum (Bool) (Unit))) (Int)) :=
  bif decide (s152 < (t3.2.1.length : Int)) then
    Option.bind (idxM t3.2.1 s152) fun t155 =>
    bif decide (t155.Rule < 0) then
      some (Sum.inr (iadd .i64 s152 1))
    else
      Option.bind (idxM t3.2.1 s152) fun t156 =>
      Option.bind (idxM t3.1.Rules t156.Rule) fun t157 =>
      bif !t157.Strict then
        some (Sum.inr (iadd .i64 s152 1))
      else
        Option.bind (idxM t3.2.1 s152) fun t158 =>
        bif (t158.Subs.length : Int) == 0 then
          some (Sum.inr (iadd .i64 s152 1))
        else
          Option.bind (idxM t3.2.1 s152) fun t160 =>
          Option.bind (loopC (law08_LiftStrict_l3 t3 t106 s152 t160) (false, 0)) fun q171 : Bool =>
          bif !q171 then
            some (Sum.inl (Sum.inl false))
          else
            Option.bind (idxM t3.2.1 s152) fun t174 =>
            Option.bind (idxM t174.Subs 0) fun one175 =>
            Option.bind (loopC (law08_LiftStrict_l4 t3 t106 s152 one175) 0) (sumK (fun a : Bool => some (Sum.inl (Sum.inl a))) fun q194 : Unit =>
              some (Sum.inr (iadd .i64 s152 1)))
  else
    some (Sum.inl (Sum.inr ()))

noncomputable def law08_LiftStrict_l1 (t3 : T_api_Base × List T_api_Argument × T_deliberationkeep_Src) (t6 : List T_api_Ordering) (s103 : Int) : Option (Sum ((Sum (Bool) (Unit))) (Int)) :=
  bif decide (s103 < (t6.length : Int)) then
    Option.bind (idxM t6 s103) fun t106 =>
    Option.bind (loopC (law08_LiftStrict_l2 t3 t106) 0) (sumK (fun a : Bool => some (Sum.inl (Sum.inl a))) fun q196 : Unit =>
      some (Sum.inr (iadd .i64 s103 1)))
  else
    some (Sum.inl (Sum.inr ()))

noncomputable def law08_LiftStrict_m (l_0 : (List Int)) : Option (Bool) :=
  Option.bind (keep_New_m l_0) fun s1 =>
  Option.bind (law08_built_m s1 3 5 9) fun t3 =>
  Option.bind (keep_Orderings_m ) fun t6 =>
  Option.bind (loopC (law08_LiftStrict_l1 t3 t6) 0) (sumK (fun a : Bool => some a) fun q198 : Unit =>
    Option.bind (law08_awake_m ) fun t200 =>
    some t200)

theorem law08_LiftStrict_ok {l_0 : (List Int)} {r : Bool} (hm : law08_LiftStrict_m l_0 = some r) :
    FnOk prog 7 [slv (rI .i64) l_0] [] (fun (x : Unit) => [bv r]) (fun (x : Unit) => []) := by
  refine fn_ok (fn := Try.f7) (N := 136) (res := fun r x => [bv r]) (Ω1 := fun r x => []) Try.func7 rfl rfl hm rfl (fun E hM => ?_)
  unfold law08_LiftStrict_m
  refine ref_seq (ref_region ?_)
  refine as1 rfl rfl ?_
  refine l_nil (n_then (ref_seq (ref_region ?_)))
  refine mv1 rfl rfl ?_
  refine pull fun s1 h_s1 => ?_
  refine s_st (s_call (ψ := fun (x2 : Nat) => pv (ptr x2 0)) (args := [.tmp 14]) Try.call8 rfl (keep_New_ok h_s1) ⟨arg rfl, trivial⟩ (fun _ _ _ _ h => h)) rfl (fun x2 => ?_)
  refine as1 rfl rfl ?_
  refine l_nil (n_then (ref_seq (ref_region ?_)))
  refine mv1 rfl rfl ?_
  refine pull fun t3 h_t3 => ?_
  refine s_st (s_callC [0] [true] (fun (x4 : (Value × List Nat)) => [oc x2 [slv (rI .i64) t3.2.2.L, iv .i64 t3.2.2.At]]) (fun (x4 : (Value × List Nat)) => [oa rT_api_Argument x4.1 x4.2 t3.2.1]) (fun (x4 : (Value × List Nat)) => tup [ag [slv rT_api_Premise t3.1.Premises, slv rT_api_Rule t3.1.Rules, slv rT_api_Promotion t3.1.Promotions], pv x4.1]) (args := [.tmp 17, .const (.int .i64 (3)), .const (.int .i64 (5)), .const (.int .i64 (9))]) (caps := []) Try.call13 rfl (law08_built_ok h_t3) ⟨rfl, rfl, trivial⟩ (fun _ => rfl) (fun _ => trivial) (fun _ => rfl) ⟨arg rfl, arg rfl, arg rfl, arg rfl, trivial⟩ (fun _ _ _ _ h => h)) rfl (fun x4 => ?_)
  refine mv1 rfl rfl ?_
  refine s_rd (r_extract rfl rfl) rfl ?_
  refine s_rd (r_extract rfl rfl) rfl ?_
  refine s_st (s_alloc zt_34) rfl (fun b5 => ?_)
  refine s_st0 (s_cstore (out := [slv rT_api_Premise t3.1.Premises, slv rT_api_Rule t3.1.Rules, slv rT_api_Promotion t3.1.Promotions]) Try.sizeOf34 rfl (j := 2) rfl (part_agO (ψs := [slv rT_api_Premise t3.1.Premises, slv rT_api_Rule t3.1.Rules, slv rT_api_Promotion t3.1.Promotions]) rfl ⟨.inl slv_at, .inl slv_at, .inl slv_at, trivial⟩) rfl rfl rfl) (fun _ => ?_)
  refine as1 rfl rfl ?_
  refine l_nil ?_
  refine b_of (nrm [oc x2 [slv (rI .i64) t3.2.2.L, iv .i64 t3.2.2.At], oa rT_api_Argument x4.1 x4.2 t3.2.1, oc b5 [slv rT_api_Premise t3.1.Premises, slv rT_api_Rule t3.1.Rules, slv rT_api_Promotion t3.1.Promotions]] rfl) ?_
  refine n_then (ref_seq (ref_seq (ref_region ?_)))
  refine pull fun t6 h_t6 => ?_
  refine s_st (s_call (ψ := fun (x7 : (Value × List Nat)) => pv x7.1) (args := []) Try.call23 rfl (keep_Orderings_ok h_t6) trivial (fun _ _ _ _ h => h)) rfl (fun x7 => ?_)
  refine s_rd (r_olen Try.underlying44 rfl (j := 3) rfl) rfl ?_
  refine mv1 rfl rfl ?_
  refine l_nil (n_then ?_)
  refine ref_loopX (f := (law08_LiftStrict_l1 t3 t6)) (Γl := (fun (s103 : Int) (x104 : Unit) => [(4, pv (ptr b5 0)), (5, pv x4.1), (21, pv x7.1), (22, iv .i64 (t6.length : Int)), (23, iv .i64 s103)])) (Ωl := (fun (s103 : Int) (x104 : Unit) => [oc b5 [slv rT_api_Premise t3.1.Premises, slv rT_api_Rule t3.1.Rules, slv rT_api_Promotion t3.1.Promotions], oa rT_api_Argument x4.1 x4.2 t3.2.1, oa rT_api_Ordering x7.1 x7.2 t6])) (Γb := (fun (q198 : Unit) (y199 : Unit) => [])) (Ωb := (fun (q198 : Unit) (y199 : Unit) => [])) (kr := (fun a : Bool => some a)) 0 () (weak [2, 1, 3] ⟨rfl, rfl, rfl, rfl, rfl, trivial⟩ ⟨rfl, rfl, rfl, trivial⟩) (fun s103 x104 => ?_) (fun q198 y199 => ?_)
  · unfold law08_LiftStrict_l1
    refine ref_seq (ref_region ?_)
    refine s_rd (r_lss rfl rfl) rfl ?_
    refine l_nil (n_then (ref_seq ?_))
    refine ref_cond rfl (fun hb105 => ?_) (fun hb105 => ?_)
    · refine ref_skip (n_then (ref_seq (ref_block (ref_seq (ref_region ?_)))))
      refine pull fun t106 h_t106 => ?_
      refine s_rd (r_oindex h_t106 Try.underlying44 el_43 rfl (j := 2) rfl rfl) rfl ?_
      refine s_rd (r_oload h_t106 el_43 rfl (j := 2) rfl) rfl ?_
      refine s_st (s_alloc zt_43) rfl (fun b107 => ?_)
      refine s_st0 (s_cstore (out := [iv .i64 t106.Link, iv .i64 t106.Lift]) Try.sizeOf43 rfl (j := 3) rfl (part_agO (ψs := [iv .i64 t106.Link, iv .i64 t106.Lift]) rfl ⟨.inl iv_at, .inl iv_at, trivial⟩) rfl rfl rfl) (fun _ => ?_)
      refine l_nil (n_then (ref_seq (ref_region ?_)))
      refine mv1 rfl rfl ?_
      refine s_rd (r_olen Try.underlying35 rfl (j := 1) rfl) rfl ?_
      refine mv1 rfl rfl ?_
      refine l_nil (n_then ?_)
      refine ref_loopX (f := (law08_LiftStrict_l2 t3 t106)) (Γl := (fun (s152 : Int) (x153 : Unit) => [(4, pv (ptr b5 0)), (5, pv x4.1), (7, pv (ptr b107 0)), (21, pv x7.1), (22, iv .i64 (t6.length : Int)), (23, iv .i64 s103), (28, iv .i64 (t3.2.1.length : Int)), (29, iv .i64 s152)])) (Ωl := (fun (s152 : Int) (x153 : Unit) => [oc b5 [slv rT_api_Premise t3.1.Premises, slv rT_api_Rule t3.1.Rules, slv rT_api_Promotion t3.1.Promotions], oa rT_api_Argument x4.1 x4.2 t3.2.1, oc b107 [iv .i64 t106.Link, iv .i64 t106.Lift], oa rT_api_Ordering x7.1 x7.2 t6])) (Γb := (fun (q196 : Unit) (y197 : Unit) => [(4, pv (ptr b5 0)), (5, pv x4.1), (21, pv x7.1), (22, iv .i64 (t6.length : Int)), (23, iv .i64 s103)])) (Ωb := (fun (q196 : Unit) (y197 : Unit) => [oc b5 [slv rT_api_Premise t3.1.Premises, slv rT_api_Rule t3.1.Rules, slv rT_api_Promotion t3.1.Promotions], oa rT_api_Argument x4.1 x4.2 t3.2.1, oa rT_api_Ordering x7.1 x7.2 t6])) (kr := (fun a : Bool => some (Sum.inl (Sum.inl a)))) 0 () (weak [0, 1, 3, 2] ⟨rfl, rfl, rfl, rfl, rfl, rfl, rfl, rfl, trivial⟩ ⟨rfl, rfl, rfl, rfl, trivial⟩) (fun s152 x153 => ?_) (fun q196 y197 => ?_)
      · unfold law08_LiftStrict_l2
        refine ref_seq (ref_region ?_)
        refine s_rd (r_lss rfl rfl) rfl ?_
        refine l_nil (n_then (ref_seq ?_))
        refine ref_cond rfl (fun hb154 => ?_) (fun hb154 => ?_)
        · refine ref_skip (n_then (ref_seq (ref_block (ref_seq (ref_region ?_)))))
          refine mv1 rfl rfl ?_
          refine as1 rfl rfl ?_
          refine l_nil (n_then (ref_seq (ref_seq ?_)))
          refine ref_draw [0, 1, 2, 3, 4, 5, 6, 7, 8, 9, 10, 11, 12, 13, 14, 15, 16, 17, 18, 19, 20, 21, 22, 23, 24, 25, 26, 27] rfl (by kernel_rfl) (fun hok => ?_)
          refine a_rd (i := 0) hok rfl (by kernel_rfl) rfl (r_move rfl) rfl ?_
          refine a_rd (i := 1) hok rfl (by kernel_rfl) rfl (r_move rfl) rfl ?_
          refine pull fun t155 h_t155 => ?_
          refine a_rd (i := 2) hok rfl (by kernel_rfl) rfl (r_oindex h_t155 Try.underlying35 el_52 rfl (j := 1) rfl rfl) rfl ?_
          refine a_rd (i := 3) hok rfl (by kernel_rfl) rfl (r_foea (ρ := rT_api_Argument) (fo := 1) h_t155 Try.underlying52 rfl rfl Try.sizeOf3 rfl (j := 1) rfl) rfl ?_
          refine a_rd (i := 4) hok rfl (by kernel_rfl) rfl (r_foload (ρ := rT_api_Argument) (y := t155) (ρ' := (rI .i64)) (z := t155.Rule) h_t155 el_3 rfl (j := 1) rfl rfl rfl) rfl ?_
          refine a_rd (i := 5) hok rfl (by kernel_rfl) rfl (r_lss rfl rfl) rfl ?_
          refine a_rd (i := 6) hok rfl (by kernel_rfl) rfl (r_move rfl) rfl ?_
          refine b_split (t := 38) rfl (fun _ => ?_) (fun _ => ?_)
          · refine a_off (i := 7) hok rfl rfl rfl rfl rfl (by kernel_rfl) rfl rfl ?_
            refine a_off (i := 8) hok rfl rfl rfl rfl rfl (by kernel_rfl) rfl rfl ?_
            refine a_off (i := 9) hok rfl rfl rfl rfl rfl (by kernel_rfl) rfl rfl ?_
            refine a_off (i := 10) hok rfl rfl rfl rfl rfl (by kernel_rfl) rfl rfl ?_
            refine a_off (i := 11) hok rfl rfl rfl rfl rfl (by kernel_rfl) rfl rfl ?_
            refine a_off (i := 12) hok rfl rfl rfl rfl rfl (by kernel_rfl) rfl rfl ?_
            refine a_off (i := 13) hok rfl rfl rfl rfl rfl (by kernel_rfl) rfl rfl ?_
            refine a_off (i := 14) hok rfl rfl rfl rfl rfl (by kernel_rfl) rfl rfl ?_
            refine a_off (i := 15) hok rfl rfl rfl rfl rfl (by kernel_rfl) rfl rfl ?_
            refine a_off (i := 16) hok rfl rfl rfl rfl rfl (by kernel_rfl) rfl rfl ?_
            refine a_off (i := 17) hok rfl rfl rfl rfl rfl (by kernel_rfl) rfl rfl ?_
            refine a_rd (i := 18) hok rfl (by kernel_rfl) rfl (r_pickT rfl rfl) rfl ?_
            refine a_rd (i := 19) hok rfl (by kernel_rfl) rfl (r_move rfl) rfl ?_
            refine a_off (i := 20) hok rfl rfl rfl rfl rfl (by kernel_rfl) rfl rfl ?_
            refine a_off (i := 21) hok rfl rfl rfl rfl rfl (by kernel_rfl) rfl rfl ?_
            refine a_off (i := 22) hok rfl rfl rfl rfl rfl (by kernel_rfl) rfl rfl ?_
            refine a_off (i := 23) hok rfl rfl rfl rfl rfl (by kernel_rfl) rfl rfl ?_
            refine a_off (i := 24) hok rfl rfl rfl rfl rfl (by kernel_rfl) rfl rfl ?_
            refine a_off (i := 25) hok rfl rfl rfl rfl rfl (by kernel_rfl) rfl rfl ?_
            refine a_off (i := 26) hok rfl rfl rfl rfl rfl (by kernel_rfl) rfl rfl ?_
            refine a_rd (i := 27) hok rfl (by kernel_rfl) rfl (r_pickT rfl rfl) rfl ?_
            refine a_fin hok (by kernel_rfl) ?_
            refine n_then ?_
            refine ref_condT rfl rfl ?_
            refine ref_exit (x_then (x_eq (n_then (ref_region ?_))))
            refine s_rd (r_add rfl rfl) rfl ?_
            refine mv1 rfl rfl ?_
            refine l_nil ?_
            exact goX () (weak [0, 1, 2, 3] ⟨rfl, rfl, rfl, rfl, rfl, rfl, rfl, rfl, trivial⟩ ⟨rfl, rfl, rfl, rfl, trivial⟩)
          refine a_rdOn (i := 7) hok rfl rfl rfl rfl (by kernel_rfl) rfl (r_faddr (fo := 1) Try.underlying34 rfl rfl Try.sizeOf31 rfl) rfl ?_
          refine a_rdOn (i := 8) hok rfl rfl rfl rfl (by kernel_rfl) rfl (r_cload Try.isAgg31 rfl (j := 0) rfl rfl) rfl ?_
          refine a_rdOn (i := 9) hok rfl rfl rfl rfl (by kernel_rfl) rfl (r_move rfl) rfl ?_
          refine a_rdOn (i := 10) hok rfl rfl rfl rfl (by kernel_rfl) rfl (r_move rfl) rfl ?_
          refine pull fun t156 h_t156 => ?_
          refine a_rdOn (i := 11) hok rfl rfl rfl rfl (by kernel_rfl) rfl (r_oindex h_t156 Try.underlying35 el_52 rfl (j := 1) rfl rfl) rfl ?_
          refine a_rdOn (i := 12) hok rfl rfl rfl rfl (by kernel_rfl) rfl (r_foea (ρ := rT_api_Argument) (fo := 1) h_t156 Try.underlying52 rfl rfl Try.sizeOf3 rfl (j := 1) rfl) rfl ?_
          refine a_rdOn (i := 13) hok rfl rfl rfl rfl (by kernel_rfl) rfl (r_foload (ρ := rT_api_Argument) (y := t156) (ρ' := (rI .i64)) (z := t156.Rule) h_t156 el_3 rfl (j := 1) rfl rfl rfl) rfl ?_
          refine pull fun t157 h_t157 => ?_
          refine a_rdOn (i := 14) hok rfl rfl rfl rfl (by kernel_rfl) rfl (r_index h_t157 Try.underlying31 el_55 rfl rfl) rfl ?_
          refine a_rdOn (i := 15) hok rfl rfl rfl rfl (by kernel_rfl) rfl (r_fea (fo := 1) (ρ := rT_api_Rule) (y := t157) (ρ' := rB) (z := t157.Strict) Try.underlying55 rfl rfl Try.sizeOf4 rfl rfl rfl) rfl ?_
          refine a_rdOn (i := 16) hok rfl rfl rfl rfl (by kernel_rfl) rfl (r_load el_4 rfl) rfl ?_
          refine a_rdOn (i := 17) hok rfl rfl rfl rfl (by kernel_rfl) rfl (r_not rfl) rfl ?_
          refine a_rd (i := 18) hok rfl (by kernel_rfl) rfl (r_pickF rfl rfl) rfl ?_
          refine a_rd (i := 19) hok rfl (by kernel_rfl) rfl (r_move rfl) rfl ?_
          refine b_split (t := 51) rfl (fun _ => ?_) (fun _ => ?_)
          · refine a_off (i := 20) hok rfl rfl rfl rfl rfl (by kernel_rfl) rfl rfl ?_
            refine a_off (i := 21) hok rfl rfl rfl rfl rfl (by kernel_rfl) rfl rfl ?_
            refine a_off (i := 22) hok rfl rfl rfl rfl rfl (by kernel_rfl) rfl rfl ?_
            refine a_off (i := 23) hok rfl rfl rfl rfl rfl (by kernel_rfl) rfl rfl ?_
            refine a_off (i := 24) hok rfl rfl rfl rfl rfl (by kernel_rfl) rfl rfl ?_
            refine a_off (i := 25) hok rfl rfl rfl rfl rfl (by kernel_rfl) rfl rfl ?_
            refine a_off (i := 26) hok rfl rfl rfl rfl rfl (by kernel_rfl) rfl rfl ?_
            refine a_rd (i := 27) hok rfl (by kernel_rfl) rfl (r_pickT rfl rfl) rfl ?_
            refine a_fin hok (by kernel_rfl) ?_
            refine n_then ?_
            refine ref_condT rfl rfl ?_
            refine ref_exit (x_then (x_eq (n_then (ref_region ?_))))
            refine s_rd (r_add rfl rfl) rfl ?_
            refine mv1 rfl rfl ?_
            refine l_nil ?_
            exact goX () (weak [0, 1, 2, 3] ⟨rfl, rfl, rfl, rfl, rfl, rfl, rfl, rfl, trivial⟩ ⟨rfl, rfl, rfl, rfl, trivial⟩)
          refine a_rdOn (i := 20) hok rfl rfl rfl rfl (by kernel_rfl) rfl (r_move rfl) rfl ?_
          refine a_rdOn (i := 21) hok rfl rfl rfl rfl (by kernel_rfl) rfl (r_move rfl) rfl ?_
          refine pull fun t158 h_t158 => ?_
          refine a_rdOn (i := 22) hok rfl rfl rfl rfl (by kernel_rfl) rfl (r_oindex h_t158 Try.underlying35 el_52 rfl (j := 1) rfl rfl) rfl ?_
          refine a_rdOn (i := 23) hok rfl rfl rfl rfl (by kernel_rfl) rfl (r_foea (ρ := rT_api_Argument) (fo := 2) h_t158 Try.underlying52 rfl rfl Try.sizeOf22 rfl (j := 1) rfl) rfl ?_
          refine a_rdOn (i := 24) hok rfl rfl rfl rfl (by kernel_rfl) rfl (r_foload (ρ := rT_api_Argument) (y := t158) (ρ' := (rSl (rI .i64))) (z := t158.Subs) h_t158 el_22 rfl (j := 1) rfl rfl rfl) rfl ?_
          refine a_rdOn (i := 25) hok rfl rfl rfl rfl (by kernel_rfl) rfl (r_len Try.underlying22 rfl) rfl ?_
          refine a_rdOn (i := 26) hok rfl rfl rfl rfl (by kernel_rfl) rfl (r_eql rfl rfl) rfl ?_
          refine a_rd (i := 27) hok rfl (by kernel_rfl) rfl (r_pickF rfl rfl) rfl ?_
          refine a_fin hok (by kernel_rfl) ?_
          refine n_then ?_
          refine ref_cond rfl (fun hb159 => ?_) (fun hb159 => ?_)
          · refine ref_exit (x_then (x_eq (n_then (ref_region ?_))))
            refine s_rd (r_add rfl rfl) rfl ?_
            refine mv1 rfl rfl ?_
            refine l_nil ?_
            exact goX () (weak [0, 1, 2, 3] ⟨rfl, rfl, rfl, rfl, rfl, rfl, rfl, rfl, trivial⟩ ⟨rfl, rfl, rfl, rfl, trivial⟩)
          refine ref_skip (n_then (ref_seq (ref_region ?_)))
          refine as1 rfl rfl ?_
          refine l_nil (n_then (ref_seq (ref_seq (ref_region ?_))))
          refine mv1 rfl rfl ?_
          refine mv1 rfl rfl ?_
          refine pull fun t160 h_t160 => ?_
          refine s_rd (r_oindex h_t160 Try.underlying35 el_52 rfl (j := 1) rfl rfl) rfl ?_
          refine s_rd (r_foea (ρ := rT_api_Argument) (fo := 2) h_t160 Try.underlying52 rfl rfl Try.sizeOf22 rfl (j := 1) rfl) rfl ?_
          refine s_rd (r_foload (ρ := rT_api_Argument) (y := t160) (ρ' := (rSl (rI .i64))) (z := t160.Subs) h_t160 el_22 rfl (j := 1) rfl rfl rfl) rfl ?_
          refine s_rd (r_len Try.underlying22 rfl) rfl ?_
          refine mv1 rfl rfl ?_
          refine l_nil (n_then ?_)
          refine ref_loopB (f := (law08_LiftStrict_l3 t3 t106 s152 t160)) (Γl := (fun (s166 : Bool × Int) (x167 : Unit) => [(4, pv (ptr b5 0)), (5, pv x4.1), (7, pv (ptr b107 0)), (8, iv .i64 s152), (9, bv s166.1), (21, pv x7.1), (22, iv .i64 (t6.length : Int)), (23, iv .i64 s103), (28, iv .i64 (t3.2.1.length : Int)), (29, iv .i64 s152), (39, pv (ptr b5 1)), (40, slv rT_api_Rule t3.1.Rules), (41, pv x4.1), (42, iv .i64 s152), (45, iv .i64 t156.Rule), (48, bv t157.Strict), (49, bv (!t157.Strict)), (52, pv x4.1), (53, iv .i64 s152), (56, slv (rI .i64) t158.Subs), (57, iv .i64 (t158.Subs.length : Int)), (58, bv ((t158.Subs.length : Int) == 0)), (64, slv (rI .i64) t160.Subs), (65, iv .i64 (t160.Subs.length : Int)), (66, iv .i64 s166.2)])) (Ωl := (fun (s166 : Bool × Int) (x167 : Unit) => [oc b5 [slv rT_api_Premise t3.1.Premises, slv rT_api_Rule t3.1.Rules, slv rT_api_Promotion t3.1.Promotions], oa rT_api_Argument x4.1 x4.2 t3.2.1, oc b107 [iv .i64 t106.Link, iv .i64 t106.Lift], oa rT_api_Ordering x7.1 x7.2 t6])) (Γb := (fun (q171 : Bool) (y172 : Unit) => [(4, pv (ptr b5 0)), (5, pv x4.1), (7, pv (ptr b107 0)), (8, iv .i64 s152), (9, bv q171), (21, pv x7.1), (22, iv .i64 (t6.length : Int)), (23, iv .i64 s103), (28, iv .i64 (t3.2.1.length : Int)), (29, iv .i64 s152), (39, pv (ptr b5 1)), (40, slv rT_api_Rule t3.1.Rules), (41, pv x4.1), (42, iv .i64 s152), (45, iv .i64 t156.Rule), (48, bv t157.Strict), (49, bv (!t157.Strict)), (52, pv x4.1), (53, iv .i64 s152), (56, slv (rI .i64) t158.Subs), (57, iv .i64 (t158.Subs.length : Int)), (58, bv ((t158.Subs.length : Int) == 0))])) (Ωb := (fun (q171 : Bool) (y172 : Unit) => [oc b5 [slv rT_api_Premise t3.1.Premises, slv rT_api_Rule t3.1.Rules, slv rT_api_Promotion t3.1.Promotions], oa rT_api_Argument x4.1 x4.2 t3.2.1, oc b107 [iv .i64 t106.Link, iv .i64 t106.Lift], oa rT_api_Ordering x7.1 x7.2 t6])) (false, 0) () (weak [0, 1, 2, 3] ⟨rfl, rfl, rfl, rfl, rfl, rfl, rfl, rfl, rfl, rfl, rfl, rfl, rfl, rfl, rfl, rfl, rfl, rfl, rfl, rfl, rfl, rfl, rfl, rfl, rfl, trivial⟩ ⟨rfl, rfl, rfl, rfl, trivial⟩) (fun s166 x167 => ?_) (fun q171 y172 => ?_)
          · unfold law08_LiftStrict_l3
            refine ref_seq (ref_region ?_)
            refine s_rd (r_lss rfl rfl) rfl ?_
            refine l_nil (n_then (ref_seq ?_))
            refine ref_cond rfl (fun hb168 => ?_) (fun hb168 => ?_)
            · refine ref_skip (n_then (ref_seq (ref_block (ref_seq (ref_region ?_)))))
              refine pull fun q169 h_q169 => ?_
              refine s_rd (r_index h_q169 Try.underlying22 el_3 rfl rfl) rfl ?_
              refine s_rd (r_load el_3 rfl) rfl ?_
              refine as1 rfl rfl ?_
              refine l_nil (n_then (ref_region ?_))
              refine mv1 rfl rfl ?_
              refine mv1 rfl rfl ?_
              refine b_split (t := 71) rfl (fun _ => ?_) (fun _ => ?_)
              · refine s_off rfl rfl rfl rfl rfl ?_
                refine s_off rfl rfl rfl rfl rfl ?_
                refine s_off rfl rfl rfl rfl rfl ?_
                refine s_off rfl rfl rfl rfl rfl ?_
                refine s_off rfl rfl rfl rfl rfl ?_
                refine s_off rfl rfl rfl rfl rfl ?_
                refine s_off rfl rfl rfl rfl rfl ?_
                refine s_rd (r_pickT rfl rfl) rfl ?_
                refine as1 rfl rfl ?_
                refine l_nil (n_block (n_then (ref_region ?_)))
                refine s_rd (r_add rfl rfl) rfl ?_
                refine mv1 rfl rfl ?_
                refine l_nil ?_
                exact goB () (weak [0, 1, 2, 3] ⟨rfl, rfl, rfl, rfl, rfl, rfl, rfl, rfl, rfl, rfl, rfl, rfl, rfl, rfl, rfl, rfl, rfl, rfl, rfl, rfl, rfl, rfl, rfl, rfl, rfl, trivial⟩ ⟨rfl, rfl, rfl, rfl, trivial⟩)
              refine s_on rfl rfl rfl ?_
              refine s_rd (r_cloadS Try.isAgg34 Try.sizeOf34 rfl (j := 0) rfl rfl rfl) rfl ?_
              refine s_on rfl rfl rfl ?_
              refine mv1 rfl rfl ?_
              refine s_on rfl rfl rfl ?_
              refine mv1 rfl rfl ?_
              refine s_on rfl rfl rfl ?_
              refine mv1 rfl rfl ?_
              refine s_on rfl rfl rfl ?_
              refine s_rd (r_cloadS Try.isAgg43 Try.sizeOf43 rfl (j := 2) rfl rfl rfl) rfl ?_
              refine s_on rfl rfl rfl ?_
              refine pull fun t170 h_t170 => ?_
              refine s_st (s_callB (ψ := fun (_ : Unit) => bv t170) (args := [.tmp 72, .tmp 73, .tmp 74, .tmp 75, .tmp 76]) Try.call24 rfl (lift_Less_ok h_t170) ⟨argB rfl, argO rfl (j := 1) rfl, argB rfl, argB rfl, argB rfl, trivial⟩ (fun _ _ _ _ _ h => h)) rfl (fun _ => ?_)
              refine s_on rfl rfl rfl ?_
              refine s_rd (r_not rfl) rfl ?_
              refine s_rd (r_pickF rfl rfl) rfl ?_
              refine as1 rfl rfl ?_
              refine l_nil ?_
              refine b_of (nrm [oc b5 [slv rT_api_Premise t3.1.Premises, slv rT_api_Rule t3.1.Rules, slv rT_api_Promotion t3.1.Promotions], oa rT_api_Argument x4.1 x4.2 t3.2.1, oc b107 [iv .i64 t106.Link, iv .i64 t106.Lift], oa rT_api_Ordering x7.1 x7.2 t6] rfl) ?_
              refine n_block (n_then (ref_region ?_))
              refine s_rd (r_add rfl rfl) rfl ?_
              refine mv1 rfl rfl ?_
              refine l_nil ?_
              exact goB () (weak [0, 1, 2, 3] ⟨rfl, rfl, rfl, rfl, rfl, rfl, rfl, rfl, rfl, rfl, rfl, rfl, rfl, rfl, rfl, rfl, rfl, rfl, rfl, rfl, rfl, rfl, rfl, rfl, rfl, trivial⟩ ⟨rfl, rfl, rfl, rfl, trivial⟩)
            refine ref_exit (x_then ?_)
            exact brkB () (weak [0, 1, 2, 3] ⟨rfl, rfl, rfl, rfl, rfl, rfl, rfl, rfl, rfl, rfl, rfl, rfl, rfl, rfl, rfl, rfl, rfl, rfl, rfl, rfl, rfl, rfl, trivial⟩ ⟨rfl, rfl, rfl, rfl, trivial⟩)
          refine n_then (ref_seq (ref_seq (ref_region ?_)))
          refine mv1 rfl rfl ?_
          refine s_rd (r_not rfl) rfl ?_
          refine l_nil (n_then ?_)
          refine ref_cond rfl (fun hb173 => ?_) (fun hb173 => ?_)
          · refine ref_seq (ref_region ?_)
            refine as1 rfl rfl ?_
            refine l_nil (n_then (ref_ret (r_then (r_block (r_then ?_)))))
            refine retX ?_
            refine r_block (r_block (r_then ?_))
            refine retX ?_
            refine r_block (r_then ?_)
            exact fin1 (.inl rfl) () [] rfl trivial rfl (rv_tmp rfl)
          refine ref_skip (n_then (ref_seq (ref_region ?_)))
          refine mv1 rfl rfl ?_
          refine mv1 rfl rfl ?_
          refine pull fun t174 h_t174 => ?_
          refine s_rd (r_oindex h_t174 Try.underlying35 el_52 rfl (j := 1) rfl rfl) rfl ?_
          refine s_rd (r_foea (ρ := rT_api_Argument) (fo := 2) h_t174 Try.underlying52 rfl rfl Try.sizeOf22 rfl (j := 1) rfl) rfl ?_
          refine s_rd (r_foload (ρ := rT_api_Argument) (y := t174) (ρ' := (rSl (rI .i64))) (z := t174.Subs) h_t174 el_22 rfl (j := 1) rfl rfl rfl) rfl ?_
          refine pull fun one175 h_one175 => ?_
          refine s_rd (r_index h_one175 Try.underlying22 el_3 rfl rfl) rfl ?_
          refine s_rd (r_load el_3 rfl) rfl ?_
          refine as1 rfl rfl ?_
          refine l_nil (n_then (ref_seq (ref_region ?_)))
          refine mv1 rfl rfl ?_
          refine s_rd (r_olen Try.underlying35 rfl (j := 1) rfl) rfl ?_
          refine mv1 rfl rfl ?_
          refine l_nil (n_then ?_)
          refine ref_loopX (f := (law08_LiftStrict_l4 t3 t106 s152 one175)) (Γl := (fun (s185 : Int) (x186 : Unit) => [(4, pv (ptr b5 0)), (5, pv x4.1), (7, pv (ptr b107 0)), (8, iv .i64 s152), (12, iv .i64 one175), (21, pv x7.1), (22, iv .i64 (t6.length : Int)), (23, iv .i64 s103), (28, iv .i64 (t3.2.1.length : Int)), (29, iv .i64 s152), (39, pv (ptr b5 1)), (40, slv rT_api_Rule t3.1.Rules), (41, pv x4.1), (42, iv .i64 s152), (45, iv .i64 t156.Rule), (48, bv t157.Strict), (49, bv (!t157.Strict)), (52, pv x4.1), (53, iv .i64 s152), (56, slv (rI .i64) t158.Subs), (57, iv .i64 (t158.Subs.length : Int)), (58, bv ((t158.Subs.length : Int) == 0)), (91, iv .i64 (t3.2.1.length : Int)), (92, iv .i64 s185)])) (Ωl := (fun (s185 : Int) (x186 : Unit) => [oc b5 [slv rT_api_Premise t3.1.Premises, slv rT_api_Rule t3.1.Rules, slv rT_api_Promotion t3.1.Promotions], oa rT_api_Argument x4.1 x4.2 t3.2.1, oc b107 [iv .i64 t106.Link, iv .i64 t106.Lift], oa rT_api_Ordering x7.1 x7.2 t6])) (Γb := (fun (q194 : Unit) (y195 : Unit) => [(4, pv (ptr b5 0)), (5, pv x4.1), (7, pv (ptr b107 0)), (21, pv x7.1), (22, iv .i64 (t6.length : Int)), (23, iv .i64 s103), (28, iv .i64 (t3.2.1.length : Int)), (29, iv .i64 s152), (39, pv (ptr b5 1)), (40, slv rT_api_Rule t3.1.Rules), (41, pv x4.1), (42, iv .i64 s152), (45, iv .i64 t156.Rule), (48, bv t157.Strict), (49, bv (!t157.Strict)), (52, pv x4.1), (53, iv .i64 s152), (56, slv (rI .i64) t158.Subs), (57, iv .i64 (t158.Subs.length : Int)), (58, bv ((t158.Subs.length : Int) == 0))])) (Ωb := (fun (q194 : Unit) (y195 : Unit) => [oc b5 [slv rT_api_Premise t3.1.Premises, slv rT_api_Rule t3.1.Rules, slv rT_api_Promotion t3.1.Promotions], oa rT_api_Argument x4.1 x4.2 t3.2.1, oc b107 [iv .i64 t106.Link, iv .i64 t106.Lift], oa rT_api_Ordering x7.1 x7.2 t6])) (kr := (fun a : Bool => some (Sum.inl (Sum.inl a)))) 0 () (weak [0, 1, 2, 3] ⟨rfl, rfl, rfl, rfl, rfl, rfl, rfl, rfl, rfl, rfl, rfl, rfl, rfl, rfl, rfl, rfl, rfl, rfl, rfl, rfl, rfl, rfl, rfl, rfl, trivial⟩ ⟨rfl, rfl, rfl, rfl, trivial⟩) (fun s185 x186 => ?_) (fun q194 y195 => ?_)
          · unfold law08_LiftStrict_l4
            refine ref_seq (ref_region ?_)
            refine s_rd (r_lss rfl rfl) rfl ?_
            refine l_nil (n_then (ref_seq ?_))
            refine ref_cond rfl (fun hb187 => ?_) (fun hb187 => ?_)
            · refine ref_skip (n_then (ref_seq (ref_block (ref_seq (ref_region ?_)))))
              refine mv1 rfl rfl ?_
              refine as1 rfl rfl ?_
              refine l_nil (n_then (ref_seq ?_))
              refine ref_draw [0, 1, 2, 3, 4, 5, 6, 7, 8, 9, 10, 11, 12, 14, 15, 16, 17, 18, 20, 21, 22, 23, 24, 25, 26, 28, 29, 30, 31, 32, 34, 35, 36] rfl (by kernel_rfl) (fun hok => ?_)
              refine a_rd (i := 0) hok rfl (by kernel_rfl) rfl (r_move rfl) rfl ?_
              refine a_rd (i := 1) hok rfl (by kernel_rfl) rfl (r_move rfl) rfl ?_
              refine pull fun t188 h_t188 => ?_
              refine a_rd (i := 2) hok rfl (by kernel_rfl) rfl (r_oindex h_t188 Try.underlying35 el_52 rfl (j := 1) rfl rfl) rfl ?_
              refine a_rd (i := 3) hok rfl (by kernel_rfl) rfl (r_foea (ρ := rT_api_Argument) (fo := 2) h_t188 Try.underlying52 rfl rfl Try.sizeOf22 rfl (j := 1) rfl) rfl ?_
              refine a_rd (i := 4) hok rfl (by kernel_rfl) rfl (r_foload (ρ := rT_api_Argument) (y := t188) (ρ' := (rSl (rI .i64))) (z := t188.Subs) h_t188 el_22 rfl (j := 1) rfl rfl rfl) rfl ?_
              refine a_rd (i := 5) hok rfl (by kernel_rfl) rfl (r_len Try.underlying22 rfl) rfl ?_
              refine a_rd (i := 6) hok rfl (by kernel_rfl) rfl (r_eql rfl rfl) rfl ?_
              refine a_rd (i := 7) hok rfl (by kernel_rfl) rfl (r_move rfl) rfl ?_
              refine b_split (t := 102) rfl (fun _ => ?_) (fun _ => ?_)
              · refine a_rdOn (i := 8) hok rfl rfl rfl rfl (by kernel_rfl) rfl (r_cloadS Try.isAgg34 Try.sizeOf34 rfl (j := 0) rfl rfl rfl) rfl ?_
                refine a_rdOn (i := 9) hok rfl rfl rfl rfl (by kernel_rfl) rfl (r_move rfl) rfl ?_
                refine a_rdOn (i := 10) hok rfl rfl rfl rfl (by kernel_rfl) rfl (r_move rfl) rfl ?_
                refine a_rdOn (i := 11) hok rfl rfl rfl rfl (by kernel_rfl) rfl (r_move rfl) rfl ?_
                refine a_rdOn (i := 12) hok rfl rfl rfl rfl (by kernel_rfl) rfl (r_cloadS Try.isAgg43 Try.sizeOf43 rfl (j := 2) rfl rfl rfl) rfl ?_
                refine a_rdOn (i := 14) hok rfl rfl rfl rfl (by kernel_rfl) rfl (r_cloadS Try.isAgg34 Try.sizeOf34 rfl (j := 0) rfl rfl rfl) rfl ?_
                refine a_rdOn (i := 15) hok rfl rfl rfl rfl (by kernel_rfl) rfl (r_move rfl) rfl ?_
                refine a_rdOn (i := 16) hok rfl rfl rfl rfl (by kernel_rfl) rfl (r_move rfl) rfl ?_
                refine a_rdOn (i := 17) hok rfl rfl rfl rfl (by kernel_rfl) rfl (r_move rfl) rfl ?_
                refine a_rdOn (i := 18) hok rfl rfl rfl rfl (by kernel_rfl) rfl (r_cloadS Try.isAgg43 Try.sizeOf43 rfl (j := 2) rfl rfl rfl) rfl ?_
                refine pull fun t189 h_t189 => ?_
                refine a_next hok 13 [] (by kernel_rfl) ?_ trivial
                refine a_stOn (i := 13) hok rfl rfl rfl rfl rfl (s_callB (ψ := fun (_ : Unit) => bv t189) (args := [.tmp 103, .tmp 104, .tmp 105, .tmp 106, .tmp 107]) Try.call24 rfl (lift_Less_ok h_t189) ⟨argB rfl, argO rfl (j := 1) rfl, argB rfl, argB rfl, argB rfl, trivial⟩ (fun _ _ _ _ _ h => h)) (by intro _ h; cases h; rfl) (fun _ => ⟨⟨⟨rfl, rfl⟩, trivial⟩, ⟨trivial, ⟨trivial, ⟨trivial, ⟨⟨⟨rfl, rfl⟩, trivial⟩, ⟨trivial, ⟨trivial, ⟨trivial, ⟨trivial, ⟨trivial, ⟨trivial, ⟨trivial, ⟨trivial, ⟨⟨⟨rfl, rfl⟩, trivial⟩, ⟨trivial, ⟨trivial, ⟨trivial, ⟨trivial, trivial⟩⟩⟩⟩⟩⟩⟩⟩⟩⟩⟩⟩⟩⟩⟩⟩⟩⟩) (fun _ => ?_)
                refine pull fun t190 h_t190 => ?_
                refine a_next hok 19 [] (by kernel_rfl) ?_ trivial
                refine a_stOn (i := 19) hok rfl rfl rfl rfl rfl (s_callB (ψ := fun (_ : Unit) => bv t190) (args := [.tmp 109, .tmp 110, .tmp 111, .tmp 112, .tmp 113]) Try.call24 rfl (lift_Less_ok h_t190) ⟨argB rfl, argO rfl (j := 1) rfl, argB rfl, argB rfl, argB rfl, trivial⟩ (fun _ _ _ _ _ h => h)) (by intro _ h; cases h; rfl) (fun _ => ⟨trivial, ⟨trivial, ⟨trivial, ⟨trivial, ⟨trivial, ⟨⟨⟨rfl, rfl⟩, trivial⟩, ⟨trivial, ⟨trivial, ⟨trivial, ⟨⟨⟨rfl, rfl⟩, trivial⟩, ⟨trivial, ⟨trivial, ⟨trivial, ⟨⟨⟨rfl, rfl⟩, trivial⟩, ⟨trivial, ⟨trivial, ⟨trivial, ⟨trivial, trivial⟩⟩⟩⟩⟩⟩⟩⟩⟩⟩⟩⟩⟩⟩⟩⟩⟩⟩) (fun _ => ?_)
                refine a_rdOn (i := 20) hok rfl rfl rfl rfl (by kernel_rfl) rfl (r_bneq Try.underlying4 rfl rfl) rfl ?_
                refine a_rdOn (i := 21) hok rfl rfl rfl rfl (by kernel_rfl) rfl (r_move rfl) rfl ?_
                refine b_split (t := 116) rfl (fun _ => ?_) (fun _ => ?_)
                · refine a_off (i := 22) hok rfl rfl rfl rfl rfl (by kernel_rfl) rfl rfl ?_
                  refine a_off (i := 23) hok rfl rfl rfl rfl rfl (by kernel_rfl) rfl rfl ?_
                  refine a_off (i := 24) hok rfl rfl rfl rfl rfl (by kernel_rfl) rfl rfl ?_
                  refine a_off (i := 25) hok rfl rfl rfl rfl rfl (by kernel_rfl) rfl rfl ?_
                  refine a_off (i := 26) hok rfl rfl rfl rfl rfl (by kernel_rfl) rfl rfl ?_
                  refine a_off (i := 28) hok rfl rfl rfl rfl rfl (by kernel_rfl) rfl rfl ?_
                  refine a_off (i := 29) hok rfl rfl rfl rfl rfl (by kernel_rfl) rfl rfl ?_
                  refine a_off (i := 30) hok rfl rfl rfl rfl rfl (by kernel_rfl) rfl rfl ?_
                  refine a_off (i := 31) hok rfl rfl rfl rfl rfl (by kernel_rfl) rfl rfl ?_
                  refine a_off (i := 32) hok rfl rfl rfl rfl rfl (by kernel_rfl) rfl rfl ?_
                  refine a_next hok 27 [] (by kernel_rfl) ?_ trivial
                  refine a_stOff (i := 27) hok rfl rfl rfl rfl rfl rfl (by intro _ h; cases h; rfl) ⟨trivial, ⟨trivial, ⟨trivial, ⟨trivial, ⟨trivial, ⟨trivial, ⟨trivial, ⟨trivial, ⟨trivial, ⟨trivial, ⟨trivial, ⟨trivial, ⟨⟨⟨rfl, rfl⟩, trivial⟩, ⟨trivial, ⟨trivial, ⟨trivial, ⟨⟨⟨rfl, rfl⟩, trivial⟩, ⟨⟨⟨rfl, rfl⟩, trivial⟩, ⟨trivial, ⟨trivial, ⟨trivial, ⟨⟨⟨rfl, rfl⟩, trivial⟩, ⟨trivial, ⟨trivial, ⟨trivial, ⟨⟨⟨rfl, rfl⟩, trivial⟩, ⟨trivial, ⟨trivial, ⟨trivial, ⟨trivial, trivial⟩⟩⟩⟩⟩⟩⟩⟩⟩⟩⟩⟩⟩⟩⟩⟩⟩⟩⟩⟩⟩⟩⟩⟩⟩⟩⟩⟩⟩⟩ ?_
                  refine a_next hok 33 [] (by kernel_rfl) ?_ trivial
                  refine a_stOff (i := 33) hok rfl rfl rfl rfl rfl rfl (by intro _ h; cases h; rfl) ⟨trivial, ⟨trivial, ⟨trivial, ⟨trivial, ⟨trivial, ⟨trivial, ⟨trivial, ⟨trivial, ⟨trivial, ⟨trivial, ⟨trivial, ⟨trivial, ⟨⟨⟨rfl, rfl⟩, trivial⟩, ⟨trivial, ⟨trivial, ⟨trivial, ⟨⟨⟨rfl, rfl⟩, trivial⟩, ⟨⟨⟨rfl, rfl⟩, trivial⟩, ⟨trivial, ⟨trivial, ⟨trivial, ⟨⟨⟨rfl, rfl⟩, trivial⟩, ⟨trivial, ⟨trivial, ⟨trivial, ⟨⟨⟨rfl, rfl⟩, trivial⟩, ⟨trivial, ⟨trivial, ⟨trivial, ⟨trivial, trivial⟩⟩⟩⟩⟩⟩⟩⟩⟩⟩⟩⟩⟩⟩⟩⟩⟩⟩⟩⟩⟩⟩⟩⟩⟩⟩⟩⟩⟩⟩ ?_
                  refine a_off (i := 34) hok rfl rfl rfl rfl rfl (by kernel_rfl) rfl rfl ?_
                  refine a_rdOn (i := 35) hok rfl rfl rfl rfl (by kernel_rfl) rfl (r_pickT rfl rfl) rfl ?_
                  refine a_rd (i := 36) hok rfl (by kernel_rfl) rfl (r_pickT rfl rfl) rfl ?_
                  refine a_fin hok (by kernel_rfl) ?_
                  refine n_then ?_
                  refine ref_condT rfl rfl ?_
                  refine ref_seq (ref_region ?_)
                  refine as1 rfl rfl ?_
                  refine l_nil (n_then (ref_ret (r_block (r_then ?_))))
                  refine retX ?_
                  refine r_block (r_block (r_then ?_))
                  refine retX ?_
                  refine r_block (r_block (r_then ?_))
                  refine retX ?_
                  refine r_block (r_then ?_)
                  exact fin1 (.inl rfl) () [] rfl trivial rfl (rv_tmp rfl)
                refine a_rdOn (i := 22) hok rfl rfl rfl rfl (by kernel_rfl) rfl (r_cloadS Try.isAgg34 Try.sizeOf34 rfl (j := 0) rfl rfl rfl) rfl ?_
                refine a_rdOn (i := 23) hok rfl rfl rfl rfl (by kernel_rfl) rfl (r_move rfl) rfl ?_
                refine a_rdOn (i := 24) hok rfl rfl rfl rfl (by kernel_rfl) rfl (r_move rfl) rfl ?_
                refine a_rdOn (i := 25) hok rfl rfl rfl rfl (by kernel_rfl) rfl (r_move rfl) rfl ?_
                refine a_rdOn (i := 26) hok rfl rfl rfl rfl (by kernel_rfl) rfl (r_cloadS Try.isAgg43 Try.sizeOf43 rfl (j := 2) rfl rfl rfl) rfl ?_
                refine a_rdOn (i := 28) hok rfl rfl rfl rfl (by kernel_rfl) rfl (r_cloadS Try.isAgg34 Try.sizeOf34 rfl (j := 0) rfl rfl rfl) rfl ?_
                refine a_rdOn (i := 29) hok rfl rfl rfl rfl (by kernel_rfl) rfl (r_move rfl) rfl ?_
                refine a_rdOn (i := 30) hok rfl rfl rfl rfl (by kernel_rfl) rfl (r_move rfl) rfl ?_
                refine a_rdOn (i := 31) hok rfl rfl rfl rfl (by kernel_rfl) rfl (r_move rfl) rfl ?_
                refine a_rdOn (i := 32) hok rfl rfl rfl rfl (by kernel_rfl) rfl (r_cloadS Try.isAgg43 Try.sizeOf43 rfl (j := 2) rfl rfl rfl) rfl ?_
                refine pull fun t191 h_t191 => ?_
                refine a_next hok 27 [] (by kernel_rfl) ?_ trivial
                refine a_stOn (i := 27) hok rfl rfl rfl rfl rfl (s_callB (ψ := fun (_ : Unit) => bv t191) (args := [.tmp 117, .tmp 118, .tmp 119, .tmp 120, .tmp 121]) Try.call24 rfl (lift_Less_ok h_t191) ⟨argB rfl, argO rfl (j := 1) rfl, argB rfl, argB rfl, argB rfl, trivial⟩ (fun _ _ _ _ _ h => h)) (by intro _ h; cases h; rfl) (fun _ => ⟨⟨⟨rfl, rfl⟩, trivial⟩, ⟨trivial, ⟨trivial, ⟨trivial, ⟨⟨⟨rfl, rfl⟩, trivial⟩, ⟨trivial, ⟨trivial, ⟨trivial, ⟨trivial, ⟨trivial, ⟨trivial, ⟨trivial, ⟨⟨⟨rfl, rfl⟩, trivial⟩, ⟨trivial, ⟨trivial, ⟨trivial, ⟨⟨⟨rfl, rfl⟩, trivial⟩, ⟨⟨⟨rfl, rfl⟩, trivial⟩, ⟨trivial, ⟨trivial, ⟨trivial, ⟨⟨⟨rfl, rfl⟩, trivial⟩, ⟨trivial, ⟨trivial, ⟨trivial, ⟨⟨⟨rfl, rfl⟩, trivial⟩, ⟨trivial, ⟨trivial, ⟨trivial, ⟨trivial, trivial⟩⟩⟩⟩⟩⟩⟩⟩⟩⟩⟩⟩⟩⟩⟩⟩⟩⟩⟩⟩⟩⟩⟩⟩⟩⟩⟩⟩⟩⟩) (fun _ => ?_)
                refine pull fun t192 h_t192 => ?_
                refine a_next hok 33 [] (by kernel_rfl) ?_ trivial
                refine a_stOn (i := 33) hok rfl rfl rfl rfl rfl (s_callB (ψ := fun (_ : Unit) => bv t192) (args := [.tmp 123, .tmp 124, .tmp 125, .tmp 126, .tmp 127]) Try.call24 rfl (lift_Less_ok h_t192) ⟨argB rfl, argO rfl (j := 1) rfl, argB rfl, argB rfl, argB rfl, trivial⟩ (fun _ _ _ _ _ h => h)) (by intro _ h; cases h; rfl) (fun _ => ⟨trivial, ⟨trivial, ⟨trivial, ⟨trivial, ⟨trivial, ⟨⟨⟨rfl, rfl⟩, trivial⟩, ⟨trivial, ⟨trivial, ⟨trivial, ⟨⟨⟨rfl, rfl⟩, trivial⟩, ⟨trivial, ⟨trivial, ⟨⟨⟨rfl, rfl⟩, trivial⟩, ⟨trivial, ⟨trivial, ⟨trivial, ⟨⟨⟨rfl, rfl⟩, trivial⟩, ⟨⟨⟨rfl, rfl⟩, trivial⟩, ⟨trivial, ⟨trivial, ⟨trivial, ⟨⟨⟨rfl, rfl⟩, trivial⟩, ⟨trivial, ⟨trivial, ⟨trivial, ⟨⟨⟨rfl, rfl⟩, trivial⟩, ⟨trivial, ⟨trivial, ⟨trivial, ⟨trivial, trivial⟩⟩⟩⟩⟩⟩⟩⟩⟩⟩⟩⟩⟩⟩⟩⟩⟩⟩⟩⟩⟩⟩⟩⟩⟩⟩⟩⟩⟩⟩) (fun _ => ?_)
                refine a_rdOn (i := 34) hok rfl rfl rfl rfl (by kernel_rfl) rfl (r_bneq Try.underlying4 rfl rfl) rfl ?_
                refine a_rdOn (i := 35) hok rfl rfl rfl rfl (by kernel_rfl) rfl (r_pickF rfl rfl) rfl ?_
                refine a_rd (i := 36) hok rfl (by kernel_rfl) rfl (r_pickT rfl rfl) rfl ?_
                refine a_fin hok (by kernel_rfl) ?_
                refine b_of (nrm [oc b5 [slv rT_api_Premise t3.1.Premises, slv rT_api_Rule t3.1.Rules, slv rT_api_Promotion t3.1.Promotions], oa rT_api_Argument x4.1 x4.2 t3.2.1, oc b107 [iv .i64 t106.Link, iv .i64 t106.Lift], oa rT_api_Ordering x7.1 x7.2 t6] rfl) ?_
                refine n_then ?_
                refine ref_cond rfl (fun hb193 => ?_) (fun hb193 => ?_)
                · refine ref_seq (ref_region ?_)
                  refine as1 rfl rfl ?_
                  refine l_nil (n_then (ref_ret (r_block (r_then ?_))))
                  refine retX ?_
                  refine r_block (r_block (r_then ?_))
                  refine retX ?_
                  refine r_block (r_block (r_then ?_))
                  refine retX ?_
                  refine r_block (r_then ?_)
                  exact fin1 (.inl rfl) () [] rfl trivial rfl (rv_tmp rfl)
                refine ref_skip (n_block (n_then (ref_region ?_)))
                refine s_rd (r_add rfl rfl) rfl ?_
                refine mv1 rfl rfl ?_
                refine l_nil ?_
                exact goX () (weak [0, 1, 2, 3] ⟨rfl, rfl, rfl, rfl, rfl, rfl, rfl, rfl, rfl, rfl, rfl, rfl, rfl, rfl, rfl, rfl, rfl, rfl, rfl, rfl, rfl, rfl, rfl, rfl, trivial⟩ ⟨rfl, rfl, rfl, rfl, trivial⟩)
              refine a_off (i := 8) hok rfl rfl rfl rfl rfl (by kernel_rfl) rfl rfl ?_
              refine a_off (i := 9) hok rfl rfl rfl rfl rfl (by kernel_rfl) rfl rfl ?_
              refine a_off (i := 10) hok rfl rfl rfl rfl rfl (by kernel_rfl) rfl rfl ?_
              refine a_off (i := 11) hok rfl rfl rfl rfl rfl (by kernel_rfl) rfl rfl ?_
              refine a_off (i := 12) hok rfl rfl rfl rfl rfl (by kernel_rfl) rfl rfl ?_
              refine a_off (i := 14) hok rfl rfl rfl rfl rfl (by kernel_rfl) rfl rfl ?_
              refine a_off (i := 15) hok rfl rfl rfl rfl rfl (by kernel_rfl) rfl rfl ?_
              refine a_off (i := 16) hok rfl rfl rfl rfl rfl (by kernel_rfl) rfl rfl ?_
              refine a_off (i := 17) hok rfl rfl rfl rfl rfl (by kernel_rfl) rfl rfl ?_
              refine a_off (i := 18) hok rfl rfl rfl rfl rfl (by kernel_rfl) rfl rfl ?_
              refine a_next hok 13 [] (by kernel_rfl) ?_ trivial
              refine a_stOff (i := 13) hok rfl rfl rfl rfl rfl rfl (by intro _ h; cases h; rfl) ⟨trivial, ⟨trivial, ⟨trivial, ⟨trivial, ⟨trivial, ⟨trivial, ⟨trivial, ⟨trivial, ⟨trivial, ⟨trivial, ⟨trivial, ⟨trivial, ⟨trivial, ⟨⟨⟨rfl, rfl⟩, trivial⟩, ⟨trivial, ⟨trivial, ⟨trivial, ⟨trivial, trivial⟩⟩⟩⟩⟩⟩⟩⟩⟩⟩⟩⟩⟩⟩⟩⟩⟩⟩ ?_
              refine a_next hok 19 [] (by kernel_rfl) ?_ trivial
              refine a_stOff (i := 19) hok rfl rfl rfl rfl rfl rfl (by intro _ h; cases h; rfl) ⟨trivial, ⟨trivial, ⟨trivial, ⟨trivial, ⟨trivial, ⟨trivial, ⟨trivial, ⟨trivial, ⟨trivial, ⟨trivial, ⟨trivial, ⟨trivial, ⟨trivial, ⟨⟨⟨rfl, rfl⟩, trivial⟩, ⟨trivial, ⟨trivial, ⟨trivial, ⟨trivial, trivial⟩⟩⟩⟩⟩⟩⟩⟩⟩⟩⟩⟩⟩⟩⟩⟩⟩⟩ ?_
              refine a_off (i := 20) hok rfl rfl rfl rfl rfl (by kernel_rfl) rfl rfl ?_
              refine a_off (i := 21) hok rfl rfl rfl rfl rfl (by kernel_rfl) rfl rfl ?_
              refine a_offU (i := 22) hok rfl rfl rfl (by kernel_rfl) rfl rfl ?_
              refine a_offU (i := 23) hok rfl rfl rfl (by kernel_rfl) rfl rfl ?_
              refine a_offU (i := 24) hok rfl rfl rfl (by kernel_rfl) rfl rfl ?_
              refine a_offU (i := 25) hok rfl rfl rfl (by kernel_rfl) rfl rfl ?_
              refine a_offU (i := 26) hok rfl rfl rfl (by kernel_rfl) rfl rfl ?_
              refine a_offU (i := 28) hok rfl rfl rfl (by kernel_rfl) rfl rfl ?_
              refine a_offU (i := 29) hok rfl rfl rfl (by kernel_rfl) rfl rfl ?_
              refine a_offU (i := 30) hok rfl rfl rfl (by kernel_rfl) rfl rfl ?_
              refine a_offU (i := 31) hok rfl rfl rfl (by kernel_rfl) rfl rfl ?_
              refine a_offU (i := 32) hok rfl rfl rfl (by kernel_rfl) rfl rfl ?_
              refine a_next hok 27 [] (by kernel_rfl) ?_ trivial
              refine a_stOffU (i := 27) hok rfl rfl rfl rfl (by intro _ h; cases h; rfl) ⟨trivial, ⟨trivial, ⟨trivial, ⟨trivial, ⟨trivial, ⟨trivial, ⟨trivial, ⟨trivial, ⟨trivial, ⟨trivial, ⟨trivial, ⟨trivial, ⟨trivial, ⟨trivial, ⟨trivial, ⟨trivial, ⟨trivial, ⟨trivial, ⟨trivial, ⟨trivial, ⟨trivial, ⟨trivial, ⟨trivial, ⟨trivial, ⟨trivial, ⟨⟨⟨rfl, rfl⟩, trivial⟩, ⟨trivial, ⟨trivial, ⟨trivial, ⟨trivial, trivial⟩⟩⟩⟩⟩⟩⟩⟩⟩⟩⟩⟩⟩⟩⟩⟩⟩⟩⟩⟩⟩⟩⟩⟩⟩⟩⟩⟩⟩⟩ ?_
              refine a_next hok 33 [] (by kernel_rfl) ?_ trivial
              refine a_stOffU (i := 33) hok rfl rfl rfl rfl (by intro _ h; cases h; rfl) ⟨trivial, ⟨trivial, ⟨trivial, ⟨trivial, ⟨trivial, ⟨trivial, ⟨trivial, ⟨trivial, ⟨trivial, ⟨trivial, ⟨trivial, ⟨trivial, ⟨trivial, ⟨trivial, ⟨trivial, ⟨trivial, ⟨trivial, ⟨trivial, ⟨trivial, ⟨trivial, ⟨trivial, ⟨trivial, ⟨trivial, ⟨trivial, ⟨trivial, ⟨⟨⟨rfl, rfl⟩, trivial⟩, ⟨trivial, ⟨trivial, ⟨trivial, ⟨trivial, trivial⟩⟩⟩⟩⟩⟩⟩⟩⟩⟩⟩⟩⟩⟩⟩⟩⟩⟩⟩⟩⟩⟩⟩⟩⟩⟩⟩⟩⟩⟩ ?_
              refine a_offU (i := 34) hok rfl rfl rfl (by kernel_rfl) rfl rfl ?_
              refine a_off (i := 35) hok rfl rfl rfl rfl rfl (by kernel_rfl) rfl rfl ?_
              refine a_rd (i := 36) hok rfl (by kernel_rfl) rfl (r_pickF rfl rfl) rfl ?_
              refine a_fin hok (by kernel_rfl) ?_
              refine n_then ?_
              refine ref_condF rfl rfl ?_
              refine ref_skip (n_block (n_then (ref_region ?_)))
              refine s_rd (r_add rfl rfl) rfl ?_
              refine mv1 rfl rfl ?_
              refine l_nil ?_
              exact goX () (weak [0, 1, 2, 3] ⟨rfl, rfl, rfl, rfl, rfl, rfl, rfl, rfl, rfl, rfl, rfl, rfl, rfl, rfl, rfl, rfl, rfl, rfl, rfl, rfl, rfl, rfl, rfl, rfl, trivial⟩ ⟨rfl, rfl, rfl, rfl, trivial⟩)
            refine ref_exit (x_then ?_)
            exact brkX () (weak [0, 1, 2, 3] ⟨rfl, rfl, rfl, rfl, rfl, rfl, rfl, rfl, rfl, rfl, rfl, rfl, rfl, rfl, rfl, rfl, rfl, rfl, rfl, rfl, trivial⟩ ⟨rfl, rfl, rfl, rfl, trivial⟩)
          refine n_block (n_then (ref_region ?_))
          refine s_rd (r_add rfl rfl) rfl ?_
          refine mv1 rfl rfl ?_
          refine l_nil ?_
          exact goX () (weak [0, 1, 2, 3] ⟨rfl, rfl, rfl, rfl, rfl, rfl, rfl, rfl, trivial⟩ ⟨rfl, rfl, rfl, rfl, trivial⟩)
        refine ref_exit (x_then ?_)
        exact brkX () (weak [0, 1, 3] ⟨rfl, rfl, rfl, rfl, rfl, trivial⟩ ⟨rfl, rfl, rfl, trivial⟩)
      refine n_block (n_then (ref_region ?_))
      refine s_rd (r_add rfl rfl) rfl ?_
      refine mv1 rfl rfl ?_
      refine l_nil ?_
      exact goX () (weak [0, 1, 2] ⟨rfl, rfl, rfl, rfl, rfl, trivial⟩ ⟨rfl, rfl, rfl, trivial⟩)
    refine ref_exit (x_then ?_)
    exact brkX () (weak [] trivial trivial)
  refine n_then (ref_seq (ref_region ?_))
  refine pull fun t200 h_t200 => ?_
  refine s_st (s_call (ψ := fun (_ : Unit) => bv t200) (args := []) Try.call12 rfl (law08_awake_ok h_t200) trivial (fun _ _ _ _ h => h)) rfl (fun _ => ?_)
  refine as1 rfl rfl ?_
  refine l_nil (n_then (ref_ret ?_))
  exact fin1 (.inl rfl) () [] rfl trivial rfl (rv_tmp rfl)

end Go.Dc
