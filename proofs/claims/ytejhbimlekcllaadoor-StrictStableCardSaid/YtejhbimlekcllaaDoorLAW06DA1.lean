/- Part LAW06D.A1 of a proof: lemmas. -/
import Derived.Test.YtejhbimlekcllaaDoorLAW06DA0
import Derived.Test.YtejhbimlekcllaaDoorProg
set_option linter.unusedVariables false
set_option linter.unusedSimpArgs false
set_option maxRecDepth 100000
set_option maxHeartbeats 4000000
namespace Go.Dc
open Go.Proofs
open Go.Proofs.Tryd (prog)

/-! deliberation/literal.ValidName -/
noncomputable def literal_ValidName_l1 (s_0 : ByteArray) (s13 : Int) : Option (Sum ((Sum (Bool) (Unit))) (Int)) :=
  bif decide (s13 < (s_0.size : Int)) then
    Option.bind (sidxM s_0 s13) fun c16 =>
    joinM (fun j18 : Bool =>
        bif j18 then
          some (Sum.inr (iadd .i64 s13 1))
        else
          bif decide (s13 > 0) then
            bif decide (c16 ≥ 48) then
              bif decide (c16 ≤ 57) then
                some (Sum.inr (iadd .i64 s13 1))
              else
                bif c16 == 95 then
                  some (Sum.inr (iadd .i64 s13 1))
                else
                  some (Sum.inl (Sum.inl false))
            else
              bif c16 == 95 then
                some (Sum.inr (iadd .i64 s13 1))
              else
                some (Sum.inl (Sum.inl false))
          else
            some (Sum.inl (Sum.inl false))) fun k20 =>
    bif decide (c16 ≥ 97) then
      letM (decide (c16 ≤ 122)) fun t17 =>
      k20 t17
    else
      k20 false
  else
    some (Sum.inl (Sum.inr ()))

noncomputable def literal_ValidName_m (s_0 : ByteArray) : Option (Bool) :=
  bif (s_0.size : Int) == 0 then
    some false
  else
    bif decide ((s_0.size : Int) > 12) then
      some false
    else
      Option.bind (loopC (literal_ValidName_l1 s_0) 0) (sumK (fun a : Bool => some a) fun q24 : Unit =>
        some true)

theorem literal_ValidName_ok {s_0 : ByteArray} {r : Bool} (hm : literal_ValidName_m s_0 = some r) :
    FnOk prog 71 [sv s_0] [] (fun (x : Unit) => [bv r]) (fun (x : Unit) => []) := by
  refine fn_ok (fn := Tryd.f71) (N := 44) (res := fun r x => [bv r]) (Ω1 := fun r x => []) Tryd.func71 rfl rfl hm rfl (fun E hM => ?_)
  unfold literal_ValidName_m
  refine ref_seq (ref_region ?_)
  refine as1 rfl rfl ?_
  refine l_nil (n_then (ref_seq (ref_seq (ref_region ?_))))
  refine mv1 rfl rfl ?_
  refine s_rd (r_slen Tryd.underlying9 rfl) rfl ?_
  refine s_rd (r_eql rfl rfl) rfl ?_
  refine mv1 rfl rfl ?_
  refine b_split (t := 8) rfl (fun _ => ?_) (fun _ => ?_)
  · refine s_off rfl rfl rfl rfl rfl ?_
    refine s_off rfl rfl rfl rfl rfl ?_
    refine s_off rfl rfl rfl rfl rfl ?_
    refine s_rd (r_pickT rfl rfl) rfl ?_
    refine l_nil (n_then ?_)
    refine ref_condT rfl rfl ?_
    refine ref_seq (ref_region ?_)
    refine as1 rfl rfl ?_
    refine l_nil (n_then (ref_ret (r_then ?_)))
    exact fin1 (.inl rfl) () [] rfl trivial rfl (rv_tmp rfl)
  refine s_on rfl rfl rfl ?_
  refine mv1 rfl rfl ?_
  refine s_on rfl rfl rfl ?_
  refine s_rd (r_slen Tryd.underlying9 rfl) rfl ?_
  refine s_on rfl rfl rfl ?_
  refine s_rd (r_gtr rfl rfl) rfl ?_
  refine s_rd (r_pickF rfl rfl) rfl ?_
  refine l_nil (n_then ?_)
  refine ref_cond rfl (fun hb1 => ?_) (fun hb1 => ?_)
  · refine ref_seq (ref_region ?_)
    refine as1 rfl rfl ?_
    refine l_nil (n_then (ref_ret (r_then ?_)))
    exact fin1 (.inl rfl) () [] rfl trivial rfl (rv_tmp rfl)
  refine ref_skip (n_then (ref_seq (ref_seq (ref_region ?_))))
  refine mv1 rfl rfl ?_
  refine s_rd (r_slen Tryd.underlying9 rfl) rfl ?_
  refine mv1 rfl rfl ?_
  refine l_nil (n_then ?_)
  refine ref_loopX (f := (literal_ValidName_l1 s_0)) (Γl := (fun (s13 : Int) (x14 : Unit) => [(0, sv s_0), (14, iv .i64 (s_0.size : Int)), (15, iv .i64 s13)])) (Ωl := (fun (s13 : Int) (x14 : Unit) => [])) (Γb := (fun (q24 : Unit) (y25 : Unit) => [])) (Ωb := (fun (q24 : Unit) (y25 : Unit) => [])) (kr := (fun a : Bool => some a)) 0 () (weak [] ⟨rfl, rfl, rfl, trivial⟩ trivial) (fun s13 x14 => ?_) (fun q24 y25 => ?_)
  · unfold literal_ValidName_l1
    refine ref_seq (ref_region ?_)
    refine s_rd (r_lss rfl rfl) rfl ?_
    refine l_nil (n_then (ref_seq ?_))
    refine ref_cond rfl (fun hb15 => ?_) (fun hb15 => ?_)
    · refine ref_skip (n_then (ref_seq (ref_block (ref_seq (ref_region ?_)))))
      refine mv1 rfl rfl ?_
      refine as1 rfl rfl ?_
      refine l_nil (n_then (ref_seq (ref_region ?_)))
      refine mv1 rfl rfl ?_
      refine mv1 rfl rfl ?_
      refine pull fun c16 h_c16 => ?_
      refine s_rd (r_sidx h_c16 Tryd.underlying9 rfl rfl) rfl ?_
      refine as1 rfl rfl ?_
      refine l_nil (n_then (ref_block (ref_seq ?_)))
      refine ref_join (fun (j18 : Bool) (x19 : Unit) => [(0, sv s_0), (3, iv .i64 s13), (4, iv .u8 c16), (14, iv .i64 (s_0.size : Int)), (15, iv .i64 s13), (21, bv j18)]) (fun (j18 : Bool) (x19 : Unit) => []) (fun k20 hk20 => ?_) (fun j18 x19 => ?_)
      · refine ref_region ?_
        refine mv1 rfl rfl ?_
        refine s_rd (r_geq rfl rfl) rfl ?_
        refine mv1 rfl rfl ?_
        refine b_split (t := 24) rfl (fun _ => ?_) (fun _ => ?_)
        · refine s_on rfl rfl rfl ?_
          refine mv1 rfl rfl ?_
          refine s_on rfl rfl rfl ?_
          refine s_rd (r_leq rfl rfl) rfl ?_
          refine s_rd (r_pickT rfl rfl) rfl ?_
          refine as1 rfl rfl ?_
          refine b_let (f := bv) (t := 21) rfl fun t17 => ?_
          refine l_nil ?_
          exact b_to (hk20 t17 ()) (weak [] ⟨rfl, rfl, rfl, rfl, rfl, rfl, trivial⟩ trivial)
        refine s_off rfl rfl rfl rfl rfl ?_
        refine s_off rfl rfl rfl rfl rfl ?_
        refine s_rd (r_pickF rfl rfl) rfl ?_
        refine as1 rfl rfl ?_
        refine l_nil ?_
        exact b_to (hk20 false ()) (weak [] ⟨rfl, rfl, rfl, rfl, rfl, rfl, trivial⟩ trivial)
      refine n_then ?_
      refine ref_cond rfl (fun hb21 => ?_) (fun hb21 => ?_)
      · refine ref_skip (n_block (n_block (n_then (ref_region ?_))))
        refine s_rd (r_add rfl rfl) rfl ?_
        refine mv1 rfl rfl ?_
        refine l_nil ?_
        exact goX () (weak [] ⟨rfl, rfl, rfl, trivial⟩ trivial)
      refine ref_seq (ref_region ?_)
      refine mv1 rfl rfl ?_
      refine s_rd (r_gtr rfl rfl) rfl ?_
      refine mv1 rfl rfl ?_
      refine b_split (t := 31) rfl (fun _ => ?_) (fun _ => ?_)
      · refine s_on rfl rfl rfl ?_
        refine mv1 rfl rfl ?_
        refine s_on rfl rfl rfl ?_
        refine s_rd (r_geq rfl rfl) rfl ?_
        refine s_on rfl rfl rfl ?_
        refine mv1 rfl rfl ?_
        refine b_split (t := 34) rfl (fun _ => ?_) (fun _ => ?_)
        · refine s_on rfl rfl rfl ?_
          refine mv1 rfl rfl ?_
          refine s_on rfl rfl rfl ?_
          refine s_rd (r_leq rfl rfl) rfl ?_
          refine s_on rfl rfl rfl ?_
          refine s_rd (r_pickT rfl rfl) rfl ?_
          refine s_on rfl rfl rfl ?_
          refine mv1 rfl rfl ?_
          refine b_split (t := 38) rfl (fun _ => ?_) (fun _ => ?_)
          · refine s_off rfl rfl rfl rfl rfl ?_
            refine s_off rfl rfl rfl rfl rfl ?_
            refine s_on rfl rfl rfl ?_
            refine s_rd (r_pickT rfl rfl) rfl ?_
            refine s_rd (r_pickT rfl rfl) rfl ?_
            refine as1 rfl rfl ?_
            refine l_nil (n_then ?_)
            refine ref_condT rfl rfl ?_
            refine ref_skip (n_block (n_block (n_then (ref_region ?_))))
            refine s_rd (r_add rfl rfl) rfl ?_
            refine mv1 rfl rfl ?_
            refine l_nil ?_
            exact goX () (weak [] ⟨rfl, rfl, rfl, trivial⟩ trivial)
          refine s_on rfl rfl rfl ?_
          refine mv1 rfl rfl ?_
          refine s_on rfl rfl rfl ?_
          refine s_rd (r_eql rfl rfl) rfl ?_
          refine s_on rfl rfl rfl ?_
          refine s_rd (r_pickF rfl rfl) rfl ?_
          refine s_rd (r_pickT rfl rfl) rfl ?_
          refine as1 rfl rfl ?_
          refine l_nil (n_then ?_)
          refine ref_cond rfl (fun hb22 => ?_) (fun hb22 => ?_)
          · refine ref_skip (n_block (n_block (n_then (ref_region ?_))))
            refine s_rd (r_add rfl rfl) rfl ?_
            refine mv1 rfl rfl ?_
            refine l_nil ?_
            exact goX () (weak [] ⟨rfl, rfl, rfl, trivial⟩ trivial)
          refine ref_seq (ref_region ?_)
          refine as1 rfl rfl ?_
          refine l_nil (n_then (ref_ret (r_block (r_block (r_then ?_)))))
          refine retX ?_
          refine r_block (r_then ?_)
          exact fin1 (.inl rfl) () [] rfl trivial rfl (rv_tmp rfl)
        refine s_off rfl rfl rfl rfl rfl ?_
        refine s_off rfl rfl rfl rfl rfl ?_
        refine s_on rfl rfl rfl ?_
        refine s_rd (r_pickF rfl rfl) rfl ?_
        refine s_on rfl rfl rfl ?_
        refine mv1 rfl rfl ?_
        refine s_on rfl rfl rfl ?_
        refine mv1 rfl rfl ?_
        refine s_on rfl rfl rfl ?_
        refine s_rd (r_eql rfl rfl) rfl ?_
        refine s_on rfl rfl rfl ?_
        refine s_rd (r_pickF rfl rfl) rfl ?_
        refine s_rd (r_pickT rfl rfl) rfl ?_
        refine as1 rfl rfl ?_
        refine l_nil (n_then ?_)
        refine ref_cond rfl (fun hb23 => ?_) (fun hb23 => ?_)
        · refine ref_skip (n_block (n_block (n_then (ref_region ?_))))
          refine s_rd (r_add rfl rfl) rfl ?_
          refine mv1 rfl rfl ?_
          refine l_nil ?_
          exact goX () (weak [] ⟨rfl, rfl, rfl, trivial⟩ trivial)
        refine ref_seq (ref_region ?_)
        refine as1 rfl rfl ?_
        refine l_nil (n_then (ref_ret (r_block (r_block (r_then ?_)))))
        refine retX ?_
        refine r_block (r_then ?_)
        exact fin1 (.inl rfl) () [] rfl trivial rfl (rv_tmp rfl)
      refine s_off rfl rfl rfl rfl rfl ?_
      refine s_off rfl rfl rfl rfl rfl ?_
      refine s_off rfl rfl rfl rfl rfl ?_
      refine s_offU rfl rfl rfl ?_
      refine s_offU rfl rfl rfl ?_
      refine s_off rfl rfl rfl rfl rfl ?_
      refine s_off rfl rfl rfl rfl rfl ?_
      refine s_offU rfl rfl rfl ?_
      refine s_offU rfl rfl rfl ?_
      refine s_off rfl rfl rfl rfl rfl ?_
      refine s_rd (r_pickF rfl rfl) rfl ?_
      refine as1 rfl rfl ?_
      refine l_nil (n_then ?_)
      refine ref_condF rfl rfl ?_
      refine ref_seq (ref_region ?_)
      refine as1 rfl rfl ?_
      refine l_nil (n_then (ref_ret (r_block (r_block (r_then ?_)))))
      refine retX ?_
      refine r_block (r_then ?_)
      exact fin1 (.inl rfl) () [] rfl trivial rfl (rv_tmp rfl)
    refine ref_exit (x_then ?_)
    exact brkX () (weak [] trivial trivial)
  refine n_then (ref_seq (ref_region ?_))
  refine as1 rfl rfl ?_
  refine l_nil (n_then (ref_ret ?_))
  exact fin1 (.inl rfl) () [] rfl trivial rfl (rv_tmp rfl)

/-! deliberation/literal.Valid -/
noncomputable def literal_Valid_m (x_0 : T_api_Literal) : Option (Bool) :=
  Option.bind (literal_ValidName_m x_0.Name) fun t2 =>
  some t2

theorem literal_Valid_ok {x_0 : T_api_Literal} {r : Bool} (hm : literal_Valid_m x_0 = some r) :
    FnOk prog 67 [ag [bv x_0.Neg, sv x_0.Name]] [] (fun (x : Unit) => [bv r]) (fun (x : Unit) => []) := by
  refine fn_ok (fn := Tryd.f67) (N := 6) (res := fun r x => [bv r]) (Ω1 := fun r x => []) Tryd.func67 rfl rfl hm rfl (fun E hM => ?_)
  unfold literal_Valid_m
  refine ref_seq (ref_region ?_)
  refine s_st (s_box (part_agO (ψs := [bv x_0.Neg, sv x_0.Name]) rfl ⟨.inl bv_at, .inl sv_at, trivial⟩)) rfl (fun b1 => ?_)
  refine as1 rfl rfl ?_
  refine l_nil (n_then (ref_seq (ref_region ?_)))
  refine s_rd (r_faddr (fo := 1) Tryd.underlying35 rfl rfl Tryd.sizeOf9 rfl) rfl ?_
  refine s_rd (r_cload Tryd.isAgg9 rfl (j := 0) rfl rfl) rfl ?_
  refine pull fun t2 h_t2 => ?_
  refine s_st (s_call (ψ := fun (_ : Unit) => bv t2) (args := [.tmp 4]) Tryd.call71 rfl (literal_ValidName_ok h_t2) ⟨arg rfl, trivial⟩ (fun _ _ _ _ h => h)) rfl (fun _ => ?_)
  refine as1 rfl rfl ?_
  refine l_nil (n_then (ref_ret ?_))
  exact fin1 (.inl rfl) () [] rfl trivial rfl (rv_tmp rfl)

/-! deliberation/rulebase.sourced -/
noncomputable def rulebase_sourced_m (s_0 : ByteArray) : Option (Bool) :=
  bif s_0.toList == (ByteArray.mk #[]).toList then
    some true
  else
    Option.bind (literal_ValidName_m s_0) fun t1 =>
    some t1

theorem rulebase_sourced_ok {s_0 : ByteArray} {r : Bool} (hm : rulebase_sourced_m s_0 = some r) :
    FnOk prog 68 [sv s_0] [] (fun (x : Unit) => [bv r]) (fun (x : Unit) => []) := by
  refine fn_ok (fn := Tryd.f68) (N := 9) (res := fun r x => [bv r]) (Ω1 := fun r x => []) Tryd.func68 rfl rfl hm rfl (fun E hM => ?_)
  unfold rulebase_sourced_m
  refine ref_seq (ref_region ?_)
  refine as1 rfl rfl ?_
  refine l_nil (n_then (ref_seq (ref_region ?_)))
  refine mv1 rfl rfl ?_
  refine s_rd (r_seql rfl rfl) rfl ?_
  refine mv1 rfl rfl ?_
  refine b_split (t := 5) rfl (fun _ => ?_) (fun _ => ?_)
  · refine s_off rfl rfl rfl rfl rfl ?_
    refine s_off rfl rfl rfl rfl rfl ?_
    refine s_rd (r_pickT rfl rfl) rfl ?_
    refine as1 rfl rfl ?_
    refine l_nil (n_then (ref_ret ?_))
    exact fin1 (.inl rfl) () [] rfl trivial rfl (rv_tmp rfl)
  refine s_on rfl rfl rfl ?_
  refine mv1 rfl rfl ?_
  refine s_on rfl rfl rfl ?_
  refine pull fun t1 h_t1 => ?_
  refine s_st (s_call (ψ := fun (_ : Unit) => bv t1) (args := [.tmp 6]) Tryd.call71 rfl (literal_ValidName_ok h_t1) ⟨arg rfl, trivial⟩ (fun _ _ _ _ h => h)) rfl (fun _ => ?_)
  refine s_rd (r_pickF rfl rfl) rfl ?_
  refine as1 rfl rfl ?_
  refine l_nil (n_then (ref_ret ?_))
  exact fin1 (.inl rfl) () [] rfl trivial rfl (rv_tmp rfl)

/-! deliberation/rulebase.premise -/
noncomputable def rulebase_premise_m (p_0 : T_api_Premise) : Option (Int) :=
  joinM (fun j11 : Unit =>
      Option.bind (literal_Valid_m p_0.Literal) fun t14 =>
      bif !t14 then
        some 1
      else
        Option.bind (rulebase_sourced_m p_0.Source) fun t15 =>
        bif !t15 then
          some 1
        else
          some 0) fun k13 =>
  joinM (fun j3 : Bool =>
      bif j3 then
        bif p_0.Rank != 0 then
          some 1
        else
          k13 ()
      else
        bif p_0.Kind == 2 then
          Option.bind (rulebase_ranked_m p_0.Rank) fun t9 =>
          bif !t9 then
            some 1
          else
            k13 ()
        else
          some 4) fun k5 =>
  bif p_0.Kind == 1 then
    k5 (p_0.Kind == 1)
  else
    k5 (p_0.Kind == 3)

theorem rulebase_premise_ok {p_0 : T_api_Premise} {r : Int} (hm : rulebase_premise_m p_0 = some r) :
    FnOk prog 48 [ag [bv p_0.Literal.Neg, sv p_0.Literal.Name, iv .i64 p_0.Kind, iv .i64 p_0.Rank, sv p_0.Source]] [] (fun (x : Unit) => [iv .i64 r]) (fun (x : Unit) => []) := by
  refine fn_ok (fn := Tryd.f48) (N := 27) (res := fun r x => [iv .i64 r]) (Ω1 := fun r x => []) Tryd.func48 rfl rfl hm rfl (fun E hM => ?_)
  unfold rulebase_premise_m
  refine ref_seq (ref_region ?_)
  refine s_st (s_box (part_agO (ψs := [bv p_0.Literal.Neg, sv p_0.Literal.Name, iv .i64 p_0.Kind, iv .i64 p_0.Rank, sv p_0.Source]) rfl ⟨.inl bv_at, .inl sv_at, .inl iv_at, .inl iv_at, .inl sv_at, trivial⟩)) rfl (fun b1 => ?_)
  refine as1 rfl rfl ?_
  refine l_nil (n_then (ref_seq ?_))
  refine ref_join (fun (j11 : Unit) (x12 : Unit) => [(1, pv (ptr b1 0))]) (fun (j11 : Unit) (x12 : Unit) => [oc b1 [bv p_0.Literal.Neg, sv p_0.Literal.Name, iv .i64 p_0.Kind, iv .i64 p_0.Rank, sv p_0.Source]]) (fun k13 hk13 => ?_) (fun j11 x12 => ?_)
  · refine ref_seq (ref_region ?_)
    refine s_rd (r_faddr (fo := 2) Tryd.underlying55 rfl rfl Tryd.sizeOf3 rfl) rfl ?_
    refine s_rd (r_cload Tryd.isAgg3 rfl (j := 0) rfl rfl) rfl ?_
    refine l_nil (n_then (ref_block (ref_seq ?_)))
    refine ref_join (fun (j3 : Bool) (x4 : Unit) => [(1, pv (ptr b1 0)), (4, iv .i64 p_0.Kind), (5, bv j3)]) (fun (j3 : Bool) (x4 : Unit) => [oc b1 [bv p_0.Literal.Neg, sv p_0.Literal.Name, iv .i64 p_0.Kind, iv .i64 p_0.Rank, sv p_0.Source]]) (fun k5 hk5 => ?_) (fun j3 x4 => ?_)
    · refine ref_seq (ref_region ?_)
      refine s_rd (r_eql rfl rfl) rfl ?_
      refine as1 rfl rfl ?_
      refine l_nil (n_then ?_)
      refine ref_cond rfl (fun hb2 => ?_) (fun hb2 => ?_)
      · refine ref_skip ?_
        exact b_to (hk5 (p_0.Kind == 1) ()) (weak [0] ⟨rfl, rfl, rfl, trivial⟩ ⟨rfl, trivial⟩)
      refine ref_region ?_
      refine s_rd (r_eql rfl rfl) rfl ?_
      refine as1 rfl rfl ?_
      refine l_nil ?_
      exact b_to (hk5 (p_0.Kind == 3) ()) (weak [0] ⟨rfl, rfl, rfl, trivial⟩ ⟨rfl, trivial⟩)
    refine n_then ?_
    refine ref_cond rfl (fun hb6 => ?_) (fun hb6 => ?_)
    · refine ref_seq (ref_region ?_)
      refine s_rd (r_faddr (fo := 3) Tryd.underlying55 rfl rfl Tryd.sizeOf3 rfl) rfl ?_
      refine s_rd (r_cload Tryd.isAgg3 rfl (j := 0) rfl rfl) rfl ?_
      refine s_rd (r_neq rfl rfl) rfl ?_
      refine l_nil (n_then ?_)
      refine ref_cond rfl (fun hb7 => ?_) (fun hb7 => ?_)
      · refine ref_seq (ref_region ?_)
        refine as1 rfl rfl ?_
        refine l_nil (n_then (ref_ret (r_block (r_then ?_))))
        exact fin1 (.inl rfl) () [] rfl trivial rfl (rv_tmp rfl)
      refine ref_skip (n_block ?_)
      exact b_to (hk13 () ()) (weak [0] ⟨rfl, trivial⟩ ⟨rfl, trivial⟩)
    refine ref_seq (ref_region ?_)
    refine s_rd (r_eql rfl rfl) rfl ?_
    refine as1 rfl rfl ?_
    refine l_nil (n_then ?_)
    refine ref_cond rfl (fun hb8 => ?_) (fun hb8 => ?_)
    · refine ref_seq (ref_region ?_)
      refine s_rd (r_faddr (fo := 3) Tryd.underlying55 rfl rfl Tryd.sizeOf3 rfl) rfl ?_
      refine s_rd (r_cload Tryd.isAgg3 rfl (j := 0) rfl rfl) rfl ?_
      refine pull fun t9 h_t9 => ?_
      refine s_st (s_call (ψ := fun (_ : Unit) => bv t9) (args := [.tmp 14]) Tryd.call66 rfl (rulebase_ranked_ok h_t9) ⟨arg rfl, trivial⟩ (fun _ _ _ _ h => h)) rfl (fun _ => ?_)
      refine s_rd (r_not rfl) rfl ?_
      refine l_nil (n_then ?_)
      refine ref_cond rfl (fun hb10 => ?_) (fun hb10 => ?_)
      · refine ref_seq (ref_region ?_)
        refine as1 rfl rfl ?_
        refine l_nil (n_then (ref_ret (r_block (r_then ?_))))
        exact fin1 (.inl rfl) () [] rfl trivial rfl (rv_tmp rfl)
      refine ref_skip (n_block ?_)
      exact b_to (hk13 () ()) (weak [0] ⟨rfl, trivial⟩ ⟨rfl, trivial⟩)
    refine ref_seq (ref_region ?_)
    refine as1 rfl rfl ?_
    refine l_nil (n_then (ref_ret (r_block (r_then ?_))))
    exact fin1 (.inl rfl) () [] rfl trivial rfl (rv_tmp rfl)
  refine n_then (ref_seq (ref_seq (ref_region ?_)))
  refine s_rd (r_faddr (fo := 0) Tryd.underlying55 rfl rfl Tryd.sizeOf35 rfl) rfl ?_
  refine s_rd (r_cloadS Tryd.isAgg35 Tryd.sizeOf35 rfl (j := 0) rfl rfl rfl) rfl ?_
  refine pull fun t14 h_t14 => ?_
  refine s_st (s_call (ψ := fun (_ : Unit) => bv t14) (args := [.tmp 18]) Tryd.call67 rfl (literal_Valid_ok h_t14) ⟨arg rfl, trivial⟩ (fun _ _ _ _ h => h)) rfl (fun _ => ?_)
  refine s_rd (r_not rfl) rfl ?_
  refine mv1 rfl rfl ?_
  refine b_split (t := 21) rfl (fun _ => ?_) (fun _ => ?_)
  · refine s_off rfl rfl rfl rfl rfl ?_
    refine s_off rfl rfl rfl rfl rfl ?_
    refine s_off rfl rfl rfl rfl rfl ?_
    refine s_off rfl rfl rfl rfl rfl ?_
    refine s_rd (r_pickT rfl rfl) rfl ?_
    refine l_nil (n_then ?_)
    refine ref_condT rfl rfl ?_
    refine ref_seq (ref_region ?_)
    refine as1 rfl rfl ?_
    refine l_nil (n_then (ref_ret (r_then ?_)))
    exact fin1 (.inl rfl) () [] rfl trivial rfl (rv_tmp rfl)
  refine s_on rfl rfl rfl ?_
  refine s_rd (r_faddr (fo := 4) Tryd.underlying55 rfl rfl Tryd.sizeOf9 rfl) rfl ?_
  refine s_on rfl rfl rfl ?_
  refine s_rd (r_cload Tryd.isAgg9 rfl (j := 0) rfl rfl) rfl ?_
  refine s_on rfl rfl rfl ?_
  refine pull fun t15 h_t15 => ?_
  refine s_st (s_call (ψ := fun (_ : Unit) => bv t15) (args := [.tmp 23]) Tryd.call68 rfl (rulebase_sourced_ok h_t15) ⟨arg rfl, trivial⟩ (fun _ _ _ _ h => h)) rfl (fun _ => ?_)
  refine s_on rfl rfl rfl ?_
  refine s_rd (r_not rfl) rfl ?_
  refine s_rd (r_pickF rfl rfl) rfl ?_
  refine l_nil (n_then ?_)
  refine ref_cond rfl (fun hb16 => ?_) (fun hb16 => ?_)
  · refine ref_seq (ref_region ?_)
    refine as1 rfl rfl ?_
    refine l_nil (n_then (ref_ret (r_then ?_)))
    exact fin1 (.inl rfl) () [] rfl trivial rfl (rv_tmp rfl)
  refine ref_skip (n_then (ref_seq (ref_region ?_)))
  refine as1 rfl rfl ?_
  refine l_nil (n_then (ref_ret ?_))
  exact fin1 (.inl rfl) () [] rfl trivial rfl (rv_tmp rfl)

/-! deliberation/rulebase.Premise$1 -/
noncomputable def rulebase_Premise_1_m (p_0 : T_api_Premise) (p_1 : T_api_Literal) : Option (Bool) :=
  letM (decide (p_0.Literal = p_1)) fun t2 =>
  some t2

theorem rulebase_Premise_1_ok {p_0 : T_api_Premise} {p_1 : T_api_Literal} {b_1 : Nat} {r : Bool} (hm : rulebase_Premise_1_m p_0 p_1 = some r) :
    FnOk prog 70 [ag [bv p_0.Literal.Neg, sv p_0.Literal.Name, iv .i64 p_0.Kind, iv .i64 p_0.Rank, sv p_0.Source], pv (ptr b_1 0)] [oc b_1 [bv p_1.Neg, sv p_1.Name]] (fun (x : Unit) => [bv r]) (fun (x : Unit) => [oc b_1 [bv p_1.Neg, sv p_1.Name]]) := by
  refine fn_ok (fn := Tryd.f70) (N := 8) (res := fun r x => [bv r]) (Ω1 := fun r x => [oc b_1 [bv p_1.Neg, sv p_1.Name]]) Tryd.func70 rfl rfl hm rfl (fun E hM => ?_)
  unfold rulebase_Premise_1_m
  refine ref_seq (ref_region ?_)
  refine s_st (s_box (part_agO (ψs := [bv p_0.Literal.Neg, sv p_0.Literal.Name, iv .i64 p_0.Kind, iv .i64 p_0.Rank, sv p_0.Source]) rfl ⟨.inl bv_at, .inl sv_at, .inl iv_at, .inl iv_at, .inl sv_at, trivial⟩)) rfl (fun b1 => ?_)
  refine as1 rfl rfl ?_
  refine l_nil (n_then (ref_seq (ref_region ?_)))
  refine s_rd (r_faddr (fo := 0) Tryd.underlying55 rfl rfl Tryd.sizeOf35 rfl) rfl ?_
  refine s_rd (r_cloadS Tryd.isAgg35 Tryd.sizeOf35 rfl (j := 1) rfl rfl rfl) rfl ?_
  refine s_rd (r_cloadS Tryd.isAgg35 Tryd.sizeOf35 rfl (j := 0) rfl rfl rfl) rfl ?_
  refine s_rd (r_steql (u := p_0.Literal) (v := p_1) eq_35 rfl rfl rfl rfl) rfl ?_
  refine as1 rfl rfl ?_
  refine b_let (f := bv) (t := 3) rfl fun t2 => ?_
  refine l_nil (n_then (ref_ret ?_))
  exact fin1 (.inl rfl) () [0] rfl ⟨rfl, trivial⟩ rfl (rv_tmp rfl)

/-! slices.IndexFunc[[]deliberation/api.Premise,deliberation/api.Premise] -/
noncomputable def slices_IndexFunc_api_Premise_api_Premise_l1 (s_0 : (List T_api_Premise)) (e_0 : T_api_Literal) (s7 : Int) : Option (Sum ((Sum (Int) (Unit))) (Int)) :=
  bif decide (s7 < (s_0.length : Int)) then
    Option.bind (idxM s_0 s7) fun t10 =>
    Option.bind (rulebase_Premise_1_m t10 e_0) fun t11 =>
    bif t11 then
      some (Sum.inl (Sum.inl s7))
    else
      some (Sum.inr (iadd .i64 s7 1))
  else
    some (Sum.inl (Sum.inr ()))

noncomputable def slices_IndexFunc_api_Premise_api_Premise_m (s_0 : (List T_api_Premise)) (e_0 : T_api_Literal) : Option (Int) :=
  Option.bind (loopC (slices_IndexFunc_api_Premise_api_Premise_l1 s_0 e_0) 0) (sumK (fun a : Int => some a) fun q13 : Unit =>
    some (-1))

theorem slices_IndexFunc_api_Premise_api_Premise_ok {s_0 : (List T_api_Premise)} {e_0 : T_api_Literal} {be_0 : Nat} {r : Int} (hm : slices_IndexFunc_api_Premise_api_Premise_m s_0 e_0 = some r) :
    FnOk prog 69 [slv rT_api_Premise s_0, pv (.func (.func 70) #[] #[(ptr be_0 0)])] [oc be_0 [bv e_0.Neg, sv e_0.Name]] (fun (x : Unit) => [iv .i64 r]) (fun (x : Unit) => [oc be_0 [bv e_0.Neg, sv e_0.Name]]) := by
  refine fn_ok (fn := Tryd.f69) (N := 19) (res := fun r x => [iv .i64 r]) (Ω1 := fun r x => [oc be_0 [bv e_0.Neg, sv e_0.Name]]) Tryd.func69 rfl rfl hm rfl (fun E hM => ?_)
  unfold slices_IndexFunc_api_Premise_api_Premise_m
  refine ref_seq (ref_region ?_)
  refine as1 rfl rfl ?_
  refine l_nil (n_then (ref_seq (ref_seq (ref_region ?_))))
  refine mv1 rfl rfl ?_
  refine s_rd (r_len Tryd.underlying25 rfl) rfl ?_
  refine mv1 rfl rfl ?_
  refine l_nil (n_then ?_)
  refine ref_loopX (f := (slices_IndexFunc_api_Premise_api_Premise_l1 s_0 e_0)) (Γl := (fun (s7 : Int) (x8 : Unit) => [(0, slv rT_api_Premise s_0), (1, pv (.func (.func 70) #[] #[(ptr be_0 0)])), (7, iv .i64 (s_0.length : Int)), (8, iv .i64 s7)])) (Ωl := (fun (s7 : Int) (x8 : Unit) => [oc be_0 [bv e_0.Neg, sv e_0.Name]])) (Γb := (fun (q13 : Unit) (y14 : Unit) => [(1, pv (.func (.func 70) #[] #[(ptr be_0 0)]))])) (Ωb := (fun (q13 : Unit) (y14 : Unit) => [oc be_0 [bv e_0.Neg, sv e_0.Name]])) (kr := (fun a : Int => some a)) 0 () (weak [0] ⟨rfl, rfl, rfl, rfl, trivial⟩ ⟨rfl, trivial⟩) (fun s7 x8 => ?_) (fun q13 y14 => ?_)
  · unfold slices_IndexFunc_api_Premise_api_Premise_l1
    refine ref_seq (ref_region ?_)
    refine s_rd (r_lss rfl rfl) rfl ?_
    refine l_nil (n_then (ref_seq ?_))
    refine ref_cond rfl (fun hb9 => ?_) (fun hb9 => ?_)
    · refine ref_skip (n_then (ref_seq (ref_block (ref_seq (ref_region ?_)))))
      refine mv1 rfl rfl ?_
      refine as1 rfl rfl ?_
      refine l_nil (n_then (ref_seq (ref_region ?_)))
      refine mv1 rfl rfl ?_
      refine mv1 rfl rfl ?_
      refine mv1 rfl rfl ?_
      refine pull fun t10 h_t10 => ?_
      refine s_rd (r_index h_t10 Tryd.underlying25 el_55 rfl rfl) rfl ?_
      refine s_rd (r_load el_55 rfl) rfl ?_
      refine pull fun t11 h_t11 => ?_
      refine s_st (s_callC [0] [true] (fun (_ : Unit) => [oc be_0 [bv e_0.Neg, sv e_0.Name]]) (fun (_ : Unit) => []) (fun (_ : Unit) => bv t11) (args := [.tmp 15]) (caps := [(ptr be_0 0)]) Tryd.call70 rfl (rulebase_Premise_1_ok h_t11) ⟨rfl, rfl, trivial⟩ (fun _ => rfl) (fun _ => trivial) (fun _ => rfl) ⟨arg rfl, arg rfl, trivial⟩ (fun _ _ _ _ h => h)) rfl (fun _ => ?_)
      refine l_nil (n_then ?_)
      refine ref_cond rfl (fun hb12 => ?_) (fun hb12 => ?_)
      · refine ref_seq (ref_region ?_)
        refine mv1 rfl rfl ?_
        refine as1 rfl rfl ?_
        refine l_nil (n_then (ref_ret (r_block (r_then ?_))))
        refine retX ?_
        refine r_block (r_then ?_)
        exact fin1 (.inl rfl) () [0] rfl ⟨rfl, trivial⟩ rfl (rv_tmp rfl)
      refine ref_skip (n_block (n_then (ref_region ?_)))
      refine s_rd (r_add rfl rfl) rfl ?_
      refine mv1 rfl rfl ?_
      refine l_nil ?_
      exact goX () (weak [0] ⟨rfl, rfl, rfl, rfl, trivial⟩ ⟨rfl, trivial⟩)
    refine ref_exit (x_then ?_)
    exact brkX () (weak [0] ⟨rfl, trivial⟩ ⟨rfl, trivial⟩)
  refine n_then (ref_seq (ref_region ?_))
  refine as1 rfl rfl ?_
  refine l_nil (n_then (ref_ret ?_))
  exact fin1 (.inl rfl) () [0] rfl ⟨rfl, trivial⟩ rfl (rv_tmp rfl)

/-! deliberation/rulebase.Premise -/
noncomputable def rulebase_Premise_m (b_0 : T_api_Base) (x_1 : T_api_Literal) : Option (Int) :=
  Option.bind (slices_IndexFunc_api_Premise_api_Premise_m b_0.Premises x_1) fun t3 =>
  some t3

theorem rulebase_Premise_ok {b_0 : T_api_Base} {x_1 : T_api_Literal} {r : Int} (hm : rulebase_Premise_m b_0 x_1 = some r) :
    FnOk prog 49 [ag [slv rT_api_Premise b_0.Premises, slv rT_api_Rule b_0.Rules, slv rT_api_Promotion b_0.Promotions], ag [bv x_1.Neg, sv x_1.Name]] [] (fun (x : Unit) => [iv .i64 r]) (fun (x : Unit) => []) := by
  refine fn_ok (fn := Tryd.f49) (N := 9) (res := fun r x => [iv .i64 r]) (Ω1 := fun r x => []) Tryd.func49 rfl rfl hm rfl (fun E hM => ?_)
  unfold rulebase_Premise_m
  refine ref_seq (ref_region ?_)
  refine s_st (s_box (part_agO (ψs := [slv rT_api_Premise b_0.Premises, slv rT_api_Rule b_0.Rules, slv rT_api_Promotion b_0.Promotions]) rfl ⟨.inl slv_at, .inl slv_at, .inl slv_at, trivial⟩)) rfl (fun b1 => ?_)
  refine s_st (s_box (part_agO (ψs := [bv x_1.Neg, sv x_1.Name]) rfl ⟨.inl bv_at, .inl sv_at, trivial⟩)) rfl (fun b2 => ?_)
  refine as1 rfl rfl ?_
  refine l_nil (n_then (ref_seq (ref_region ?_)))
  refine s_rd (r_faddr (fo := 0) Tryd.underlying29 rfl rfl Tryd.sizeOf25 rfl) rfl ?_
  refine s_rd (r_cload Tryd.isAgg25 rfl (j := 0) rfl rfl) rfl ?_
  refine s_rd (r_mkfn (xs := [.tmp 3]) (vs := [(ptr b2 0)]) ⟨rfl, trivial⟩) rfl ?_
  refine pull fun t3 h_t3 => ?_
  refine s_st (s_callC [1] [true] (fun (_ : Unit) => [oc b2 [bv x_1.Neg, sv x_1.Name]]) (fun (_ : Unit) => []) (fun (_ : Unit) => iv .i64 t3) (args := [.tmp 6, .tmp 7]) (caps := []) Tryd.call69 rfl (slices_IndexFunc_api_Premise_api_Premise_ok h_t3) ⟨rfl, rfl, trivial⟩ (fun _ => rfl) (fun _ => trivial) (fun _ => rfl) ⟨arg rfl, arg rfl, trivial⟩ (fun _ _ _ _ h => h)) rfl (fun _ => ?_)
  refine as1 rfl rfl ?_
  refine l_nil (n_then (ref_ret ?_))
  exact fin1 (.inl rfl) () [] rfl trivial rfl (rv_tmp rfl)

/-! deliberation/rulebase.rule -/
noncomputable def rulebase_rule_l1 (r__0 : T_api_Rule) (s17 : Int) : Option (Sum ((Sum (Int) (Unit))) (Int)) :=
  bif decide (s17 < (r__0.Body.length : Int)) then
    Option.bind (idxM r__0.Body s17) fun t20 =>
    Option.bind (literal_Valid_m t20) fun t22 =>
    bif !t22 then
      some (Sum.inl (Sum.inl 1))
    else
      some (Sum.inr (iadd .i64 s17 1))
  else
    some (Sum.inl (Sum.inr ()))

noncomputable def rulebase_rule_l2 (r__0 : T_api_Rule) (s33 : Int) : Option (Sum ((Sum (Int) (Unit))) (Int)) :=
  bif decide (s33 < (r__0.Body.length : Int)) then
    Option.bind (idxM r__0.Body (isub .i64 s33 1)) fun t36 =>
    Option.bind (idxM r__0.Body s33) fun t37 =>
    Option.bind (literal_Compare_m t36 t37) fun t38 =>
    bif decide (t38 ≥ 0) then
      some (Sum.inl (Sum.inl 8))
    else
      letM (iadd .i64 s33 1) fun i40 =>
      some (Sum.inr i40)
  else
    some (Sum.inl (Sum.inr ()))

noncomputable def rulebase_rule_m (r__0 : T_api_Rule) : Option (Int) :=
  bif decide ((r__0.Body.length : Int) > 4) then
    some 2
  else
    joinM (fun j7 : Unit =>
        Option.bind (loopC (rulebase_rule_l1 r__0) 0) (sumK (fun a : Int => some a) fun q24 : Unit =>
          Option.bind (loopC (rulebase_rule_l2 r__0) 1) (sumK (fun a : Int => some a) fun q41 : Unit =>
            some 0))) fun k9 =>
    Option.bind (literal_ValidName_m r__0.Name) fun t3 =>
    bif !t3 then
      some 1
    else
      Option.bind (literal_Valid_m r__0.Head) fun t4 =>
      bif !t4 then
        some 1
      else
        Option.bind (rulebase_ranked_m r__0.Rank) fun t5 =>
        bif !t5 then
          some 1
        else
          bif r__0.Strict then
            bif r__0.Rank != 0 then
              some 1
            else
              k9 ()
          else
            k9 ()

theorem rulebase_rule_ok {r__0 : T_api_Rule} {r : Int} (hm : rulebase_rule_m r__0 = some r) :
    FnOk prog 50 [ag [sv r__0.Name, bv r__0.Strict, iv .i64 r__0.Rank, slv rT_api_Literal r__0.Body, bv r__0.Head.Neg, sv r__0.Head.Name]] [] (fun (x : Unit) => [iv .i64 r]) (fun (x : Unit) => []) := by
  refine fn_ok (fn := Tryd.f50) (N := 66) (res := fun r x => [iv .i64 r]) (Ω1 := fun r x => []) Tryd.func50 rfl rfl hm rfl (fun E hM => ?_)
  unfold rulebase_rule_m
  refine ref_seq (ref_region ?_)
  refine s_st (s_box (part_agO (ψs := [sv r__0.Name, bv r__0.Strict, iv .i64 r__0.Rank, slv rT_api_Literal r__0.Body, bv r__0.Head.Neg, sv r__0.Head.Name]) rfl ⟨.inl sv_at, .inl bv_at, .inl iv_at, .inl slv_at, .inl bv_at, .inl sv_at, trivial⟩)) rfl (fun b1 => ?_)
  refine as1 rfl rfl ?_
  refine l_nil (n_then (ref_seq (ref_seq (ref_region ?_))))
  refine s_rd (r_faddr (fo := 3) Tryd.underlying40 rfl rfl Tryd.sizeOf31 rfl) rfl ?_
  refine s_rd (r_cload Tryd.isAgg31 rfl (j := 0) rfl rfl) rfl ?_
  refine s_rd (r_len Tryd.underlying31 rfl) rfl ?_
  refine s_rd (r_gtr rfl rfl) rfl ?_
  refine l_nil (n_then ?_)
  refine ref_cond rfl (fun hb2 => ?_) (fun hb2 => ?_)
  · refine ref_seq (ref_region ?_)
    refine as1 rfl rfl ?_
    refine l_nil (n_then (ref_ret (r_then ?_)))
    exact fin1 (.inl rfl) () [] rfl trivial rfl (rv_tmp rfl)
  refine ref_skip (n_then (ref_seq ?_))
  refine ref_join (fun (j7 : Unit) (x8 : Unit) => [(1, pv (ptr b1 0))]) (fun (j7 : Unit) (x8 : Unit) => [oc b1 [sv r__0.Name, bv r__0.Strict, iv .i64 r__0.Rank, slv rT_api_Literal r__0.Body, bv r__0.Head.Neg, sv r__0.Head.Name]]) (fun k9 hk9 => ?_) (fun j7 x8 => ?_)
  · refine ref_seq (ref_region ?_)
    refine s_rd (r_faddr (fo := 0) Tryd.underlying40 rfl rfl Tryd.sizeOf9 rfl) rfl ?_
    refine s_rd (r_cload Tryd.isAgg9 rfl (j := 0) rfl rfl) rfl ?_
    refine pull fun t3 h_t3 => ?_
    refine s_st (s_call (ψ := fun (_ : Unit) => bv t3) (args := [.tmp 11]) Tryd.call71 rfl (literal_ValidName_ok h_t3) ⟨arg rfl, trivial⟩ (fun _ _ _ _ h => h)) rfl (fun _ => ?_)
    refine s_rd (r_not rfl) rfl ?_
    refine mv1 rfl rfl ?_
    refine b_split (t := 14) rfl (fun _ => ?_) (fun _ => ?_)
    · refine s_off rfl rfl rfl rfl rfl ?_
      refine s_off rfl rfl rfl rfl rfl ?_
      refine s_off rfl rfl rfl rfl rfl ?_
      refine s_off rfl rfl rfl rfl rfl ?_
      refine s_rd (r_pickT rfl rfl) rfl ?_
      refine mv1 rfl rfl ?_
      refine s_off rfl rfl rfl rfl rfl ?_
      refine s_off rfl rfl rfl rfl rfl ?_
      refine s_off rfl rfl rfl rfl rfl ?_
      refine s_off rfl rfl rfl rfl rfl ?_
      refine s_rd (r_pickT rfl rfl) rfl ?_
      refine mv1 rfl rfl ?_
      refine s_off rfl rfl rfl rfl rfl ?_
      refine s_off rfl rfl rfl rfl rfl ?_
      refine s_off rfl rfl rfl rfl rfl ?_
      refine s_offU rfl rfl rfl ?_
      refine s_offU rfl rfl rfl ?_
      refine s_offU rfl rfl rfl ?_
      refine s_off rfl rfl rfl rfl rfl ?_
      refine s_rd (r_pickT rfl rfl) rfl ?_
      refine l_nil (n_then ?_)
      refine ref_condT rfl rfl ?_
      refine ref_seq (ref_region ?_)
      refine as1 rfl rfl ?_
      refine l_nil (n_then (ref_ret (r_then ?_)))
      exact fin1 (.inl rfl) () [] rfl trivial rfl (rv_tmp rfl)
    refine s_on rfl rfl rfl ?_
    refine s_rd (r_faddr (fo := 4) Tryd.underlying40 rfl rfl Tryd.sizeOf35 rfl) rfl ?_
    refine s_on rfl rfl rfl ?_
    refine s_rd (r_cloadS Tryd.isAgg35 Tryd.sizeOf35 rfl (j := 0) rfl rfl rfl) rfl ?_
    refine s_on rfl rfl rfl ?_
    refine pull fun t4 h_t4 => ?_
    refine s_st (s_call (ψ := fun (_ : Unit) => bv t4) (args := [.tmp 16]) Tryd.call67 rfl (literal_Valid_ok h_t4) ⟨arg rfl, trivial⟩ (fun _ _ _ _ h => h)) rfl (fun _ => ?_)
    refine s_on rfl rfl rfl ?_
    refine s_rd (r_not rfl) rfl ?_
    refine s_rd (r_pickF rfl rfl) rfl ?_
    refine mv1 rfl rfl ?_
    refine b_split (t := 20) rfl (fun _ => ?_) (fun _ => ?_)
    · refine s_off rfl rfl rfl rfl rfl ?_
      refine s_off rfl rfl rfl rfl rfl ?_
      refine s_off rfl rfl rfl rfl rfl ?_
      refine s_off rfl rfl rfl rfl rfl ?_
      refine s_rd (r_pickT rfl rfl) rfl ?_
      refine mv1 rfl rfl ?_
      refine s_off rfl rfl rfl rfl rfl ?_
      refine s_off rfl rfl rfl rfl rfl ?_
      refine s_off rfl rfl rfl rfl rfl ?_
      refine s_offU rfl rfl rfl ?_
      refine s_offU rfl rfl rfl ?_
      refine s_offU rfl rfl rfl ?_
      refine s_off rfl rfl rfl rfl rfl ?_
      refine s_rd (r_pickT rfl rfl) rfl ?_
      refine l_nil (n_then ?_)
      refine ref_condT rfl rfl ?_
      refine ref_seq (ref_region ?_)
      refine as1 rfl rfl ?_
      refine l_nil (n_then (ref_ret (r_then ?_)))
      exact fin1 (.inl rfl) () [] rfl trivial rfl (rv_tmp rfl)
    refine s_on rfl rfl rfl ?_
    refine s_rd (r_faddr (fo := 2) Tryd.underlying40 rfl rfl Tryd.sizeOf3 rfl) rfl ?_
    refine s_on rfl rfl rfl ?_
    refine s_rd (r_cload Tryd.isAgg3 rfl (j := 0) rfl rfl) rfl ?_
    refine s_on rfl rfl rfl ?_
    refine pull fun t5 h_t5 => ?_
    refine s_st (s_call (ψ := fun (_ : Unit) => bv t5) (args := [.tmp 22]) Tryd.call66 rfl (rulebase_ranked_ok h_t5) ⟨arg rfl, trivial⟩ (fun _ _ _ _ h => h)) rfl (fun _ => ?_)
    refine s_on rfl rfl rfl ?_
    refine s_rd (r_not rfl) rfl ?_
    refine s_rd (r_pickF rfl rfl) rfl ?_
    refine mv1 rfl rfl ?_
    refine b_split (t := 26) rfl (fun _ => ?_) (fun _ => ?_)
    · refine s_off rfl rfl rfl rfl rfl ?_
      refine s_off rfl rfl rfl rfl rfl ?_
      refine s_off rfl rfl rfl rfl rfl ?_
      refine s_offU rfl rfl rfl ?_
      refine s_offU rfl rfl rfl ?_
      refine s_offU rfl rfl rfl ?_
      refine s_off rfl rfl rfl rfl rfl ?_
      refine s_rd (r_pickT rfl rfl) rfl ?_
      refine l_nil ?_
      refine b_of (nrm [oc b1 [sv r__0.Name, bv r__0.Strict, iv .i64 r__0.Rank, slv rT_api_Literal r__0.Body, bv r__0.Head.Neg, sv r__0.Head.Name]] rfl) ?_
      refine n_then ?_
      refine ref_condT rfl rfl ?_
      refine ref_seq (ref_region ?_)
      refine as1 rfl rfl ?_
      refine l_nil (n_then (ref_ret (r_then ?_)))
      exact fin1 (.inl rfl) () [] rfl trivial rfl (rv_tmp rfl)
    refine s_on rfl rfl rfl ?_
    refine s_rd (r_faddr (fo := 1) Tryd.underlying40 rfl rfl Tryd.sizeOf4 rfl) rfl ?_
    refine s_on rfl rfl rfl ?_
    refine s_rd (r_cload Tryd.isAgg4 rfl (j := 0) rfl rfl) rfl ?_
    refine s_on rfl rfl rfl ?_
    refine mv1 rfl rfl ?_
    refine b_split (t := 29) rfl (fun _ => ?_) (fun _ => ?_)
    · refine s_on rfl rfl rfl ?_
      refine s_rd (r_faddr (fo := 2) Tryd.underlying40 rfl rfl Tryd.sizeOf3 rfl) rfl ?_
      refine s_on rfl rfl rfl ?_
      refine s_rd (r_cload Tryd.isAgg3 rfl (j := 0) rfl rfl) rfl ?_
      refine s_on rfl rfl rfl ?_
      refine s_rd (r_neq rfl rfl) rfl ?_
      refine s_on rfl rfl rfl ?_
      refine s_rd (r_pickT rfl rfl) rfl ?_
      refine s_rd (r_pickF rfl rfl) rfl ?_
      refine l_nil ?_
      refine b_of (nrm [oc b1 [sv r__0.Name, bv r__0.Strict, iv .i64 r__0.Rank, slv rT_api_Literal r__0.Body, bv r__0.Head.Neg, sv r__0.Head.Name]] rfl) ?_
      refine n_then ?_
      refine ref_cond rfl (fun hb6 => ?_) (fun hb6 => ?_)
      · refine ref_seq (ref_region ?_)
        refine as1 rfl rfl ?_
        refine l_nil (n_then (ref_ret (r_then ?_)))
        exact fin1 (.inl rfl) () [] rfl trivial rfl (rv_tmp rfl)
      refine ref_skip ?_
      exact b_to (hk9 () ()) (weak [0] ⟨rfl, trivial⟩ ⟨rfl, trivial⟩)
    refine s_off rfl rfl rfl rfl rfl ?_
    refine s_off rfl rfl rfl rfl rfl ?_
    refine s_off rfl rfl rfl rfl rfl ?_
    refine s_on rfl rfl rfl ?_
    refine s_rd (r_pickF rfl rfl) rfl ?_
    refine s_rd (r_pickF rfl rfl) rfl ?_
    refine l_nil ?_
    refine b_of (nrm [oc b1 [sv r__0.Name, bv r__0.Strict, iv .i64 r__0.Rank, slv rT_api_Literal r__0.Body, bv r__0.Head.Neg, sv r__0.Head.Name]] rfl) ?_
    refine n_then ?_
    refine ref_condF rfl rfl ?_
    refine ref_skip ?_
    exact b_to (hk9 () ()) (weak [0] ⟨rfl, trivial⟩ ⟨rfl, trivial⟩)
  refine n_then (ref_seq (ref_seq (ref_region ?_)))
  refine s_rd (r_faddr (fo := 3) Tryd.underlying40 rfl rfl Tryd.sizeOf31 rfl) rfl ?_
  refine s_rd (r_cload Tryd.isAgg31 rfl (j := 0) rfl rfl) rfl ?_
  refine s_rd (r_len Tryd.underlying31 rfl) rfl ?_
  refine mv1 rfl rfl ?_
  refine l_nil (n_then ?_)
  refine ref_loopX (f := (rulebase_rule_l1 r__0)) (Γl := (fun (s17 : Int) (x18 : Unit) => [(1, pv (ptr b1 0)), (36, slv rT_api_Literal r__0.Body), (37, iv .i64 (r__0.Body.length : Int)), (38, iv .i64 s17)])) (Ωl := (fun (s17 : Int) (x18 : Unit) => [oc b1 [sv r__0.Name, bv r__0.Strict, iv .i64 r__0.Rank, slv rT_api_Literal r__0.Body, bv r__0.Head.Neg, sv r__0.Head.Name]])) (Γb := (fun (q24 : Unit) (y25 : Unit) => [(1, pv (ptr b1 0))])) (Ωb := (fun (q24 : Unit) (y25 : Unit) => [oc b1 [sv r__0.Name, bv r__0.Strict, iv .i64 r__0.Rank, slv rT_api_Literal r__0.Body, bv r__0.Head.Neg, sv r__0.Head.Name]])) (kr := (fun a : Int => some a)) 0 () (weak [0] ⟨rfl, rfl, rfl, rfl, trivial⟩ ⟨rfl, trivial⟩) (fun s17 x18 => ?_) (fun q24 y25 => ?_)
  · unfold rulebase_rule_l1
    refine ref_seq (ref_region ?_)
    refine s_rd (r_lss rfl rfl) rfl ?_
    refine l_nil (n_then (ref_seq ?_))
    refine ref_cond rfl (fun hb19 => ?_) (fun hb19 => ?_)
    · refine ref_skip (n_then (ref_seq (ref_block (ref_seq (ref_region ?_)))))
      refine pull fun t20 h_t20 => ?_
      refine s_rd (r_index h_t20 Tryd.underlying31 el_35 rfl rfl) rfl ?_
      refine s_rd (r_load el_35 rfl) rfl ?_
      refine s_st (s_alloc zt_35) rfl (fun b21 => ?_)
      refine s_st0 (s_cstore (out := [bv t20.Neg, sv t20.Name]) Tryd.sizeOf35 rfl (j := 1) rfl (part_agO (ψs := [bv t20.Neg, sv t20.Name]) rfl ⟨.inl bv_at, .inl sv_at, trivial⟩) rfl rfl rfl) (fun _ => ?_)
      refine l_nil (n_then (ref_seq (ref_region ?_)))
      refine s_rd (r_cloadS Tryd.isAgg35 Tryd.sizeOf35 rfl (j := 1) rfl rfl rfl) rfl ?_
      refine pull fun t22 h_t22 => ?_
      refine s_st (s_call (ψ := fun (_ : Unit) => bv t22) (args := [.tmp 42]) Tryd.call67 rfl (literal_Valid_ok h_t22) ⟨arg rfl, trivial⟩ (fun _ _ _ _ h => h)) rfl (fun _ => ?_)
      refine s_rd (r_not rfl) rfl ?_
      refine l_nil (n_then ?_)
      refine ref_cond rfl (fun hb23 => ?_) (fun hb23 => ?_)
      · refine ref_seq (ref_region ?_)
        refine as1 rfl rfl ?_
        refine l_nil (n_then (ref_ret (r_block (r_then ?_))))
        refine retX ?_
        refine r_block (r_then ?_)
        exact fin1 (.inl rfl) () [] rfl trivial rfl (rv_tmp rfl)
      refine ref_skip (n_block (n_then (ref_region ?_)))
      refine s_rd (r_add rfl rfl) rfl ?_
      refine mv1 rfl rfl ?_
      refine l_nil ?_
      exact goX () (weak [0] ⟨rfl, rfl, rfl, rfl, trivial⟩ ⟨rfl, trivial⟩)
    refine ref_exit (x_then ?_)
    exact brkX () (weak [0] ⟨rfl, trivial⟩ ⟨rfl, trivial⟩)
  refine n_then (ref_seq (ref_seq (ref_region ?_)))
  refine as1 rfl rfl ?_
  refine l_nil (n_then ?_)
  refine ref_loopX (f := (rulebase_rule_l2 r__0)) (Γl := (fun (s33 : Int) (x34 : Unit) => [(1, pv (ptr b1 0)), (5, iv .i64 s33)])) (Ωl := (fun (s33 : Int) (x34 : Unit) => [oc b1 [sv r__0.Name, bv r__0.Strict, iv .i64 r__0.Rank, slv rT_api_Literal r__0.Body, bv r__0.Head.Neg, sv r__0.Head.Name]])) (Γb := (fun (q41 : Unit) (y42 : Unit) => [])) (Ωb := (fun (q41 : Unit) (y42 : Unit) => [])) (kr := (fun a : Int => some a)) 1 () (weak [0] ⟨rfl, rfl, trivial⟩ ⟨rfl, trivial⟩) (fun s33 x34 => ?_) (fun q41 y42 => ?_)
  · unfold rulebase_rule_l2
    refine ref_seq (ref_seq (ref_region ?_))
    refine mv1 rfl rfl ?_
    refine s_rd (r_faddr (fo := 3) Tryd.underlying40 rfl rfl Tryd.sizeOf31 rfl) rfl ?_
    refine s_rd (r_cload Tryd.isAgg31 rfl (j := 0) rfl rfl) rfl ?_
    refine s_rd (r_len Tryd.underlying31 rfl) rfl ?_
    refine s_rd (r_lss rfl rfl) rfl ?_
    refine l_nil (n_then ?_)
    refine ref_cond rfl (fun hb35 => ?_) (fun hb35 => ?_)
    · refine ref_skip (n_then (ref_seq (ref_block (ref_seq ?_))))
      refine ref_draw [0, 1, 2, 3, 4, 5, 6, 7, 8, 9, 10, 12] rfl (by kernel_rfl) (fun hok => ?_)
      refine a_rd (i := 0) hok rfl (by kernel_rfl) rfl (r_faddr (fo := 3) Tryd.underlying40 rfl rfl Tryd.sizeOf31 rfl) rfl ?_
      refine a_rd (i := 1) hok rfl (by kernel_rfl) rfl (r_cload Tryd.isAgg31 rfl (j := 0) rfl rfl) rfl ?_
      refine a_rd (i := 2) hok rfl (by kernel_rfl) rfl (r_move rfl) rfl ?_
      refine a_rd (i := 3) hok rfl (by kernel_rfl) rfl (r_sub rfl rfl) rfl ?_
      refine pull fun t36 h_t36 => ?_
      refine a_rd (i := 4) hok rfl (by kernel_rfl) rfl (r_index h_t36 Tryd.underlying31 el_35 rfl rfl) rfl ?_
      refine a_rd (i := 5) hok rfl (by kernel_rfl) rfl (r_load el_35 rfl) rfl ?_
      refine a_rd (i := 6) hok rfl (by kernel_rfl) rfl (r_faddr (fo := 3) Tryd.underlying40 rfl rfl Tryd.sizeOf31 rfl) rfl ?_
      refine a_rd (i := 7) hok rfl (by kernel_rfl) rfl (r_cload Tryd.isAgg31 rfl (j := 0) rfl rfl) rfl ?_
      refine a_rd (i := 8) hok rfl (by kernel_rfl) rfl (r_move rfl) rfl ?_
      refine pull fun t37 h_t37 => ?_
      refine a_rd (i := 9) hok rfl (by kernel_rfl) rfl (r_index h_t37 Tryd.underlying31 el_35 rfl rfl) rfl ?_
      refine a_rd (i := 10) hok rfl (by kernel_rfl) rfl (r_load el_35 rfl) rfl ?_
      refine pull fun t38 h_t38 => ?_
      refine a_next hok 11 [] (by kernel_rfl) ?_ trivial
      refine a_st (i := 11) hok rfl rfl (s_call (ψ := fun (_ : Unit) => iv .i64 t38) (args := [.tmp 58, .tmp 63]) Tryd.call42 rfl (literal_Compare_ok h_t38) ⟨arg rfl, arg rfl, trivial⟩ (fun _ _ _ _ h => h)) (by intro _ h; cases h; rfl) (fun _ => ⟨trivial, ⟨trivial, ⟨trivial, ⟨⟨⟨rfl, rfl⟩, trivial⟩, ⟨trivial, ⟨trivial, ⟨trivial, ⟨trivial, ⟨trivial, ⟨⟨⟨rfl, rfl⟩, trivial⟩, ⟨trivial, trivial⟩⟩⟩⟩⟩⟩⟩⟩⟩⟩⟩) (fun _ => ?_)
      refine a_rd (i := 12) hok rfl (by kernel_rfl) rfl (r_geq rfl rfl) rfl ?_
      refine a_fin hok (by kernel_rfl) ?_
      refine n_then ?_
      refine ref_cond rfl (fun hb39 => ?_) (fun hb39 => ?_)
      · refine ref_seq (ref_region ?_)
        refine as1 rfl rfl ?_
        refine l_nil (n_then (ref_ret (r_block (r_then ?_))))
        refine retX ?_
        refine r_block (r_then ?_)
        exact fin1 (.inl rfl) () [] rfl trivial rfl (rv_tmp rfl)
      refine ref_skip (n_block (n_then (ref_region ?_)))
      refine mv1 rfl rfl ?_
      refine s_rd (r_add rfl rfl) rfl ?_
      refine as1 rfl rfl ?_
      refine b_let (f := iv .i64) (t := 5) rfl fun i40 => ?_
      refine l_nil ?_
      exact goX () (weak [0] ⟨rfl, rfl, trivial⟩ ⟨rfl, trivial⟩)
    refine ref_exit (x_then ?_)
    exact brkX () (weak [] trivial trivial)
  refine n_then (ref_seq (ref_region ?_))
  refine as1 rfl rfl ?_
  refine l_nil (n_then (ref_ret ?_))
  exact fin1 (.inl rfl) () [] rfl trivial rfl (rv_tmp rfl)

/-! deliberation/rulebase.Find$1 -/
noncomputable def rulebase_Find_1_m (r__0 : T_api_Rule) (p_1 : ByteArray) : Option (Bool) :=
  letM (r__0.Name.toList == p_1.toList) fun t2 =>
  some t2

theorem rulebase_Find_1_ok {r__0 : T_api_Rule} {p_1 : ByteArray} {b_1 : Nat} {r : Bool} (hm : rulebase_Find_1_m r__0 p_1 = some r) :
    FnOk prog 72 [ag [sv r__0.Name, bv r__0.Strict, iv .i64 r__0.Rank, slv rT_api_Literal r__0.Body, bv r__0.Head.Neg, sv r__0.Head.Name], pv (ptr b_1 0)] [oc b_1 [sv p_1]] (fun (x : Unit) => [bv r]) (fun (x : Unit) => [oc b_1 [sv p_1]]) := by
  refine fn_ok (fn := Tryd.f72) (N := 8) (res := fun r x => [bv r]) (Ω1 := fun r x => [oc b_1 [sv p_1]]) Tryd.func72 rfl rfl hm rfl (fun E hM => ?_)
  unfold rulebase_Find_1_m
  refine ref_seq (ref_region ?_)
  refine s_st (s_box (part_agO (ψs := [sv r__0.Name, bv r__0.Strict, iv .i64 r__0.Rank, slv rT_api_Literal r__0.Body, bv r__0.Head.Neg, sv r__0.Head.Name]) rfl ⟨.inl sv_at, .inl bv_at, .inl iv_at, .inl slv_at, .inl bv_at, .inl sv_at, trivial⟩)) rfl (fun b1 => ?_)
  refine as1 rfl rfl ?_
  refine l_nil (n_then (ref_seq (ref_region ?_)))
  refine s_rd (r_faddr (fo := 0) Tryd.underlying40 rfl rfl Tryd.sizeOf9 rfl) rfl ?_
  refine s_rd (r_cload Tryd.isAgg9 rfl (j := 1) rfl rfl) rfl ?_
  refine s_rd (r_cload Tryd.isAgg9 rfl (j := 0) rfl rfl) rfl ?_
  refine s_rd (r_seql rfl rfl) rfl ?_
  refine as1 rfl rfl ?_
  refine b_let (f := bv) (t := 3) rfl fun t2 => ?_
  refine l_nil (n_then (ref_ret ?_))
  exact fin1 (.inl rfl) () [0] rfl ⟨rfl, trivial⟩ rfl (rv_tmp rfl)

/-! slices.IndexFunc[[]deliberation/api.Rule,deliberation/api.Rule] -/
noncomputable def slices_IndexFunc_api_Rule_api_Rule_l1 (s_0 : (List T_api_Rule)) (e_0 : ByteArray) (s7 : Int) : Option (Sum ((Sum (Int) (Unit))) (Int)) :=
  bif decide (s7 < (s_0.length : Int)) then
    Option.bind (idxM s_0 s7) fun t10 =>
    Option.bind (rulebase_Find_1_m t10 e_0) fun t11 =>
    bif t11 then
      some (Sum.inl (Sum.inl s7))
    else
      some (Sum.inr (iadd .i64 s7 1))
  else
    some (Sum.inl (Sum.inr ()))

noncomputable def slices_IndexFunc_api_Rule_api_Rule_m (s_0 : (List T_api_Rule)) (e_0 : ByteArray) : Option (Int) :=
  Option.bind (loopC (slices_IndexFunc_api_Rule_api_Rule_l1 s_0 e_0) 0) (sumK (fun a : Int => some a) fun q13 : Unit =>
    some (-1))

theorem slices_IndexFunc_api_Rule_api_Rule_ok {s_0 : (List T_api_Rule)} {e_0 : ByteArray} {be_0 : Nat} {r : Int} (hm : slices_IndexFunc_api_Rule_api_Rule_m s_0 e_0 = some r) :
    FnOk prog 58 [slv rT_api_Rule s_0, pv (.func (.func 72) #[] #[(ptr be_0 0)])] [oc be_0 [sv e_0]] (fun (x : Unit) => [iv .i64 r]) (fun (x : Unit) => [oc be_0 [sv e_0]]) := by
  refine fn_ok (fn := Tryd.f58) (N := 19) (res := fun r x => [iv .i64 r]) (Ω1 := fun r x => [oc be_0 [sv e_0]]) Tryd.func58 rfl rfl hm rfl (fun E hM => ?_)
  unfold slices_IndexFunc_api_Rule_api_Rule_m
  refine ref_seq (ref_region ?_)
  refine as1 rfl rfl ?_
  refine l_nil (n_then (ref_seq (ref_seq (ref_region ?_))))
  refine mv1 rfl rfl ?_
  refine s_rd (r_len Tryd.underlying26 rfl) rfl ?_
  refine mv1 rfl rfl ?_
  refine l_nil (n_then ?_)
  refine ref_loopX (f := (slices_IndexFunc_api_Rule_api_Rule_l1 s_0 e_0)) (Γl := (fun (s7 : Int) (x8 : Unit) => [(0, slv rT_api_Rule s_0), (1, pv (.func (.func 72) #[] #[(ptr be_0 0)])), (7, iv .i64 (s_0.length : Int)), (8, iv .i64 s7)])) (Ωl := (fun (s7 : Int) (x8 : Unit) => [oc be_0 [sv e_0]])) (Γb := (fun (q13 : Unit) (y14 : Unit) => [(1, pv (.func (.func 72) #[] #[(ptr be_0 0)]))])) (Ωb := (fun (q13 : Unit) (y14 : Unit) => [oc be_0 [sv e_0]])) (kr := (fun a : Int => some a)) 0 () (weak [0] ⟨rfl, rfl, rfl, rfl, trivial⟩ ⟨rfl, trivial⟩) (fun s7 x8 => ?_) (fun q13 y14 => ?_)
  · unfold slices_IndexFunc_api_Rule_api_Rule_l1
    refine ref_seq (ref_region ?_)
    refine s_rd (r_lss rfl rfl) rfl ?_
    refine l_nil (n_then (ref_seq ?_))
    refine ref_cond rfl (fun hb9 => ?_) (fun hb9 => ?_)
    · refine ref_skip (n_then (ref_seq (ref_block (ref_seq (ref_region ?_)))))
      refine mv1 rfl rfl ?_
      refine as1 rfl rfl ?_
      refine l_nil (n_then (ref_seq (ref_region ?_)))
      refine mv1 rfl rfl ?_
      refine mv1 rfl rfl ?_
      refine mv1 rfl rfl ?_
      refine pull fun t10 h_t10 => ?_
      refine s_rd (r_index h_t10 Tryd.underlying26 el_40 rfl rfl) rfl ?_
      refine s_rd (r_load el_40 rfl) rfl ?_
      refine pull fun t11 h_t11 => ?_
      refine s_st (s_callC [0] [true] (fun (_ : Unit) => [oc be_0 [sv e_0]]) (fun (_ : Unit) => []) (fun (_ : Unit) => bv t11) (args := [.tmp 15]) (caps := [(ptr be_0 0)]) Tryd.call72 rfl (rulebase_Find_1_ok h_t11) ⟨rfl, rfl, trivial⟩ (fun _ => rfl) (fun _ => trivial) (fun _ => rfl) ⟨arg rfl, arg rfl, trivial⟩ (fun _ _ _ _ h => h)) rfl (fun _ => ?_)
      refine l_nil (n_then ?_)
      refine ref_cond rfl (fun hb12 => ?_) (fun hb12 => ?_)
      · refine ref_seq (ref_region ?_)
        refine mv1 rfl rfl ?_
        refine as1 rfl rfl ?_
        refine l_nil (n_then (ref_ret (r_block (r_then ?_))))
        refine retX ?_
        refine r_block (r_then ?_)
        exact fin1 (.inl rfl) () [0] rfl ⟨rfl, trivial⟩ rfl (rv_tmp rfl)
      refine ref_skip (n_block (n_then (ref_region ?_)))
      refine s_rd (r_add rfl rfl) rfl ?_
      refine mv1 rfl rfl ?_
      refine l_nil ?_
      exact goX () (weak [0] ⟨rfl, rfl, rfl, rfl, trivial⟩ ⟨rfl, trivial⟩)
    refine ref_exit (x_then ?_)
    exact brkX () (weak [0] ⟨rfl, trivial⟩ ⟨rfl, trivial⟩)
  refine n_then (ref_seq (ref_region ?_))
  refine as1 rfl rfl ?_
  refine l_nil (n_then (ref_ret ?_))
  exact fin1 (.inl rfl) () [0] rfl ⟨rfl, trivial⟩ rfl (rv_tmp rfl)

/-! deliberation/rulebase.Find -/
noncomputable def rulebase_Find_m (b_0 : T_api_Base) (name_1 : ByteArray) : Option (Int) :=
  Option.bind (slices_IndexFunc_api_Rule_api_Rule_m b_0.Rules name_1) fun t3 =>
  some t3

theorem rulebase_Find_ok {b_0 : T_api_Base} {name_1 : ByteArray} {r : Int} (hm : rulebase_Find_m b_0 name_1 = some r) :
    FnOk prog 51 [ag [slv rT_api_Premise b_0.Premises, slv rT_api_Rule b_0.Rules, slv rT_api_Promotion b_0.Promotions], sv name_1] [] (fun (x : Unit) => [iv .i64 r]) (fun (x : Unit) => []) := by
  refine fn_ok (fn := Tryd.f51) (N := 9) (res := fun r x => [iv .i64 r]) (Ω1 := fun r x => []) Tryd.func51 rfl rfl hm rfl (fun E hM => ?_)
  unfold rulebase_Find_m
  refine ref_seq (ref_region ?_)
  refine s_st (s_box (part_agO (ψs := [slv rT_api_Premise b_0.Premises, slv rT_api_Rule b_0.Rules, slv rT_api_Promotion b_0.Promotions]) rfl ⟨.inl slv_at, .inl slv_at, .inl slv_at, trivial⟩)) rfl (fun b1 => ?_)
  refine s_st (s_box (part_at rfl sv_at)) rfl (fun b2 => ?_)
  refine as1 rfl rfl ?_
  refine l_nil (n_then (ref_seq (ref_region ?_)))
  refine s_rd (r_faddr (fo := 1) Tryd.underlying29 rfl rfl Tryd.sizeOf26 rfl) rfl ?_
  refine s_rd (r_cload Tryd.isAgg26 rfl (j := 0) rfl rfl) rfl ?_
  refine s_rd (r_mkfn (xs := [.tmp 3]) (vs := [(ptr b2 0)]) ⟨rfl, trivial⟩) rfl ?_
  refine pull fun t3 h_t3 => ?_
  refine s_st (s_callC [1] [true] (fun (_ : Unit) => [oc b2 [sv name_1]]) (fun (_ : Unit) => []) (fun (_ : Unit) => iv .i64 t3) (args := [.tmp 6, .tmp 7]) (caps := []) Tryd.call58 rfl (slices_IndexFunc_api_Rule_api_Rule_ok h_t3) ⟨rfl, rfl, trivial⟩ (fun _ => rfl) (fun _ => trivial) (fun _ => rfl) ⟨arg rfl, arg rfl, trivial⟩ (fun _ _ _ _ h => h)) rfl (fun _ => ?_)
  refine as1 rfl rfl ?_
  refine l_nil (n_then (ref_ret ?_))
  exact fin1 (.inl rfl) () [] rfl trivial rfl (rv_tmp rfl)

/-! deliberation/rulebase.promotion -/
noncomputable def rulebase_promotion_m (b_0 : T_api_Base) (p_1 : T_api_Promotion) : Option (Int) :=
  Option.bind (rulebase_ranked_m p_1.Rank) fun t3 =>
  bif !t3 then
    some 1
  else
    Option.bind (literal_Valid_m p_1.If) fun t4 =>
    bif !t4 then
      some 1
    else
      Option.bind (rulebase_Find_m b_0 p_1.Rule) fun i6 =>
      letM (decide (i6 < 0)) fun t7 =>
      bif t7 then
        some 6
      else
        Option.bind (idxM b_0.Rules i6) fun t9 =>
        bif t9.Strict then
          some 4
        else
          some 0

theorem rulebase_promotion_ok {b_0 : T_api_Base} {p_1 : T_api_Promotion} {r : Int} (hm : rulebase_promotion_m b_0 p_1 = some r) :
    FnOk prog 52 [ag [slv rT_api_Premise b_0.Premises, slv rT_api_Rule b_0.Rules, slv rT_api_Promotion b_0.Promotions], ag [sv p_1.Rule, iv .i64 p_1.Rank, bv p_1.If.Neg, sv p_1.If.Name]] [] (fun (x : Unit) => [iv .i64 r]) (fun (x : Unit) => []) := by
  refine fn_ok (fn := Tryd.f52) (N := 30) (res := fun r x => [iv .i64 r]) (Ω1 := fun r x => []) Tryd.func52 rfl rfl hm rfl (fun E hM => ?_)
  unfold rulebase_promotion_m
  refine ref_seq (ref_region ?_)
  refine s_st (s_box (part_agO (ψs := [slv rT_api_Premise b_0.Premises, slv rT_api_Rule b_0.Rules, slv rT_api_Promotion b_0.Promotions]) rfl ⟨.inl slv_at, .inl slv_at, .inl slv_at, trivial⟩)) rfl (fun b1 => ?_)
  refine s_st (s_box (part_agO (ψs := [sv p_1.Rule, iv .i64 p_1.Rank, bv p_1.If.Neg, sv p_1.If.Name]) rfl ⟨.inl sv_at, .inl iv_at, .inl bv_at, .inl sv_at, trivial⟩)) rfl (fun b2 => ?_)
  refine as1 rfl rfl ?_
  refine l_nil (n_then (ref_seq (ref_seq (ref_region ?_))))
  refine s_rd (r_faddr (fo := 1) Tryd.underlying59 rfl rfl Tryd.sizeOf3 rfl) rfl ?_
  refine s_rd (r_cload Tryd.isAgg3 rfl (j := 1) rfl rfl) rfl ?_
  refine pull fun t3 h_t3 => ?_
  refine s_st (s_call (ψ := fun (_ : Unit) => bv t3) (args := [.tmp 7]) Tryd.call66 rfl (rulebase_ranked_ok h_t3) ⟨arg rfl, trivial⟩ (fun _ _ _ _ h => h)) rfl (fun _ => ?_)
  refine s_rd (r_not rfl) rfl ?_
  refine mv1 rfl rfl ?_
  refine b_split (t := 10) rfl (fun _ => ?_) (fun _ => ?_)
  · refine s_off rfl rfl rfl rfl rfl ?_
    refine s_off rfl rfl rfl rfl rfl ?_
    refine s_off rfl rfl rfl rfl rfl ?_
    refine s_off rfl rfl rfl rfl rfl ?_
    refine s_rd (r_pickT rfl rfl) rfl ?_
    refine l_nil (n_then ?_)
    refine ref_condT rfl rfl ?_
    refine ref_seq (ref_region ?_)
    refine as1 rfl rfl ?_
    refine l_nil (n_then (ref_ret (r_then ?_)))
    exact fin1 (.inl rfl) () [] rfl trivial rfl (rv_tmp rfl)
  refine s_on rfl rfl rfl ?_
  refine s_rd (r_faddr (fo := 2) Tryd.underlying59 rfl rfl Tryd.sizeOf35 rfl) rfl ?_
  refine s_on rfl rfl rfl ?_
  refine s_rd (r_cloadS Tryd.isAgg35 Tryd.sizeOf35 rfl (j := 1) rfl rfl rfl) rfl ?_
  refine s_on rfl rfl rfl ?_
  refine pull fun t4 h_t4 => ?_
  refine s_st (s_call (ψ := fun (_ : Unit) => bv t4) (args := [.tmp 12]) Tryd.call67 rfl (literal_Valid_ok h_t4) ⟨arg rfl, trivial⟩ (fun _ _ _ _ h => h)) rfl (fun _ => ?_)
  refine s_on rfl rfl rfl ?_
  refine s_rd (r_not rfl) rfl ?_
  refine s_rd (r_pickF rfl rfl) rfl ?_
  refine l_nil ?_
  refine b_of (nrm [oc b1 [slv rT_api_Premise b_0.Premises, slv rT_api_Rule b_0.Rules, slv rT_api_Promotion b_0.Promotions], oc b2 [sv p_1.Rule, iv .i64 p_1.Rank, bv p_1.If.Neg, sv p_1.If.Name]] rfl) ?_
  refine n_then ?_
  refine ref_cond rfl (fun hb5 => ?_) (fun hb5 => ?_)
  · refine ref_seq (ref_region ?_)
    refine as1 rfl rfl ?_
    refine l_nil (n_then (ref_ret (r_then ?_)))
    exact fin1 (.inl rfl) () [] rfl trivial rfl (rv_tmp rfl)
  refine ref_skip (n_then (ref_seq (ref_seq (ref_region ?_))))
  refine s_rd (r_cloadS Tryd.isAgg29 Tryd.sizeOf29 rfl (j := 0) rfl rfl rfl) rfl ?_
  refine s_rd (r_faddr (fo := 0) Tryd.underlying59 rfl rfl Tryd.sizeOf9 rfl) rfl ?_
  refine s_rd (r_cload Tryd.isAgg9 rfl (j := 1) rfl rfl) rfl ?_
  refine pull fun i6 h_i6 => ?_
  refine s_st (s_call (ψ := fun (_ : Unit) => iv .i64 i6) (args := [.tmp 16, .tmp 18]) Tryd.call51 rfl (rulebase_Find_ok h_i6) ⟨arg rfl, arg rfl, trivial⟩ (fun _ _ _ _ h => h)) rfl (fun _ => ?_)
  refine as1 rfl rfl ?_
  refine l_nil (n_then (ref_block (ref_seq (ref_region ?_))))
  refine mv1 rfl rfl ?_
  refine s_rd (r_lss rfl rfl) rfl ?_
  refine as1 rfl rfl ?_
  refine b_let (f := bv) (t := 20) rfl fun t7 => ?_
  refine l_nil (n_then ?_)
  refine ref_cond rfl (fun hb8 => ?_) (fun hb8 => ?_)
  · refine ref_seq (ref_region ?_)
    refine as1 rfl rfl ?_
    refine l_nil (n_then (ref_ret (r_block (r_then ?_))))
    exact fin1 (.inl rfl) () [] rfl trivial rfl (rv_tmp rfl)
  refine ref_seq (ref_region ?_)
  refine s_rd (r_faddr (fo := 1) Tryd.underlying29 rfl rfl Tryd.sizeOf26 rfl) rfl ?_
  refine s_rd (r_cload Tryd.isAgg26 rfl (j := 0) rfl rfl) rfl ?_
  refine mv1 rfl rfl ?_
  refine pull fun t9 h_t9 => ?_
  refine s_rd (r_index h_t9 Tryd.underlying26 el_40 rfl rfl) rfl ?_
  refine s_rd (r_fea (fo := 1) (ρ := rT_api_Rule) (y := t9) (ρ' := rB) (z := t9.Strict) Tryd.underlying40 rfl rfl Tryd.sizeOf4 rfl rfl rfl) rfl ?_
  refine s_rd (r_load el_4 rfl) rfl ?_
  refine as1 rfl rfl ?_
  refine l_nil (n_then ?_)
  refine ref_cond rfl (fun hb10 => ?_) (fun hb10 => ?_)
  · refine ref_seq (ref_region ?_)
    refine as1 rfl rfl ?_
    refine l_nil (n_then (ref_ret (r_block (r_then ?_))))
    exact fin1 (.inl rfl) () [] rfl trivial rfl (rv_tmp rfl)
  refine ref_skip (n_block (n_then (ref_seq (ref_region ?_))))
  refine as1 rfl rfl ?_
  refine l_nil (n_then (ref_ret ?_))
  exact fin1 (.inl rfl) () [] rfl trivial rfl (rv_tmp rfl)

/-! deliberation/rulebase.Validate -/
noncomputable def rulebase_Validate_l1 (b_0 : T_api_Base) (s12 : Int) : Option (Sum ((Sum (Int) (Unit))) (Int)) :=
  bif decide (s12 < (b_0.Premises.length : Int)) then
    Option.bind (idxM b_0.Premises s12) fun t15 =>
    Option.bind (rulebase_premise_m t15) fun e17 =>
    bif e17 != 0 then
      some (Sum.inl (Sum.inl e17))
    else
      Option.bind (rulebase_Premise_m b_0 t15.Literal) fun t19 =>
      bif decide (t19 < s12) then
        some (Sum.inl (Sum.inl 5))
      else
        some (Sum.inr (iadd .i64 s12 1))
  else
    some (Sum.inl (Sum.inr ()))

noncomputable def rulebase_Validate_l2 (b_0 : T_api_Base) (s32 : Int) : Option (Sum ((Sum (Int) (Unit))) (Int)) :=
  bif decide (s32 < (b_0.Rules.length : Int)) then
    Option.bind (idxM b_0.Rules s32) fun t35 =>
    Option.bind (rulebase_rule_m t35) fun e37 =>
    bif e37 != 0 then
      some (Sum.inl (Sum.inl e37))
    else
      Option.bind (rulebase_Find_m b_0 t35.Name) fun t39 =>
      bif decide (t39 < s32) then
        some (Sum.inl (Sum.inl 5))
      else
        some (Sum.inr (iadd .i64 s32 1))
  else
    some (Sum.inl (Sum.inr ()))

noncomputable def rulebase_Validate_l3 (b_0 : T_api_Base) (s50 : Int) : Option (Sum ((Sum (Int) (Unit))) (Int)) :=
  bif decide (s50 < (b_0.Promotions.length : Int)) then
    Option.bind (idxM b_0.Promotions s50) fun t53 =>
    Option.bind (rulebase_promotion_m b_0 t53) fun e55 =>
    bif e55 != 0 then
      some (Sum.inl (Sum.inl e55))
    else
      some (Sum.inr (iadd .i64 s50 1))
  else
    some (Sum.inl (Sum.inr ()))

noncomputable def rulebase_Validate_m (b_0 : T_api_Base) : Option (Int) :=
  bif decide ((b_0.Premises.length : Int) > 16) then
    some 2
  else
    bif decide ((b_0.Rules.length : Int) > 24) then
      some 2
    else
      bif decide ((b_0.Promotions.length : Int) > 8) then
        some 2
      else
        Option.bind (loopC (rulebase_Validate_l1 b_0) 0) (sumK (fun a : Int => some a) fun q21 : Unit =>
          Option.bind (loopC (rulebase_Validate_l2 b_0) 0) (sumK (fun a : Int => some a) fun q41 : Unit =>
            Option.bind (loopC (rulebase_Validate_l3 b_0) 0) (sumK (fun a : Int => some a) fun q57 : Unit =>
              some 0)))

theorem rulebase_Validate_ok {b_0 : T_api_Base} {r : Int} (hm : rulebase_Validate_m b_0 = some r) :
    FnOk prog 31 [ag [slv rT_api_Premise b_0.Premises, slv rT_api_Rule b_0.Rules, slv rT_api_Promotion b_0.Promotions]] [] (fun (x : Unit) => [iv .i64 r]) (fun (x : Unit) => []) := by
  refine fn_ok (fn := Tryd.f31) (N := 82) (res := fun r x => [iv .i64 r]) (Ω1 := fun r x => []) Tryd.func31 rfl rfl hm rfl (fun E hM => ?_)
  unfold rulebase_Validate_m
  refine ref_seq (ref_region ?_)
  refine s_st (s_box (part_agO (ψs := [slv rT_api_Premise b_0.Premises, slv rT_api_Rule b_0.Rules, slv rT_api_Promotion b_0.Promotions]) rfl ⟨.inl slv_at, .inl slv_at, .inl slv_at, trivial⟩)) rfl (fun b1 => ?_)
  refine as1 rfl rfl ?_
  refine l_nil (n_then (ref_seq (ref_seq (ref_region ?_))))
  refine s_rd (r_faddr (fo := 0) Tryd.underlying29 rfl rfl Tryd.sizeOf25 rfl) rfl ?_
  refine s_rd (r_cload Tryd.isAgg25 rfl (j := 0) rfl rfl) rfl ?_
  refine s_rd (r_len Tryd.underlying25 rfl) rfl ?_
  refine s_rd (r_gtr rfl rfl) rfl ?_
  refine mv1 rfl rfl ?_
  refine b_split (t := 16) rfl (fun _ => ?_) (fun _ => ?_)
  · refine s_off rfl rfl rfl rfl rfl ?_
    refine s_off rfl rfl rfl rfl rfl ?_
    refine s_off rfl rfl rfl rfl rfl ?_
    refine s_off rfl rfl rfl rfl rfl ?_
    refine s_rd (r_pickT rfl rfl) rfl ?_
    refine mv1 rfl rfl ?_
    refine s_off rfl rfl rfl rfl rfl ?_
    refine s_off rfl rfl rfl rfl rfl ?_
    refine s_off rfl rfl rfl rfl rfl ?_
    refine s_off rfl rfl rfl rfl rfl ?_
    refine s_rd (r_pickT rfl rfl) rfl ?_
    refine l_nil (n_then ?_)
    refine ref_condT rfl rfl ?_
    refine ref_seq (ref_region ?_)
    refine as1 rfl rfl ?_
    refine l_nil (n_then (ref_ret (r_then ?_)))
    exact fin1 (.inl rfl) () [] rfl trivial rfl (rv_tmp rfl)
  refine s_on rfl rfl rfl ?_
  refine s_rd (r_faddr (fo := 1) Tryd.underlying29 rfl rfl Tryd.sizeOf26 rfl) rfl ?_
  refine s_on rfl rfl rfl ?_
  refine s_rd (r_cload Tryd.isAgg26 rfl (j := 0) rfl rfl) rfl ?_
  refine s_on rfl rfl rfl ?_
  refine s_rd (r_len Tryd.underlying26 rfl) rfl ?_
  refine s_on rfl rfl rfl ?_
  refine s_rd (r_gtr rfl rfl) rfl ?_
  refine s_rd (r_pickF rfl rfl) rfl ?_
  refine mv1 rfl rfl ?_
  refine b_split (t := 22) rfl (fun _ => ?_) (fun _ => ?_)
  · refine s_off rfl rfl rfl rfl rfl ?_
    refine s_off rfl rfl rfl rfl rfl ?_
    refine s_off rfl rfl rfl rfl rfl ?_
    refine s_off rfl rfl rfl rfl rfl ?_
    refine s_rd (r_pickT rfl rfl) rfl ?_
    refine l_nil (n_then ?_)
    refine ref_condT rfl rfl ?_
    refine ref_seq (ref_region ?_)
    refine as1 rfl rfl ?_
    refine l_nil (n_then (ref_ret (r_then ?_)))
    exact fin1 (.inl rfl) () [] rfl trivial rfl (rv_tmp rfl)
  refine s_on rfl rfl rfl ?_
  refine s_rd (r_faddr (fo := 2) Tryd.underlying29 rfl rfl Tryd.sizeOf27 rfl) rfl ?_
  refine s_on rfl rfl rfl ?_
  refine s_rd (r_cload Tryd.isAgg27 rfl (j := 0) rfl rfl) rfl ?_
  refine s_on rfl rfl rfl ?_
  refine s_rd (r_len Tryd.underlying27 rfl) rfl ?_
  refine s_on rfl rfl rfl ?_
  refine s_rd (r_gtr rfl rfl) rfl ?_
  refine s_rd (r_pickF rfl rfl) rfl ?_
  refine l_nil (n_then ?_)
  refine ref_cond rfl (fun hb2 => ?_) (fun hb2 => ?_)
  · refine ref_seq (ref_region ?_)
    refine as1 rfl rfl ?_
    refine l_nil (n_then (ref_ret (r_then ?_)))
    exact fin1 (.inl rfl) () [] rfl trivial rfl (rv_tmp rfl)
  refine ref_skip (n_then (ref_seq (ref_seq (ref_region ?_))))
  refine s_rd (r_faddr (fo := 0) Tryd.underlying29 rfl rfl Tryd.sizeOf25 rfl) rfl ?_
  refine s_rd (r_cload Tryd.isAgg25 rfl (j := 0) rfl rfl) rfl ?_
  refine s_rd (r_len Tryd.underlying25 rfl) rfl ?_
  refine mv1 rfl rfl ?_
  refine l_nil (n_then ?_)
  refine ref_loopX (f := (rulebase_Validate_l1 b_0)) (Γl := (fun (s12 : Int) (x13 : Unit) => [(1, pv (ptr b1 0)), (29, slv rT_api_Premise b_0.Premises), (30, iv .i64 (b_0.Premises.length : Int)), (31, iv .i64 s12)])) (Ωl := (fun (s12 : Int) (x13 : Unit) => [oc b1 [slv rT_api_Premise b_0.Premises, slv rT_api_Rule b_0.Rules, slv rT_api_Promotion b_0.Promotions]])) (Γb := (fun (q21 : Unit) (y22 : Unit) => [(1, pv (ptr b1 0))])) (Ωb := (fun (q21 : Unit) (y22 : Unit) => [oc b1 [slv rT_api_Premise b_0.Premises, slv rT_api_Rule b_0.Rules, slv rT_api_Promotion b_0.Promotions]])) (kr := (fun a : Int => some a)) 0 () (weak [0] ⟨rfl, rfl, rfl, rfl, trivial⟩ ⟨rfl, trivial⟩) (fun s12 x13 => ?_) (fun q21 y22 => ?_)
  · unfold rulebase_Validate_l1
    refine ref_seq (ref_region ?_)
    refine s_rd (r_lss rfl rfl) rfl ?_
    refine l_nil (n_then (ref_seq ?_))
    refine ref_cond rfl (fun hb14 => ?_) (fun hb14 => ?_)
    · refine ref_skip (n_then (ref_seq (ref_block (ref_seq (ref_region ?_)))))
      refine mv1 rfl rfl ?_
      refine pull fun t15 h_t15 => ?_
      refine s_rd (r_index h_t15 Tryd.underlying25 el_55 rfl rfl) rfl ?_
      refine s_rd (r_load el_55 rfl) rfl ?_
      refine s_st (s_alloc zt_55) rfl (fun b16 => ?_)
      refine as1 rfl rfl ?_
      refine s_st0 (s_cstore (out := [bv t15.Literal.Neg, sv t15.Literal.Name, iv .i64 t15.Kind, iv .i64 t15.Rank, sv t15.Source]) Tryd.sizeOf55 rfl (j := 1) rfl (part_agO (ψs := [bv t15.Literal.Neg, sv t15.Literal.Name, iv .i64 t15.Kind, iv .i64 t15.Rank, sv t15.Source]) rfl ⟨.inl bv_at, .inl sv_at, .inl iv_at, .inl iv_at, .inl sv_at, trivial⟩) rfl rfl rfl) (fun _ => ?_)
      refine l_nil (n_then (ref_seq (ref_seq (ref_region ?_))))
      refine s_rd (r_cloadS Tryd.isAgg55 Tryd.sizeOf55 rfl (j := 1) rfl rfl rfl) rfl ?_
      refine pull fun e17 h_e17 => ?_
      refine s_st (s_call (ψ := fun (_ : Unit) => iv .i64 e17) (args := [.tmp 36]) Tryd.call48 rfl (rulebase_premise_ok h_e17) ⟨arg rfl, trivial⟩ (fun _ _ _ _ h => h)) rfl (fun _ => ?_)
      refine as1 rfl rfl ?_
      refine l_nil ?_
      refine b_of (nrm [oc b1 [slv rT_api_Premise b_0.Premises, slv rT_api_Rule b_0.Rules, slv rT_api_Promotion b_0.Promotions], oc b16 [bv t15.Literal.Neg, sv t15.Literal.Name, iv .i64 t15.Kind, iv .i64 t15.Rank, sv t15.Source]] rfl) ?_
      refine n_then (ref_seq (ref_region ?_))
      refine mv1 rfl rfl ?_
      refine s_rd (r_neq rfl rfl) rfl ?_
      refine l_nil (n_then ?_)
      refine ref_cond rfl (fun hb18 => ?_) (fun hb18 => ?_)
      · refine ref_seq (ref_region ?_)
        refine mv1 rfl rfl ?_
        refine as1 rfl rfl ?_
        refine l_nil (n_then (ref_ret (r_then (r_block (r_then ?_)))))
        refine retX ?_
        refine r_block (r_then ?_)
        exact fin1 (.inl rfl) () [] rfl trivial rfl (rv_tmp rfl)
      refine ref_skip (n_then (ref_seq (ref_region ?_)))
      refine s_rd (r_cloadS Tryd.isAgg29 Tryd.sizeOf29 rfl (j := 0) rfl rfl rfl) rfl ?_
      refine s_rd (r_faddr (fo := 0) Tryd.underlying55 rfl rfl Tryd.sizeOf35 rfl) rfl ?_
      refine s_rd (r_cloadS Tryd.isAgg35 Tryd.sizeOf35 rfl (j := 1) rfl rfl rfl) rfl ?_
      refine pull fun t19 h_t19 => ?_
      refine s_st (s_call (ψ := fun (_ : Unit) => iv .i64 t19) (args := [.tmp 41, .tmp 43]) Tryd.call49 rfl (rulebase_Premise_ok h_t19) ⟨arg rfl, arg rfl, trivial⟩ (fun _ _ _ _ h => h)) rfl (fun _ => ?_)
      refine mv1 rfl rfl ?_
      refine s_rd (r_lss rfl rfl) rfl ?_
      refine l_nil (n_then ?_)
      refine ref_cond rfl (fun hb20 => ?_) (fun hb20 => ?_)
      · refine ref_seq (ref_region ?_)
        refine as1 rfl rfl ?_
        refine l_nil (n_then (ref_ret (r_block (r_then ?_))))
        refine retX ?_
        refine r_block (r_then ?_)
        exact fin1 (.inl rfl) () [] rfl trivial rfl (rv_tmp rfl)
      refine ref_skip (n_block (n_then (ref_region ?_)))
      refine s_rd (r_add rfl rfl) rfl ?_
      refine mv1 rfl rfl ?_
      refine l_nil ?_
      exact goX () (weak [0] ⟨rfl, rfl, rfl, rfl, trivial⟩ ⟨rfl, trivial⟩)
    refine ref_exit (x_then ?_)
    exact brkX () (weak [0] ⟨rfl, trivial⟩ ⟨rfl, trivial⟩)
  refine n_then (ref_seq (ref_seq (ref_region ?_)))
  refine s_rd (r_faddr (fo := 1) Tryd.underlying29 rfl rfl Tryd.sizeOf26 rfl) rfl ?_
  refine s_rd (r_cload Tryd.isAgg26 rfl (j := 0) rfl rfl) rfl ?_
  refine s_rd (r_len Tryd.underlying26 rfl) rfl ?_
  refine mv1 rfl rfl ?_
  refine l_nil (n_then ?_)
  refine ref_loopX (f := (rulebase_Validate_l2 b_0)) (Γl := (fun (s32 : Int) (x33 : Unit) => [(1, pv (ptr b1 0)), (49, slv rT_api_Rule b_0.Rules), (50, iv .i64 (b_0.Rules.length : Int)), (51, iv .i64 s32)])) (Ωl := (fun (s32 : Int) (x33 : Unit) => [oc b1 [slv rT_api_Premise b_0.Premises, slv rT_api_Rule b_0.Rules, slv rT_api_Promotion b_0.Promotions]])) (Γb := (fun (q41 : Unit) (y42 : Unit) => [(1, pv (ptr b1 0))])) (Ωb := (fun (q41 : Unit) (y42 : Unit) => [oc b1 [slv rT_api_Premise b_0.Premises, slv rT_api_Rule b_0.Rules, slv rT_api_Promotion b_0.Promotions]])) (kr := (fun a : Int => some a)) 0 () (weak [0] ⟨rfl, rfl, rfl, rfl, trivial⟩ ⟨rfl, trivial⟩) (fun s32 x33 => ?_) (fun q41 y42 => ?_)
  · unfold rulebase_Validate_l2
    refine ref_seq (ref_region ?_)
    refine s_rd (r_lss rfl rfl) rfl ?_
    refine l_nil (n_then (ref_seq ?_))
    refine ref_cond rfl (fun hb34 => ?_) (fun hb34 => ?_)
    · refine ref_skip (n_then (ref_seq (ref_block (ref_seq (ref_region ?_)))))
      refine mv1 rfl rfl ?_
      refine pull fun t35 h_t35 => ?_
      refine s_rd (r_index h_t35 Tryd.underlying26 el_40 rfl rfl) rfl ?_
      refine s_rd (r_load el_40 rfl) rfl ?_
      refine s_st (s_alloc zt_40) rfl (fun b36 => ?_)
      refine as1 rfl rfl ?_
      refine s_st0 (s_cstore (out := [sv t35.Name, bv t35.Strict, iv .i64 t35.Rank, slv rT_api_Literal t35.Body, bv t35.Head.Neg, sv t35.Head.Name]) Tryd.sizeOf40 rfl (j := 1) rfl (part_agO (ψs := [sv t35.Name, bv t35.Strict, iv .i64 t35.Rank, slv rT_api_Literal t35.Body, bv t35.Head.Neg, sv t35.Head.Name]) rfl ⟨.inl sv_at, .inl bv_at, .inl iv_at, .inl slv_at, .inl bv_at, .inl sv_at, trivial⟩) rfl rfl rfl) (fun _ => ?_)
      refine l_nil (n_then (ref_seq (ref_seq (ref_region ?_))))
      refine s_rd (r_cloadS Tryd.isAgg40 Tryd.sizeOf40 rfl (j := 1) rfl rfl rfl) rfl ?_
      refine pull fun e37 h_e37 => ?_
      refine s_st (s_call (ψ := fun (_ : Unit) => iv .i64 e37) (args := [.tmp 56]) Tryd.call50 rfl (rulebase_rule_ok h_e37) ⟨arg rfl, trivial⟩ (fun _ _ _ _ h => h)) rfl (fun _ => ?_)
      refine as1 rfl rfl ?_
      refine l_nil (n_then (ref_seq (ref_region ?_)))
      refine mv1 rfl rfl ?_
      refine s_rd (r_neq rfl rfl) rfl ?_
      refine l_nil (n_then ?_)
      refine ref_cond rfl (fun hb38 => ?_) (fun hb38 => ?_)
      · refine ref_seq (ref_region ?_)
        refine mv1 rfl rfl ?_
        refine as1 rfl rfl ?_
        refine l_nil (n_then (ref_ret (r_then (r_block (r_then ?_)))))
        refine retX ?_
        refine r_block (r_then ?_)
        exact fin1 (.inl rfl) () [] rfl trivial rfl (rv_tmp rfl)
      refine ref_skip (n_then (ref_seq (ref_region ?_)))
      refine s_rd (r_cloadS Tryd.isAgg29 Tryd.sizeOf29 rfl (j := 0) rfl rfl rfl) rfl ?_
      refine s_rd (r_faddr (fo := 0) Tryd.underlying40 rfl rfl Tryd.sizeOf9 rfl) rfl ?_
      refine s_rd (r_cload Tryd.isAgg9 rfl (j := 1) rfl rfl) rfl ?_
      refine pull fun t39 h_t39 => ?_
      refine s_st (s_call (ψ := fun (_ : Unit) => iv .i64 t39) (args := [.tmp 61, .tmp 63]) Tryd.call51 rfl (rulebase_Find_ok h_t39) ⟨arg rfl, arg rfl, trivial⟩ (fun _ _ _ _ h => h)) rfl (fun _ => ?_)
      refine mv1 rfl rfl ?_
      refine s_rd (r_lss rfl rfl) rfl ?_
      refine l_nil ?_
      refine b_of (nrm [oc b1 [slv rT_api_Premise b_0.Premises, slv rT_api_Rule b_0.Rules, slv rT_api_Promotion b_0.Promotions], oc b36 [sv t35.Name, bv t35.Strict, iv .i64 t35.Rank, slv rT_api_Literal t35.Body, bv t35.Head.Neg, sv t35.Head.Name]] rfl) ?_
      refine n_then ?_
      refine ref_cond rfl (fun hb40 => ?_) (fun hb40 => ?_)
      · refine ref_seq (ref_region ?_)
        refine as1 rfl rfl ?_
        refine l_nil (n_then (ref_ret (r_block (r_then ?_))))
        refine retX ?_
        refine r_block (r_then ?_)
        exact fin1 (.inl rfl) () [] rfl trivial rfl (rv_tmp rfl)
      refine ref_skip (n_block (n_then (ref_region ?_)))
      refine s_rd (r_add rfl rfl) rfl ?_
      refine mv1 rfl rfl ?_
      refine l_nil ?_
      exact goX () (weak [0] ⟨rfl, rfl, rfl, rfl, trivial⟩ ⟨rfl, trivial⟩)
    refine ref_exit (x_then ?_)
    exact brkX () (weak [0] ⟨rfl, trivial⟩ ⟨rfl, trivial⟩)
  refine n_then (ref_seq (ref_seq (ref_region ?_)))
  refine s_rd (r_faddr (fo := 2) Tryd.underlying29 rfl rfl Tryd.sizeOf27 rfl) rfl ?_
  refine s_rd (r_cload Tryd.isAgg27 rfl (j := 0) rfl rfl) rfl ?_
  refine s_rd (r_len Tryd.underlying27 rfl) rfl ?_
  refine mv1 rfl rfl ?_
  refine l_nil (n_then ?_)
  refine ref_loopX (f := (rulebase_Validate_l3 b_0)) (Γl := (fun (s50 : Int) (x51 : Unit) => [(1, pv (ptr b1 0)), (69, slv rT_api_Promotion b_0.Promotions), (70, iv .i64 (b_0.Promotions.length : Int)), (71, iv .i64 s50)])) (Ωl := (fun (s50 : Int) (x51 : Unit) => [oc b1 [slv rT_api_Premise b_0.Premises, slv rT_api_Rule b_0.Rules, slv rT_api_Promotion b_0.Promotions]])) (Γb := (fun (q57 : Unit) (y58 : Unit) => [])) (Ωb := (fun (q57 : Unit) (y58 : Unit) => [])) (kr := (fun a : Int => some a)) 0 () (weak [0] ⟨rfl, rfl, rfl, rfl, trivial⟩ ⟨rfl, trivial⟩) (fun s50 x51 => ?_) (fun q57 y58 => ?_)
  · unfold rulebase_Validate_l3
    refine ref_seq (ref_region ?_)
    refine s_rd (r_lss rfl rfl) rfl ?_
    refine l_nil (n_then (ref_seq ?_))
    refine ref_cond rfl (fun hb52 => ?_) (fun hb52 => ?_)
    · refine ref_skip (n_then (ref_seq (ref_block (ref_seq (ref_region ?_)))))
      refine pull fun t53 h_t53 => ?_
      refine s_rd (r_index h_t53 Tryd.underlying27 el_59 rfl rfl) rfl ?_
      refine s_rd (r_load el_59 rfl) rfl ?_
      refine s_st (s_alloc zt_59) rfl (fun b54 => ?_)
      refine s_st0 (s_cstore (out := [sv t53.Rule, iv .i64 t53.Rank, bv t53.If.Neg, sv t53.If.Name]) Tryd.sizeOf59 rfl (j := 1) rfl (part_agO (ψs := [sv t53.Rule, iv .i64 t53.Rank, bv t53.If.Neg, sv t53.If.Name]) rfl ⟨.inl sv_at, .inl iv_at, .inl bv_at, .inl sv_at, trivial⟩) rfl rfl rfl) (fun _ => ?_)
      refine l_nil (n_then (ref_seq (ref_region ?_)))
      refine s_rd (r_cloadS Tryd.isAgg29 Tryd.sizeOf29 rfl (j := 0) rfl rfl rfl) rfl ?_
      refine s_rd (r_cloadS Tryd.isAgg59 Tryd.sizeOf59 rfl (j := 1) rfl rfl rfl) rfl ?_
      refine pull fun e55 h_e55 => ?_
      refine s_st (s_call (ψ := fun (_ : Unit) => iv .i64 e55) (args := [.tmp 75, .tmp 76]) Tryd.call52 rfl (rulebase_promotion_ok h_e55) ⟨arg rfl, arg rfl, trivial⟩ (fun _ _ _ _ h => h)) rfl (fun _ => ?_)
      refine as1 rfl rfl ?_
      refine l_nil (n_then (ref_seq (ref_region ?_)))
      refine mv1 rfl rfl ?_
      refine s_rd (r_neq rfl rfl) rfl ?_
      refine l_nil (n_then ?_)
      refine ref_cond rfl (fun hb56 => ?_) (fun hb56 => ?_)
      · refine ref_seq (ref_region ?_)
        refine mv1 rfl rfl ?_
        refine as1 rfl rfl ?_
        refine l_nil (n_then (ref_ret (r_block (r_then ?_))))
        refine retX ?_
        refine r_block (r_then ?_)
        exact fin1 (.inl rfl) () [] rfl trivial rfl (rv_tmp rfl)
      refine ref_skip (n_block (n_then (ref_region ?_)))
      refine s_rd (r_add rfl rfl) rfl ?_
      refine mv1 rfl rfl ?_
      refine l_nil ?_
      exact goX () (weak [0] ⟨rfl, rfl, rfl, rfl, trivial⟩ ⟨rfl, trivial⟩)
    refine ref_exit (x_then ?_)
    exact brkX () (weak [] trivial trivial)
  refine n_then (ref_seq (ref_region ?_))
  refine as1 rfl rfl ?_
  refine l_nil (n_then (ref_ret ?_))
  exact fin1 (.inl rfl) () [] rfl trivial rfl (rv_tmp rfl)

/-! slices.Clone[[]deliberation/api.Premise,deliberation/api.Premise] -/
def slices_Clone_api_Premise_api_Premise_m (d_0 : List T_api_Premise) : Option (List T_api_Premise) := appM 56 [] d_0

theorem slices_Clone_api_Premise_api_Premise_ok {d_0 r : List T_api_Premise} (hm : slices_Clone_api_Premise_api_Premise_m d_0 = some r) : FnOk prog 53 [slv rT_api_Premise d_0] [] (fun (x : Value × List Nat) => [pv x.1]) (fun (x : Value × List Nat) => [oa rT_api_Premise x.1 x.2 r]) := by
  have hm' : appM 56 [] d_0 = some r := hm
  have hr : r = d_0 := by have := (appM_some hm').2; simpa using this
  subst hr
  refine fn_ok (X := Value × List Nat) (fn := Tryd.f53) (N := 8) (m := some ()) (r := ()) (res := fun _ x => [pv x.1]) (Ω1 := fun _ x => [oa rT_api_Premise x.1 x.2 r]) Tryd.func53 rfl rfl rfl rfl (fun E hM => ?_)
  refine ref_seq ?_
  refine ref_region ?_
  refine s_rd (r_assign rfl) rfl ?_
  refine l_nil ?_
  refine n_then ?_
  refine ref_seq ?_
  refine ref_seq ?_
  refine ref_region ?_
  refine s_rd (r_move rfl) rfl ?_
  refine s_st (s_isnil Tryd.underlying25 rfl) rfl (fun b => ?_)
  refine l_nil ?_
  refine n_then ?_
  refine ref_condE (b := b.1) rfl (fun hb => ?_) (fun hb => ?_)
  · refine ref_seq ?_
    refine ref_region ?_
    refine s_rd (r_assign rfl) rfl ?_
    refine l_nil ?_
    refine n_then ?_
    refine ref_ret ?_
    refine r_then ?_
    have hd := b.2 hb
    subst hd
    refine b_of (own_nil rT_api_Premise) ?_
    exact fin1 (.inl rfl) (.slice none 0 0, []) [0] rfl ⟨rfl, trivial⟩ rfl (rv_tmp rfl)
  · refine ref_skip ?_
    refine n_then ?_
    refine ref_seq ?_
    refine ref_region ?_
    refine s_st (s_bsliceO (xs := []) (ds := []) Tryd.underlying25 el_55 rfl (Nat.le_of_ble_eq_true rfl) trivial) rfl (fun o => ?_)
    refine s_rd (r_move rfl) rfl ?_
    refine s_st (s_append hm' Tryd.underlying25 el_55 rfl (j := 0) rfl rfl) rfl (fun o2 => ?_)
    refine s_rd (r_assign rfl) rfl ?_
    refine l_nil ?_
    refine n_then ?_
    refine ref_ret ?_
    exact fin1 (.inl rfl) o2 [0] rfl ⟨rfl, trivial⟩ rfl (rv_tmp rfl)

/-! slices.Clone[[]deliberation/api.Rule,deliberation/api.Rule] -/
def slices_Clone_api_Rule_api_Rule_m (d_0 : List T_api_Rule) : Option (List T_api_Rule) := appM 80 [] d_0

theorem slices_Clone_api_Rule_api_Rule_ok {d_0 r : List T_api_Rule} (hm : slices_Clone_api_Rule_api_Rule_m d_0 = some r) : FnOk prog 54 [slv rT_api_Rule d_0] [] (fun (x : Value × List Nat) => [pv x.1]) (fun (x : Value × List Nat) => [oa rT_api_Rule x.1 x.2 r]) := by
  have hm' : appM 80 [] d_0 = some r := hm
  have hr : r = d_0 := by have := (appM_some hm').2; simpa using this
  subst hr
  refine fn_ok (X := Value × List Nat) (fn := Tryd.f54) (N := 8) (m := some ()) (r := ()) (res := fun _ x => [pv x.1]) (Ω1 := fun _ x => [oa rT_api_Rule x.1 x.2 r]) Tryd.func54 rfl rfl rfl rfl (fun E hM => ?_)
  refine ref_seq ?_
  refine ref_region ?_
  refine s_rd (r_assign rfl) rfl ?_
  refine l_nil ?_
  refine n_then ?_
  refine ref_seq ?_
  refine ref_seq ?_
  refine ref_region ?_
  refine s_rd (r_move rfl) rfl ?_
  refine s_st (s_isnil Tryd.underlying26 rfl) rfl (fun b => ?_)
  refine l_nil ?_
  refine n_then ?_
  refine ref_condE (b := b.1) rfl (fun hb => ?_) (fun hb => ?_)
  · refine ref_seq ?_
    refine ref_region ?_
    refine s_rd (r_assign rfl) rfl ?_
    refine l_nil ?_
    refine n_then ?_
    refine ref_ret ?_
    refine r_then ?_
    have hd := b.2 hb
    subst hd
    refine b_of (own_nil rT_api_Rule) ?_
    exact fin1 (.inl rfl) (.slice none 0 0, []) [0] rfl ⟨rfl, trivial⟩ rfl (rv_tmp rfl)
  · refine ref_skip ?_
    refine n_then ?_
    refine ref_seq ?_
    refine ref_region ?_
    refine s_st (s_bsliceO (xs := []) (ds := []) Tryd.underlying26 el_40 rfl (Nat.le_of_ble_eq_true rfl) trivial) rfl (fun o => ?_)
    refine s_rd (r_move rfl) rfl ?_
    refine s_st (s_append hm' Tryd.underlying26 el_40 rfl (j := 0) rfl rfl) rfl (fun o2 => ?_)
    refine s_rd (r_assign rfl) rfl ?_
    refine l_nil ?_
    refine n_then ?_
    refine ref_ret ?_
    exact fin1 (.inl rfl) o2 [0] rfl ⟨rfl, trivial⟩ rfl (rv_tmp rfl)

/-! slices.Clone[[]deliberation/api.Promotion,deliberation/api.Promotion] -/
def slices_Clone_api_Promotion_api_Promotion_m (d_0 : List T_api_Promotion) : Option (List T_api_Promotion) := appM 48 [] d_0

theorem slices_Clone_api_Promotion_api_Promotion_ok {d_0 r : List T_api_Promotion} (hm : slices_Clone_api_Promotion_api_Promotion_m d_0 = some r) : FnOk prog 55 [slv rT_api_Promotion d_0] [] (fun (x : Value × List Nat) => [pv x.1]) (fun (x : Value × List Nat) => [oa rT_api_Promotion x.1 x.2 r]) := by
  have hm' : appM 48 [] d_0 = some r := hm
  have hr : r = d_0 := by have := (appM_some hm').2; simpa using this
  subst hr
  refine fn_ok (X := Value × List Nat) (fn := Tryd.f55) (N := 8) (m := some ()) (r := ()) (res := fun _ x => [pv x.1]) (Ω1 := fun _ x => [oa rT_api_Promotion x.1 x.2 r]) Tryd.func55 rfl rfl rfl rfl (fun E hM => ?_)
  refine ref_seq ?_
  refine ref_region ?_
  refine s_rd (r_assign rfl) rfl ?_
  refine l_nil ?_
  refine n_then ?_
  refine ref_seq ?_
  refine ref_seq ?_
  refine ref_region ?_
  refine s_rd (r_move rfl) rfl ?_
  refine s_st (s_isnil Tryd.underlying27 rfl) rfl (fun b => ?_)
  refine l_nil ?_
  refine n_then ?_
  refine ref_condE (b := b.1) rfl (fun hb => ?_) (fun hb => ?_)
  · refine ref_seq ?_
    refine ref_region ?_
    refine s_rd (r_assign rfl) rfl ?_
    refine l_nil ?_
    refine n_then ?_
    refine ref_ret ?_
    refine r_then ?_
    have hd := b.2 hb
    subst hd
    refine b_of (own_nil rT_api_Promotion) ?_
    exact fin1 (.inl rfl) (.slice none 0 0, []) [0] rfl ⟨rfl, trivial⟩ rfl (rv_tmp rfl)
  · refine ref_skip ?_
    refine n_then ?_
    refine ref_seq ?_
    refine ref_region ?_
    refine s_st (s_bsliceO (xs := []) (ds := []) Tryd.underlying27 el_59 rfl (Nat.le_of_ble_eq_true rfl) trivial) rfl (fun o => ?_)
    refine s_rd (r_move rfl) rfl ?_
    refine s_st (s_append hm' Tryd.underlying27 el_59 rfl (j := 0) rfl rfl) rfl (fun o2 => ?_)
    refine s_rd (r_assign rfl) rfl ?_
    refine l_nil ?_
    refine n_then ?_
    refine ref_ret ?_
    exact fin1 (.inl rfl) o2 [0] rfl ⟨rfl, trivial⟩ rfl (rv_tmp rfl)

/-! slices.Index[[]deliberation/api.Literal,deliberation/api.Literal] -/
noncomputable def slices_Index_api_Literal_api_Literal_l1 (s_0 : (List T_api_Literal)) (v_1 : T_api_Literal) (s7 : Int) : Option (Sum ((Sum (Int) (Unit))) (Int)) :=
  bif decide (s7 < (s_0.length : Int)) then
    Option.bind (idxM s_0 s7) fun t10 =>
    bif decide (v_1 = t10) then
      some (Sum.inl (Sum.inl s7))
    else
      some (Sum.inr (iadd .i64 s7 1))
  else
    some (Sum.inl (Sum.inr ()))

noncomputable def slices_Index_api_Literal_api_Literal_m (s_0 : (List T_api_Literal)) (v_1 : T_api_Literal) : Option (Int) :=
  Option.bind (loopC (slices_Index_api_Literal_api_Literal_l1 s_0 v_1) 0) (sumK (fun a : Int => some a) fun q12 : Unit =>
    some (-1))

theorem slices_Index_api_Literal_api_Literal_ok {s_0 : (List T_api_Literal)} {v_1 : T_api_Literal} {r : Int} (hm : slices_Index_api_Literal_api_Literal_m s_0 v_1 = some r) :
    FnOk prog 85 [slv rT_api_Literal s_0, ag [bv v_1.Neg, sv v_1.Name]] [] (fun (x : Unit) => [iv .i64 r]) (fun (x : Unit) => []) := by
  refine fn_ok (fn := Tryd.f85) (N := 19) (res := fun r x => [iv .i64 r]) (Ω1 := fun r x => []) Tryd.func85 rfl rfl hm rfl (fun E hM => ?_)
  unfold slices_Index_api_Literal_api_Literal_m
  refine ref_seq (ref_region ?_)
  refine s_st (s_box (part_agO (ψs := [bv v_1.Neg, sv v_1.Name]) rfl ⟨.inl bv_at, .inl sv_at, trivial⟩)) rfl (fun b1 => ?_)
  refine as1 rfl rfl ?_
  refine l_nil (n_then (ref_seq (ref_seq (ref_region ?_))))
  refine mv1 rfl rfl ?_
  refine s_rd (r_len Tryd.underlying31 rfl) rfl ?_
  refine mv1 rfl rfl ?_
  refine l_nil (n_then ?_)
  refine ref_loopX (f := (slices_Index_api_Literal_api_Literal_l1 s_0 v_1)) (Γl := (fun (s7 : Int) (x8 : Unit) => [(0, slv rT_api_Literal s_0), (3, pv (ptr b1 0)), (7, iv .i64 (s_0.length : Int)), (8, iv .i64 s7)])) (Ωl := (fun (s7 : Int) (x8 : Unit) => [oc b1 [bv v_1.Neg, sv v_1.Name]])) (Γb := (fun (q12 : Unit) (y13 : Unit) => [])) (Ωb := (fun (q12 : Unit) (y13 : Unit) => [])) (kr := (fun a : Int => some a)) 0 () (weak [0] ⟨rfl, rfl, rfl, rfl, trivial⟩ ⟨rfl, trivial⟩) (fun s7 x8 => ?_) (fun q12 y13 => ?_)
  · unfold slices_Index_api_Literal_api_Literal_l1
    refine ref_seq (ref_region ?_)
    refine s_rd (r_lss rfl rfl) rfl ?_
    refine l_nil (n_then (ref_seq ?_))
    refine ref_cond rfl (fun hb9 => ?_) (fun hb9 => ?_)
    · refine ref_skip (n_then (ref_seq (ref_block (ref_seq (ref_region ?_)))))
      refine mv1 rfl rfl ?_
      refine as1 rfl rfl ?_
      refine l_nil (n_then (ref_seq ?_))
      refine ref_draw [0, 1, 2, 3, 4, 5] rfl (by kernel_rfl) (fun hok => ?_)
      refine a_rd (i := 0) hok rfl (by kernel_rfl) rfl (r_cloadS Tryd.isAgg35 Tryd.sizeOf35 rfl (j := 0) rfl rfl rfl) rfl ?_
      refine a_rd (i := 1) hok rfl (by kernel_rfl) rfl (r_move rfl) rfl ?_
      refine a_rd (i := 2) hok rfl (by kernel_rfl) rfl (r_move rfl) rfl ?_
      refine pull fun t10 h_t10 => ?_
      refine a_rd (i := 3) hok rfl (by kernel_rfl) rfl (r_index h_t10 Tryd.underlying31 el_35 rfl rfl) rfl ?_
      refine a_rd (i := 4) hok rfl (by kernel_rfl) rfl (r_load el_35 rfl) rfl ?_
      refine a_rd (i := 5) hok rfl (by kernel_rfl) rfl (r_steql (u := v_1) (v := t10) eq_35 rfl rfl rfl rfl) rfl ?_
      refine a_fin hok (by kernel_rfl) ?_
      refine n_then ?_
      refine ref_cond rfl (fun hb11 => ?_) (fun hb11 => ?_)
      · refine ref_seq (ref_region ?_)
        refine mv1 rfl rfl ?_
        refine as1 rfl rfl ?_
        refine l_nil (n_then (ref_ret (r_block (r_then ?_))))
        refine retX ?_
        refine r_block (r_then ?_)
        exact fin1 (.inl rfl) () [] rfl trivial rfl (rv_tmp rfl)
      refine ref_skip (n_block (n_then (ref_region ?_)))
      refine s_rd (r_add rfl rfl) rfl ?_
      refine mv1 rfl rfl ?_
      refine l_nil ?_
      exact goX () (weak [0] ⟨rfl, rfl, rfl, rfl, trivial⟩ ⟨rfl, trivial⟩)
    refine ref_exit (x_then ?_)
    exact brkX () (weak [] trivial trivial)
  refine n_then (ref_seq (ref_region ?_))
  refine as1 rfl rfl ?_
  refine l_nil (n_then (ref_ret ?_))
  exact fin1 (.inl rfl) () [] rfl trivial rfl (rv_tmp rfl)

/-! slices.Contains[[]deliberation/api.Literal,deliberation/api.Literal] -/
noncomputable def slices_Contains_api_Literal_api_Literal_m (s_0 : (List T_api_Literal)) (v_1 : T_api_Literal) : Option (Bool) :=
  Option.bind (slices_Index_api_Literal_api_Literal_m s_0 v_1) fun t2 =>
  letM (decide (t2 ≥ 0)) fun t3 =>
  some t3

theorem slices_Contains_api_Literal_api_Literal_ok {s_0 : (List T_api_Literal)} {v_1 : T_api_Literal} {r : Bool} (hm : slices_Contains_api_Literal_api_Literal_m s_0 v_1 = some r) :
    FnOk prog 65 [slv rT_api_Literal s_0, ag [bv v_1.Neg, sv v_1.Name]] [] (fun (x : Unit) => [bv r]) (fun (x : Unit) => []) := by
  refine fn_ok (fn := Tryd.f65) (N := 9) (res := fun r x => [bv r]) (Ω1 := fun r x => []) Tryd.func65 rfl rfl hm rfl (fun E hM => ?_)
  unfold slices_Contains_api_Literal_api_Literal_m
  refine ref_seq (ref_region ?_)
  refine s_st (s_box (part_agO (ψs := [bv v_1.Neg, sv v_1.Name]) rfl ⟨.inl bv_at, .inl sv_at, trivial⟩)) rfl (fun b1 => ?_)
  refine as1 rfl rfl ?_
  refine l_nil (n_then (ref_seq (ref_region ?_)))
  refine mv1 rfl rfl ?_
  refine s_rd (r_cloadS Tryd.isAgg35 Tryd.sizeOf35 rfl (j := 0) rfl rfl rfl) rfl ?_
  refine pull fun t2 h_t2 => ?_
  refine s_st (s_call (ψ := fun (_ : Unit) => iv .i64 t2) (args := [.tmp 5, .tmp 6]) Tryd.call85 rfl (slices_Index_api_Literal_api_Literal_ok h_t2) ⟨arg rfl, arg rfl, trivial⟩ (fun _ _ _ _ h => h)) rfl (fun _ => ?_)
  refine s_rd (r_geq rfl rfl) rfl ?_
  refine as1 rfl rfl ?_
  refine b_let (f := bv) (t := 4) rfl fun t3 => ?_
  refine l_nil (n_then (ref_ret ?_))
  exact fin1 (.inl rfl) () [] rfl trivial rfl (rv_tmp rfl)

/-! deliberation/literal.Has -/
noncomputable def literal_Has_m (l_0 : (List T_api_Literal)) (x_1 : T_api_Literal) : Option (Bool) :=
  Option.bind (slices_Contains_api_Literal_api_Literal_m l_0 x_1) fun t2 =>
  some t2

theorem literal_Has_ok {l_0 : (List T_api_Literal)} {x_1 : T_api_Literal} {r : Bool} (hm : literal_Has_m l_0 x_1 = some r) :
    FnOk prog 45 [slv rT_api_Literal l_0, ag [bv x_1.Neg, sv x_1.Name]] [] (fun (x : Unit) => [bv r]) (fun (x : Unit) => []) := by
  refine fn_ok (fn := Tryd.f45) (N := 8) (res := fun r x => [bv r]) (Ω1 := fun r x => []) Tryd.func45 rfl rfl hm rfl (fun E hM => ?_)
  unfold literal_Has_m
  refine ref_seq (ref_region ?_)
  refine s_st (s_box (part_agO (ψs := [bv x_1.Neg, sv x_1.Name]) rfl ⟨.inl bv_at, .inl sv_at, trivial⟩)) rfl (fun b1 => ?_)
  refine as1 rfl rfl ?_
  refine l_nil (n_then (ref_seq (ref_region ?_)))
  refine mv1 rfl rfl ?_
  refine s_rd (r_cloadS Tryd.isAgg35 Tryd.sizeOf35 rfl (j := 0) rfl rfl rfl) rfl ?_
  refine pull fun t2 h_t2 => ?_
  refine s_st (s_call (ψ := fun (_ : Unit) => bv t2) (args := [.tmp 5, .tmp 6]) Tryd.call65 rfl (slices_Contains_api_Literal_api_Literal_ok h_t2) ⟨arg rfl, arg rfl, trivial⟩ (fun _ _ _ _ h => h)) rfl (fun _ => ?_)
  refine as1 rfl rfl ?_
  refine l_nil (n_then (ref_ret ?_))
  exact fin1 (.inl rfl) () [] rfl trivial rfl (rv_tmp rfl)

/-! deliberation/rulebase.Promote -/
noncomputable def rulebase_Promote_l2 (b_0 : T_api_Base) (accepted_1 : (List T_api_Literal)) (s97 : Int × (List T_api_Rule)) (t100 : T_api_Rule) (s127 : Int × (List T_api_Rule)) : Option (Sum ((List T_api_Rule)) (Int × (List T_api_Rule))) :=
  bif decide (s127.1 < (b_0.Promotions.length : Int)) then
    Option.bind (idxM b_0.Promotions s127.1) fun t130 =>
    joinM (fun j133 : Bool =>
        bif j133 then
          Option.bind (idxM s127.2 s97.1) fun t137 =>
          some (Sum.inr (iadd .i64 s127.1 1, s127.2.set (Int.toNat s97.1) (T_api_Rule.mk t137.Name t137.Strict t130.Rank t137.Body t137.Head)))
        else
          some (Sum.inr (iadd .i64 s127.1 1, s127.2))) fun k135 =>
    bif !t100.Strict then
      bif t130.Rule.toList == t100.Name.toList then
        Option.bind (literal_Has_m accepted_1 t130.If) fun t132 =>
        k135 t132
      else
        k135 false
    else
      k135 false
  else
    some (Sum.inl s127.2)

noncomputable def rulebase_Promote_l1 (b_0 : T_api_Base) (accepted_1 : (List T_api_Literal)) (s97 : Int × (List T_api_Rule)) : Option (Sum ((List T_api_Rule)) (Int × (List T_api_Rule))) :=
  bif decide (s97.1 < (b_0.Rules.length : Int)) then
    Option.bind (idxM b_0.Rules s97.1) fun t100 =>
    Option.bind (slices_Clone_api_Literal_api_Literal_m t100.Body) fun t102 =>
    Option.bind (idxM s97.2 s97.1) fun t104 =>
    Option.bind (loopC (rulebase_Promote_l2 b_0 accepted_1 s97 t100) (0, s97.2.set (Int.toNat s97.1) (T_api_Rule.mk t104.Name t104.Strict t104.Rank t102 t104.Head))) fun q138 : (List T_api_Rule) =>
    some (Sum.inr (iadd .i64 s97.1 1, q138))
  else
    some (Sum.inl s97.2)

noncomputable def rulebase_Promote_m (b_0 : T_api_Base) (accepted_1 : (List T_api_Literal)) : Option (T_api_Base) :=
  Option.bind (slices_Clone_api_Premise_api_Premise_m b_0.Premises) fun t4 =>
  Option.bind (slices_Clone_api_Rule_api_Rule_m b_0.Rules) fun t6 =>
  Option.bind (slices_Clone_api_Promotion_api_Promotion_m b_0.Promotions) fun t8 =>
  Option.bind (loopC (rulebase_Promote_l1 b_0 accepted_1) (0, t6)) fun q140 : (List T_api_Rule) =>
  some (T_api_Base.mk t4 q140 t8)

theorem rulebase_Promote_ok {b_0 : T_api_Base} {accepted_1 : (List T_api_Literal)} {r : T_api_Base} (hm : rulebase_Promote_m b_0 accepted_1 = some r) :
    FnOk prog 32 [ag [slv rT_api_Premise b_0.Premises, slv rT_api_Rule b_0.Rules, slv rT_api_Promotion b_0.Promotions], slv rT_api_Literal accepted_1] [] (fun (x : (Value × List Nat)) => [ag [slv rT_api_Premise r.Premises, pv x.1, slv rT_api_Promotion r.Promotions]]) (fun (x : (Value × List Nat)) => [oa rT_api_Rule x.1 x.2 r.Rules]) := by
  refine fn_ok (X := (Value × List Nat)) (fn := Tryd.f32) (N := 69) (res := fun r x => [ag [slv rT_api_Premise r.Premises, pv x.1, slv rT_api_Promotion r.Promotions]]) (Ω1 := fun r x => [oa rT_api_Rule x.1 x.2 r.Rules]) Tryd.func32 rfl rfl hm rfl (fun E hM => ?_)
  unfold rulebase_Promote_m
  refine ref_seq (ref_region ?_)
  refine s_st (s_box (part_agO (ψs := [slv rT_api_Premise b_0.Premises, slv rT_api_Rule b_0.Rules, slv rT_api_Promotion b_0.Promotions]) rfl ⟨.inl slv_at, .inl slv_at, .inl slv_at, trivial⟩)) rfl (fun b1 => ?_)
  refine s_st (s_alloc zt_29) rfl (fun b2 => ?_)
  refine l_nil (n_then (ref_seq ?_))
  refine pull fun t4 h_t4 => ?_
  refine pull fun t6 h_t6 => ?_
  refine pull fun t8 h_t8 => ?_
  refine ref_drawI 4 [⟨[], [], [], [], [], fun us u => pv (ptr b1 0), fun us u => []⟩, ⟨[0], [], [], [0], [], fun us u => slv rT_api_Premise b_0.Premises, fun us u => []⟩, ⟨[0, 1], [], [2], [2], [], fun us u => pv u.V.1, fun us u => [oa rT_api_Premise u.V.1 u.V.2 t4]⟩, ⟨[], [], [], [], [], fun us u => pv (ptr b1 1), fun us u => []⟩, ⟨[3], [], [], [0], [], fun us u => slv rT_api_Rule b_0.Rules, fun us u => []⟩, ⟨[0, 1, 2, 3, 4], [], [3], [3], [], fun us u => pv u.V.1, fun us u => [oa rT_api_Rule u.V.1 u.V.2 t6]⟩, ⟨[], [], [], [], [], fun us u => pv (ptr b1 2), fun us u => []⟩, ⟨[6], [], [], [0], [], fun us u => slv rT_api_Promotion b_0.Promotions, fun us u => []⟩, ⟨[0, 1, 2, 3, 4, 5, 6, 7], [], [4], [4], [], fun us u => pv u.V.1, fun us u => [oa rT_api_Promotion u.V.1 u.V.2 t8]⟩, ⟨[0, 1, 2, 3, 4, 5, 6, 7, 8], [2, 5, 8], [], [2, 3, 4], [], fun us u => ag [pv (us.getD 0 .none).V.1, pv (us.getD 1 .none).V.1, pv (us.getD 2 .none).V.1], fun us u => []⟩, ⟨[], [], [5], [5], [], fun us u => pv (ptr u.Nn 0), fun us u => [oc u.Nn [pv (.slice none 0 0), pv (.slice none 0 0), pv (.slice none 0 0)]]⟩, ⟨[0, 1, 2, 3, 4, 5, 6, 7, 8, 9, 10], [2, 5, 8, 10], [5], [2, 3, 4, 5], [5], fun us u => pv undef, fun us u => [oc (us.getD 3 .none).Nn [pv (us.getD 0 .none).V.1, pv (us.getD 1 .none).V.1, pv (us.getD 2 .none).V.1]]⟩] (fun χ3 => [(1, slv rT_api_Literal accepted_1), (2, pv (ptr b1 0)), (4, pv (ptr b2 0)), (5, pv (ptr (χ3 10).Nn 0))]) (fun χ3 => [oc b1 [slv rT_api_Premise b_0.Premises, slv rT_api_Rule b_0.Rules, slv rT_api_Promotion b_0.Promotions], oc b2 [pv (.slice none 0 0), pv (.slice none 0 0), pv (.slice none 0 0)], oa rT_api_Premise (χ3 2).V.1 (χ3 2).V.2 t4, oa rT_api_Rule (χ3 5).V.1 (χ3 5).V.2 t6, oa rT_api_Promotion (χ3 8).V.1 (χ3 8).V.2 t8, oc (χ3 10).Nn [pv (χ3 2).V.1, pv (χ3 5).V.1, pv (χ3 8).V.1]]) rfl (by kernel_rfl) ⟨fun χ3 Ω _ => St.toR (r_faddr (fo := 0) Tryd.underlying29 rfl rfl Tryd.sizeOf25 rfl) (fun _ => rfl) (fun _ => rfl), (by intro _ h; cases h; rfl), ⟨fun χ3 Ω ⟨h0, _⟩ => St.toR (r_cload Tryd.isAgg25 rfl (j := 0) h0 rfl) (fun _ => rfl) (fun _ => rfl), (by intro _ h; cases h; rfl), ⟨fun χ3 Ω ⟨h2, _⟩ => St.to XU.V XU.hV (St.placeL [2] (s_call (ψ := fun (x5 : (Value × List Nat)) => pv x5.1) (args := [.tmp 11]) Tryd.call53 rfl (slices_Clone_api_Premise_api_Premise_ok h_t4) ⟨arg rfl, trivial⟩ (fun _ _ _ _ h => h)) (fun _ => rfl) (fun _ => ⟨h2, rfl, trivial⟩)) (fun _ => rfl) (fun _ => rfl), (by intro _ h; cases h; rfl), ⟨fun χ3 Ω _ => St.toR (r_faddr (fo := 1) Tryd.underlying29 rfl rfl Tryd.sizeOf26 rfl) (fun _ => rfl) (fun _ => rfl), (by intro _ h; cases h; rfl), ⟨fun χ3 Ω ⟨h0, _⟩ => St.toR (r_cload Tryd.isAgg26 rfl (j := 0) h0 rfl) (fun _ => rfl) (fun _ => rfl), (by intro _ h; cases h; rfl), ⟨fun χ3 Ω ⟨h3, _⟩ => St.to XU.V XU.hV (St.placeL [3] (s_call (ψ := fun (x7 : (Value × List Nat)) => pv x7.1) (args := [.tmp 14]) Tryd.call54 rfl (slices_Clone_api_Rule_api_Rule_ok h_t6) ⟨arg rfl, trivial⟩ (fun _ _ _ _ h => h)) (fun _ => rfl) (fun _ => ⟨h3, rfl, trivial⟩)) (fun _ => rfl) (fun _ => rfl), (by intro _ h; cases h; rfl), ⟨fun χ3 Ω _ => St.toR (r_faddr (fo := 2) Tryd.underlying29 rfl rfl Tryd.sizeOf27 rfl) (fun _ => rfl) (fun _ => rfl), (by intro _ h; cases h; rfl), ⟨fun χ3 Ω ⟨h0, _⟩ => St.toR (r_cload Tryd.isAgg27 rfl (j := 0) h0 rfl) (fun _ => rfl) (fun _ => rfl), (by intro _ h; cases h; rfl), ⟨fun χ3 Ω ⟨h4, _⟩ => St.to XU.V XU.hV (St.placeL [4] (s_call (ψ := fun (x9 : (Value × List Nat)) => pv x9.1) (args := [.tmp 17]) Tryd.call55 rfl (slices_Clone_api_Promotion_api_Promotion_ok h_t8) ⟨arg rfl, trivial⟩ (fun _ _ _ _ h => h)) (fun _ => rfl) (fun _ => ⟨h4, rfl, trivial⟩)) (fun _ => rfl) (fun _ => rfl), (by intro _ h; cases h; rfl), ⟨fun χ3 Ω ⟨h2, h3, h4, _⟩ => St.toR (r_build (ps := [(0, .tmp 12), (1, .tmp 15), (2, .tmp 18)]) (rs := [(0, [pv (χ3 2).V.1]), (1, [pv (χ3 5).V.1]), (2, [pv (χ3 8).V.1])]) st_29 zs_29 ⟨rfl, (part_own rfl (j := 2) h2), ⟨rfl, (part_own rfl (j := 3) h3), ⟨rfl, (part_own rfl (j := 4) h4), trivial⟩⟩⟩ rfl rfl) (fun _ => rfl) (fun _ => rfl), (by intro _ h; cases h; rfl), ⟨fun χ3 Ω ⟨h5, _⟩ => St.to XU.Nn XU.hN (St.placeL (os := fun _ => [_]) [5] (s_alloc zt_29) (fun _ => rfl) (fun _ => ⟨h5, rfl, trivial⟩)) (fun _ => rfl) (fun _ => rfl), (by intro _ h; cases h; rfl), ⟨fun χ3 Ω ⟨h2, h3, h4, h5, _⟩ => St.to XU.U XU.hU (s_cstore (out := [pv (χ3 2).V.1, pv (χ3 5).V.1, pv (χ3 8).V.1]) Tryd.sizeOf29 rfl (j := 5) h5 (part_agO (ψs := [pv (χ3 2).V.1, pv (χ3 5).V.1, pv (χ3 8).V.1]) rfl ⟨.inr ⟨_, _, _, _, _, 2, rfl, h2⟩, .inr ⟨_, _, _, _, _, 3, rfl, h3⟩, .inr ⟨_, _, _, _, _, 4, rfl, h4⟩, trivial⟩) rfl rfl rfl) (fun _ => rfl) (fun _ => rfl), (by intro _ h; cases h), trivial⟩⟩⟩⟩⟩⟩⟩⟩⟩⟩⟩⟩ (fun _ => ⟨rfl, rfl, rfl, rfl, trivial⟩) (fun _ => rfl) (fun χ3 => ?_)
  refine n_then (ref_seq (ref_seq (ref_region ?_)))
  refine s_rd (r_faddr (fo := 1) Tryd.underlying29 rfl rfl Tryd.sizeOf26 rfl) rfl ?_
  refine s_rd (r_cload Tryd.isAgg26 rfl (j := 0) rfl rfl) rfl ?_
  refine s_rd (r_len Tryd.underlying26 rfl) rfl ?_
  refine mv1 rfl rfl ?_
  refine l_nil (n_then ?_)
  refine ref_loopB (f := (rulebase_Promote_l1 b_0 accepted_1)) (Γl := (fun (s97 : Int × (List T_api_Rule)) (x98 : Unit) => [(1, slv rT_api_Literal accepted_1), (2, pv (ptr b1 0)), (4, pv (ptr b2 0)), (5, pv (ptr (χ3 10).Nn 0)), (21, slv rT_api_Rule b_0.Rules), (22, iv .i64 (b_0.Rules.length : Int)), (23, iv .i64 s97.1)])) (Ωl := (fun (s97 : Int × (List T_api_Rule)) (x98 : Unit) => [oc b1 [slv rT_api_Premise b_0.Premises, slv rT_api_Rule b_0.Rules, slv rT_api_Promotion b_0.Promotions], oc b2 [pv (.slice none 0 0), pv (.slice none 0 0), pv (.slice none 0 0)], oc (χ3 10).Nn [pv (χ3 2).V.1, pv (χ3 5).V.1, pv (χ3 8).V.1], oa rT_api_Premise (χ3 2).V.1 (χ3 2).V.2 t4, oa rT_api_Rule (χ3 5).V.1 (χ3 5).V.2 s97.2, oa rT_api_Promotion (χ3 8).V.1 (χ3 8).V.2 t8])) (Γb := (fun (q140 : (List T_api_Rule)) (y141 : Unit) => [(4, pv (ptr b2 0)), (5, pv (ptr (χ3 10).Nn 0))])) (Ωb := (fun (q140 : (List T_api_Rule)) (y141 : Unit) => [oc b2 [pv (.slice none 0 0), pv (.slice none 0 0), pv (.slice none 0 0)], oc (χ3 10).Nn [pv (χ3 2).V.1, pv (χ3 5).V.1, pv (χ3 8).V.1], oa rT_api_Premise (χ3 2).V.1 (χ3 2).V.2 t4, oa rT_api_Rule (χ3 5).V.1 (χ3 5).V.2 q140, oa rT_api_Promotion (χ3 8).V.1 (χ3 8).V.2 t8])) (0, t6) () (weak [0, 1, 5, 2, 3, 4] ⟨rfl, rfl, rfl, rfl, rfl, rfl, rfl, trivial⟩ ⟨rfl, rfl, rfl, rfl, rfl, rfl, trivial⟩) (fun s97 x98 => ?_) (fun q140 y141 => ?_)
  · unfold rulebase_Promote_l1
    refine ref_seq (ref_region ?_)
    refine s_rd (r_lss rfl rfl) rfl ?_
    refine l_nil (n_then (ref_seq ?_))
    refine ref_cond rfl (fun hb99 => ?_) (fun hb99 => ?_)
    · refine ref_skip (n_then (ref_seq (ref_block (ref_seq (ref_region ?_)))))
      refine mv1 rfl rfl ?_
      refine pull fun t100 h_t100 => ?_
      refine s_rd (r_index h_t100 Tryd.underlying26 el_40 rfl rfl) rfl ?_
      refine s_rd (r_load el_40 rfl) rfl ?_
      refine s_st (s_alloc zt_40) rfl (fun b101 => ?_)
      refine as1 rfl rfl ?_
      refine s_st0 (s_cstore (out := [sv t100.Name, bv t100.Strict, iv .i64 t100.Rank, slv rT_api_Literal t100.Body, bv t100.Head.Neg, sv t100.Head.Name]) Tryd.sizeOf40 rfl (j := 6) rfl (part_agO (ψs := [sv t100.Name, bv t100.Strict, iv .i64 t100.Rank, slv rT_api_Literal t100.Body, bv t100.Head.Neg, sv t100.Head.Name]) rfl ⟨.inl sv_at, .inl bv_at, .inl iv_at, .inl slv_at, .inl bv_at, .inl sv_at, trivial⟩) rfl rfl rfl) (fun _ => ?_)
      refine l_nil (n_then (ref_seq ?_))
      refine ref_draw [0, 1, 2, 3, 4, 6, 7] rfl (by kernel_rfl) (fun hok => ?_)
      refine a_rd (i := 0) hok rfl (by kernel_rfl) rfl (r_faddr (fo := 1) Tryd.underlying29 rfl rfl Tryd.sizeOf26 rfl) rfl ?_
      refine a_rd (i := 1) hok rfl (by kernel_rfl) rfl (r_cload Tryd.isAgg26 rfl (j := 2) rfl rfl) rfl ?_
      refine a_rd (i := 2) hok rfl (by kernel_rfl) rfl (r_move rfl) rfl ?_
      refine a_rd (i := 3) hok rfl (by kernel_rfl) rfl (r_faddr (fo := 3) Tryd.underlying40 rfl rfl Tryd.sizeOf31 rfl) rfl ?_
      refine a_rd (i := 4) hok rfl (by kernel_rfl) rfl (r_cload Tryd.isAgg31 rfl (j := 6) rfl rfl) rfl ?_
      refine pull fun t102 h_t102 => ?_
      refine a_next hok 5 [] (by kernel_rfl) ?_ trivial
      refine a_st (i := 5) hok rfl rfl (s_call (ψ := fun (x103 : (Value × List Nat)) => pv x103.1) (args := [.tmp 32]) Tryd.call40 rfl (slices_Clone_api_Literal_api_Literal_ok h_t102) ⟨arg rfl, trivial⟩ (fun _ _ _ _ h => h)) (by intro _ h; cases h; rfl) (fun _ => ⟨trivial, ⟨trivial, ⟨trivial, ⟨⟨⟨rfl, rfl⟩, trivial⟩, ⟨trivial, trivial⟩⟩⟩⟩⟩) (fun x103 => ?_)
      refine pull fun t104 h_t104 => ?_
      refine a_rd (i := 6) hok rfl (by kernel_rfl) rfl (r_oindex h_t104 Tryd.underlying26 el_40 rfl (j := 4) rfl rfl) rfl ?_
      refine a_rd (i := 7) hok rfl (by kernel_rfl) rfl (r_foea (ρ := rT_api_Rule) (fo := 3) h_t104 Tryd.underlying40 rfl rfl Tryd.sizeOf31 rfl (j := 4) rfl) rfl ?_
      refine a_of (frzL [33] (j := 7) rfl ⟨rfl, trivial⟩) (dead_keeps (j := 7) rfl) ?_
      refine a_next hok 8 [] (by kernel_rfl) ?_ trivial
      refine a_st (i := 8) hok rfl rfl (s_fostore (ρ := rT_api_Rule) (u := (T_api_Rule.mk t104.Name t104.Strict t104.Rank t102 t104.Head)) (φs := [slv rT_api_Literal t102]) h_t104 Tryd.sizeOf31 rfl (j := 4) rfl (part_at rfl slv_at) rfl rfl) (by intro _ h; cases h) (fun _ => ⟨trivial, ⟨trivial, ⟨trivial, ⟨trivial, ⟨trivial, ⟨trivial, ⟨trivial, trivial⟩⟩⟩⟩⟩⟩⟩) (fun _ => ?_)
      refine a_fin hok (by kernel_rfl) ?_
      refine b_of (nrm [oc b1 [slv rT_api_Premise b_0.Premises, slv rT_api_Rule b_0.Rules, slv rT_api_Promotion b_0.Promotions], oc b2 [pv (.slice none 0 0), pv (.slice none 0 0), pv (.slice none 0 0)], oc (χ3 10).Nn [pv (χ3 2).V.1, pv (χ3 5).V.1, pv (χ3 8).V.1], oa rT_api_Premise (χ3 2).V.1 (χ3 2).V.2 t4, oa rT_api_Rule (χ3 5).V.1 (χ3 5).V.2 (s97.2.set (Int.toNat s97.1) (T_api_Rule.mk t104.Name t104.Strict t104.Rank t102 t104.Head)), oa rT_api_Promotion (χ3 8).V.1 (χ3 8).V.2 t8, oc b101 [sv t100.Name, bv t100.Strict, iv .i64 t100.Rank, slv rT_api_Literal t100.Body, bv t100.Head.Neg, sv t100.Head.Name], dead] rfl) ?_
      refine n_then (ref_seq (ref_region ?_))
      refine s_rd (r_faddr (fo := 2) Tryd.underlying29 rfl rfl Tryd.sizeOf27 rfl) rfl ?_
      refine s_rd (r_cload Tryd.isAgg27 rfl (j := 0) rfl rfl) rfl ?_
      refine s_rd (r_len Tryd.underlying27 rfl) rfl ?_
      refine mv1 rfl rfl ?_
      refine l_nil (n_then ?_)
      refine ref_loopB (f := (rulebase_Promote_l2 b_0 accepted_1 s97 t100)) (Γl := (fun (s127 : Int × (List T_api_Rule)) (x128 : Unit) => [(1, slv rT_api_Literal accepted_1), (2, pv (ptr b1 0)), (4, pv (ptr b2 0)), (5, pv (ptr (χ3 10).Nn 0)), (6, iv .i64 s97.1), (7, pv (ptr b101 0)), (21, slv rT_api_Rule b_0.Rules), (22, iv .i64 (b_0.Rules.length : Int)), (23, iv .i64 s97.1), (37, slv rT_api_Promotion b_0.Promotions), (38, iv .i64 (b_0.Promotions.length : Int)), (39, iv .i64 s127.1)])) (Ωl := (fun (s127 : Int × (List T_api_Rule)) (x128 : Unit) => [oc b1 [slv rT_api_Premise b_0.Premises, slv rT_api_Rule b_0.Rules, slv rT_api_Promotion b_0.Promotions], oc b2 [pv (.slice none 0 0), pv (.slice none 0 0), pv (.slice none 0 0)], oc (χ3 10).Nn [pv (χ3 2).V.1, pv (χ3 5).V.1, pv (χ3 8).V.1], oa rT_api_Premise (χ3 2).V.1 (χ3 2).V.2 t4, oa rT_api_Rule (χ3 5).V.1 (χ3 5).V.2 s127.2, oa rT_api_Promotion (χ3 8).V.1 (χ3 8).V.2 t8, oc b101 [sv t100.Name, bv t100.Strict, iv .i64 t100.Rank, slv rT_api_Literal t100.Body, bv t100.Head.Neg, sv t100.Head.Name]])) (Γb := (fun (q138 : (List T_api_Rule)) (y139 : Unit) => [(1, slv rT_api_Literal accepted_1), (2, pv (ptr b1 0)), (4, pv (ptr b2 0)), (5, pv (ptr (χ3 10).Nn 0)), (21, slv rT_api_Rule b_0.Rules), (22, iv .i64 (b_0.Rules.length : Int)), (23, iv .i64 s97.1)])) (Ωb := (fun (q138 : (List T_api_Rule)) (y139 : Unit) => [oc b1 [slv rT_api_Premise b_0.Premises, slv rT_api_Rule b_0.Rules, slv rT_api_Promotion b_0.Promotions], oc b2 [pv (.slice none 0 0), pv (.slice none 0 0), pv (.slice none 0 0)], oc (χ3 10).Nn [pv (χ3 2).V.1, pv (χ3 5).V.1, pv (χ3 8).V.1], oa rT_api_Premise (χ3 2).V.1 (χ3 2).V.2 t4, oa rT_api_Rule (χ3 5).V.1 (χ3 5).V.2 q138, oa rT_api_Promotion (χ3 8).V.1 (χ3 8).V.2 t8])) (0, s97.2.set (Int.toNat s97.1) (T_api_Rule.mk t104.Name t104.Strict t104.Rank t102 t104.Head)) () (weak [0, 1, 2, 3, 4, 5, 6] ⟨rfl, rfl, rfl, rfl, rfl, rfl, rfl, rfl, rfl, rfl, rfl, rfl, trivial⟩ ⟨rfl, rfl, rfl, rfl, rfl, rfl, rfl, trivial⟩) (fun s127 x128 => ?_) (fun q138 y139 => ?_)
      · unfold rulebase_Promote_l2
        refine ref_seq (ref_region ?_)
        refine s_rd (r_lss rfl rfl) rfl ?_
        refine l_nil (n_then (ref_seq ?_))
        refine ref_cond rfl (fun hb129 => ?_) (fun hb129 => ?_)
        · refine ref_skip (n_then (ref_seq (ref_block (ref_seq (ref_region ?_)))))
          refine pull fun t130 h_t130 => ?_
          refine s_rd (r_index h_t130 Tryd.underlying27 el_59 rfl rfl) rfl ?_
          refine s_rd (r_load el_59 rfl) rfl ?_
          refine s_st (s_alloc zt_59) rfl (fun b131 => ?_)
          refine s_st0 (s_cstore (out := [sv t130.Rule, iv .i64 t130.Rank, bv t130.If.Neg, sv t130.If.Name]) Tryd.sizeOf59 rfl (j := 7) rfl (part_agO (ψs := [sv t130.Rule, iv .i64 t130.Rank, bv t130.If.Neg, sv t130.If.Name]) rfl ⟨.inl sv_at, .inl iv_at, .inl bv_at, .inl sv_at, trivial⟩) rfl rfl rfl) (fun _ => ?_)
          refine l_nil (n_then (ref_seq ?_))
          refine ref_join (fun (j133 : Bool) (x134 : Unit) => [(1, slv rT_api_Literal accepted_1), (2, pv (ptr b1 0)), (4, pv (ptr b2 0)), (5, pv (ptr (χ3 10).Nn 0)), (6, iv .i64 s97.1), (7, pv (ptr b101 0)), (9, pv (ptr b131 0)), (21, slv rT_api_Rule b_0.Rules), (22, iv .i64 (b_0.Rules.length : Int)), (23, iv .i64 s97.1), (37, slv rT_api_Promotion b_0.Promotions), (38, iv .i64 (b_0.Promotions.length : Int)), (39, iv .i64 s127.1), (58, bv j133)]) (fun (j133 : Bool) (x134 : Unit) => [oc b1 [slv rT_api_Premise b_0.Premises, slv rT_api_Rule b_0.Rules, slv rT_api_Promotion b_0.Promotions], oc b2 [pv (.slice none 0 0), pv (.slice none 0 0), pv (.slice none 0 0)], oc (χ3 10).Nn [pv (χ3 2).V.1, pv (χ3 5).V.1, pv (χ3 8).V.1], oa rT_api_Premise (χ3 2).V.1 (χ3 2).V.2 t4, oa rT_api_Rule (χ3 5).V.1 (χ3 5).V.2 s127.2, oa rT_api_Promotion (χ3 8).V.1 (χ3 8).V.2 t8, oc b101 [sv t100.Name, bv t100.Strict, iv .i64 t100.Rank, slv rT_api_Literal t100.Body, bv t100.Head.Neg, sv t100.Head.Name], oc b131 [sv t130.Rule, iv .i64 t130.Rank, bv t130.If.Neg, sv t130.If.Name]]) (fun k135 hk135 => ?_) (fun j133 x134 => ?_)
          · refine ref_region ?_
            refine s_rd (r_faddr (fo := 1) Tryd.underlying40 rfl rfl Tryd.sizeOf4 rfl) rfl ?_
            refine s_rd (r_cload Tryd.isAgg4 rfl (j := 6) rfl rfl) rfl ?_
            refine s_rd (r_not rfl) rfl ?_
            refine mv1 rfl rfl ?_
            refine b_split (t := 46) rfl (fun _ => ?_) (fun _ => ?_)
            · refine s_on rfl rfl rfl ?_
              refine s_rd (r_faddr (fo := 0) Tryd.underlying59 rfl rfl Tryd.sizeOf9 rfl) rfl ?_
              refine s_on rfl rfl rfl ?_
              refine s_rd (r_cload Tryd.isAgg9 rfl (j := 7) rfl rfl) rfl ?_
              refine s_on rfl rfl rfl ?_
              refine s_rd (r_faddr (fo := 0) Tryd.underlying40 rfl rfl Tryd.sizeOf9 rfl) rfl ?_
              refine s_on rfl rfl rfl ?_
              refine s_rd (r_cload Tryd.isAgg9 rfl (j := 6) rfl rfl) rfl ?_
              refine s_on rfl rfl rfl ?_
              refine s_rd (r_seql rfl rfl) rfl ?_
              refine s_rd (r_pickT rfl rfl) rfl ?_
              refine mv1 rfl rfl ?_
              refine b_split (t := 53) rfl (fun _ => ?_) (fun _ => ?_)
              · refine s_on rfl rfl rfl ?_
                refine mv1 rfl rfl ?_
                refine s_on rfl rfl rfl ?_
                refine s_rd (r_faddr (fo := 2) Tryd.underlying59 rfl rfl Tryd.sizeOf35 rfl) rfl ?_
                refine s_on rfl rfl rfl ?_
                refine s_rd (r_cloadS Tryd.isAgg35 Tryd.sizeOf35 rfl (j := 7) rfl rfl rfl) rfl ?_
                refine s_on rfl rfl rfl ?_
                refine pull fun t132 h_t132 => ?_
                refine s_st (s_call (ψ := fun (_ : Unit) => bv t132) (args := [.tmp 54, .tmp 56]) Tryd.call45 rfl (literal_Has_ok h_t132) ⟨arg rfl, arg rfl, trivial⟩ (fun _ _ _ _ h => h)) rfl (fun _ => ?_)
                refine s_rd (r_pickT rfl rfl) rfl ?_
                refine l_nil ?_
                exact b_to (hk135 t132 ()) (weak [0, 1, 2, 3, 4, 5, 6, 7] ⟨rfl, rfl, rfl, rfl, rfl, rfl, rfl, rfl, rfl, rfl, rfl, rfl, rfl, rfl, trivial⟩ ⟨rfl, rfl, rfl, rfl, rfl, rfl, rfl, rfl, trivial⟩)
              refine s_off rfl rfl rfl rfl rfl ?_
              refine s_off rfl rfl rfl rfl rfl ?_
              refine s_off rfl rfl rfl rfl rfl ?_
              refine s_off rfl rfl rfl rfl rfl ?_
              refine s_rd (r_pickF rfl rfl) rfl ?_
              refine l_nil ?_
              exact b_to (hk135 false ()) (weak [0, 1, 2, 3, 4, 5, 6, 7] ⟨rfl, rfl, rfl, rfl, rfl, rfl, rfl, rfl, rfl, rfl, rfl, rfl, rfl, rfl, trivial⟩ ⟨rfl, rfl, rfl, rfl, rfl, rfl, rfl, rfl, trivial⟩)
            refine s_off rfl rfl rfl rfl rfl ?_
            refine s_off rfl rfl rfl rfl rfl ?_
            refine s_off rfl rfl rfl rfl rfl ?_
            refine s_off rfl rfl rfl rfl rfl ?_
            refine s_off rfl rfl rfl rfl rfl ?_
            refine s_rd (r_pickF rfl rfl) rfl ?_
            refine mv1 rfl rfl ?_
            refine s_off rfl rfl rfl rfl rfl ?_
            refine s_off rfl rfl rfl rfl rfl ?_
            refine s_off rfl rfl rfl rfl rfl ?_
            refine s_off rfl rfl rfl rfl rfl ?_
            refine s_rd (r_pickF rfl rfl) rfl ?_
            refine l_nil ?_
            exact b_to (hk135 false ()) (weak [0, 1, 2, 3, 4, 5, 6, 7] ⟨rfl, rfl, rfl, rfl, rfl, rfl, rfl, rfl, rfl, rfl, rfl, rfl, rfl, rfl, trivial⟩ ⟨rfl, rfl, rfl, rfl, rfl, rfl, rfl, rfl, trivial⟩)
          refine n_then ?_
          refine ref_cond rfl (fun hb136 => ?_) (fun hb136 => ?_)
          · refine ref_region ?_
            refine s_rd (r_faddr (fo := 1) Tryd.underlying29 rfl rfl Tryd.sizeOf26 rfl) rfl ?_
            refine s_rd (r_cload Tryd.isAgg26 rfl (j := 2) rfl rfl) rfl ?_
            refine mv1 rfl rfl ?_
            refine s_rd (r_faddr (fo := 1) Tryd.underlying59 rfl rfl Tryd.sizeOf3 rfl) rfl ?_
            refine s_rd (r_cload Tryd.isAgg3 rfl (j := 7) rfl rfl) rfl ?_
            refine pull fun t137 h_t137 => ?_
            refine s_rd (r_oindex h_t137 Tryd.underlying26 el_40 rfl (j := 4) rfl rfl) rfl ?_
            refine s_rd (r_foea (ρ := rT_api_Rule) (fo := 2) h_t137 Tryd.underlying40 rfl rfl Tryd.sizeOf3 rfl (j := 4) rfl) rfl ?_
            refine s_st0 (s_fostore (ρ := rT_api_Rule) (u := (T_api_Rule.mk t137.Name t137.Strict t130.Rank t137.Body t137.Head)) (φs := [iv .i64 t130.Rank]) h_t137 Tryd.sizeOf3 rfl (j := 4) rfl (part_at rfl iv_at) rfl rfl) (fun _ => ?_)
            refine l_nil (n_block (n_then (ref_region ?_)))
            refine s_rd (r_add rfl rfl) rfl ?_
            refine mv1 rfl rfl ?_
            refine l_nil ?_
            exact goB () (weak [0, 1, 2, 3, 4, 5, 6] ⟨rfl, rfl, rfl, rfl, rfl, rfl, rfl, rfl, rfl, rfl, rfl, rfl, trivial⟩ ⟨rfl, rfl, rfl, rfl, rfl, rfl, rfl, trivial⟩)
          refine ref_skip (n_block (n_then (ref_region ?_)))
          refine s_rd (r_add rfl rfl) rfl ?_
          refine mv1 rfl rfl ?_
          refine l_nil ?_
          exact goB () (weak [0, 1, 2, 3, 4, 5, 6] ⟨rfl, rfl, rfl, rfl, rfl, rfl, rfl, rfl, rfl, rfl, rfl, rfl, trivial⟩ ⟨rfl, rfl, rfl, rfl, rfl, rfl, rfl, trivial⟩)
        refine ref_exit (x_then ?_)
        exact brkB () (weak [0, 1, 2, 3, 4, 5] ⟨rfl, rfl, rfl, rfl, rfl, rfl, rfl, trivial⟩ ⟨rfl, rfl, rfl, rfl, rfl, rfl, trivial⟩)
      refine n_block (n_then (ref_region ?_))
      refine s_rd (r_add rfl rfl) rfl ?_
      refine mv1 rfl rfl ?_
      refine l_nil ?_
      exact goB () (weak [0, 1, 2, 3, 4, 5] ⟨rfl, rfl, rfl, rfl, rfl, rfl, rfl, trivial⟩ ⟨rfl, rfl, rfl, rfl, rfl, rfl, trivial⟩)
    refine ref_exit (x_then ?_)
    exact brkB () (weak [1, 2, 3, 4, 5] ⟨rfl, rfl, trivial⟩ ⟨rfl, rfl, rfl, rfl, rfl, trivial⟩)
  refine n_then (ref_seq (ref_region ?_))
  refine s_rd (r_cloadS Tryd.isAgg29 Tryd.sizeOf29 rfl (j := 1) rfl rfl rfl) rfl ?_
  refine s_st0 (s_cstore (out := [pv (χ3 2).V.1, pv (χ3 5).V.1, pv (χ3 8).V.1]) Tryd.sizeOf29 rfl (j := 0) rfl (part_agO (ψs := [pv (χ3 2).V.1, pv (χ3 5).V.1, pv (χ3 8).V.1]) rfl ⟨.inr ⟨_, _, _, _, _, 2, rfl, rfl⟩, .inr ⟨_, _, _, _, _, 3, rfl, rfl⟩, .inr ⟨_, _, _, _, _, 4, rfl, rfl⟩, trivial⟩) rfl rfl rfl) (fun _ => ?_)
  refine l_nil (n_then (ref_ret ?_))
  refine b_of (frzGL [(68, ag [slv rT_api_Premise t4, pv (χ3 5).V.1, pv (χ3 8).V.1])] [(0, b2, [slv rT_api_Premise t4, pv (χ3 5).V.1, pv (χ3 8).V.1]), (1, (χ3 10).Nn, [slv rT_api_Premise t4, pv (χ3 5).V.1, pv (χ3 8).V.1])] (j := 2) rfl ⟨⟨_, rfl, .inr ⟨_, _, rfl, rfl, ⟨.inr ⟨rfl, rfl⟩, .inl rfl, .inl rfl, trivial⟩⟩⟩, trivial⟩ ⟨⟨_, rfl, ⟨.inr ⟨rfl, rfl⟩, .inl rfl, .inl rfl, trivial⟩⟩, ⟨_, rfl, ⟨.inr ⟨rfl, rfl⟩, .inl rfl, .inl rfl, trivial⟩⟩, trivial⟩) ?_
  refine b_of (nrm [oc b2 [slv rT_api_Premise t4, pv (χ3 5).V.1, pv (χ3 8).V.1], oc (χ3 10).Nn [slv rT_api_Premise t4, pv (χ3 5).V.1, pv (χ3 8).V.1], dead, oa rT_api_Rule (χ3 5).V.1 (χ3 5).V.2 q140, oa rT_api_Promotion (χ3 8).V.1 (χ3 8).V.2 t8] rfl) ?_
  refine b_of (frzGL [(68, ag [slv rT_api_Premise t4, pv (χ3 5).V.1, slv rT_api_Promotion t8])] [(0, b2, [slv rT_api_Premise t4, pv (χ3 5).V.1, slv rT_api_Promotion t8]), (1, (χ3 10).Nn, [slv rT_api_Premise t4, pv (χ3 5).V.1, slv rT_api_Promotion t8])] (j := 4) rfl ⟨⟨_, rfl, .inr ⟨_, _, rfl, rfl, ⟨.inl rfl, .inl rfl, .inr ⟨rfl, rfl⟩, trivial⟩⟩⟩, trivial⟩ ⟨⟨_, rfl, ⟨.inl rfl, .inl rfl, .inr ⟨rfl, rfl⟩, trivial⟩⟩, ⟨_, rfl, ⟨.inl rfl, .inl rfl, .inr ⟨rfl, rfl⟩, trivial⟩⟩, trivial⟩) ?_
  refine b_of (nrm [oc b2 [slv rT_api_Premise t4, pv (χ3 5).V.1, slv rT_api_Promotion t8], oc (χ3 10).Nn [slv rT_api_Premise t4, pv (χ3 5).V.1, slv rT_api_Promotion t8], dead, oa rT_api_Rule (χ3 5).V.1 (χ3 5).V.2 q140, dead] rfl) ?_
  exact fin1 (.inl rfl) (χ3 5).V [3] rfl ⟨rfl, trivial⟩ rfl (rv_cell rfl (j := 0) rfl Tryd.isAgg29 Tryd.sizeOf29 rfl rfl)

/-! slices.Delete[[]deliberation/api.Literal,deliberation/api.Literal] -/
def slices_Delete_api_Literal_api_Literal_m (s : List T_api_Literal) (i j : Int) : Option (List T_api_Literal) := delM s i j

theorem slices_Delete_api_Literal_api_Literal_ok {s_0 : (List T_api_Literal)} {i_1 : Int} {j_2 : Int} {h_0 : Value × List Nat} {r : List T_api_Literal} (hm : slices_Delete_api_Literal_api_Literal_m s_0 i_1 j_2 = some r) :
    FnOk prog 56 [pv h_0.1, iv .i64 i_1, iv .i64 j_2] [oa rT_api_Literal h_0.1 h_0.2 s_0] (fun (x : Value × List Nat) => [pv x.1]) (fun (x : Value × List Nat) => [oa rT_api_Literal x.1 x.2 r]) := by
  obtain ⟨h0, h1, h2, rfl⟩ := delM_some hm
  refine fn_ok (X := Value × List Nat) (fn := Tryd.f56) (N := 33) (m := some ()) (r := ()) (res := fun _ x => [pv x.1]) (Ω1 := fun _ x => [oa rT_api_Literal x.1 x.2 (s_0.take (Int.toNat i_1) ++ s_0.drop (Int.toNat j_2))]) Tryd.func56 rfl rfl rfl rfl (fun E hM => ?_)
  refine ref_seq (ref_region ?_)
  refine as1 rfl rfl ?_
  refine l_nil (n_then (ref_seq (ref_region ?_)))
  refine mv1 rfl rfl ?_
  refine mv1 rfl rfl ?_
  refine mv1 rfl rfl ?_
  refine mv1 rfl rfl ?_
  refine s_rd (r_olen Tryd.underlying31 rfl (j := 0) rfl) rfl ?_
  refine s_rd (r_sub3 h0 h1 h2 (Int.le_refl _) Tryd.underlying31 el_35 rfl (j := 0) rfl rfl rfl rfl) rfl ?_
  refine l_nil (n_then (ref_seq (ref_seq (ref_region ?_))))
  refine mv1 rfl rfl ?_
  refine mv1 rfl rfl ?_
  refine s_rd (r_eql rfl rfl) rfl ?_
  refine l_nil (n_then ?_)
  refine ref_condE rfl (fun hb16 => ?_) (fun hb16 => ?_)
  · refine ref_seq (ref_region ?_)
    refine mv1 rfl rfl ?_
    refine as1 rfl rfl ?_
    refine l_nil (n_then (ref_ret (r_then ?_)))
    refine b_of (odata (j := 0) rfl (del_same (by simpa using hb16))) ?_
    exact fin1 (.inl rfl) h_0 [0] rfl ⟨rfl, trivial⟩ rfl (rv_tmp rfl)
  refine ref_skip (n_then (ref_seq (ref_region ?_)))
  refine mv1 rfl rfl ?_
  refine s_rd (r_olen Tryd.underlying31 rfl (j := 0) rfl) rfl ?_
  refine as1 rfl rfl ?_
  refine l_nil (n_then (ref_seq ?_))
  refine ref_draw [0, 1, 2, 3, 4, 5] rfl (by kernel_rfl) (fun hok => ?_)
  refine a_rd (i := 0) hok rfl (by kernel_rfl) rfl (r_move rfl) rfl ?_
  refine a_rd (i := 1) hok rfl (by kernel_rfl) rfl (r_move rfl) rfl ?_
  refine a_rd (i := 2) hok rfl (by kernel_rfl) rfl (r_osub (slM0 h0 (by omega)) Tryd.underlying31 el_35 rfl (j := 0) rfl .dft (.of rfl)) rfl ?_
  refine a_rd (i := 3) hok rfl (by kernel_rfl) rfl (r_move rfl) rfl ?_
  refine a_rd (i := 4) hok rfl (by kernel_rfl) rfl (r_move rfl) rfl ?_
  refine a_rd (i := 5) hok rfl (by kernel_rfl) rfl (r_osub (slME (by omega) h2) Tryd.underlying31 el_35 rfl (j := 0) rfl (.of rfl) .dft) rfl ?_
  refine a_next hok 6 [] (by kernel_rfl) ?_ trivial
  refine a_st (i := 6) hok rfl rfl (s_appendSS (i := Int.toNat i_1) (k := Int.toNat j_2) (by have hne : ¬ i_1 = j_2 := (by simpa using hb16); omega) (by omega) Tryd.underlying31 el_35 rfl rfl (j := 0) rfl) (by intro _ h; cases h; rfl) (fun _ => ⟨trivial, ⟨trivial, ⟨trivial, ⟨trivial, ⟨trivial, ⟨trivial, trivial⟩⟩⟩⟩⟩⟩) (fun _ => ?_)
  refine a_next hok 7 [] (by kernel_rfl) ?_ trivial
  refine a_st (i := 7) hok rfl rfl (St.ofRd (r_assign rfl)) (by intro _ h; cases h; rfl) (fun _ => ⟨trivial, ⟨trivial, ⟨trivial, ⟨trivial, ⟨trivial, ⟨trivial, trivial⟩⟩⟩⟩⟩⟩) (fun _ => ?_)
  refine a_fin hok (by kernel_rfl) ?_
  refine n_then (ref_seq (ref_region ?_))
  refine mv1 rfl rfl ?_
  refine mv1 rfl rfl ?_
  refine s_rd ((r_subLen (l := 0) (m := (Int.toNat i_1 + (s_0.length - Int.toNat j_2))) Tryd.underlying31 rfl (j := 0) rfl).to (ψ := iv .i64 (((Int.toNat i_1 + (s_0.length - Int.toNat j_2)) : Nat) : Int)) rfl) rfl ?_
  refine mv1 rfl rfl ?_
  refine s_rd (r_sub2 (l := (((Int.toNat i_1 + (s_0.length - Int.toNat j_2)) : Nat) : Int)) (m := (s_0.length : Int)) (k := (Int.toNat i_1 + (s_0.length - Int.toNat j_2))) (by omega) (by have hne : ¬ i_1 = j_2 := (by simpa using hb16); omega) (.inr (by rw [del_len (by omega) (by omega)]; omega)) Tryd.underlying31 el_35 rfl (j := 0) rfl (.of rfl) (.of rfl)) rfl ?_
  refine s_st0 (s_clear (l := (((Int.toNat i_1 + (s_0.length - Int.toNat j_2)) : Nat) : Int)) (m := (s_0.length : Int)) (slM_eq (by omega) (by have hne : ¬ i_1 = j_2 := (by simpa using hb16); omega) (by rw [del_len (by omega) (by omega)]; omega)) Tryd.underlying31 el_35 ze_35 rfl (j := 0) rfl) (fun _ => ?_)
  refine l_nil (n_then (ref_seq (ref_region ?_)))
  refine mv1 rfl rfl ?_
  refine as1 rfl rfl ?_
  refine l_nil (n_then (ref_ret ?_))
  refine b_of (b_cut (m := (Int.toNat i_1 + (s_0.length - Int.toNat j_2))) (by simp; omega) (j := 0) rfl) ?_
  refine b_of (odata (j := 0) rfl (del_cut2 (by omega) (by omega))) ?_
  exact fin1 (.inl rfl) ((subV h_0.1 (rT_api_Literal).size 0 (Int.toNat i_1 + (s_0.length - Int.toNat j_2))), h_0.2) [0] rfl ⟨rfl, trivial⟩ rfl (rv_tmp rfl)

/-! deliberation/literal.Complement -/
noncomputable def literal_Complement_m (x_0 : T_api_Literal) : Option (T_api_Literal) :=
  some (T_api_Literal.mk (!x_0.Neg) x_0.Name)

theorem literal_Complement_ok {x_0 : T_api_Literal} {r : T_api_Literal} (hm : literal_Complement_m x_0 = some r) :
    FnOk prog 57 [ag [bv x_0.Neg, sv x_0.Name]] [] (fun (x : Unit) => [ag [bv r.Neg, sv r.Name]]) (fun (x : Unit) => []) := by
  refine fn_ok (fn := Tryd.f57) (N := 8) (res := fun r x => [ag [bv r.Neg, sv r.Name]]) (Ω1 := fun r x => []) Tryd.func57 rfl rfl hm rfl (fun E hM => ?_)
  unfold literal_Complement_m
  refine ref_seq (ref_region ?_)
  refine s_st (s_box (part_agO (ψs := [bv x_0.Neg, sv x_0.Name]) rfl ⟨.inl bv_at, .inl sv_at, trivial⟩)) rfl (fun b1 => ?_)
  refine s_st (s_alloc zt_35) rfl (fun b2 => ?_)
  refine l_nil (n_then (ref_seq (ref_region ?_)))
  refine s_rd (r_faddr (fo := 0) Tryd.underlying35 rfl rfl Tryd.sizeOf4 rfl) rfl ?_
  refine s_rd (r_cload Tryd.isAgg4 rfl (j := 0) rfl rfl) rfl ?_
  refine s_rd (r_not rfl) rfl ?_
  refine s_rd (r_faddr (fo := 0) Tryd.underlying35 rfl rfl Tryd.sizeOf4 rfl) rfl ?_
  refine s_st0 (s_cstore (out := [bv (!x_0.Neg), sv x_0.Name]) Tryd.sizeOf4 rfl (j := 0) rfl (part_at rfl bv_at) rfl rfl rfl) (fun _ => ?_)
  refine l_nil (n_then (ref_seq (ref_region ?_)))
  refine s_rd (r_cloadS Tryd.isAgg35 Tryd.sizeOf35 rfl (j := 0) rfl rfl rfl) rfl ?_
  refine s_st0 (s_cstore (out := [bv (!x_0.Neg), sv x_0.Name]) Tryd.sizeOf35 rfl (j := 1) rfl (part_agO (ψs := [bv (!x_0.Neg), sv x_0.Name]) rfl ⟨.inl bv_at, .inl sv_at, trivial⟩) rfl rfl rfl) (fun _ => ?_)
  refine l_nil ?_
  refine b_of (nrm [oc b1 [bv (!x_0.Neg), sv x_0.Name], oc b2 [bv (!x_0.Neg), sv x_0.Name]] rfl) ?_
  refine n_then (ref_ret ?_)
  exact fin1 (.inl rfl) () [] rfl trivial rfl (rv_cell rfl (j := 1) rfl Tryd.isAgg35 Tryd.sizeOf35 rfl rfl)

/-! deliberation/strict.transposes -/
noncomputable def strict_transposes_l1 (r__0 : T_api_Rule) (s34 : Int × (List T_api_Rule)) : Option (Sum ((List T_api_Rule)) (Int × (List T_api_Rule))) :=
  bif decide (s34.1 < (r__0.Body.length : Int)) then
    Option.bind (idxM r__0.Body s34.1) fun t37 =>
    Option.bind (slices_Clone_api_Literal_api_Literal_m r__0.Body) fun t39 =>
    Option.bind (slices_Delete_api_Literal_api_Literal_m t39 s34.1 (iadd .i64 s34.1 1)) fun body41 =>
    Option.bind (literal_Complement_m r__0.Head) fun t43 =>
    Option.bind (appM 24 body41 [t43]) fun t44 =>
    Option.bind (literal_Normal_m t44) fun body46 =>
    Option.bind (literal_Complement_m t37) fun t47 =>
    Option.bind (appM 80 s34.2 [(T_api_Rule.mk ByteArray.empty true 0 body46 t47)]) fun out48 =>
    some (Sum.inr (iadd .i64 s34.1 1, out48))
  else
    some (Sum.inl s34.2)

noncomputable def strict_transposes_m (r__0 : T_api_Rule) : Option (List T_api_Rule) :=
  Option.bind (loopC (strict_transposes_l1 r__0) (0, [])) fun q50 : (List T_api_Rule) =>
  some q50

theorem strict_transposes_ok {r__0 : T_api_Rule} {r : List T_api_Rule} (hm : strict_transposes_m r__0 = some r) :
    FnOk prog 33 [ag [sv r__0.Name, bv r__0.Strict, iv .i64 r__0.Rank, slv rT_api_Literal r__0.Body, bv r__0.Head.Neg, sv r__0.Head.Name]] [] (fun (x : (Value × List Nat)) => [pv x.1]) (fun (x : (Value × List Nat)) => [oa rT_api_Rule x.1 x.2 r]) := by
  refine fn_ok (X := (Value × List Nat)) (fn := Tryd.f33) (N := 38) (res := fun r x => [pv x.1]) (Ω1 := fun r x => [oa rT_api_Rule x.1 x.2 r]) Tryd.func33 rfl rfl hm rfl (fun E hM => ?_)
  unfold strict_transposes_m
  refine ref_seq (ref_region ?_)
  refine s_st (s_box (part_agO (ψs := [sv r__0.Name, bv r__0.Strict, iv .i64 r__0.Rank, slv rT_api_Literal r__0.Body, bv r__0.Head.Neg, sv r__0.Head.Name]) rfl ⟨.inl sv_at, .inl bv_at, .inl iv_at, .inl slv_at, .inl bv_at, .inl sv_at, trivial⟩)) rfl (fun b1 => ?_)
  refine as1 rfl rfl ?_
  refine l_nil (n_then (ref_seq (ref_region ?_)))
  refine as1 rfl rfl ?_
  refine l_nil (n_then (ref_seq (ref_seq (ref_region ?_))))
  refine s_rd (r_faddr (fo := 3) Tryd.underlying40 rfl rfl Tryd.sizeOf31 rfl) rfl ?_
  refine s_rd (r_cload Tryd.isAgg31 rfl (j := 0) rfl rfl) rfl ?_
  refine s_rd (r_len Tryd.underlying31 rfl) rfl ?_
  refine mv1 rfl rfl ?_
  refine l_nil (n_then ?_)
  refine b_of (own_nil rT_api_Rule) ?_
  refine ref_loopB (f := (strict_transposes_l1 r__0)) (Γl := (fun (s34 : Int × (List T_api_Rule)) (x35 : (Value × List Nat)) => [(1, pv (ptr b1 0)), (3, pv x35.1), (8, slv rT_api_Literal r__0.Body), (9, iv .i64 (r__0.Body.length : Int)), (10, iv .i64 s34.1)])) (Ωl := (fun (s34 : Int × (List T_api_Rule)) (x35 : (Value × List Nat)) => [oc b1 [sv r__0.Name, bv r__0.Strict, iv .i64 r__0.Rank, slv rT_api_Literal r__0.Body, bv r__0.Head.Neg, sv r__0.Head.Name], oa rT_api_Rule x35.1 x35.2 s34.2])) (Γb := (fun (q50 : (List T_api_Rule)) (y51 : (Value × List Nat)) => [(3, pv y51.1)])) (Ωb := (fun (q50 : (List T_api_Rule)) (y51 : (Value × List Nat)) => [oa rT_api_Rule y51.1 y51.2 q50])) (0, []) ((.slice none 0 0), []) (weak [0, 1] ⟨rfl, rfl, rfl, rfl, rfl, trivial⟩ ⟨rfl, rfl, trivial⟩) (fun s34 x35 => ?_) (fun q50 y51 => ?_)
  · unfold strict_transposes_l1
    refine ref_seq (ref_region ?_)
    refine s_rd (r_lss rfl rfl) rfl ?_
    refine l_nil (n_then (ref_seq ?_))
    refine ref_cond rfl (fun hb36 => ?_) (fun hb36 => ?_)
    · refine ref_skip (n_then (ref_seq (ref_block (ref_seq (ref_region ?_)))))
      refine mv1 rfl rfl ?_
      refine pull fun t37 h_t37 => ?_
      refine s_rd (r_index h_t37 Tryd.underlying31 el_35 rfl rfl) rfl ?_
      refine s_rd (r_load el_35 rfl) rfl ?_
      refine s_st (s_alloc zt_35) rfl (fun b38 => ?_)
      refine as1 rfl rfl ?_
      refine s_st0 (s_cstore (out := [bv t37.Neg, sv t37.Name]) Tryd.sizeOf35 rfl (j := 2) rfl (part_agO (ψs := [bv t37.Neg, sv t37.Name]) rfl ⟨.inl bv_at, .inl sv_at, trivial⟩) rfl rfl rfl) (fun _ => ?_)
      refine l_nil (n_then (ref_seq (ref_region ?_)))
      refine s_rd (r_faddr (fo := 3) Tryd.underlying40 rfl rfl Tryd.sizeOf31 rfl) rfl ?_
      refine s_rd (r_cload Tryd.isAgg31 rfl (j := 0) rfl rfl) rfl ?_
      refine pull fun t39 h_t39 => ?_
      refine s_st (s_call (ψ := fun (x40 : (Value × List Nat)) => pv x40.1) (args := [.tmp 16]) Tryd.call40 rfl (slices_Clone_api_Literal_api_Literal_ok h_t39) ⟨arg rfl, trivial⟩ (fun _ _ _ _ h => h)) rfl (fun x40 => ?_)
      refine mv1 rfl rfl ?_
      refine mv1 rfl rfl ?_
      refine s_rd (r_add rfl rfl) rfl ?_
      refine pull fun body41 h_body41 => ?_
      refine s_st (s_callC [3] [false] (fun (x42 : (Value × List Nat)) => [dead]) (fun (x42 : (Value × List Nat)) => [oa rT_api_Literal x42.1 x42.2 body41]) (fun (x42 : (Value × List Nat)) => pv x42.1) (args := [.tmp 17, .tmp 18, .tmp 20]) (caps := []) Tryd.call56 rfl (slices_Delete_api_Literal_api_Literal_ok h_body41) ⟨rfl, rfl, trivial⟩ (fun _ => rfl) (fun _ => ⟨rfl, trivial⟩) (fun _ => rfl) ⟨arg rfl, arg rfl, arg rfl, trivial⟩ (fun _ _ _ _ h => h)) rfl (fun x42 => ?_)
      refine as1 rfl rfl ?_
      refine l_nil ?_
      refine b_of (nrm [oc b1 [sv r__0.Name, bv r__0.Strict, iv .i64 r__0.Rank, slv rT_api_Literal r__0.Body, bv r__0.Head.Neg, sv r__0.Head.Name], oa rT_api_Rule x35.1 x35.2 s34.2, oc b38 [bv t37.Neg, sv t37.Name], dead, oa rT_api_Literal x42.1 x42.2 body41] rfl) ?_
      refine n_then (ref_seq (ref_region ?_))
      refine mv1 rfl rfl ?_
      refine s_rd (r_faddr (fo := 4) Tryd.underlying40 rfl rfl Tryd.sizeOf35 rfl) rfl ?_
      refine s_rd (r_cloadS Tryd.isAgg35 Tryd.sizeOf35 rfl (j := 0) rfl rfl rfl) rfl ?_
      refine pull fun t43 h_t43 => ?_
      refine s_st (s_call (ψ := fun (_ : Unit) => ag [bv t43.Neg, sv t43.Name]) (args := [.tmp 24]) Tryd.call57 rfl (literal_Complement_ok h_t43) ⟨arg rfl, trivial⟩ (fun _ _ _ _ h => h)) rfl (fun _ => ?_)
      refine s_st (s_bslice (xs := [.tmp 25]) (ds := [t43]) Tryd.underlying31 el_35 rfl (Nat.le_of_ble_eq_true rfl) ⟨(part_agO (ψs := [bv t43.Neg, sv t43.Name]) rfl ⟨.inl bv_at, .inl sv_at, trivial⟩), trivial⟩) rfl (fun _ => ?_)
      refine pull fun t44 h_t44 => ?_
      refine s_st (s_append h_t44 Tryd.underlying31 el_35 rfl (j := 4) rfl rfl) rfl (fun o45 => ?_)
      refine b_of (frzL [27] (j := 4) rfl ⟨rfl, trivial⟩) ?_
      refine pull fun body46 h_body46 => ?_
      refine s_st (s_call (ψ := fun (_ : Unit) => slv rT_api_Literal body46) (args := [.tmp 27]) Tryd.call24 rfl (literal_Normal_ok h_body46) ⟨arg rfl, trivial⟩ (fun _ _ _ _ h => h)) rfl (fun _ => ?_)
      refine as1 rfl rfl ?_
      refine l_nil ?_
      refine b_of (nrm [oc b1 [sv r__0.Name, bv r__0.Strict, iv .i64 r__0.Rank, slv rT_api_Literal r__0.Body, bv r__0.Head.Neg, sv r__0.Head.Name], oa rT_api_Rule x35.1 x35.2 s34.2, oc b38 [bv t37.Neg, sv t37.Name], dead, dead] rfl) ?_
      refine n_then (ref_region ?_)
      refine mv1 rfl rfl ?_
      refine mv1 rfl rfl ?_
      refine s_rd (r_cloadS Tryd.isAgg35 Tryd.sizeOf35 rfl (j := 2) rfl rfl rfl) rfl ?_
      refine pull fun t47 h_t47 => ?_
      refine s_st (s_call (ψ := fun (_ : Unit) => ag [bv t47.Neg, sv t47.Name]) (args := [.tmp 31]) Tryd.call57 rfl (literal_Complement_ok h_t47) ⟨arg rfl, trivial⟩ (fun _ _ _ _ h => h)) rfl (fun _ => ?_)
      refine s_rd (r_build (ps := [(1, .const (.bool true)), (3, .tmp 30), (4, .tmp 32)]) (rs := [(1, [bv true]), (3, [slv rT_api_Literal body46]), (4, [bv t47.Neg, sv t47.Name])]) st_40 zs_40 ⟨rfl, (part_at rfl bv_at), ⟨rfl, (part_at rfl slv_at), ⟨rfl, (part_agO (ψs := [bv t47.Neg, sv t47.Name]) rfl ⟨.inl bv_at, .inl sv_at, trivial⟩), trivial⟩⟩⟩ rfl rfl) rfl ?_
      refine s_st (s_bslice (xs := [.tmp 33]) (ds := [(T_api_Rule.mk ByteArray.empty true 0 body46 t47)]) Tryd.underlying26 el_40 rfl (Nat.le_of_ble_eq_true rfl) ⟨(part_agO (ψs := [sv ByteArray.empty, bv true, iv .i64 0, slv rT_api_Literal body46, bv t47.Neg, sv t47.Name]) rfl ⟨.inl sv_at, .inl bv_at, .inl iv_at, .inl slv_at, .inl bv_at, .inl sv_at, trivial⟩), trivial⟩) rfl (fun _ => ?_)
      refine pull fun out48 h_out48 => ?_
      refine s_st (s_append h_out48 Tryd.underlying26 el_40 rfl (j := 1) rfl rfl) rfl (fun o49 => ?_)
      refine as1 rfl rfl ?_
      refine l_nil (n_block (n_then (ref_region ?_)))
      refine s_rd (r_add rfl rfl) rfl ?_
      refine mv1 rfl rfl ?_
      refine l_nil ?_
      exact goB o49 (weak [0, 1] ⟨rfl, rfl, rfl, rfl, rfl, trivial⟩ ⟨rfl, rfl, trivial⟩)
    refine ref_exit (x_then ?_)
    exact brkB x35 (weak [1] ⟨rfl, trivial⟩ ⟨rfl, trivial⟩)
  refine n_then (ref_seq (ref_region ?_))
  refine mv1 rfl rfl ?_
  refine as1 rfl rfl ?_
  refine l_nil (n_then (ref_ret ?_))
  exact fin1 (.inl rfl) y51 [0] rfl ⟨rfl, trivial⟩ rfl (rv_tmp rfl)

/-! slices.Equal[[]deliberation/api.Literal,deliberation/api.Literal] -/
noncomputable def slices_Equal_api_Literal_api_Literal_l1 (s1_0 : (List T_api_Literal)) (s2_1 : (List T_api_Literal)) (s8 : Int) : Option (Sum ((Sum (Bool) (Unit))) (Int)) :=
  bif decide (s8 < (s1_0.length : Int)) then
    Option.bind (idxM s1_0 s8) fun t11 =>
    Option.bind (idxM s2_1 s8) fun t12 =>
    bif !decide (t11 = t12) then
      some (Sum.inl (Sum.inl false))
    else
      some (Sum.inr (iadd .i64 s8 1))
  else
    some (Sum.inl (Sum.inr ()))

noncomputable def slices_Equal_api_Literal_api_Literal_m (s1_0 : (List T_api_Literal)) (s2_1 : (List T_api_Literal)) : Option (Bool) :=
  bif (s1_0.length : Int) != (s2_1.length : Int) then
    some false
  else
    Option.bind (loopC (slices_Equal_api_Literal_api_Literal_l1 s1_0 s2_1) 0) (sumK (fun a : Bool => some a) fun q14 : Unit =>
      some true)

theorem slices_Equal_api_Literal_api_Literal_ok {s1_0 : (List T_api_Literal)} {s2_1 : (List T_api_Literal)} {r : Bool} (hm : slices_Equal_api_Literal_api_Literal_m s1_0 s2_1 = some r) :
    FnOk prog 60 [slv rT_api_Literal s1_0, slv rT_api_Literal s2_1] [] (fun (x : Unit) => [bv r]) (fun (x : Unit) => []) := by
  refine fn_ok (fn := Tryd.f60) (N := 26) (res := fun r x => [bv r]) (Ω1 := fun r x => []) Tryd.func60 rfl rfl hm rfl (fun E hM => ?_)
  unfold slices_Equal_api_Literal_api_Literal_m
  refine ref_seq (ref_region ?_)
  refine as1 rfl rfl ?_
  refine l_nil (n_then (ref_seq (ref_seq (ref_region ?_))))
  refine mv1 rfl rfl ?_
  refine s_rd (r_len Tryd.underlying31 rfl) rfl ?_
  refine mv1 rfl rfl ?_
  refine s_rd (r_len Tryd.underlying31 rfl) rfl ?_
  refine s_rd (r_neq rfl rfl) rfl ?_
  refine l_nil (n_then ?_)
  refine ref_cond rfl (fun hb1 => ?_) (fun hb1 => ?_)
  · refine ref_seq (ref_region ?_)
    refine as1 rfl rfl ?_
    refine l_nil (n_then (ref_ret (r_then ?_)))
    exact fin1 (.inl rfl) () [] rfl trivial rfl (rv_tmp rfl)
  refine ref_skip (n_then (ref_seq (ref_seq (ref_region ?_))))
  refine mv1 rfl rfl ?_
  refine s_rd (r_len Tryd.underlying31 rfl) rfl ?_
  refine mv1 rfl rfl ?_
  refine l_nil (n_then ?_)
  refine ref_loopX (f := (slices_Equal_api_Literal_api_Literal_l1 s1_0 s2_1)) (Γl := (fun (s8 : Int) (x9 : Unit) => [(0, slv rT_api_Literal s1_0), (1, slv rT_api_Literal s2_1), (12, iv .i64 (s1_0.length : Int)), (13, iv .i64 s8)])) (Ωl := (fun (s8 : Int) (x9 : Unit) => [])) (Γb := (fun (q14 : Unit) (y15 : Unit) => [])) (Ωb := (fun (q14 : Unit) (y15 : Unit) => [])) (kr := (fun a : Bool => some a)) 0 () (weak [] ⟨rfl, rfl, rfl, rfl, trivial⟩ trivial) (fun s8 x9 => ?_) (fun q14 y15 => ?_)
  · unfold slices_Equal_api_Literal_api_Literal_l1
    refine ref_seq (ref_region ?_)
    refine s_rd (r_lss rfl rfl) rfl ?_
    refine l_nil (n_then (ref_seq ?_))
    refine ref_cond rfl (fun hb10 => ?_) (fun hb10 => ?_)
    · refine ref_skip (n_then (ref_seq (ref_block (ref_seq (ref_region ?_)))))
      refine mv1 rfl rfl ?_
      refine as1 rfl rfl ?_
      refine l_nil (n_then (ref_seq ?_))
      refine ref_draw [0, 1, 2, 3, 4, 5, 6, 7, 8] rfl (by kernel_rfl) (fun hok => ?_)
      refine a_rd (i := 0) hok rfl (by kernel_rfl) rfl (r_move rfl) rfl ?_
      refine a_rd (i := 1) hok rfl (by kernel_rfl) rfl (r_move rfl) rfl ?_
      refine pull fun t11 h_t11 => ?_
      refine a_rd (i := 2) hok rfl (by kernel_rfl) rfl (r_index h_t11 Tryd.underlying31 el_35 rfl rfl) rfl ?_
      refine a_rd (i := 3) hok rfl (by kernel_rfl) rfl (r_load el_35 rfl) rfl ?_
      refine a_rd (i := 4) hok rfl (by kernel_rfl) rfl (r_move rfl) rfl ?_
      refine a_rd (i := 5) hok rfl (by kernel_rfl) rfl (r_move rfl) rfl ?_
      refine pull fun t12 h_t12 => ?_
      refine a_rd (i := 6) hok rfl (by kernel_rfl) rfl (r_index h_t12 Tryd.underlying31 el_35 rfl rfl) rfl ?_
      refine a_rd (i := 7) hok rfl (by kernel_rfl) rfl (r_load el_35 rfl) rfl ?_
      refine a_rd (i := 8) hok rfl (by kernel_rfl) rfl (r_stneq (u := t11) (v := t12) eq_35 rfl rfl rfl rfl) rfl ?_
      refine a_fin hok (by kernel_rfl) ?_
      refine n_then ?_
      refine ref_cond rfl (fun hb13 => ?_) (fun hb13 => ?_)
      · refine ref_seq (ref_region ?_)
        refine as1 rfl rfl ?_
        refine l_nil (n_then (ref_ret (r_block (r_then ?_))))
        refine retX ?_
        refine r_block (r_then ?_)
        exact fin1 (.inl rfl) () [] rfl trivial rfl (rv_tmp rfl)
      refine ref_skip (n_block (n_then (ref_region ?_)))
      refine s_rd (r_add rfl rfl) rfl ?_
      refine mv1 rfl rfl ?_
      refine l_nil ?_
      exact goX () (weak [] ⟨rfl, rfl, rfl, rfl, trivial⟩ trivial)
    refine ref_exit (x_then ?_)
    exact brkX () (weak [] trivial trivial)
  refine n_then (ref_seq (ref_region ?_))
  refine as1 rfl rfl ?_
  refine l_nil (n_then (ref_ret ?_))
  exact fin1 (.inl rfl) () [] rfl trivial rfl (rv_tmp rfl)

/-! deliberation/strict.alike -/
noncomputable def strict_alike_m (r__0 : T_api_Rule) : Option (T_api_Rule) :=
  some r__0

theorem strict_alike_ok {r__0 : T_api_Rule} {r : T_api_Rule} (hm : strict_alike_m r__0 = some r) :
    FnOk prog 35 [ag [sv r__0.Name, bv r__0.Strict, iv .i64 r__0.Rank, slv rT_api_Literal r__0.Body, bv r__0.Head.Neg, sv r__0.Head.Name]] [] (fun (x : Nat) => [pv (.func (.func 59) #[] #[(ptr x 0)])]) (fun (x : Nat) => [oc x [sv r.Name, bv r.Strict, iv .i64 r.Rank, slv rT_api_Literal r.Body, bv r.Head.Neg, sv r.Head.Name]]) := by
  refine fn_ok (X := Nat) (fn := Tryd.f35) (N := 4) (res := fun r x => [pv (.func (.func 59) #[] #[(ptr x 0)])]) (Ω1 := fun r x => [oc x [sv r.Name, bv r.Strict, iv .i64 r.Rank, slv rT_api_Literal r.Body, bv r.Head.Neg, sv r.Head.Name]]) Tryd.func35 rfl rfl hm rfl (fun E hM => ?_)
  unfold strict_alike_m
  refine ref_seq (ref_region ?_)
  refine s_st (s_box (part_agO (ψs := [sv r__0.Name, bv r__0.Strict, iv .i64 r__0.Rank, slv rT_api_Literal r__0.Body, bv r__0.Head.Neg, sv r__0.Head.Name]) rfl ⟨.inl sv_at, .inl bv_at, .inl iv_at, .inl slv_at, .inl bv_at, .inl sv_at, trivial⟩)) rfl (fun b1 => ?_)
  refine as1 rfl rfl ?_
  refine l_nil (n_then (ref_seq (ref_region ?_)))
  refine s_rd (r_mkfn (xs := [.tmp 1]) (vs := [(ptr b1 0)]) ⟨rfl, trivial⟩) rfl ?_
  refine as1 rfl rfl ?_
  refine l_nil (n_then (ref_ret ?_))
  exact fin1 (.inl rfl) b1 [0] rfl ⟨rfl, trivial⟩ rfl (rv_tmp rfl)

/-! internal/strconv.small -/
noncomputable def internal_strconv_small_m (i_0 : Int) : Option (ByteArray) :=
  bif decide (i_0 < 10) then
    Option.bind (ssubM (ByteArray.mk #[48, 49, 50, 51, 52, 53, 54, 55, 56, 57, 97, 98, 99, 100, 101, 102, 103, 104, 105, 106, 107, 108, 109, 110, 111, 112, 113, 114, 115, 116, 117, 118, 119, 120, 121, 122]) i_0 (iadd .i64 i_0 1)) fun t2 =>
    some t2
  else
    Option.bind (ssubM (ByteArray.mk #[48, 48, 48, 49, 48, 50, 48, 51, 48, 52, 48, 53, 48, 54, 48, 55, 48, 56, 48, 57, 49, 48, 49, 49, 49, 50, 49, 51, 49, 52, 49, 53, 49, 54, 49, 55, 49, 56, 49, 57, 50, 48, 50, 49, 50, 50, 50, 51, 50, 52, 50, 53, 50, 54, 50, 55, 50, 56, 50, 57, 51, 48, 51, 49, 51, 50, 51, 51, 51, 52, 51, 53, 51, 54, 51, 55, 51, 56, 51, 57, 52, 48, 52, 49, 52, 50, 52, 51, 52, 52, 52, 53, 52, 54, 52, 55, 52, 56, 52, 57, 53, 48, 53, 49, 53, 50, 53, 51, 53, 52, 53, 53, 53, 54, 53, 55, 53, 56, 53, 57, 54, 48, 54, 49, 54, 50, 54, 51, 54, 52, 54, 53, 54, 54, 54, 55, 54, 56, 54, 57, 55, 48, 55, 49, 55, 50, 55, 51, 55, 52, 55, 53, 55, 54, 55, 55, 55, 56, 55, 57, 56, 48, 56, 49, 56, 50, 56, 51, 56, 52, 56, 53, 56, 54, 56, 55, 56, 56, 56, 57, 57, 48, 57, 49, 57, 50, 57, 51, 57, 52, 57, 53, 57, 54, 57, 55, 57, 56, 57, 57]) (imul .i64 i_0 2) (iadd .i64 (imul .i64 i_0 2) 2)) fun t3 =>
    some t3

theorem internal_strconv_small_ok {i_0 : Int} {r : ByteArray} (hm : internal_strconv_small_m i_0 = some r) :
    FnOk prog 92 [iv .i64 i_0] [] (fun (x : Unit) => [sv r]) (fun (x : Unit) => []) := by
  refine fn_ok (fn := Tryd.f92) (N := 15) (res := fun r x => [sv r]) (Ω1 := fun r x => []) Tryd.func92 rfl rfl hm rfl (fun E hM => ?_)
  unfold internal_strconv_small_m
  refine ref_seq (ref_region ?_)
  refine as1 rfl rfl ?_
  refine l_nil (n_then (ref_seq (ref_seq (ref_region ?_))))
  refine mv1 rfl rfl ?_
  refine s_rd (r_lss rfl rfl) rfl ?_
  refine l_nil (n_then ?_)
  refine ref_cond rfl (fun hb1 => ?_) (fun hb1 => ?_)
  · refine ref_seq (ref_region ?_)
    refine mv1 rfl rfl ?_
    refine mv1 rfl rfl ?_
    refine s_rd (r_add rfl rfl) rfl ?_
    refine pull fun t2 h_t2 => ?_
    refine s_rd (r_ssub h_t2 Tryd.underlying9 rfl (.of rfl) (.of rfl)) rfl ?_
    refine as1 rfl rfl ?_
    refine l_nil (n_then (ref_ret (r_then ?_)))
    exact fin1 (.inl rfl) () [] rfl trivial rfl (rv_tmp rfl)
  refine ref_skip (n_then (ref_seq (ref_region ?_)))
  refine mv1 rfl rfl ?_
  refine s_rd (r_mul rfl rfl) rfl ?_
  refine mv1 rfl rfl ?_
  refine s_rd (r_mul rfl rfl) rfl ?_
  refine s_rd (r_add rfl rfl) rfl ?_
  refine pull fun t3 h_t3 => ?_
  refine s_rd (r_ssub h_t3 Tryd.underlying9 rfl (.of rfl) (.of rfl)) rfl ?_
  refine as1 rfl rfl ?_
  refine l_nil (n_then (ref_ret ?_))
  exact fin1 (.inl rfl) () [] rfl trivial rfl (rv_tmp rfl)

/-! internal/strconv.log10Pow2 -/
noncomputable def internal_strconv_log10Pow2_m (x_0 : Int) : Option (Int) :=
  letM (ishr .i64 (imul .i64 x_0 78913) 18) fun t1 =>
  some t1

theorem internal_strconv_log10Pow2_ok {x_0 : Int} {r : Int} (hm : internal_strconv_log10Pow2_m x_0 = some r) :
    FnOk prog 97 [iv .i64 x_0] [] (fun (x : Unit) => [iv .i64 r]) (fun (x : Unit) => []) := by
  refine fn_ok (fn := Tryd.f97) (N := 6) (res := fun r x => [iv .i64 r]) (Ω1 := fun r x => []) Tryd.func97 rfl rfl hm rfl (fun E hM => ?_)
  unfold internal_strconv_log10Pow2_m
  refine ref_seq (ref_region ?_)
  refine as1 rfl rfl ?_
  refine l_nil (n_then (ref_seq (ref_region ?_)))
  refine mv1 rfl rfl ?_
  refine s_rd (r_mul rfl rfl) rfl ?_
  refine s_rd (r_shr rfl rfl (by decide)) rfl ?_
  refine as1 rfl rfl ?_
  refine b_let (f := iv .i64) (t := 2) rfl fun t1 => ?_
  refine l_nil (n_then (ref_ret ?_))
  exact fin1 (.inl rfl) () [] rfl trivial rfl (rv_tmp rfl)

/-! internal/strconv.isPowerOfTwo -/
noncomputable def internal_strconv_isPowerOfTwo_m (x_0 : Int) : Option (Bool) :=
  letM ((iand .i64 x_0 (isub .i64 x_0 1)) == 0) fun t1 =>
  some t1

theorem internal_strconv_isPowerOfTwo_ok {x_0 : Int} {r : Bool} (hm : internal_strconv_isPowerOfTwo_m x_0 = some r) :
    FnOk prog 99 [iv .i64 x_0] [] (fun (x : Unit) => [bv r]) (fun (x : Unit) => []) := by
  refine fn_ok (fn := Tryd.f99) (N := 8) (res := fun r x => [bv r]) (Ω1 := fun r x => []) Tryd.func99 rfl rfl hm rfl (fun E hM => ?_)
  unfold internal_strconv_isPowerOfTwo_m
  refine ref_seq (ref_region ?_)
  refine as1 rfl rfl ?_
  refine l_nil (n_then (ref_seq (ref_region ?_)))
  refine mv1 rfl rfl ?_
  refine mv1 rfl rfl ?_
  refine s_rd (r_sub rfl rfl) rfl ?_
  refine s_rd (r_and rfl rfl) rfl ?_
  refine s_rd (r_eql rfl rfl) rfl ?_
  refine as1 rfl rfl ?_
  refine b_let (f := bv) (t := 2) rfl fun t1 => ?_
  refine l_nil (n_then (ref_ret ?_))
  exact fin1 (.inl rfl) () [] rfl trivial rfl (rv_tmp rfl)

/-! internal/strconv.FormatInt -/
noncomputable def internal_strconv_FormatInt_m (i_0 : Int) (base_1 : Int) : Option (ByteArray) :=
  bif base_1 == 10 then
    joinM (fun j4 : Unit =>
        letM (IntKind.wrap .u64 i_0) fun u8x =>
        joinM (fun j10 : Int =>
            none) fun k12 =>
        bif decide (i_0 < 0) then
          k12 (ineg .u64 u8x)
        else
          k12 u8x) fun k6 =>
    bif decide (0 ≤ i_0) then
      bif decide (i_0 < 100) then
        Option.bind (internal_strconv_small_m i_0) fun t3 =>
        some t3
      else
        k6 ()
    else
      k6 ()
  else
    none

theorem internal_strconv_FormatInt_ok {i_0 : Int} {base_1 : Int} {r : ByteArray} (hm : internal_strconv_FormatInt_m i_0 base_1 = some r) :
    FnOk prog 86 [iv .i64 i_0, iv .i64 base_1] [] (fun (x : Unit) => [sv r]) (fun (x : Unit) => []) := by
  refine fn_ok (fn := Tryd.f86) (N := 54) (res := fun r x => [sv r]) (Ω1 := fun r x => []) Tryd.func86 rfl rfl hm rfl (fun E hM => ?_)
  unfold internal_strconv_FormatInt_m
  refine ref_seq (ref_region ?_)
  refine as1 rfl rfl ?_
  refine l_nil (n_then (ref_seq (ref_seq (ref_region ?_))))
  refine mv1 rfl rfl ?_
  refine s_rd (r_eql rfl rfl) rfl ?_
  refine l_nil (n_then ?_)
  refine ref_cond rfl (fun hb1 => ?_) (fun hb1 => ?_)
  · refine ref_seq ?_
    refine ref_join (fun (j4 : Unit) (x5 : Unit) => [(0, iv .i64 i_0)]) (fun (j4 : Unit) (x5 : Unit) => []) (fun k6 hk6 => ?_) (fun j4 x5 => ?_)
    · refine ref_seq (ref_region ?_)
      refine mv1 rfl rfl ?_
      refine s_rd (r_leq rfl rfl) rfl ?_
      refine mv1 rfl rfl ?_
      refine b_split (t := 14) rfl (fun _ => ?_) (fun _ => ?_)
      · refine s_on rfl rfl rfl ?_
        refine mv1 rfl rfl ?_
        refine s_on rfl rfl rfl ?_
        refine s_rd (r_lss rfl rfl) rfl ?_
        refine s_rd (r_pickT rfl rfl) rfl ?_
        refine l_nil (n_then ?_)
        refine ref_cond rfl (fun hb2 => ?_) (fun hb2 => ?_)
        · refine ref_seq (ref_region ?_)
          refine mv1 rfl rfl ?_
          refine pull fun t3 h_t3 => ?_
          refine s_st (s_call (ψ := fun (_ : Unit) => sv t3) (args := [.tmp 18]) Tryd.call92 rfl (internal_strconv_small_ok h_t3) ⟨arg rfl, trivial⟩ (fun _ _ _ _ h => h)) rfl (fun _ => ?_)
          refine as1 rfl rfl ?_
          refine l_nil (n_then (ref_ret (r_then (r_then ?_))))
          exact fin1 (.inl rfl) () [] rfl trivial rfl (rv_tmp rfl)
        refine ref_skip ?_
        exact b_to (hk6 () ()) (weak [] ⟨rfl, trivial⟩ trivial)
      refine s_off rfl rfl rfl rfl rfl ?_
      refine s_off rfl rfl rfl rfl rfl ?_
      refine s_rd (r_pickF rfl rfl) rfl ?_
      refine l_nil (n_then ?_)
      refine ref_condF rfl rfl ?_
      refine ref_skip ?_
      exact b_to (hk6 () ()) (weak [] ⟨rfl, trivial⟩ trivial)
    refine n_then (ref_seq (ref_region ?_))
    refine s_st (s_alloc zv_122) rfl (fun b7 => ?_)
    refine l_nil (n_then (ref_seq (ref_region ?_)))
    refine mv1 rfl rfl ?_
    refine s_rd (r_conv (k' := .u64) rfl rfl rfl) rfl ?_
    refine as1 rfl rfl ?_
    refine b_let (f := iv .u64) (t := 6) rfl fun u8x => ?_
    refine l_nil (n_then (ref_seq ?_))
    refine ref_join (fun (j10 : Int) (x11 : Unit) => [(0, iv .i64 i_0), (5, pv (ptr b7 0)), (6, iv .u64 j10)]) (fun (j10 : Int) (x11 : Unit) => [oc b7 (List.map (iv .u8) (List.replicate 24 0))]) (fun k12 hk12 => ?_) (fun j10 x11 => ?_)
    · refine ref_seq (ref_region ?_)
      refine mv1 rfl rfl ?_
      refine s_rd (r_lss rfl rfl) rfl ?_
      refine l_nil (n_then ?_)
      refine ref_cond rfl (fun hb9 => ?_) (fun hb9 => ?_)
      · refine ref_region ?_
        refine mv1 rfl rfl ?_
        refine s_rd (r_neg rfl) rfl ?_
        refine as1 rfl rfl ?_
        refine l_nil ?_
        exact b_to (hk12 (ineg .u64 u8x) ()) (weak [0] ⟨rfl, rfl, rfl, trivial⟩ ⟨rfl, trivial⟩)
      refine ref_skip ?_
      exact b_to (hk12 u8x ()) (weak [0] ⟨rfl, rfl, rfl, trivial⟩ ⟨rfl, trivial⟩)
    refine n_then (ref_seq (ref_region ?_))
    exact pnone
  refine ref_skip (n_then (ref_seq (ref_region ?_)))
  exact pnone

/-! internal/strconv.Itoa -/
noncomputable def internal_strconv_Itoa_m (i_0 : Int) : Option (ByteArray) :=
  Option.bind (internal_strconv_FormatInt_m i_0 10) fun t1 =>
  some t1

theorem internal_strconv_Itoa_ok {i_0 : Int} {r : ByteArray} (hm : internal_strconv_Itoa_m i_0 = some r) :
    FnOk prog 73 [iv .i64 i_0] [] (fun (x : Unit) => [sv r]) (fun (x : Unit) => []) := by
  refine fn_ok (fn := Tryd.f73) (N := 5) (res := fun r x => [sv r]) (Ω1 := fun r x => []) Tryd.func73 rfl rfl hm rfl (fun E hM => ?_)
  unfold internal_strconv_Itoa_m
  refine ref_seq (ref_region ?_)
  refine as1 rfl rfl ?_
  refine l_nil (n_then (ref_seq (ref_region ?_)))
  refine mv1 rfl rfl ?_
  refine pull fun t1 h_t1 => ?_
  refine s_st (s_call (ψ := fun (_ : Unit) => sv t1) (args := [.tmp 3, .const (.int .i64 (10))]) Tryd.call86 rfl (internal_strconv_FormatInt_ok h_t1) ⟨arg rfl, arg rfl, trivial⟩ (fun _ _ _ _ h => h)) rfl (fun _ => ?_)
  refine as1 rfl rfl ?_
  refine l_nil (n_then (ref_ret ?_))
  exact fin1 (.inl rfl) () [] rfl trivial rfl (rv_tmp rfl)

/-! strconv.Itoa -/
noncomputable def strconv_Itoa_m (i_0 : Int) : Option (ByteArray) :=
  Option.bind (internal_strconv_Itoa_m i_0) fun t1 =>
  some t1

theorem strconv_Itoa_ok {i_0 : Int} {r : ByteArray} (hm : strconv_Itoa_m i_0 = some r) :
    FnOk prog 61 [iv .i64 i_0] [] (fun (x : Unit) => [sv r]) (fun (x : Unit) => []) := by
  refine fn_ok (fn := Tryd.f61) (N := 5) (res := fun r x => [sv r]) (Ω1 := fun r x => []) Tryd.func61 rfl rfl hm rfl (fun E hM => ?_)
  unfold strconv_Itoa_m
  refine ref_seq (ref_region ?_)
  refine as1 rfl rfl ?_
  refine l_nil (n_then (ref_seq (ref_region ?_)))
  refine mv1 rfl rfl ?_
  refine pull fun t1 h_t1 => ?_
  refine s_st (s_call (ψ := fun (_ : Unit) => sv t1) (args := [.tmp 3]) Tryd.call73 rfl (internal_strconv_Itoa_ok h_t1) ⟨arg rfl, trivial⟩ (fun _ _ _ _ h => h)) rfl (fun _ => ?_)
  refine as1 rfl rfl ?_
  refine l_nil (n_then (ref_ret ?_))
  exact fin1 (.inl rfl) () [] rfl trivial rfl (rv_tmp rfl)

/-! deliberation/strict.fresh -/
noncomputable def strict_fresh_l1 (b_0 : T_api_Base) (s8 : Int) : Option (Sum (ByteArray) (Int)) :=
  Option.bind (strconv_Itoa_m s8) fun t10 =>
  Option.bind (sconM (ByteArray.mk #[116]) t10) fun s11 =>
  Option.bind (rulebase_Find_m b_0 s11) fun t12 =>
  bif decide (t12 < 0) then
    some (Sum.inl s11)
  else
    some (Sum.inr (iadd .i64 s8 1))

noncomputable def strict_fresh_m (b_0 : T_api_Base) : Option (ByteArray) :=
  Option.bind (loopC (strict_fresh_l1 b_0) 1) (fun a : ByteArray => some a)

theorem strict_fresh_ok {b_0 : T_api_Base} {r : ByteArray} (hm : strict_fresh_m b_0 = some r) :
    FnOk prog 36 [ag [slv rT_api_Premise b_0.Premises, slv rT_api_Rule b_0.Rules, slv rT_api_Promotion b_0.Promotions]] [] (fun (x : Unit) => [sv r]) (fun (x : Unit) => []) := by
  refine fn_ok (fn := Tryd.f36) (N := 15) (res := fun r x => [sv r]) (Ω1 := fun r x => []) Tryd.func36 rfl rfl hm rfl (fun E hM => ?_)
  unfold strict_fresh_m
  refine ref_seq (ref_region ?_)
  refine s_st (s_box (part_agO (ψs := [slv rT_api_Premise b_0.Premises, slv rT_api_Rule b_0.Rules, slv rT_api_Promotion b_0.Promotions]) rfl ⟨.inl slv_at, .inl slv_at, .inl slv_at, trivial⟩)) rfl (fun b1 => ?_)
  refine as1 rfl rfl ?_
  refine l_nil (n_then (ref_seq (ref_region ?_)))
  refine as1 rfl rfl ?_
  refine l_nil (n_then ?_)
  refine ref_block (ref_loop (f := (strict_fresh_l1 b_0)) (Γl := (fun (s8 : Int) (x9 : Unit) => [(1, pv (ptr b1 0)), (3, iv .i64 s8)])) (Ωl := (fun (s8 : Int) (x9 : Unit) => [oc b1 [slv rT_api_Premise b_0.Premises, slv rT_api_Rule b_0.Rules, slv rT_api_Promotion b_0.Promotions]])) (k := (fun a : ByteArray => some a)) 1 () (weak [0] ⟨rfl, rfl, trivial⟩ ⟨rfl, trivial⟩) (fun s8 x9 => ?_))
  · unfold strict_fresh_l1
    refine ref_seq (ref_block (ref_seq (ref_region ?_)))
    refine mv1 rfl rfl ?_
    refine pull fun t10 h_t10 => ?_
    refine s_st (s_call (ψ := fun (_ : Unit) => sv t10) (args := [.tmp 7]) Tryd.call61 rfl (strconv_Itoa_ok h_t10) ⟨arg rfl, trivial⟩ (fun _ _ _ _ h => h)) rfl (fun _ => ?_)
    refine pull fun s11 h_s11 => ?_
    refine s_rd (r_sadd h_s11 rfl rfl) rfl ?_
    refine as1 rfl rfl ?_
    refine l_nil (n_then (ref_seq (ref_region ?_)))
    refine s_rd (r_cloadS Tryd.isAgg29 Tryd.sizeOf29 rfl (j := 0) rfl rfl rfl) rfl ?_
    refine mv1 rfl rfl ?_
    refine pull fun t12 h_t12 => ?_
    refine s_st (s_call (ψ := fun (_ : Unit) => iv .i64 t12) (args := [.tmp 10, .tmp 11]) Tryd.call51 rfl (rulebase_Find_ok h_t12) ⟨arg rfl, arg rfl, trivial⟩ (fun _ _ _ _ h => h)) rfl (fun _ => ?_)
    refine s_rd (r_lss rfl rfl) rfl ?_
    refine l_nil (n_then ?_)
    refine ref_cond rfl (fun hb13 => ?_) (fun hb13 => ?_)
    · refine ref_seq (ref_region ?_)
      refine mv1 rfl rfl ?_
      refine as1 rfl rfl ?_
      refine l_nil (n_then (ref_ret (r_block (r_then ?_))))
      refine r_loop ?_
      refine r_block ?_
      exact fin1 (.inl rfl) () [] rfl trivial rfl (rv_tmp rfl)
    refine ref_skip (n_block (n_then (ref_region ?_)))
    refine mv1 rfl rfl ?_
    refine s_rd (r_add rfl rfl) rfl ?_
    refine as1 rfl rfl ?_
    refine l_nil ?_
    exact n_loop () (weak [0] ⟨rfl, rfl, trivial⟩ ⟨rfl, trivial⟩)

/-! deliberation/strict.alike$1 -/
noncomputable def strict_alike_1_m (q_0 : T_api_Rule) (p_1 : T_api_Rule) : Option (Bool) :=
  bif q_0.Strict then
    bif decide (q_0.Head = p_1.Head) then
      Option.bind (slices_Equal_api_Literal_api_Literal_m q_0.Body p_1.Body) fun t2 =>
      some t2
    else
      some false
  else
    some false

theorem strict_alike_1_ok {q_0 : T_api_Rule} {p_1 : T_api_Rule} {b_1 : Nat} {r : Bool} (hm : strict_alike_1_m q_0 p_1 = some r) :
    FnOk prog 59 [ag [sv q_0.Name, bv q_0.Strict, iv .i64 q_0.Rank, slv rT_api_Literal q_0.Body, bv q_0.Head.Neg, sv q_0.Head.Name], pv (ptr b_1 0)] [oc b_1 [sv p_1.Name, bv p_1.Strict, iv .i64 p_1.Rank, slv rT_api_Literal p_1.Body, bv p_1.Head.Neg, sv p_1.Head.Name]] (fun (x : Unit) => [bv r]) (fun (x : Unit) => [oc b_1 [sv p_1.Name, bv p_1.Strict, iv .i64 p_1.Rank, slv rT_api_Literal p_1.Body, bv p_1.Head.Neg, sv p_1.Head.Name]]) := by
  refine fn_ok (fn := Tryd.f59) (N := 20) (res := fun r x => [bv r]) (Ω1 := fun r x => [oc b_1 [sv p_1.Name, bv p_1.Strict, iv .i64 p_1.Rank, slv rT_api_Literal p_1.Body, bv p_1.Head.Neg, sv p_1.Head.Name]]) Tryd.func59 rfl rfl hm rfl (fun E hM => ?_)
  unfold strict_alike_1_m
  refine ref_seq (ref_region ?_)
  refine s_st (s_box (part_agO (ψs := [sv q_0.Name, bv q_0.Strict, iv .i64 q_0.Rank, slv rT_api_Literal q_0.Body, bv q_0.Head.Neg, sv q_0.Head.Name]) rfl ⟨.inl sv_at, .inl bv_at, .inl iv_at, .inl slv_at, .inl bv_at, .inl sv_at, trivial⟩)) rfl (fun b1 => ?_)
  refine as1 rfl rfl ?_
  refine l_nil (n_then (ref_seq (ref_region ?_)))
  refine s_rd (r_faddr (fo := 1) Tryd.underlying40 rfl rfl Tryd.sizeOf4 rfl) rfl ?_
  refine s_rd (r_cload Tryd.isAgg4 rfl (j := 1) rfl rfl) rfl ?_
  refine mv1 rfl rfl ?_
  refine b_split (t := 6) rfl (fun _ => ?_) (fun _ => ?_)
  · refine s_on rfl rfl rfl ?_
    refine s_rd (r_faddr (fo := 4) Tryd.underlying40 rfl rfl Tryd.sizeOf35 rfl) rfl ?_
    refine s_on rfl rfl rfl ?_
    refine s_rd (r_cloadS Tryd.isAgg35 Tryd.sizeOf35 rfl (j := 1) rfl rfl rfl) rfl ?_
    refine s_on rfl rfl rfl ?_
    refine s_rd (r_faddr (fo := 4) Tryd.underlying40 rfl rfl Tryd.sizeOf35 rfl) rfl ?_
    refine s_on rfl rfl rfl ?_
    refine s_rd (r_cloadS Tryd.isAgg35 Tryd.sizeOf35 rfl (j := 0) rfl rfl rfl) rfl ?_
    refine s_on rfl rfl rfl ?_
    refine s_rd (r_steql (u := q_0.Head) (v := p_1.Head) eq_35 rfl rfl rfl rfl) rfl ?_
    refine s_rd (r_pickT rfl rfl) rfl ?_
    refine mv1 rfl rfl ?_
    refine b_split (t := 13) rfl (fun _ => ?_) (fun _ => ?_)
    · refine s_on rfl rfl rfl ?_
      refine s_rd (r_faddr (fo := 3) Tryd.underlying40 rfl rfl Tryd.sizeOf31 rfl) rfl ?_
      refine s_on rfl rfl rfl ?_
      refine s_rd (r_cload Tryd.isAgg31 rfl (j := 1) rfl rfl) rfl ?_
      refine s_on rfl rfl rfl ?_
      refine s_rd (r_faddr (fo := 3) Tryd.underlying40 rfl rfl Tryd.sizeOf31 rfl) rfl ?_
      refine s_on rfl rfl rfl ?_
      refine s_rd (r_cload Tryd.isAgg31 rfl (j := 0) rfl rfl) rfl ?_
      refine s_on rfl rfl rfl ?_
      refine pull fun t2 h_t2 => ?_
      refine s_st (s_call (ψ := fun (_ : Unit) => bv t2) (args := [.tmp 15, .tmp 17]) Tryd.call60 rfl (slices_Equal_api_Literal_api_Literal_ok h_t2) ⟨arg rfl, arg rfl, trivial⟩ (fun _ _ _ _ h => h)) rfl (fun _ => ?_)
      refine s_rd (r_pickT rfl rfl) rfl ?_
      refine as1 rfl rfl ?_
      refine l_nil (n_then (ref_ret ?_))
      exact fin1 (.inl rfl) () [0] rfl ⟨rfl, trivial⟩ rfl (rv_tmp rfl)
    refine s_off rfl rfl rfl rfl rfl ?_
    refine s_off rfl rfl rfl rfl rfl ?_
    refine s_off rfl rfl rfl rfl rfl ?_
    refine s_off rfl rfl rfl rfl rfl ?_
    refine s_off rfl rfl rfl rfl rfl ?_
    refine s_rd (r_pickF rfl rfl) rfl ?_
    refine as1 rfl rfl ?_
    refine l_nil (n_then (ref_ret ?_))
    exact fin1 (.inl rfl) () [0] rfl ⟨rfl, trivial⟩ rfl (rv_tmp rfl)
  refine s_off rfl rfl rfl rfl rfl ?_
  refine s_off rfl rfl rfl rfl rfl ?_
  refine s_off rfl rfl rfl rfl rfl ?_
  refine s_off rfl rfl rfl rfl rfl ?_
  refine s_off rfl rfl rfl rfl rfl ?_
  refine s_rd (r_pickF rfl rfl) rfl ?_
  refine mv1 rfl rfl ?_
  refine s_off rfl rfl rfl rfl rfl ?_
  refine s_off rfl rfl rfl rfl rfl ?_
  refine s_off rfl rfl rfl rfl rfl ?_
  refine s_off rfl rfl rfl rfl rfl ?_
  refine s_off rfl rfl rfl rfl rfl ?_
  refine s_rd (r_pickF rfl rfl) rfl ?_
  refine as1 rfl rfl ?_
  refine l_nil (n_then (ref_ret ?_))
  exact fin1 (.inl rfl) () [0] rfl ⟨rfl, trivial⟩ rfl (rv_tmp rfl)

/-! slices.IndexFunc[[]deliberation/api.Rule,deliberation/api.Rule] -/
noncomputable def slices_IndexFunc_api_Rule_api_Rule_1_l1 (s_0 : (List T_api_Rule)) (e_1 : T_api_Rule) (s7 : Int) : Option (Sum ((Sum (Int) (Unit))) (Int)) :=
  bif decide (s7 < (s_0.length : Int)) then
    Option.bind (idxM s_0 s7) fun t10 =>
    Option.bind (strict_alike_1_m t10 e_1) fun t11 =>
    bif t11 then
      some (Sum.inl (Sum.inl s7))
    else
      some (Sum.inr (iadd .i64 s7 1))
  else
    some (Sum.inl (Sum.inr ()))

noncomputable def slices_IndexFunc_api_Rule_api_Rule_1_m (s_0 : (List T_api_Rule)) (e_1 : T_api_Rule) : Option (Int) :=
  Option.bind (loopC (slices_IndexFunc_api_Rule_api_Rule_1_l1 s_0 e_1) 0) (sumK (fun a : Int => some a) fun q13 : Unit =>
    some (-1))

theorem slices_IndexFunc_api_Rule_api_Rule_1_ok {s_0 : (List T_api_Rule)} {e_1 : T_api_Rule} {h_0 : Value × List Nat} {be_1 : Nat} {r : Int} (hm : slices_IndexFunc_api_Rule_api_Rule_1_m s_0 e_1 = some r) :
    FnOk prog 58 [pv h_0.1, pv (.func (.func 59) #[] #[(ptr be_1 0)])] [oa rT_api_Rule h_0.1 h_0.2 s_0, oc be_1 [sv e_1.Name, bv e_1.Strict, iv .i64 e_1.Rank, slv rT_api_Literal e_1.Body, bv e_1.Head.Neg, sv e_1.Head.Name]] (fun (x : Unit) => [iv .i64 r]) (fun (x : Unit) => [oa rT_api_Rule h_0.1 h_0.2 s_0, oc be_1 [sv e_1.Name, bv e_1.Strict, iv .i64 e_1.Rank, slv rT_api_Literal e_1.Body, bv e_1.Head.Neg, sv e_1.Head.Name]]) := by
  refine fn_ok (fn := Tryd.f58) (N := 19) (res := fun r x => [iv .i64 r]) (Ω1 := fun r x => [oa rT_api_Rule h_0.1 h_0.2 s_0, oc be_1 [sv e_1.Name, bv e_1.Strict, iv .i64 e_1.Rank, slv rT_api_Literal e_1.Body, bv e_1.Head.Neg, sv e_1.Head.Name]]) Tryd.func58 rfl rfl hm rfl (fun E hM => ?_)
  unfold slices_IndexFunc_api_Rule_api_Rule_1_m
  refine ref_seq (ref_region ?_)
  refine as1 rfl rfl ?_
  refine l_nil (n_then (ref_seq (ref_seq (ref_region ?_))))
  refine mv1 rfl rfl ?_
  refine s_rd (r_olen Tryd.underlying26 rfl (j := 0) rfl) rfl ?_
  refine mv1 rfl rfl ?_
  refine l_nil (n_then ?_)
  refine ref_loopX (f := (slices_IndexFunc_api_Rule_api_Rule_1_l1 s_0 e_1)) (Γl := (fun (s7 : Int) (x8 : Unit) => [(0, pv h_0.1), (1, pv (.func (.func 59) #[] #[(ptr be_1 0)])), (7, iv .i64 (s_0.length : Int)), (8, iv .i64 s7)])) (Ωl := (fun (s7 : Int) (x8 : Unit) => [oa rT_api_Rule h_0.1 h_0.2 s_0, oc be_1 [sv e_1.Name, bv e_1.Strict, iv .i64 e_1.Rank, slv rT_api_Literal e_1.Body, bv e_1.Head.Neg, sv e_1.Head.Name]])) (Γb := (fun (q13 : Unit) (y14 : Unit) => [(0, pv h_0.1), (1, pv (.func (.func 59) #[] #[(ptr be_1 0)]))])) (Ωb := (fun (q13 : Unit) (y14 : Unit) => [oa rT_api_Rule h_0.1 h_0.2 s_0, oc be_1 [sv e_1.Name, bv e_1.Strict, iv .i64 e_1.Rank, slv rT_api_Literal e_1.Body, bv e_1.Head.Neg, sv e_1.Head.Name]])) (kr := (fun a : Int => some a)) 0 () (weak [0, 1] ⟨rfl, rfl, rfl, rfl, trivial⟩ ⟨rfl, rfl, trivial⟩) (fun s7 x8 => ?_) (fun q13 y14 => ?_)
  · unfold slices_IndexFunc_api_Rule_api_Rule_1_l1
    refine ref_seq (ref_region ?_)
    refine s_rd (r_lss rfl rfl) rfl ?_
    refine l_nil (n_then (ref_seq ?_))
    refine ref_cond rfl (fun hb9 => ?_) (fun hb9 => ?_)
    · refine ref_skip (n_then (ref_seq (ref_block (ref_seq (ref_region ?_)))))
      refine mv1 rfl rfl ?_
      refine as1 rfl rfl ?_
      refine l_nil (n_then (ref_seq (ref_region ?_)))
      refine mv1 rfl rfl ?_
      refine mv1 rfl rfl ?_
      refine mv1 rfl rfl ?_
      refine pull fun t10 h_t10 => ?_
      refine s_rd (r_oindex h_t10 Tryd.underlying26 el_40 rfl (j := 0) rfl rfl) rfl ?_
      refine s_rd (r_oload h_t10 el_40 rfl (j := 0) rfl) rfl ?_
      refine pull fun t11 h_t11 => ?_
      refine s_st (s_callC [1] [true] (fun (_ : Unit) => [oc be_1 [sv e_1.Name, bv e_1.Strict, iv .i64 e_1.Rank, slv rT_api_Literal e_1.Body, bv e_1.Head.Neg, sv e_1.Head.Name]]) (fun (_ : Unit) => []) (fun (_ : Unit) => bv t11) (args := [.tmp 15]) (caps := [(ptr be_1 0)]) Tryd.call59 rfl (strict_alike_1_ok h_t11) ⟨rfl, rfl, trivial⟩ (fun _ => rfl) (fun _ => trivial) (fun _ => rfl) ⟨arg rfl, arg rfl, trivial⟩ (fun _ _ _ _ h => h)) rfl (fun _ => ?_)
      refine l_nil (n_then ?_)
      refine ref_cond rfl (fun hb12 => ?_) (fun hb12 => ?_)
      · refine ref_seq (ref_region ?_)
        refine mv1 rfl rfl ?_
        refine as1 rfl rfl ?_
        refine l_nil (n_then (ref_ret (r_block (r_then ?_))))
        refine retX ?_
        refine r_block (r_then ?_)
        exact fin1 (.inl rfl) () [0, 1] rfl ⟨rfl, rfl, trivial⟩ rfl (rv_tmp rfl)
      refine ref_skip (n_block (n_then (ref_region ?_)))
      refine s_rd (r_add rfl rfl) rfl ?_
      refine mv1 rfl rfl ?_
      refine l_nil ?_
      exact goX () (weak [0, 1] ⟨rfl, rfl, rfl, rfl, trivial⟩ ⟨rfl, rfl, trivial⟩)
    refine ref_exit (x_then ?_)
    exact brkX () (weak [0, 1] ⟨rfl, rfl, trivial⟩ ⟨rfl, rfl, trivial⟩)
  refine n_then (ref_seq (ref_region ?_))
  refine as1 rfl rfl ?_
  refine l_nil (n_then (ref_ret ?_))
  exact fin1 (.inl rfl) () [0, 1] rfl ⟨rfl, rfl, trivial⟩ rfl (rv_tmp rfl)

/-! slices.ContainsFunc[[]deliberation/api.Rule,deliberation/api.Rule] -/
noncomputable def slices_ContainsFunc_api_Rule_api_Rule_m (s_0 : (List T_api_Rule)) (e_1 : T_api_Rule) : Option (Bool) :=
  Option.bind (slices_IndexFunc_api_Rule_api_Rule_1_m s_0 e_1) fun t1 =>
  letM (decide (t1 ≥ 0)) fun t2 =>
  some t2

theorem slices_ContainsFunc_api_Rule_api_Rule_ok {s_0 : (List T_api_Rule)} {e_1 : T_api_Rule} {h_0 : Value × List Nat} {be_1 : Nat} {r : Bool} (hm : slices_ContainsFunc_api_Rule_api_Rule_m s_0 e_1 = some r) :
    FnOk prog 34 [pv h_0.1, pv (.func (.func 59) #[] #[(ptr be_1 0)])] [oa rT_api_Rule h_0.1 h_0.2 s_0, oc be_1 [sv e_1.Name, bv e_1.Strict, iv .i64 e_1.Rank, slv rT_api_Literal e_1.Body, bv e_1.Head.Neg, sv e_1.Head.Name]] (fun (x : Unit) => [bv r]) (fun (x : Unit) => [oa rT_api_Rule h_0.1 h_0.2 s_0, oc be_1 [sv e_1.Name, bv e_1.Strict, iv .i64 e_1.Rank, slv rT_api_Literal e_1.Body, bv e_1.Head.Neg, sv e_1.Head.Name]]) := by
  refine fn_ok (fn := Tryd.f34) (N := 9) (res := fun r x => [bv r]) (Ω1 := fun r x => [oa rT_api_Rule h_0.1 h_0.2 s_0, oc be_1 [sv e_1.Name, bv e_1.Strict, iv .i64 e_1.Rank, slv rT_api_Literal e_1.Body, bv e_1.Head.Neg, sv e_1.Head.Name]]) Tryd.func34 rfl rfl hm rfl (fun E hM => ?_)
  unfold slices_ContainsFunc_api_Rule_api_Rule_m
  refine ref_seq (ref_region ?_)
  refine as1 rfl rfl ?_
  refine l_nil (n_then (ref_seq (ref_region ?_)))
  refine mv1 rfl rfl ?_
  refine mv1 rfl rfl ?_
  refine pull fun t1 h_t1 => ?_
  refine s_st (s_callC [0, 1] [true, true] (fun (_ : Unit) => [oa rT_api_Rule h_0.1 h_0.2 s_0, oc be_1 [sv e_1.Name, bv e_1.Strict, iv .i64 e_1.Rank, slv rT_api_Literal e_1.Body, bv e_1.Head.Neg, sv e_1.Head.Name]]) (fun (_ : Unit) => []) (fun (_ : Unit) => iv .i64 t1) (args := [.tmp 5, .tmp 6]) (caps := []) Tryd.call58 rfl (slices_IndexFunc_api_Rule_api_Rule_1_ok h_t1) ⟨rfl, rfl, ⟨rfl, rfl, trivial⟩⟩ (fun _ => rfl) (fun _ => trivial) (fun _ => rfl) ⟨arg rfl, arg rfl, trivial⟩ (fun _ _ _ _ h => h)) rfl (fun _ => ?_)
  refine s_rd (r_geq rfl rfl) rfl ?_
  refine as1 rfl rfl ?_
  refine b_let (f := bv) (t := 4) rfl fun t2 => ?_
  refine l_nil (n_then (ref_ret ?_))
  exact fin1 (.inl rfl) () [0, 1] rfl ⟨rfl, rfl, trivial⟩ rfl (rv_tmp rfl)

/-! deliberation/strict.Transpose -/
noncomputable def strict_Transpose_l2 (t5 : T_api_Base) (t50 : List T_api_Rule) (s65 : Int × (List T_api_Rule)) : Option (Sum ((Sum (T_api_Base × Int) ((List T_api_Rule)))) (Int × (List T_api_Rule))) :=
  bif decide (s65.1 < (t50.length : Int)) then
    Option.bind (idxM t50 s65.1) fun t68 =>
    Option.bind (strict_alike_m t68) fun t70 =>
    Option.bind (slices_ContainsFunc_api_Rule_api_Rule_m s65.2 t70) fun t72 =>
    bif t72 then
      some (Sum.inr (iadd .i64 s65.1 1, s65.2))
    else
      bif (s65.2.length : Int) == 24 then
        some (Sum.inl (Sum.inl ((T_api_Base.mk [] [] []), 2)))
      else
        Option.bind (strict_fresh_m (T_api_Base.mk t5.Premises s65.2 t5.Promotions)) fun t75 =>
        Option.bind (appM 80 s65.2 [(T_api_Rule.mk t75 t68.Strict t68.Rank t68.Body t68.Head)]) fun t76 =>
        some (Sum.inr (iadd .i64 s65.1 1, t76))
  else
    some (Sum.inl (Sum.inr s65.2))

noncomputable def strict_Transpose_l1 (t5 : T_api_Base) (s44 : Int × (List T_api_Rule)) : Option (Sum ((Sum (T_api_Base × Int) ((List T_api_Rule)))) (Int × (List T_api_Rule))) :=
  bif decide (s44.1 < (s44.2.length : Int)) then
    Option.bind (idxM s44.2 s44.1) fun t47 =>
    bif !t47.Strict then
      letM (iadd .i64 s44.1 1) fun i80 =>
      some (Sum.inr (i80, s44.2))
    else
      Option.bind (idxM s44.2 s44.1) fun t49 =>
      Option.bind (strict_transposes_m t49) fun t50 =>
      Option.bind (loopC (strict_Transpose_l2 t5 t50) (0, s44.2)) (sumK (fun a : T_api_Base × Int => some (Sum.inl (Sum.inl a))) fun q78 : (List T_api_Rule) =>
        letM (iadd .i64 s44.1 1) fun i81 =>
        some (Sum.inr (i81, q78)))
  else
    some (Sum.inl (Sum.inr s44.2))

noncomputable def strict_Transpose_m (b_0 : T_api_Base) : Option (T_api_Base × Int) :=
  Option.bind (rulebase_Validate_m b_0) fun e3 =>
  bif e3 != 0 then
    some ((T_api_Base.mk [] [] []), e3)
  else
    Option.bind (rulebase_Promote_m b_0 []) fun t5 =>
    Option.bind (loopC (strict_Transpose_l1 t5) (0, t5.Rules)) (sumK (fun a : T_api_Base × Int => some a) fun q82 : (List T_api_Rule) =>
      some ((T_api_Base.mk t5.Premises q82 t5.Promotions), 0))

theorem strict_Transpose_ok {b_0 : T_api_Base} {r : T_api_Base × Int} (hm : strict_Transpose_m b_0 = some r) :
    FnOk prog 14 [ag [slv rT_api_Premise b_0.Premises, slv rT_api_Rule b_0.Rules, slv rT_api_Promotion b_0.Promotions]] [] (fun (x : Unit) => [ag [slv rT_api_Premise r.1.Premises, slv rT_api_Rule r.1.Rules, slv rT_api_Promotion r.1.Promotions], iv .i64 r.2]) (fun (x : Unit) => []) := by
  refine fn_ok (fn := Tryd.f14) (N := 63) (res := fun r x => [ag [slv rT_api_Premise r.1.Premises, slv rT_api_Rule r.1.Rules, slv rT_api_Promotion r.1.Promotions], iv .i64 r.2]) (Ω1 := fun r x => []) Tryd.func14 rfl rfl hm rfl (fun E hM => ?_)
  unfold strict_Transpose_m
  refine ref_seq (ref_region ?_)
  refine s_st (s_box (part_agO (ψs := [slv rT_api_Premise b_0.Premises, slv rT_api_Rule b_0.Rules, slv rT_api_Promotion b_0.Promotions]) rfl ⟨.inl slv_at, .inl slv_at, .inl slv_at, trivial⟩)) rfl (fun b1 => ?_)
  refine s_st (s_alloc zt_29) rfl (fun b2 => ?_)
  refine as1 rfl rfl ?_
  refine l_nil (n_then (ref_seq (ref_seq (ref_region ?_))))
  refine s_rd (r_cloadS Tryd.isAgg29 Tryd.sizeOf29 rfl (j := 0) rfl rfl rfl) rfl ?_
  refine pull fun e3 h_e3 => ?_
  refine s_st (s_call (ψ := fun (_ : Unit) => iv .i64 e3) (args := [.tmp 9]) Tryd.call31 rfl (rulebase_Validate_ok h_e3) ⟨arg rfl, trivial⟩ (fun _ _ _ _ h => h)) rfl (fun _ => ?_)
  refine as1 rfl rfl ?_
  refine l_nil (n_then (ref_seq (ref_region ?_)))
  refine mv1 rfl rfl ?_
  refine s_rd (r_neq rfl rfl) rfl ?_
  refine l_nil (n_then ?_)
  refine ref_cond rfl (fun hb4 => ?_) (fun hb4 => ?_)
  · refine ref_seq (ref_region ?_)
    refine s_rd (r_build (ps := []) (rs := []) st_29 zs_29 trivial rfl rfl) rfl ?_
    refine mv1 rfl rfl ?_
    refine s_st0 (s_cstore (out := [pv (.slice none 0 0), pv (.slice none 0 0), pv (.slice none 0 0)]) Tryd.sizeOf29 rfl (j := 1) rfl (part_agO (ψs := [pv (.slice none 0 0), pv (.slice none 0 0), pv (.slice none 0 0)]) rfl ⟨.inl (pv_at rfl), .inl (pv_at rfl), .inl (pv_at rfl), trivial⟩) rfl rfl rfl) (fun _ => ?_)
    refine as1 rfl rfl ?_
    refine l_nil ?_
    refine b_of (nrm [oc b1 [slv rT_api_Premise b_0.Premises, slv rT_api_Rule b_0.Rules, slv rT_api_Promotion b_0.Promotions], oc b2 [pv (.slice none 0 0), pv (.slice none 0 0), pv (.slice none 0 0)]] rfl) ?_
    refine n_then (ref_ret (r_then ?_))
    refine b_of (ocW 1 [slv rT_api_Premise [], slv rT_api_Rule [], slv rT_api_Promotion []] rfl ⟨nil_sl, nil_sl, nil_sl, trivial⟩) ?_
    exact fin2 (.inl rfl) () [] rfl trivial rfl (rv_cell rfl (j := 1) rfl Tryd.isAgg29 Tryd.sizeOf29 rfl rfl) (rv_tmp rfl)
  refine ref_skip (n_then (ref_seq (ref_region ?_)))
  refine s_rd (r_cloadS Tryd.isAgg29 Tryd.sizeOf29 rfl (j := 0) rfl rfl rfl) rfl ?_
  refine pull fun t5 h_t5 => ?_
  refine s_st (s_call (ψ := fun (x6 : (Value × List Nat)) => ag [slv rT_api_Premise t5.Premises, pv x6.1, slv rT_api_Promotion t5.Promotions]) (args := [.tmp 15, .const (.slice none 0 0)]) Tryd.call32 rfl (rulebase_Promote_ok h_t5) ⟨arg rfl, arg_nil _ rfl, trivial⟩ (fun _ _ _ _ h => h)) rfl (fun x6 => ?_)
  refine s_st (s_alloc zt_29) rfl (fun b7 => ?_)
  refine s_st0 (s_cstore (out := [slv rT_api_Premise t5.Premises, pv x6.1, slv rT_api_Promotion t5.Promotions]) Tryd.sizeOf29 rfl (j := 3) rfl (part_agO (ψs := [slv rT_api_Premise t5.Premises, pv x6.1, slv rT_api_Promotion t5.Promotions]) rfl ⟨.inl slv_at, .inr ⟨_, _, _, _, _, 2, rfl, rfl⟩, .inl slv_at, trivial⟩) rfl rfl rfl) (fun _ => ?_)
  refine l_nil ?_
  refine b_of (nrm [oc b1 [slv rT_api_Premise b_0.Premises, slv rT_api_Rule b_0.Rules, slv rT_api_Promotion b_0.Promotions], oc b2 [pv (.slice none 0 0), pv (.slice none 0 0), pv (.slice none 0 0)], oa rT_api_Rule x6.1 x6.2 t5.Rules, oc b7 [slv rT_api_Premise t5.Premises, pv x6.1, slv rT_api_Promotion t5.Promotions]] rfl) ?_
  refine n_then (ref_seq (ref_seq (ref_region ?_)))
  refine as1 rfl rfl ?_
  refine l_nil (n_then ?_)
  refine ref_loopX (f := (strict_Transpose_l1 t5)) (Γl := (fun (s44 : Int × (List T_api_Rule)) (x45 : (Value × List Nat)) => [(2, pv (ptr b2 0)), (5, pv (ptr b7 0)), (6, iv .i64 s44.1)])) (Ωl := (fun (s44 : Int × (List T_api_Rule)) (x45 : (Value × List Nat)) => [oc b2 [pv (.slice none 0 0), pv (.slice none 0 0), pv (.slice none 0 0)], oc b7 [slv rT_api_Premise t5.Premises, pv x45.1, slv rT_api_Promotion t5.Promotions], oa rT_api_Rule x45.1 x45.2 s44.2])) (Γb := (fun (q82 : (List T_api_Rule)) (y83 : (Value × List Nat)) => [(2, pv (ptr b2 0)), (5, pv (ptr b7 0))])) (Ωb := (fun (q82 : (List T_api_Rule)) (y83 : (Value × List Nat)) => [oc b2 [pv (.slice none 0 0), pv (.slice none 0 0), pv (.slice none 0 0)], oc b7 [slv rT_api_Premise t5.Premises, pv y83.1, slv rT_api_Promotion t5.Promotions], oa rT_api_Rule y83.1 y83.2 q82])) (kr := (fun a : T_api_Base × Int => some a)) (0, t5.Rules) x6 (weak [1, 3, 2] ⟨rfl, rfl, rfl, trivial⟩ ⟨rfl, rfl, rfl, trivial⟩) (fun s44 x45 => ?_) (fun q82 y83 => ?_)
  · unfold strict_Transpose_l1
    refine ref_seq (ref_seq (ref_region ?_))
    refine mv1 rfl rfl ?_
    refine s_rd (r_faddr (fo := 1) Tryd.underlying29 rfl rfl Tryd.sizeOf26 rfl) rfl ?_
    refine s_rd (r_cload Tryd.isAgg26 rfl (j := 1) rfl rfl) rfl ?_
    refine s_rd (r_olen Tryd.underlying26 rfl (j := 2) rfl) rfl ?_
    refine s_rd (r_lss rfl rfl) rfl ?_
    refine l_nil (n_then ?_)
    refine ref_cond rfl (fun hb46 => ?_) (fun hb46 => ?_)
    · refine ref_skip (n_then (ref_seq (ref_block (ref_seq (ref_seq (ref_region ?_))))))
      refine s_rd (r_faddr (fo := 1) Tryd.underlying29 rfl rfl Tryd.sizeOf26 rfl) rfl ?_
      refine s_rd (r_cload Tryd.isAgg26 rfl (j := 1) rfl rfl) rfl ?_
      refine mv1 rfl rfl ?_
      refine pull fun t47 h_t47 => ?_
      refine s_rd (r_oindex h_t47 Tryd.underlying26 el_40 rfl (j := 2) rfl rfl) rfl ?_
      refine s_rd (r_foea (ρ := rT_api_Rule) (fo := 1) h_t47 Tryd.underlying40 rfl rfl Tryd.sizeOf4 rfl (j := 2) rfl) rfl ?_
      refine s_rd (r_foload (ρ := rT_api_Rule) (y := t47) (ρ' := rB) (z := t47.Strict) h_t47 el_4 rfl (j := 2) rfl rfl rfl) rfl ?_
      refine s_rd (r_not rfl) rfl ?_
      refine l_nil (n_then ?_)
      refine ref_cond rfl (fun hb48 => ?_) (fun hb48 => ?_)
      · refine ref_exit (x_then (x_eq (n_then (ref_region ?_))))
        refine mv1 rfl rfl ?_
        refine s_rd (r_add rfl rfl) rfl ?_
        refine as1 rfl rfl ?_
        refine b_let (f := iv .i64) (t := 6) rfl fun i80 => ?_
        refine l_nil ?_
        exact goX x45 (weak [0, 1, 2] ⟨rfl, rfl, rfl, trivial⟩ ⟨rfl, rfl, rfl, trivial⟩)
      refine ref_skip (n_then (ref_seq (ref_region ?_)))
      refine s_rd (r_faddr (fo := 1) Tryd.underlying29 rfl rfl Tryd.sizeOf26 rfl) rfl ?_
      refine s_rd (r_cload Tryd.isAgg26 rfl (j := 1) rfl rfl) rfl ?_
      refine mv1 rfl rfl ?_
      refine pull fun t49 h_t49 => ?_
      refine s_rd (r_oindex h_t49 Tryd.underlying26 el_40 rfl (j := 2) rfl rfl) rfl ?_
      refine s_rd (r_oload h_t49 el_40 rfl (j := 2) rfl) rfl ?_
      refine pull fun t50 h_t50 => ?_
      refine s_st (s_call (ψ := fun (x51 : (Value × List Nat)) => pv x51.1) (args := [.tmp 35]) Tryd.call33 rfl (strict_transposes_ok h_t50) ⟨arg rfl, trivial⟩ (fun _ _ _ _ h => h)) rfl (fun x51 => ?_)
      refine s_rd (r_olen Tryd.underlying26 rfl (j := 3) rfl) rfl ?_
      refine mv1 rfl rfl ?_
      refine l_nil (n_then ?_)
      refine ref_loopX (f := (strict_Transpose_l2 t5 t50)) (Γl := (fun (s65 : Int × (List T_api_Rule)) (x66 : (Value × List Nat)) => [(2, pv (ptr b2 0)), (5, pv (ptr b7 0)), (6, iv .i64 s44.1), (36, pv x51.1), (37, iv .i64 (t50.length : Int)), (38, iv .i64 s65.1)])) (Ωl := (fun (s65 : Int × (List T_api_Rule)) (x66 : (Value × List Nat)) => [oc b2 [pv (.slice none 0 0), pv (.slice none 0 0), pv (.slice none 0 0)], oc b7 [slv rT_api_Premise t5.Premises, pv x66.1, slv rT_api_Promotion t5.Promotions], oa rT_api_Rule x66.1 x66.2 s65.2, oa rT_api_Rule x51.1 x51.2 t50])) (Γb := (fun (q78 : (List T_api_Rule)) (y79 : (Value × List Nat)) => [(2, pv (ptr b2 0)), (5, pv (ptr b7 0)), (6, iv .i64 s44.1)])) (Ωb := (fun (q78 : (List T_api_Rule)) (y79 : (Value × List Nat)) => [oc b2 [pv (.slice none 0 0), pv (.slice none 0 0), pv (.slice none 0 0)], oc b7 [slv rT_api_Premise t5.Premises, pv y79.1, slv rT_api_Promotion t5.Promotions], oa rT_api_Rule y79.1 y79.2 q78])) (kr := (fun a : T_api_Base × Int => some (Sum.inl (Sum.inl a)))) (0, s44.2) x45 (weak [0, 1, 2, 3] ⟨rfl, rfl, rfl, rfl, rfl, rfl, trivial⟩ ⟨rfl, rfl, rfl, rfl, trivial⟩) (fun s65 x66 => ?_) (fun q78 y79 => ?_)
      · unfold strict_Transpose_l2
        refine ref_seq (ref_region ?_)
        refine s_rd (r_lss rfl rfl) rfl ?_
        refine l_nil (n_then (ref_seq ?_))
        refine ref_cond rfl (fun hb67 => ?_) (fun hb67 => ?_)
        · refine ref_skip (n_then (ref_seq (ref_block (ref_seq (ref_region ?_)))))
          refine pull fun t68 h_t68 => ?_
          refine s_rd (r_oindex h_t68 Tryd.underlying26 el_40 rfl (j := 3) rfl rfl) rfl ?_
          refine s_rd (r_oload h_t68 el_40 rfl (j := 3) rfl) rfl ?_
          refine s_st (s_alloc zt_40) rfl (fun b69 => ?_)
          refine s_st0 (s_cstore (out := [sv t68.Name, bv t68.Strict, iv .i64 t68.Rank, slv rT_api_Literal t68.Body, bv t68.Head.Neg, sv t68.Head.Name]) Tryd.sizeOf40 rfl (j := 4) rfl (part_agO (ψs := [sv t68.Name, bv t68.Strict, iv .i64 t68.Rank, slv rT_api_Literal t68.Body, bv t68.Head.Neg, sv t68.Head.Name]) rfl ⟨.inl sv_at, .inl bv_at, .inl iv_at, .inl slv_at, .inl bv_at, .inl sv_at, trivial⟩) rfl rfl rfl) (fun _ => ?_)
          refine l_nil (n_then (ref_seq (ref_seq ?_)))
          refine ref_draw [0, 1, 2] rfl (by kernel_rfl) (fun hok => ?_)
          refine a_rd (i := 0) hok rfl (by kernel_rfl) rfl (r_faddr (fo := 1) Tryd.underlying29 rfl rfl Tryd.sizeOf26 rfl) rfl ?_
          refine a_rd (i := 1) hok rfl (by kernel_rfl) rfl (r_cload Tryd.isAgg26 rfl (j := 1) rfl rfl) rfl ?_
          refine a_rd (i := 2) hok rfl (by kernel_rfl) rfl (r_cloadS Tryd.isAgg40 Tryd.sizeOf40 rfl (j := 4) rfl rfl rfl) rfl ?_
          refine pull fun t70 h_t70 => ?_
          refine a_next hok 3 [] (by kernel_rfl) ?_ trivial
          refine a_st (i := 3) hok rfl rfl (s_call (ψ := fun (x71 : Nat) => pv (.func (.func 59) #[] #[(ptr x71 0)])) (args := [.tmp 44]) Tryd.call35 rfl (strict_alike_ok h_t70) ⟨arg rfl, trivial⟩ (fun _ _ _ _ h => h)) (by intro _ h; cases h; rfl) (fun _ => ⟨trivial, ⟨⟨⟨rfl, rfl⟩, trivial⟩, ⟨trivial, trivial⟩⟩⟩) (fun x71 => ?_)
          refine pull fun t72 h_t72 => ?_
          refine a_next hok 4 [] (by kernel_rfl) ?_ trivial
          refine a_st (i := 4) hok rfl rfl (s_callC [2, 5] [true, true] (fun (_ : Unit) => [oa rT_api_Rule x66.1 x66.2 s65.2, oc x71 [sv t70.Name, bv t70.Strict, iv .i64 t70.Rank, slv rT_api_Literal t70.Body, bv t70.Head.Neg, sv t70.Head.Name]]) (fun (_ : Unit) => []) (fun (_ : Unit) => bv t72) (args := [.tmp 43, .tmp 45]) (caps := []) Tryd.call34 rfl (slices_ContainsFunc_api_Rule_api_Rule_ok h_t72) ⟨rfl, rfl, ⟨rfl, rfl, trivial⟩⟩ (fun _ => rfl) (fun _ => trivial) (fun _ => rfl) ⟨arg rfl, arg rfl, trivial⟩ (fun _ _ _ _ h => h)) (by intro _ h; cases h; rfl) (fun _ => ⟨⟨⟨rfl, rfl⟩, trivial⟩, ⟨trivial, ⟨trivial, trivial⟩⟩⟩) (fun _ => ?_)
          refine a_fin hok (by kernel_rfl) ?_
          refine b_of (nrm [oc b2 [pv (.slice none 0 0), pv (.slice none 0 0), pv (.slice none 0 0)], oc b7 [slv rT_api_Premise t5.Premises, pv x66.1, slv rT_api_Promotion t5.Promotions], oa rT_api_Rule x66.1 x66.2 s65.2, oa rT_api_Rule x51.1 x51.2 t50, oc b69 [sv t68.Name, bv t68.Strict, iv .i64 t68.Rank, slv rT_api_Literal t68.Body, bv t68.Head.Neg, sv t68.Head.Name], oc x71 [sv t70.Name, bv t70.Strict, iv .i64 t70.Rank, slv rT_api_Literal t70.Body, bv t70.Head.Neg, sv t70.Head.Name]] rfl) ?_
          refine n_then ?_
          refine ref_cond rfl (fun hb73 => ?_) (fun hb73 => ?_)
          · refine ref_exit (x_then (x_eq (n_then (ref_region ?_))))
            refine s_rd (r_add rfl rfl) rfl ?_
            refine mv1 rfl rfl ?_
            refine l_nil ?_
            exact goX x66 (weak [0, 1, 2, 3] ⟨rfl, rfl, rfl, rfl, rfl, rfl, trivial⟩ ⟨rfl, rfl, rfl, rfl, trivial⟩)
          refine ref_skip (n_then (ref_seq (ref_seq (ref_region ?_))))
          refine s_rd (r_faddr (fo := 1) Tryd.underlying29 rfl rfl Tryd.sizeOf26 rfl) rfl ?_
          refine s_rd (r_cload Tryd.isAgg26 rfl (j := 1) rfl rfl) rfl ?_
          refine s_rd (r_olen Tryd.underlying26 rfl (j := 2) rfl) rfl ?_
          refine s_rd (r_eql rfl rfl) rfl ?_
          refine l_nil (n_then ?_)
          refine ref_cond rfl (fun hb74 => ?_) (fun hb74 => ?_)
          · refine ref_seq (ref_region ?_)
            refine s_rd (r_build (ps := []) (rs := []) st_29 zs_29 trivial rfl rfl) rfl ?_
            refine s_st0 (s_cstore (out := [pv (.slice none 0 0), pv (.slice none 0 0), pv (.slice none 0 0)]) Tryd.sizeOf29 rfl (j := 0) rfl (part_agO (ψs := [pv (.slice none 0 0), pv (.slice none 0 0), pv (.slice none 0 0)]) rfl ⟨.inl (pv_at rfl), .inl (pv_at rfl), .inl (pv_at rfl), trivial⟩) rfl rfl rfl) (fun _ => ?_)
            refine as1 rfl rfl ?_
            refine l_nil (n_then (ref_ret (r_then (r_block (r_then ?_)))))
            refine retX ?_
            refine r_block (r_block (r_then ?_))
            refine retX ?_
            refine r_block (r_then ?_)
            refine b_of (ocW 0 [slv rT_api_Premise [], slv rT_api_Rule [], slv rT_api_Promotion []] rfl ⟨nil_sl, nil_sl, nil_sl, trivial⟩) ?_
            exact fin2 (.inl rfl) () [] rfl trivial rfl (rv_cell rfl (j := 0) rfl Tryd.isAgg29 Tryd.sizeOf29 rfl rfl) (rv_tmp rfl)
          refine ref_skip (n_then (ref_seq (ref_region ?_)))
          refine s_rd (r_cloadS Tryd.isAgg29 Tryd.sizeOf29 rfl (j := 1) rfl rfl rfl) rfl ?_
          refine pull fun t75 h_t75 => ?_
          refine s_st (s_callB (ψ := fun (_ : Unit) => sv t75) (args := [.tmp 52]) Tryd.call36 rfl (strict_fresh_ok h_t75) ⟨argAG (ψs := [slv rT_api_Premise t5.Premises, slv rT_api_Rule s65.2, slv rT_api_Promotion t5.Promotions]) rfl ⟨.inl rfl, .inr (.inl ⟨_, _, _, _, _, 2, rfl, rfl, rfl⟩), .inl rfl, trivial⟩, trivial⟩ (fun _ _ _ _ _ h => h)) rfl (fun _ => ?_)
          refine s_rd (r_faddr (fo := 0) Tryd.underlying40 rfl rfl Tryd.sizeOf9 rfl) rfl ?_
          refine s_st0 (s_cstore (out := [sv t75, bv t68.Strict, iv .i64 t68.Rank, slv rT_api_Literal t68.Body, bv t68.Head.Neg, sv t68.Head.Name]) Tryd.sizeOf9 rfl (j := 4) rfl (part_at rfl sv_at) rfl rfl rfl) (fun _ => ?_)
          refine l_nil (n_then (ref_region ?_))
          refine s_rd (r_faddr (fo := 1) Tryd.underlying29 rfl rfl Tryd.sizeOf26 rfl) rfl ?_
          refine s_rd (r_cload Tryd.isAgg26 rfl (j := 1) rfl rfl) rfl ?_
          refine s_rd (r_cloadS Tryd.isAgg40 Tryd.sizeOf40 rfl (j := 4) rfl rfl rfl) rfl ?_
          refine s_st (s_bslice (xs := [.tmp 57]) (ds := [(T_api_Rule.mk t75 t68.Strict t68.Rank t68.Body t68.Head)]) Tryd.underlying26 el_40 rfl (Nat.le_of_ble_eq_true rfl) ⟨(part_agO (ψs := [sv t75, bv t68.Strict, iv .i64 t68.Rank, slv rT_api_Literal t68.Body, bv t68.Head.Neg, sv t68.Head.Name]) rfl ⟨.inl sv_at, .inl bv_at, .inl iv_at, .inl slv_at, .inl bv_at, .inl sv_at, trivial⟩), trivial⟩) rfl (fun _ => ?_)
          refine pull fun t76 h_t76 => ?_
          refine s_st (s_append h_t76 Tryd.underlying26 el_40 rfl (j := 2) rfl rfl) rfl (fun o77 => ?_)
          refine s_rd (r_faddr (fo := 1) Tryd.underlying29 rfl rfl Tryd.sizeOf26 rfl) rfl ?_
          refine s_st0 (s_cstore (out := [slv rT_api_Premise t5.Premises, pv o77.1, slv rT_api_Promotion t5.Promotions]) Tryd.sizeOf26 rfl (j := 1) rfl (part_own rfl (j := 2) rfl) rfl rfl rfl) (fun _ => ?_)
          refine l_nil ?_
          refine b_of (nrm [oc b2 [pv (.slice none 0 0), pv (.slice none 0 0), pv (.slice none 0 0)], oc b7 [slv rT_api_Premise t5.Premises, pv o77.1, slv rT_api_Promotion t5.Promotions], oa rT_api_Rule o77.1 o77.2 t76, oa rT_api_Rule x51.1 x51.2 t50, oc b69 [sv t75, bv t68.Strict, iv .i64 t68.Rank, slv rT_api_Literal t68.Body, bv t68.Head.Neg, sv t68.Head.Name], oc x71 [sv t70.Name, bv t70.Strict, iv .i64 t70.Rank, slv rT_api_Literal t70.Body, bv t70.Head.Neg, sv t70.Head.Name]] rfl) ?_
          refine n_block (n_then (ref_region ?_))
          refine s_rd (r_add rfl rfl) rfl ?_
          refine mv1 rfl rfl ?_
          refine l_nil ?_
          exact goX o77 (weak [0, 1, 2, 3] ⟨rfl, rfl, rfl, rfl, rfl, rfl, trivial⟩ ⟨rfl, rfl, rfl, rfl, trivial⟩)
        refine ref_exit (x_then ?_)
        exact brkX x66 (weak [0, 1, 2] ⟨rfl, rfl, rfl, trivial⟩ ⟨rfl, rfl, rfl, trivial⟩)
      refine n_block (n_then (ref_region ?_))
      refine mv1 rfl rfl ?_
      refine s_rd (r_add rfl rfl) rfl ?_
      refine as1 rfl rfl ?_
      refine b_let (f := iv .i64) (t := 6) rfl fun i81 => ?_
      refine l_nil ?_
      exact goX y79 (weak [0, 1, 2] ⟨rfl, rfl, rfl, trivial⟩ ⟨rfl, rfl, rfl, trivial⟩)
    refine ref_exit (x_then ?_)
    exact brkX x45 (weak [0, 1, 2] ⟨rfl, rfl, trivial⟩ ⟨rfl, rfl, rfl, trivial⟩)
  refine n_then (ref_seq (ref_region ?_))
  refine s_rd (r_cloadS Tryd.isAgg29 Tryd.sizeOf29 rfl (j := 1) rfl rfl rfl) rfl ?_
  refine s_st0 (s_cstore (out := [slv rT_api_Premise t5.Premises, pv y83.1, slv rT_api_Promotion t5.Promotions]) Tryd.sizeOf29 rfl (j := 0) rfl (part_agO (ψs := [slv rT_api_Premise t5.Premises, pv y83.1, slv rT_api_Promotion t5.Promotions]) rfl ⟨.inl slv_at, .inr ⟨_, _, _, _, _, 2, rfl, rfl⟩, .inl slv_at, trivial⟩) rfl rfl rfl) (fun _ => ?_)
  refine as1 rfl rfl ?_
  refine l_nil (n_then (ref_ret ?_))
  refine b_of (frzGL [(62, ag [slv rT_api_Premise t5.Premises, slv rT_api_Rule q82, slv rT_api_Promotion t5.Promotions])] [(0, b2, [slv rT_api_Premise t5.Premises, slv rT_api_Rule q82, slv rT_api_Promotion t5.Promotions]), (1, b7, [slv rT_api_Premise t5.Premises, slv rT_api_Rule q82, slv rT_api_Promotion t5.Promotions])] (j := 2) rfl ⟨⟨_, rfl, .inr ⟨_, _, rfl, rfl, ⟨.inl rfl, .inr ⟨rfl, rfl⟩, .inl rfl, trivial⟩⟩⟩, trivial⟩ ⟨⟨_, rfl, ⟨.inl rfl, .inr ⟨rfl, rfl⟩, .inl rfl, trivial⟩⟩, ⟨_, rfl, ⟨.inl rfl, .inr ⟨rfl, rfl⟩, .inl rfl, trivial⟩⟩, trivial⟩) ?_
  refine b_of (nrm [oc b2 [slv rT_api_Premise t5.Premises, slv rT_api_Rule q82, slv rT_api_Promotion t5.Promotions], oc b7 [slv rT_api_Premise t5.Premises, slv rT_api_Rule q82, slv rT_api_Promotion t5.Promotions], dead] rfl) ?_
  exact fin2 (.inl rfl) () [] rfl trivial rfl (rv_cell rfl (j := 0) rfl Tryd.isAgg29 Tryd.sizeOf29 rfl rfl) (rv_tmp rfl)

/-! deliberation/strict.Derives -/
noncomputable def strict_Derives_m (b_0 : T_api_Base) (l_1 : (List T_api_Literal)) (x_2 : T_api_Literal) : Option (Bool) :=
  Option.bind (strict_Closure_m b_0 l_1) fun t3 =>
  Option.bind (literal_Has_m t3 x_2) fun t4 =>
  some t4

theorem strict_Derives_ok {b_0 : T_api_Base} {l_1 : (List T_api_Literal)} {x_2 : T_api_Literal} {r : Bool} (hm : strict_Derives_m b_0 l_1 x_2 = some r) :
    FnOk prog 29 [ag [slv rT_api_Premise b_0.Premises, slv rT_api_Rule b_0.Rules, slv rT_api_Promotion b_0.Promotions], slv rT_api_Literal l_1, ag [bv x_2.Neg, sv x_2.Name]] [] (fun (x : Unit) => [bv r]) (fun (x : Unit) => []) := by
  refine fn_ok (fn := Tryd.f29) (N := 12) (res := fun r x => [bv r]) (Ω1 := fun r x => []) Tryd.func29 rfl rfl hm rfl (fun E hM => ?_)
  unfold strict_Derives_m
  refine ref_seq (ref_region ?_)
  refine s_st (s_box (part_agO (ψs := [slv rT_api_Premise b_0.Premises, slv rT_api_Rule b_0.Rules, slv rT_api_Promotion b_0.Promotions]) rfl ⟨.inl slv_at, .inl slv_at, .inl slv_at, trivial⟩)) rfl (fun b1 => ?_)
  refine s_st (s_box (part_agO (ψs := [bv x_2.Neg, sv x_2.Name]) rfl ⟨.inl bv_at, .inl sv_at, trivial⟩)) rfl (fun b2 => ?_)
  refine as1 rfl rfl ?_
  refine l_nil (n_then (ref_seq ?_))
  refine ref_draw [0, 1, 3] rfl (by kernel_rfl) (fun hok => ?_)
  refine a_rd (i := 0) hok rfl (by kernel_rfl) rfl (r_cloadS Tryd.isAgg29 Tryd.sizeOf29 rfl (j := 0) rfl rfl rfl) rfl ?_
  refine a_rd (i := 1) hok rfl (by kernel_rfl) rfl (r_move rfl) rfl ?_
  refine a_rd (i := 3) hok rfl (by kernel_rfl) rfl (r_cloadS Tryd.isAgg35 Tryd.sizeOf35 rfl (j := 1) rfl rfl rfl) rfl ?_
  refine pull fun t3 h_t3 => ?_
  refine a_next hok 2 [] (by kernel_rfl) ?_ trivial
  refine a_st (i := 2) hok rfl rfl (s_call (ψ := fun (_ : Unit) => slv rT_api_Literal t3) (args := [.tmp 7, .tmp 8]) Tryd.call8 rfl (strict_Closure_ok h_t3) ⟨arg rfl, arg rfl, trivial⟩ (fun _ _ _ _ h => h)) (by intro _ h; cases h; rfl) (fun _ => ⟨⟨⟨rfl, rfl⟩, trivial⟩, ⟨trivial, ⟨trivial, trivial⟩⟩⟩) (fun _ => ?_)
  refine pull fun t4 h_t4 => ?_
  refine a_next hok 4 [] (by kernel_rfl) ?_ trivial
  refine a_st (i := 4) hok rfl rfl (s_call (ψ := fun (_ : Unit) => bv t4) (args := [.tmp 9, .tmp 10]) Tryd.call45 rfl (literal_Has_ok h_t4) ⟨arg rfl, arg rfl, trivial⟩ (fun _ _ _ _ h => h)) (by intro _ h; cases h; rfl) (fun _ => ⟨trivial, ⟨trivial, ⟨⟨⟨rfl, rfl⟩, trivial⟩, trivial⟩⟩⟩) (fun _ => ?_)
  refine a_next hok 5 [] (by kernel_rfl) ?_ trivial
  refine a_st (i := 5) hok rfl rfl (St.ofRd (r_assign rfl)) (by intro _ h; cases h; rfl) (fun _ => ⟨trivial, ⟨trivial, ⟨trivial, trivial⟩⟩⟩) (fun _ => ?_)
  refine a_fin hok (by kernel_rfl) ?_
  refine b_of (nrm [oc b1 [slv rT_api_Premise b_0.Premises, slv rT_api_Rule b_0.Rules, slv rT_api_Promotion b_0.Promotions], oc b2 [bv x_2.Neg, sv x_2.Name]] rfl) ?_
  refine n_then (ref_ret ?_)
  exact fin1 (.inl rfl) () [] rfl trivial rfl (rv_tmp rfl)

/-! slices.IndexFunc[[]deliberation/api.Rule,deliberation/api.Rule] -/
noncomputable def slices_IndexFunc_api_Rule_api_Rule_2_l1 (s_0 : (List T_api_Rule)) (e_0 : T_api_Rule) (s7 : Int) : Option (Sum ((Sum (Int) (Unit))) (Int)) :=
  bif decide (s7 < (s_0.length : Int)) then
    Option.bind (idxM s_0 s7) fun t10 =>
    Option.bind (strict_alike_1_m t10 e_0) fun t11 =>
    bif t11 then
      some (Sum.inl (Sum.inl s7))
    else
      some (Sum.inr (iadd .i64 s7 1))
  else
    some (Sum.inl (Sum.inr ()))

noncomputable def slices_IndexFunc_api_Rule_api_Rule_2_m (s_0 : (List T_api_Rule)) (e_0 : T_api_Rule) : Option (Int) :=
  Option.bind (loopC (slices_IndexFunc_api_Rule_api_Rule_2_l1 s_0 e_0) 0) (sumK (fun a : Int => some a) fun q13 : Unit =>
    some (-1))

theorem slices_IndexFunc_api_Rule_api_Rule_2_ok {s_0 : (List T_api_Rule)} {e_0 : T_api_Rule} {be_0 : Nat} {r : Int} (hm : slices_IndexFunc_api_Rule_api_Rule_2_m s_0 e_0 = some r) :
    FnOk prog 58 [slv rT_api_Rule s_0, pv (.func (.func 59) #[] #[(ptr be_0 0)])] [oc be_0 [sv e_0.Name, bv e_0.Strict, iv .i64 e_0.Rank, slv rT_api_Literal e_0.Body, bv e_0.Head.Neg, sv e_0.Head.Name]] (fun (x : Unit) => [iv .i64 r]) (fun (x : Unit) => [oc be_0 [sv e_0.Name, bv e_0.Strict, iv .i64 e_0.Rank, slv rT_api_Literal e_0.Body, bv e_0.Head.Neg, sv e_0.Head.Name]]) := by
  refine fn_ok (fn := Tryd.f58) (N := 19) (res := fun r x => [iv .i64 r]) (Ω1 := fun r x => [oc be_0 [sv e_0.Name, bv e_0.Strict, iv .i64 e_0.Rank, slv rT_api_Literal e_0.Body, bv e_0.Head.Neg, sv e_0.Head.Name]]) Tryd.func58 rfl rfl hm rfl (fun E hM => ?_)
  unfold slices_IndexFunc_api_Rule_api_Rule_2_m
  refine ref_seq (ref_region ?_)
  refine as1 rfl rfl ?_
  refine l_nil (n_then (ref_seq (ref_seq (ref_region ?_))))
  refine mv1 rfl rfl ?_
  refine s_rd (r_len Tryd.underlying26 rfl) rfl ?_
  refine mv1 rfl rfl ?_
  refine l_nil (n_then ?_)
  refine ref_loopX (f := (slices_IndexFunc_api_Rule_api_Rule_2_l1 s_0 e_0)) (Γl := (fun (s7 : Int) (x8 : Unit) => [(0, slv rT_api_Rule s_0), (1, pv (.func (.func 59) #[] #[(ptr be_0 0)])), (7, iv .i64 (s_0.length : Int)), (8, iv .i64 s7)])) (Ωl := (fun (s7 : Int) (x8 : Unit) => [oc be_0 [sv e_0.Name, bv e_0.Strict, iv .i64 e_0.Rank, slv rT_api_Literal e_0.Body, bv e_0.Head.Neg, sv e_0.Head.Name]])) (Γb := (fun (q13 : Unit) (y14 : Unit) => [(1, pv (.func (.func 59) #[] #[(ptr be_0 0)]))])) (Ωb := (fun (q13 : Unit) (y14 : Unit) => [oc be_0 [sv e_0.Name, bv e_0.Strict, iv .i64 e_0.Rank, slv rT_api_Literal e_0.Body, bv e_0.Head.Neg, sv e_0.Head.Name]])) (kr := (fun a : Int => some a)) 0 () (weak [0] ⟨rfl, rfl, rfl, rfl, trivial⟩ ⟨rfl, trivial⟩) (fun s7 x8 => ?_) (fun q13 y14 => ?_)
  · unfold slices_IndexFunc_api_Rule_api_Rule_2_l1
    refine ref_seq (ref_region ?_)
    refine s_rd (r_lss rfl rfl) rfl ?_
    refine l_nil (n_then (ref_seq ?_))
    refine ref_cond rfl (fun hb9 => ?_) (fun hb9 => ?_)
    · refine ref_skip (n_then (ref_seq (ref_block (ref_seq (ref_region ?_)))))
      refine mv1 rfl rfl ?_
      refine as1 rfl rfl ?_
      refine l_nil (n_then (ref_seq (ref_region ?_)))
      refine mv1 rfl rfl ?_
      refine mv1 rfl rfl ?_
      refine mv1 rfl rfl ?_
      refine pull fun t10 h_t10 => ?_
      refine s_rd (r_index h_t10 Tryd.underlying26 el_40 rfl rfl) rfl ?_
      refine s_rd (r_load el_40 rfl) rfl ?_
      refine pull fun t11 h_t11 => ?_
      refine s_st (s_callC [0] [true] (fun (_ : Unit) => [oc be_0 [sv e_0.Name, bv e_0.Strict, iv .i64 e_0.Rank, slv rT_api_Literal e_0.Body, bv e_0.Head.Neg, sv e_0.Head.Name]]) (fun (_ : Unit) => []) (fun (_ : Unit) => bv t11) (args := [.tmp 15]) (caps := [(ptr be_0 0)]) Tryd.call59 rfl (strict_alike_1_ok h_t11) ⟨rfl, rfl, trivial⟩ (fun _ => rfl) (fun _ => trivial) (fun _ => rfl) ⟨arg rfl, arg rfl, trivial⟩ (fun _ _ _ _ h => h)) rfl (fun _ => ?_)
      refine l_nil (n_then ?_)
      refine ref_cond rfl (fun hb12 => ?_) (fun hb12 => ?_)
      · refine ref_seq (ref_region ?_)
        refine mv1 rfl rfl ?_
        refine as1 rfl rfl ?_
        refine l_nil (n_then (ref_ret (r_block (r_then ?_))))
        refine retX ?_
        refine r_block (r_then ?_)
        exact fin1 (.inl rfl) () [0] rfl ⟨rfl, trivial⟩ rfl (rv_tmp rfl)
      refine ref_skip (n_block (n_then (ref_region ?_)))
      refine s_rd (r_add rfl rfl) rfl ?_
      refine mv1 rfl rfl ?_
      refine l_nil ?_
      exact goX () (weak [0] ⟨rfl, rfl, rfl, rfl, trivial⟩ ⟨rfl, trivial⟩)
    refine ref_exit (x_then ?_)
    exact brkX () (weak [0] ⟨rfl, trivial⟩ ⟨rfl, trivial⟩)
  refine n_then (ref_seq (ref_region ?_))
  refine as1 rfl rfl ?_
  refine l_nil (n_then (ref_ret ?_))
  exact fin1 (.inl rfl) () [0] rfl ⟨rfl, trivial⟩ rfl (rv_tmp rfl)

/-! slices.ContainsFunc[[]deliberation/api.Rule,deliberation/api.Rule] -/
noncomputable def slices_ContainsFunc_api_Rule_api_Rule_1_m (s_0 : (List T_api_Rule)) (e_0 : T_api_Rule) : Option (Bool) :=
  Option.bind (slices_IndexFunc_api_Rule_api_Rule_2_m s_0 e_0) fun t1 =>
  letM (decide (t1 ≥ 0)) fun t2 =>
  some t2

theorem slices_ContainsFunc_api_Rule_api_Rule_1_ok {s_0 : (List T_api_Rule)} {e_0 : T_api_Rule} {be_0 : Nat} {r : Bool} (hm : slices_ContainsFunc_api_Rule_api_Rule_1_m s_0 e_0 = some r) :
    FnOk prog 34 [slv rT_api_Rule s_0, pv (.func (.func 59) #[] #[(ptr be_0 0)])] [oc be_0 [sv e_0.Name, bv e_0.Strict, iv .i64 e_0.Rank, slv rT_api_Literal e_0.Body, bv e_0.Head.Neg, sv e_0.Head.Name]] (fun (x : Unit) => [bv r]) (fun (x : Unit) => [oc be_0 [sv e_0.Name, bv e_0.Strict, iv .i64 e_0.Rank, slv rT_api_Literal e_0.Body, bv e_0.Head.Neg, sv e_0.Head.Name]]) := by
  refine fn_ok (fn := Tryd.f34) (N := 9) (res := fun r x => [bv r]) (Ω1 := fun r x => [oc be_0 [sv e_0.Name, bv e_0.Strict, iv .i64 e_0.Rank, slv rT_api_Literal e_0.Body, bv e_0.Head.Neg, sv e_0.Head.Name]]) Tryd.func34 rfl rfl hm rfl (fun E hM => ?_)
  unfold slices_ContainsFunc_api_Rule_api_Rule_1_m
  refine ref_seq (ref_region ?_)
  refine as1 rfl rfl ?_
  refine l_nil (n_then (ref_seq (ref_region ?_)))
  refine mv1 rfl rfl ?_
  refine mv1 rfl rfl ?_
  refine pull fun t1 h_t1 => ?_
  refine s_st (s_callC [0] [true] (fun (_ : Unit) => [oc be_0 [sv e_0.Name, bv e_0.Strict, iv .i64 e_0.Rank, slv rT_api_Literal e_0.Body, bv e_0.Head.Neg, sv e_0.Head.Name]]) (fun (_ : Unit) => []) (fun (_ : Unit) => iv .i64 t1) (args := [.tmp 5, .tmp 6]) (caps := []) Tryd.call58 rfl (slices_IndexFunc_api_Rule_api_Rule_2_ok h_t1) ⟨rfl, rfl, trivial⟩ (fun _ => rfl) (fun _ => trivial) (fun _ => rfl) ⟨arg rfl, arg rfl, trivial⟩ (fun _ _ _ _ h => h)) rfl (fun _ => ?_)
  refine s_rd (r_geq rfl rfl) rfl ?_
  refine as1 rfl rfl ?_
  refine b_let (f := bv) (t := 4) rfl fun t2 => ?_
  refine l_nil (n_then (ref_ret ?_))
  exact fin1 (.inl rfl) () [0] rfl ⟨rfl, trivial⟩ rfl (rv_tmp rfl)

/-! deliberation/strict.Closed -/
noncomputable def strict_Closed_l2 (b_0 : T_api_Base) (t36 : List T_api_Rule) (s47 : Int) : Option (Sum ((Sum (Bool) (Unit))) (Int)) :=
  bif decide (s47 < (t36.length : Int)) then
    Option.bind (idxM t36 s47) fun t50 =>
    Option.bind (strict_alike_m t50) fun t52 =>
    Option.bind (slices_ContainsFunc_api_Rule_api_Rule_1_m b_0.Rules t52) fun t54 =>
    bif !t54 then
      some (Sum.inl (Sum.inl false))
    else
      some (Sum.inr (iadd .i64 s47 1))
  else
    some (Sum.inl (Sum.inr ()))

noncomputable def strict_Closed_l1 (b_0 : T_api_Base) (s30 : Int) : Option (Sum ((Sum (Bool) (Unit))) (Int)) :=
  bif decide (s30 < (b_0.Rules.length : Int)) then
    Option.bind (idxM b_0.Rules s30) fun t33 =>
    bif !t33.Strict then
      some (Sum.inr (iadd .i64 s30 1))
    else
      Option.bind (strict_transposes_m t33) fun t36 =>
      Option.bind (loopC (strict_Closed_l2 b_0 t36) 0) (sumK (fun a : Bool => some (Sum.inl (Sum.inl a))) fun q56 : Unit =>
        some (Sum.inr (iadd .i64 s30 1)))
  else
    some (Sum.inl (Sum.inr ()))

noncomputable def strict_Closed_m (b_0 : T_api_Base) : Option (Bool) :=
  Option.bind (loopC (strict_Closed_l1 b_0) 0) (sumK (fun a : Bool => some a) fun q58 : Unit =>
    some true)

theorem strict_Closed_ok {b_0 : T_api_Base} {r : Bool} (hm : strict_Closed_m b_0 = some r) :
    FnOk prog 16 [ag [slv rT_api_Premise b_0.Premises, slv rT_api_Rule b_0.Rules, slv rT_api_Promotion b_0.Promotions]] [] (fun (x : Unit) => [bv r]) (fun (x : Unit) => []) := by
  refine fn_ok (fn := Tryd.f16) (N := 32) (res := fun r x => [bv r]) (Ω1 := fun r x => []) Tryd.func16 rfl rfl hm rfl (fun E hM => ?_)
  unfold strict_Closed_m
  refine ref_seq (ref_region ?_)
  refine s_st (s_box (part_agO (ψs := [slv rT_api_Premise b_0.Premises, slv rT_api_Rule b_0.Rules, slv rT_api_Promotion b_0.Promotions]) rfl ⟨.inl slv_at, .inl slv_at, .inl slv_at, trivial⟩)) rfl (fun b1 => ?_)
  refine as1 rfl rfl ?_
  refine l_nil (n_then (ref_seq (ref_seq (ref_region ?_))))
  refine s_rd (r_faddr (fo := 1) Tryd.underlying29 rfl rfl Tryd.sizeOf26 rfl) rfl ?_
  refine s_rd (r_cload Tryd.isAgg26 rfl (j := 0) rfl rfl) rfl ?_
  refine s_rd (r_len Tryd.underlying26 rfl) rfl ?_
  refine mv1 rfl rfl ?_
  refine l_nil (n_then ?_)
  refine ref_loopX (f := (strict_Closed_l1 b_0)) (Γl := (fun (s30 : Int) (x31 : Unit) => [(1, pv (ptr b1 0)), (8, slv rT_api_Rule b_0.Rules), (9, iv .i64 (b_0.Rules.length : Int)), (10, iv .i64 s30)])) (Ωl := (fun (s30 : Int) (x31 : Unit) => [oc b1 [slv rT_api_Premise b_0.Premises, slv rT_api_Rule b_0.Rules, slv rT_api_Promotion b_0.Promotions]])) (Γb := (fun (q58 : Unit) (y59 : Unit) => [])) (Ωb := (fun (q58 : Unit) (y59 : Unit) => [])) (kr := (fun a : Bool => some a)) 0 () (weak [0] ⟨rfl, rfl, rfl, rfl, trivial⟩ ⟨rfl, trivial⟩) (fun s30 x31 => ?_) (fun q58 y59 => ?_)
  · unfold strict_Closed_l1
    refine ref_seq (ref_region ?_)
    refine s_rd (r_lss rfl rfl) rfl ?_
    refine l_nil (n_then (ref_seq ?_))
    refine ref_cond rfl (fun hb32 => ?_) (fun hb32 => ?_)
    · refine ref_skip (n_then (ref_seq (ref_block (ref_seq (ref_region ?_)))))
      refine pull fun t33 h_t33 => ?_
      refine s_rd (r_index h_t33 Tryd.underlying26 el_40 rfl rfl) rfl ?_
      refine s_rd (r_load el_40 rfl) rfl ?_
      refine s_st (s_alloc zt_40) rfl (fun b34 => ?_)
      refine s_st0 (s_cstore (out := [sv t33.Name, bv t33.Strict, iv .i64 t33.Rank, slv rT_api_Literal t33.Body, bv t33.Head.Neg, sv t33.Head.Name]) Tryd.sizeOf40 rfl (j := 1) rfl (part_agO (ψs := [sv t33.Name, bv t33.Strict, iv .i64 t33.Rank, slv rT_api_Literal t33.Body, bv t33.Head.Neg, sv t33.Head.Name]) rfl ⟨.inl sv_at, .inl bv_at, .inl iv_at, .inl slv_at, .inl bv_at, .inl sv_at, trivial⟩) rfl rfl rfl) (fun _ => ?_)
      refine l_nil (n_then (ref_seq (ref_seq (ref_region ?_))))
      refine s_rd (r_faddr (fo := 1) Tryd.underlying40 rfl rfl Tryd.sizeOf4 rfl) rfl ?_
      refine s_rd (r_cload Tryd.isAgg4 rfl (j := 1) rfl rfl) rfl ?_
      refine s_rd (r_not rfl) rfl ?_
      refine l_nil (n_then ?_)
      refine ref_cond rfl (fun hb35 => ?_) (fun hb35 => ?_)
      · refine ref_exit (x_then (x_eq (n_then (ref_region ?_))))
        refine s_rd (r_add rfl rfl) rfl ?_
        refine mv1 rfl rfl ?_
        refine l_nil ?_
        exact goX () (weak [0] ⟨rfl, rfl, rfl, rfl, trivial⟩ ⟨rfl, trivial⟩)
      refine ref_skip (n_then (ref_seq (ref_region ?_)))
      refine s_rd (r_cloadS Tryd.isAgg40 Tryd.sizeOf40 rfl (j := 1) rfl rfl rfl) rfl ?_
      refine pull fun t36 h_t36 => ?_
      refine s_st (s_call (ψ := fun (x37 : (Value × List Nat)) => pv x37.1) (args := [.tmp 17]) Tryd.call33 rfl (strict_transposes_ok h_t36) ⟨arg rfl, trivial⟩ (fun _ _ _ _ h => h)) rfl (fun x37 => ?_)
      refine s_rd (r_olen Tryd.underlying26 rfl (j := 2) rfl) rfl ?_
      refine mv1 rfl rfl ?_
      refine l_nil ?_
      refine b_of (nrm [oc b1 [slv rT_api_Premise b_0.Premises, slv rT_api_Rule b_0.Rules, slv rT_api_Promotion b_0.Promotions], oc b34 [sv t33.Name, bv t33.Strict, iv .i64 t33.Rank, slv rT_api_Literal t33.Body, bv t33.Head.Neg, sv t33.Head.Name], oa rT_api_Rule x37.1 x37.2 t36] rfl) ?_
      refine n_then ?_
      refine ref_loopX (f := (strict_Closed_l2 b_0 t36)) (Γl := (fun (s47 : Int) (x48 : Unit) => [(1, pv (ptr b1 0)), (8, slv rT_api_Rule b_0.Rules), (9, iv .i64 (b_0.Rules.length : Int)), (10, iv .i64 s30), (18, pv x37.1), (19, iv .i64 (t36.length : Int)), (20, iv .i64 s47)])) (Ωl := (fun (s47 : Int) (x48 : Unit) => [oc b1 [slv rT_api_Premise b_0.Premises, slv rT_api_Rule b_0.Rules, slv rT_api_Promotion b_0.Promotions], oa rT_api_Rule x37.1 x37.2 t36])) (Γb := (fun (q56 : Unit) (y57 : Unit) => [(1, pv (ptr b1 0)), (8, slv rT_api_Rule b_0.Rules), (9, iv .i64 (b_0.Rules.length : Int)), (10, iv .i64 s30)])) (Ωb := (fun (q56 : Unit) (y57 : Unit) => [oc b1 [slv rT_api_Premise b_0.Premises, slv rT_api_Rule b_0.Rules, slv rT_api_Promotion b_0.Promotions]])) (kr := (fun a : Bool => some (Sum.inl (Sum.inl a)))) 0 () (weak [0, 2] ⟨rfl, rfl, rfl, rfl, rfl, rfl, rfl, trivial⟩ ⟨rfl, rfl, trivial⟩) (fun s47 x48 => ?_) (fun q56 y57 => ?_)
      · unfold strict_Closed_l2
        refine ref_seq (ref_region ?_)
        refine s_rd (r_lss rfl rfl) rfl ?_
        refine l_nil (n_then (ref_seq ?_))
        refine ref_cond rfl (fun hb49 => ?_) (fun hb49 => ?_)
        · refine ref_skip (n_then (ref_seq (ref_block (ref_seq (ref_region ?_)))))
          refine pull fun t50 h_t50 => ?_
          refine s_rd (r_oindex h_t50 Tryd.underlying26 el_40 rfl (j := 1) rfl rfl) rfl ?_
          refine s_rd (r_oload h_t50 el_40 rfl (j := 1) rfl) rfl ?_
          refine s_st (s_alloc zt_40) rfl (fun b51 => ?_)
          refine s_st0 (s_cstore (out := [sv t50.Name, bv t50.Strict, iv .i64 t50.Rank, slv rT_api_Literal t50.Body, bv t50.Head.Neg, sv t50.Head.Name]) Tryd.sizeOf40 rfl (j := 2) rfl (part_agO (ψs := [sv t50.Name, bv t50.Strict, iv .i64 t50.Rank, slv rT_api_Literal t50.Body, bv t50.Head.Neg, sv t50.Head.Name]) rfl ⟨.inl sv_at, .inl bv_at, .inl iv_at, .inl slv_at, .inl bv_at, .inl sv_at, trivial⟩) rfl rfl rfl) (fun _ => ?_)
          refine l_nil (n_then (ref_seq ?_))
          refine ref_draw [0, 1, 2, 5] rfl (by kernel_rfl) (fun hok => ?_)
          refine a_rd (i := 0) hok rfl (by kernel_rfl) rfl (r_faddr (fo := 1) Tryd.underlying29 rfl rfl Tryd.sizeOf26 rfl) rfl ?_
          refine a_rd (i := 1) hok rfl (by kernel_rfl) rfl (r_cload Tryd.isAgg26 rfl (j := 0) rfl rfl) rfl ?_
          refine a_rd (i := 2) hok rfl (by kernel_rfl) rfl (r_cloadS Tryd.isAgg40 Tryd.sizeOf40 rfl (j := 2) rfl rfl rfl) rfl ?_
          refine pull fun t52 h_t52 => ?_
          refine a_next hok 3 [] (by kernel_rfl) ?_ trivial
          refine a_st (i := 3) hok rfl rfl (s_call (ψ := fun (x53 : Nat) => pv (.func (.func 59) #[] #[(ptr x53 0)])) (args := [.tmp 26]) Tryd.call35 rfl (strict_alike_ok h_t52) ⟨arg rfl, trivial⟩ (fun _ _ _ _ h => h)) (by intro _ h; cases h; rfl) (fun _ => ⟨trivial, ⟨⟨⟨rfl, rfl⟩, trivial⟩, ⟨trivial, trivial⟩⟩⟩) (fun x53 => ?_)
          refine pull fun t54 h_t54 => ?_
          refine a_next hok 4 [] (by kernel_rfl) ?_ trivial
          refine a_st (i := 4) hok rfl rfl (s_callC [3] [true] (fun (_ : Unit) => [oc x53 [sv t52.Name, bv t52.Strict, iv .i64 t52.Rank, slv rT_api_Literal t52.Body, bv t52.Head.Neg, sv t52.Head.Name]]) (fun (_ : Unit) => []) (fun (_ : Unit) => bv t54) (args := [.tmp 25, .tmp 27]) (caps := []) Tryd.call34 rfl (slices_ContainsFunc_api_Rule_api_Rule_1_ok h_t54) ⟨rfl, rfl, trivial⟩ (fun _ => rfl) (fun _ => trivial) (fun _ => rfl) ⟨arg rfl, arg rfl, trivial⟩ (fun _ _ _ _ h => h)) (by intro _ h; cases h; rfl) (fun _ => ⟨⟨⟨rfl, rfl⟩, trivial⟩, ⟨trivial, ⟨trivial, trivial⟩⟩⟩) (fun _ => ?_)
          refine a_rd (i := 5) hok rfl (by kernel_rfl) rfl (r_not rfl) rfl ?_
          refine a_fin hok (by kernel_rfl) ?_
          refine b_of (nrm [oc b1 [slv rT_api_Premise b_0.Premises, slv rT_api_Rule b_0.Rules, slv rT_api_Promotion b_0.Promotions], oa rT_api_Rule x37.1 x37.2 t36, oc b51 [sv t50.Name, bv t50.Strict, iv .i64 t50.Rank, slv rT_api_Literal t50.Body, bv t50.Head.Neg, sv t50.Head.Name], oc x53 [sv t52.Name, bv t52.Strict, iv .i64 t52.Rank, slv rT_api_Literal t52.Body, bv t52.Head.Neg, sv t52.Head.Name]] rfl) ?_
          refine n_then ?_
          refine ref_cond rfl (fun hb55 => ?_) (fun hb55 => ?_)
          · refine ref_seq (ref_region ?_)
            refine as1 rfl rfl ?_
            refine l_nil (n_then (ref_ret (r_block (r_then ?_))))
            refine retX ?_
            refine r_block (r_block (r_then ?_))
            refine retX ?_
            refine r_block (r_then ?_)
            exact fin1 (.inl rfl) () [] rfl trivial rfl (rv_tmp rfl)
          refine ref_skip (n_block (n_then (ref_region ?_)))
          refine s_rd (r_add rfl rfl) rfl ?_
          refine mv1 rfl rfl ?_
          refine l_nil ?_
          exact goX () (weak [0, 1] ⟨rfl, rfl, rfl, rfl, rfl, rfl, rfl, trivial⟩ ⟨rfl, rfl, trivial⟩)
        refine ref_exit (x_then ?_)
        exact brkX () (weak [0] ⟨rfl, rfl, rfl, rfl, trivial⟩ ⟨rfl, trivial⟩)
      refine n_block (n_then (ref_region ?_))
      refine s_rd (r_add rfl rfl) rfl ?_
      refine mv1 rfl rfl ?_
      refine l_nil ?_
      exact goX () (weak [0] ⟨rfl, rfl, rfl, rfl, trivial⟩ ⟨rfl, trivial⟩)
    refine ref_exit (x_then ?_)
    exact brkX () (weak [] trivial trivial)
  refine n_then (ref_seq (ref_region ?_))
  refine as1 rfl rfl ?_
  refine l_nil (n_then (ref_ret ?_))
  exact fin1 (.inl rfl) () [] rfl trivial rfl (rv_tmp rfl)

/-! deliberation/strict.Axioms -/
noncomputable def strict_Axioms_l1 (b_0 : T_api_Base) (s18 : Int × (List T_api_Literal)) : Option (Sum ((List T_api_Literal)) (Int × (List T_api_Literal))) :=
  bif decide (s18.1 < (b_0.Premises.length : Int)) then
    Option.bind (idxM b_0.Premises s18.1) fun t21 =>
    bif t21.Kind == 1 then
      Option.bind (appM 24 s18.2 [t21.Literal]) fun out24 =>
      some (Sum.inr (iadd .i64 s18.1 1, out24))
    else
      some (Sum.inr (iadd .i64 s18.1 1, s18.2))
  else
    some (Sum.inl s18.2)

noncomputable def strict_Axioms_m (b_0 : T_api_Base) : Option (List T_api_Literal) :=
  Option.bind (loopC (strict_Axioms_l1 b_0) (0, [])) fun q26 : (List T_api_Literal) =>
  Option.bind (literal_Normal_m q26) fun t28 =>
  some t28

theorem strict_Axioms_ok {b_0 : T_api_Base} {r : List T_api_Literal} (hm : strict_Axioms_m b_0 = some r) :
    FnOk prog 47 [ag [slv rT_api_Premise b_0.Premises, slv rT_api_Rule b_0.Rules, slv rT_api_Promotion b_0.Promotions]] [] (fun (x : Unit) => [slv rT_api_Literal r]) (fun (x : Unit) => []) := by
  refine fn_ok (fn := Tryd.f47) (N := 24) (res := fun r x => [slv rT_api_Literal r]) (Ω1 := fun r x => []) Tryd.func47 rfl rfl hm rfl (fun E hM => ?_)
  unfold strict_Axioms_m
  refine ref_seq (ref_region ?_)
  refine s_st (s_box (part_agO (ψs := [slv rT_api_Premise b_0.Premises, slv rT_api_Rule b_0.Rules, slv rT_api_Promotion b_0.Promotions]) rfl ⟨.inl slv_at, .inl slv_at, .inl slv_at, trivial⟩)) rfl (fun b1 => ?_)
  refine as1 rfl rfl ?_
  refine l_nil (n_then (ref_seq (ref_region ?_)))
  refine as1 rfl rfl ?_
  refine l_nil (n_then (ref_seq (ref_seq (ref_region ?_))))
  refine s_rd (r_faddr (fo := 0) Tryd.underlying29 rfl rfl Tryd.sizeOf25 rfl) rfl ?_
  refine s_rd (r_cload Tryd.isAgg25 rfl (j := 0) rfl rfl) rfl ?_
  refine s_rd (r_len Tryd.underlying25 rfl) rfl ?_
  refine mv1 rfl rfl ?_
  refine l_nil (n_then ?_)
  refine b_of (own_nil rT_api_Literal) ?_
  refine ref_loopB (f := (strict_Axioms_l1 b_0)) (Γl := (fun (s18 : Int × (List T_api_Literal)) (x19 : (Value × List Nat)) => [(3, pv x19.1), (7, slv rT_api_Premise b_0.Premises), (8, iv .i64 (b_0.Premises.length : Int)), (9, iv .i64 s18.1)])) (Ωl := (fun (s18 : Int × (List T_api_Literal)) (x19 : (Value × List Nat)) => [oa rT_api_Literal x19.1 x19.2 s18.2])) (Γb := (fun (q26 : (List T_api_Literal)) (y27 : (Value × List Nat)) => [(3, pv y27.1)])) (Ωb := (fun (q26 : (List T_api_Literal)) (y27 : (Value × List Nat)) => [oa rT_api_Literal y27.1 y27.2 q26])) (0, []) ((.slice none 0 0), []) (weak [1] ⟨rfl, rfl, rfl, rfl, trivial⟩ ⟨rfl, trivial⟩) (fun s18 x19 => ?_) (fun q26 y27 => ?_)
  · unfold strict_Axioms_l1
    refine ref_seq (ref_region ?_)
    refine s_rd (r_lss rfl rfl) rfl ?_
    refine l_nil (n_then (ref_seq ?_))
    refine ref_cond rfl (fun hb20 => ?_) (fun hb20 => ?_)
    · refine ref_skip (n_then (ref_seq (ref_block (ref_seq (ref_region ?_)))))
      refine pull fun t21 h_t21 => ?_
      refine s_rd (r_index h_t21 Tryd.underlying25 el_55 rfl rfl) rfl ?_
      refine s_rd (r_load el_55 rfl) rfl ?_
      refine s_st (s_alloc zt_55) rfl (fun b22 => ?_)
      refine s_st0 (s_cstore (out := [bv t21.Literal.Neg, sv t21.Literal.Name, iv .i64 t21.Kind, iv .i64 t21.Rank, sv t21.Source]) Tryd.sizeOf55 rfl (j := 1) rfl (part_agO (ψs := [bv t21.Literal.Neg, sv t21.Literal.Name, iv .i64 t21.Kind, iv .i64 t21.Rank, sv t21.Source]) rfl ⟨.inl bv_at, .inl sv_at, .inl iv_at, .inl iv_at, .inl sv_at, trivial⟩) rfl rfl rfl) (fun _ => ?_)
      refine l_nil (n_then (ref_seq (ref_region ?_)))
      refine s_rd (r_faddr (fo := 2) Tryd.underlying55 rfl rfl Tryd.sizeOf3 rfl) rfl ?_
      refine s_rd (r_cload Tryd.isAgg3 rfl (j := 1) rfl rfl) rfl ?_
      refine s_rd (r_eql rfl rfl) rfl ?_
      refine l_nil (n_then ?_)
      refine ref_cond rfl (fun hb23 => ?_) (fun hb23 => ?_)
      · refine ref_region ?_
        refine mv1 rfl rfl ?_
        refine s_rd (r_faddr (fo := 0) Tryd.underlying55 rfl rfl Tryd.sizeOf35 rfl) rfl ?_
        refine s_rd (r_cloadS Tryd.isAgg35 Tryd.sizeOf35 rfl (j := 1) rfl rfl rfl) rfl ?_
        refine s_st (s_bslice (xs := [.tmp 18]) (ds := [t21.Literal]) Tryd.underlying31 el_35 rfl (Nat.le_of_ble_eq_true rfl) ⟨(part_agO (ψs := [bv t21.Literal.Neg, sv t21.Literal.Name]) rfl ⟨.inl bv_at, .inl sv_at, trivial⟩), trivial⟩) rfl (fun _ => ?_)
        refine pull fun out24 h_out24 => ?_
        refine s_st (s_append h_out24 Tryd.underlying31 el_35 rfl (j := 0) rfl rfl) rfl (fun o25 => ?_)
        refine as1 rfl rfl ?_
        refine l_nil ?_
        refine b_of (nrm [oa rT_api_Literal o25.1 o25.2 out24, oc b22 [bv t21.Literal.Neg, sv t21.Literal.Name, iv .i64 t21.Kind, iv .i64 t21.Rank, sv t21.Source]] rfl) ?_
        refine n_block (n_then (ref_region ?_))
        refine s_rd (r_add rfl rfl) rfl ?_
        refine mv1 rfl rfl ?_
        refine l_nil ?_
        exact goB o25 (weak [0] ⟨rfl, rfl, rfl, rfl, trivial⟩ ⟨rfl, trivial⟩)
      refine ref_skip (n_block (n_then (ref_region ?_)))
      refine s_rd (r_add rfl rfl) rfl ?_
      refine mv1 rfl rfl ?_
      refine l_nil ?_
      exact goB x19 (weak [0] ⟨rfl, rfl, rfl, rfl, trivial⟩ ⟨rfl, trivial⟩)
    refine ref_exit (x_then ?_)
    exact brkB x19 (weak [0] ⟨rfl, trivial⟩ ⟨rfl, trivial⟩)
  refine n_then (ref_seq (ref_region ?_))
  refine mv1 rfl rfl ?_
  refine b_of (frzL [3, 22] (j := 0) rfl ⟨rfl, rfl, trivial⟩) ?_
  refine pull fun t28 h_t28 => ?_
  refine s_st (s_call (ψ := fun (_ : Unit) => slv rT_api_Literal t28) (args := [.tmp 22]) Tryd.call24 rfl (literal_Normal_ok h_t28) ⟨arg rfl, trivial⟩ (fun _ _ _ _ h => h)) rfl (fun _ => ?_)
  refine as1 rfl rfl ?_
  refine l_nil (n_then (ref_ret ?_))
  exact fin1 (.inl rfl) () [] rfl trivial rfl (rv_tmp rfl)

/-! deliberation/literal.Consistent -/
noncomputable def literal_Consistent_l1 (l_0 : (List T_api_Literal)) (s20 : Int × (List (T_api_Literal × T_anon61))) : Option (Sum ((Sum (Bool) (Unit))) (Int × (List (T_api_Literal × T_anon61)))) :=
  bif decide (s20.1 < (l_0.length : Int)) then
    Option.bind (idxM l_0 s20.1) fun t23 =>
    Option.bind (literal_Complement_m t23) fun t25 =>
    letM (mapHas (mapPut s20.2 t23 (T_anon61.mk )) t25) fun ok27 =>
    bif ok27 then
      some (Sum.inl (Sum.inl false))
    else
      some (Sum.inr (iadd .i64 s20.1 1, mapPut s20.2 t23 (T_anon61.mk )))
  else
    some (Sum.inl (Sum.inr ()))

noncomputable def literal_Consistent_m (l_0 : (List T_api_Literal)) : Option (Bool) :=
  Option.bind (loopC (literal_Consistent_l1 l_0) (0, [])) (sumK (fun a : Bool => some a) fun q29 : Unit =>
    some true)

theorem literal_Consistent_ok {l_0 : (List T_api_Literal)} {r : Bool} (hm : literal_Consistent_m l_0 = some r) :
    FnOk prog 46 [slv rT_api_Literal l_0] [] (fun (x : Unit) => [bv r]) (fun (x : Unit) => []) := by
  refine fn_ok (fn := Tryd.f46) (N := 29) (res := fun r x => [bv r]) (Ω1 := fun r x => []) Tryd.func46 rfl rfl hm rfl (fun E hM => ?_)
  unfold literal_Consistent_m
  refine ref_seq (ref_region ?_)
  refine as1 rfl rfl ?_
  refine l_nil (n_then (ref_seq (ref_region ?_)))
  refine mv1 rfl rfl ?_
  refine s_rd (r_len Tryd.underlying31 rfl) rfl ?_
  refine s_st (s_mkmapC (κ := rT_api_Literal) (ν := rT_anon61) Tryd.underlying60 rfl) rfl (fun b1 => ?_)
  refine as1 rfl rfl ?_
  refine l_nil (n_then (ref_seq (ref_seq (ref_region ?_))))
  refine mv1 rfl rfl ?_
  refine s_rd (r_len Tryd.underlying31 rfl) rfl ?_
  refine mv1 rfl rfl ?_
  refine l_nil (n_then ?_)
  refine ref_loopX (f := (literal_Consistent_l1 l_0)) (Γl := (fun (s20 : Int × (List (T_api_Literal × T_anon61))) (x21 : Unit) => [(3, pv (.map (some b1))), (11, slv rT_api_Literal l_0), (12, iv .i64 (l_0.length : Int)), (13, iv .i64 s20.1)])) (Ωl := (fun (s20 : Int × (List (T_api_Literal × T_anon61))) (x21 : Unit) => [om rT_api_Literal rT_anon61 b1 s20.2])) (Γb := (fun (q29 : Unit) (y30 : Unit) => [])) (Ωb := (fun (q29 : Unit) (y30 : Unit) => [])) (kr := (fun a : Bool => some a)) (0, []) () (weak [0] ⟨rfl, rfl, rfl, rfl, trivial⟩ ⟨rfl, trivial⟩) (fun s20 x21 => ?_) (fun q29 y30 => ?_)
  · unfold literal_Consistent_l1
    refine ref_seq (ref_region ?_)
    refine s_rd (r_lss rfl rfl) rfl ?_
    refine l_nil (n_then (ref_seq ?_))
    refine ref_cond rfl (fun hb22 => ?_) (fun hb22 => ?_)
    · refine ref_skip (n_then (ref_seq (ref_block (ref_seq (ref_region ?_)))))
      refine pull fun t23 h_t23 => ?_
      refine s_rd (r_index h_t23 Tryd.underlying31 el_35 rfl rfl) rfl ?_
      refine s_rd (r_load el_35 rfl) rfl ?_
      refine s_st (s_alloc zt_35) rfl (fun b24 => ?_)
      refine s_st0 (s_cstore (out := [bv t23.Neg, sv t23.Name]) Tryd.sizeOf35 rfl (j := 1) rfl (part_agO (ψs := [bv t23.Neg, sv t23.Name]) rfl ⟨.inl bv_at, .inl sv_at, trivial⟩) rfl rfl rfl) (fun _ => ?_)
      refine l_nil (n_then (ref_seq (ref_region ?_)))
      refine mv1 rfl rfl ?_
      refine s_rd (r_cloadS Tryd.isAgg35 Tryd.sizeOf35 rfl (j := 1) rfl rfl rfl) rfl ?_
      refine s_rd (r_build (ps := []) (rs := []) st_61 zs_61 trivial rfl rfl) rfl ?_
      refine s_st0 (s_mput (x := t23) (y := (T_anon61.mk )) Tryd.underlying60 key_35 rfl (j := 0) rfl rfl rfl) (fun _ => ?_)
      refine l_nil ?_
      refine b_of (nrm [om rT_api_Literal rT_anon61 b1 (mapPut s20.2 t23 (T_anon61.mk )), oc b24 [bv t23.Neg, sv t23.Name]] rfl) ?_
      refine n_then (ref_seq (ref_region ?_))
      refine mv1 rfl rfl ?_
      refine s_rd (r_cloadS Tryd.isAgg35 Tryd.sizeOf35 rfl (j := 1) rfl rfl rfl) rfl ?_
      refine pull fun t25 h_t25 => ?_
      refine s_st (s_call (ψ := fun (_ : Unit) => ag [bv t25.Neg, sv t25.Name]) (args := [.tmp 22]) Tryd.call57 rfl (literal_Complement_ok h_t25) ⟨arg rfl, trivial⟩ (fun _ _ _ _ h => h)) rfl (fun _ => ?_)
      refine s_rd (r_mget (x := t25) (z := (T_anon61.mk )) Tryd.underlying60 key_35 mz_61 rfl (j := 0) rfl rfl) rfl ?_
      refine mv1 rfl rfl ?_
      refine s_rd (r_extract rfl rfl) rfl ?_
      refine s_rd (r_extract rfl rfl) rfl ?_
      refine s_st (s_alloc zt_61) rfl (fun b26 => ?_)
      refine s_st0 (s_cstore (out := []) Tryd.sizeOf61 rfl (j := 2) rfl (part_agO (ψs := []) rfl trivial) rfl rfl rfl) (fun _ => ?_)
      refine as1 rfl rfl ?_
      refine b_let (f := bv) (t := 7) rfl fun ok27 => ?_
      refine l_nil (n_then (ref_seq (ref_region ?_)))
      refine mv1 rfl rfl ?_
      refine l_nil (n_then ?_)
      refine ref_cond rfl (fun hb28 => ?_) (fun hb28 => ?_)
      · refine ref_seq (ref_region ?_)
        refine as1 rfl rfl ?_
        refine l_nil (n_then (ref_ret (r_block (r_then ?_))))
        refine retX ?_
        refine r_block (r_then ?_)
        exact fin1 (.inl rfl) () [] rfl trivial rfl (rv_tmp rfl)
      refine ref_skip (n_block (n_then (ref_region ?_)))
      refine s_rd (r_add rfl rfl) rfl ?_
      refine mv1 rfl rfl ?_
      refine l_nil ?_
      exact goX () (weak [0] ⟨rfl, rfl, rfl, rfl, trivial⟩ ⟨rfl, trivial⟩)
    refine ref_exit (x_then ?_)
    exact brkX () (weak [] trivial trivial)
  refine n_then (ref_seq (ref_region ?_))
  refine as1 rfl rfl ?_
  refine l_nil (n_then (ref_ret ?_))
  exact fin1 (.inl rfl) () [] rfl trivial rfl (rv_tmp rfl)

/-! deliberation/strict.Sound -/
noncomputable def strict_Sound_m (b_0 : T_api_Base) : Option (Bool) :=
  Option.bind (rulebase_Validate_m b_0) fun t2 =>
  bif t2 == 0 then
    Option.bind (strict_Closed_m b_0) fun t3 =>
    bif t3 then
      Option.bind (strict_Axioms_m b_0) fun t4 =>
      Option.bind (strict_Closure_m b_0 t4) fun t5 =>
      Option.bind (literal_Consistent_m t5) fun t6 =>
      some t6
    else
      some false
  else
    some false

theorem strict_Sound_ok {b_0 : T_api_Base} {r : Bool} (hm : strict_Sound_m b_0 = some r) :
    FnOk prog 30 [ag [slv rT_api_Premise b_0.Premises, slv rT_api_Rule b_0.Rules, slv rT_api_Promotion b_0.Promotions]] [] (fun (x : Unit) => [bv r]) (fun (x : Unit) => []) := by
  refine fn_ok (fn := Tryd.f30) (N := 17) (res := fun r x => [bv r]) (Ω1 := fun r x => []) Tryd.func30 rfl rfl hm rfl (fun E hM => ?_)
  unfold strict_Sound_m
  refine ref_seq (ref_region ?_)
  refine s_st (s_box (part_agO (ψs := [slv rT_api_Premise b_0.Premises, slv rT_api_Rule b_0.Rules, slv rT_api_Promotion b_0.Promotions]) rfl ⟨.inl slv_at, .inl slv_at, .inl slv_at, trivial⟩)) rfl (fun b1 => ?_)
  refine as1 rfl rfl ?_
  refine l_nil (n_then (ref_seq ?_))
  refine ref_draw [0, 2, 3, 4, 6, 7, 8, 9, 13] rfl (by kernel_rfl) (fun hok => ?_)
  refine a_rd (i := 0) hok rfl (by kernel_rfl) rfl (r_cloadS Tryd.isAgg29 Tryd.sizeOf29 rfl (j := 0) rfl rfl rfl) rfl ?_
  refine pull fun t2 h_t2 => ?_
  refine a_next hok 1 [] (by kernel_rfl) ?_ trivial
  refine a_st (i := 1) hok rfl rfl (s_call (ψ := fun (_ : Unit) => iv .i64 t2) (args := [.tmp 3]) Tryd.call31 rfl (rulebase_Validate_ok h_t2) ⟨arg rfl, trivial⟩ (fun _ _ _ _ h => h)) (by intro _ h; cases h; rfl) (fun _ => ⟨trivial, trivial⟩) (fun _ => ?_)
  refine a_rd (i := 2) hok rfl (by kernel_rfl) rfl (r_eql rfl rfl) rfl ?_
  refine a_rd (i := 3) hok rfl (by kernel_rfl) rfl (r_move rfl) rfl ?_
  refine b_split (t := 6) rfl (fun _ => ?_) (fun _ => ?_)
  · refine a_rdOn (i := 4) hok rfl rfl rfl rfl (by kernel_rfl) rfl (r_cloadS Tryd.isAgg29 Tryd.sizeOf29 rfl (j := 0) rfl rfl rfl) rfl ?_
    refine pull fun t3 h_t3 => ?_
    refine a_next hok 5 [] (by kernel_rfl) ?_ trivial
    refine a_stOn (i := 5) hok rfl rfl rfl rfl rfl (s_call (ψ := fun (_ : Unit) => bv t3) (args := [.tmp 7]) Tryd.call16 rfl (strict_Closed_ok h_t3) ⟨arg rfl, trivial⟩ (fun _ _ _ _ h => h)) (by intro _ h; cases h; rfl) (fun _ => ⟨trivial, ⟨trivial, ⟨trivial, ⟨⟨⟨rfl, rfl⟩, trivial⟩, trivial⟩⟩⟩⟩) (fun _ => ?_)
    refine a_rd (i := 6) hok rfl (by kernel_rfl) rfl (r_pickT rfl rfl) rfl ?_
    refine a_rd (i := 7) hok rfl (by kernel_rfl) rfl (r_move rfl) rfl ?_
    refine b_split (t := 10) rfl (fun _ => ?_) (fun _ => ?_)
    · refine a_rdOn (i := 8) hok rfl rfl rfl rfl (by kernel_rfl) rfl (r_cloadS Tryd.isAgg29 Tryd.sizeOf29 rfl (j := 0) rfl rfl rfl) rfl ?_
      refine a_rdOn (i := 9) hok rfl rfl rfl rfl (by kernel_rfl) rfl (r_cloadS Tryd.isAgg29 Tryd.sizeOf29 rfl (j := 0) rfl rfl rfl) rfl ?_
      refine pull fun t4 h_t4 => ?_
      refine a_next hok 10 [] (by kernel_rfl) ?_ trivial
      refine a_stOn (i := 10) hok rfl rfl rfl rfl rfl (s_call (ψ := fun (_ : Unit) => slv rT_api_Literal t4) (args := [.tmp 12]) Tryd.call47 rfl (strict_Axioms_ok h_t4) ⟨arg rfl, trivial⟩ (fun _ _ _ _ h => h)) (by intro _ h; cases h; rfl) (fun _ => ⟨trivial, ⟨⟨⟨rfl, rfl⟩, trivial⟩, ⟨trivial, ⟨trivial, ⟨⟨⟨rfl, rfl⟩, trivial⟩, ⟨trivial, ⟨trivial, ⟨⟨⟨rfl, rfl⟩, trivial⟩, trivial⟩⟩⟩⟩⟩⟩⟩⟩) (fun _ => ?_)
      refine pull fun t5 h_t5 => ?_
      refine a_next hok 11 [] (by kernel_rfl) ?_ trivial
      refine a_stOn (i := 11) hok rfl rfl rfl rfl rfl (s_call (ψ := fun (_ : Unit) => slv rT_api_Literal t5) (args := [.tmp 11, .tmp 13]) Tryd.call8 rfl (strict_Closure_ok h_t5) ⟨arg rfl, arg rfl, trivial⟩ (fun _ _ _ _ h => h)) (by intro _ h; cases h; rfl) (fun _ => ⟨⟨⟨rfl, rfl⟩, trivial⟩, ⟨trivial, ⟨trivial, ⟨trivial, ⟨⟨⟨rfl, rfl⟩, trivial⟩, ⟨trivial, ⟨trivial, ⟨⟨⟨rfl, rfl⟩, trivial⟩, trivial⟩⟩⟩⟩⟩⟩⟩⟩) (fun _ => ?_)
      refine pull fun t6 h_t6 => ?_
      refine a_next hok 12 [] (by kernel_rfl) ?_ trivial
      refine a_stOn (i := 12) hok rfl rfl rfl rfl rfl (s_call (ψ := fun (_ : Unit) => bv t6) (args := [.tmp 14]) Tryd.call46 rfl (literal_Consistent_ok h_t6) ⟨arg rfl, trivial⟩ (fun _ _ _ _ h => h)) (by intro _ h; cases h; rfl) (fun _ => ⟨⟨⟨rfl, rfl⟩, trivial⟩, ⟨⟨⟨rfl, rfl⟩, trivial⟩, ⟨trivial, ⟨trivial, ⟨⟨⟨rfl, rfl⟩, trivial⟩, ⟨trivial, ⟨trivial, ⟨⟨⟨rfl, rfl⟩, trivial⟩, trivial⟩⟩⟩⟩⟩⟩⟩⟩) (fun _ => ?_)
      refine a_rd (i := 13) hok rfl (by kernel_rfl) rfl (r_pickT rfl rfl) rfl ?_
      refine a_next hok 14 [] (by kernel_rfl) ?_ trivial
      refine a_st (i := 14) hok rfl rfl (St.ofRd (r_assign rfl)) (by intro _ h; cases h; rfl) (fun _ => ⟨trivial, ⟨trivial, ⟨trivial, ⟨trivial, ⟨trivial, ⟨trivial, ⟨trivial, ⟨trivial, ⟨trivial, trivial⟩⟩⟩⟩⟩⟩⟩⟩⟩) (fun _ => ?_)
      refine a_fin hok (by kernel_rfl) ?_
      refine b_of (nrm [oc b1 [slv rT_api_Premise b_0.Premises, slv rT_api_Rule b_0.Rules, slv rT_api_Promotion b_0.Promotions]] rfl) ?_
      refine n_then (ref_ret ?_)
      exact fin1 (.inl rfl) () [] rfl trivial rfl (rv_tmp rfl)
    refine a_off (i := 8) hok rfl rfl rfl rfl rfl (by kernel_rfl) rfl rfl ?_
    refine a_off (i := 9) hok rfl rfl rfl rfl rfl (by kernel_rfl) rfl rfl ?_
    refine a_next hok 10 [] (by kernel_rfl) ?_ trivial
    refine a_stOff (i := 10) hok rfl rfl rfl rfl rfl rfl (by intro _ h; cases h; rfl) ⟨trivial, ⟨trivial, ⟨trivial, ⟨trivial, ⟨⟨⟨rfl, rfl⟩, trivial⟩, ⟨trivial, ⟨trivial, ⟨⟨⟨rfl, rfl⟩, trivial⟩, trivial⟩⟩⟩⟩⟩⟩⟩⟩ ?_
    refine a_next hok 11 [] (by kernel_rfl) ?_ trivial
    refine a_stOff (i := 11) hok rfl rfl rfl rfl rfl rfl (by intro _ h; cases h; rfl) ⟨trivial, ⟨trivial, ⟨trivial, ⟨trivial, ⟨⟨⟨rfl, rfl⟩, trivial⟩, ⟨trivial, ⟨trivial, ⟨⟨⟨rfl, rfl⟩, trivial⟩, trivial⟩⟩⟩⟩⟩⟩⟩⟩ ?_
    refine a_next hok 12 [] (by kernel_rfl) ?_ trivial
    refine a_stOff (i := 12) hok rfl rfl rfl rfl rfl rfl (by intro _ h; cases h; rfl) ⟨trivial, ⟨trivial, ⟨trivial, ⟨trivial, ⟨⟨⟨rfl, rfl⟩, trivial⟩, ⟨trivial, ⟨trivial, ⟨⟨⟨rfl, rfl⟩, trivial⟩, trivial⟩⟩⟩⟩⟩⟩⟩⟩ ?_
    refine a_rd (i := 13) hok rfl (by kernel_rfl) rfl (r_pickF rfl rfl) rfl ?_
    refine a_next hok 14 [] (by kernel_rfl) ?_ trivial
    refine a_st (i := 14) hok rfl rfl (St.ofRd (r_assign rfl)) (by intro _ h; cases h; rfl) (fun _ => ⟨trivial, ⟨trivial, ⟨trivial, ⟨trivial, ⟨trivial, ⟨trivial, ⟨trivial, ⟨trivial, ⟨trivial, trivial⟩⟩⟩⟩⟩⟩⟩⟩⟩) (fun _ => ?_)
    refine a_fin hok (by kernel_rfl) ?_
    refine b_of (nrm [oc b1 [slv rT_api_Premise b_0.Premises, slv rT_api_Rule b_0.Rules, slv rT_api_Promotion b_0.Promotions]] rfl) ?_
    refine n_then (ref_ret ?_)
    exact fin1 (.inl rfl) () [] rfl trivial rfl (rv_tmp rfl)
  refine a_off (i := 4) hok rfl rfl rfl rfl rfl (by kernel_rfl) rfl rfl ?_
  refine a_next hok 5 [] (by kernel_rfl) ?_ trivial
  refine a_stOff (i := 5) hok rfl rfl rfl rfl rfl rfl (by intro _ h; cases h; rfl) ⟨trivial, ⟨trivial, ⟨trivial, ⟨⟨⟨rfl, rfl⟩, trivial⟩, trivial⟩⟩⟩⟩ ?_
  refine a_rd (i := 6) hok rfl (by kernel_rfl) rfl (r_pickF rfl rfl) rfl ?_
  refine a_rd (i := 7) hok rfl (by kernel_rfl) rfl (r_move rfl) rfl ?_
  refine a_off (i := 8) hok rfl rfl rfl rfl rfl (by kernel_rfl) rfl rfl ?_
  refine a_off (i := 9) hok rfl rfl rfl rfl rfl (by kernel_rfl) rfl rfl ?_
  refine a_next hok 10 [] (by kernel_rfl) ?_ trivial
  refine a_stOff (i := 10) hok rfl rfl rfl rfl rfl rfl (by intro _ h; cases h; rfl) ⟨trivial, ⟨trivial, ⟨trivial, ⟨trivial, ⟨trivial, ⟨trivial, ⟨trivial, ⟨⟨⟨rfl, rfl⟩, trivial⟩, trivial⟩⟩⟩⟩⟩⟩⟩⟩ ?_
  refine a_next hok 11 [] (by kernel_rfl) ?_ trivial
  refine a_stOff (i := 11) hok rfl rfl rfl rfl rfl rfl (by intro _ h; cases h; rfl) ⟨trivial, ⟨trivial, ⟨trivial, ⟨trivial, ⟨trivial, ⟨trivial, ⟨trivial, ⟨⟨⟨rfl, rfl⟩, trivial⟩, trivial⟩⟩⟩⟩⟩⟩⟩⟩ ?_
  refine a_next hok 12 [] (by kernel_rfl) ?_ trivial
  refine a_stOff (i := 12) hok rfl rfl rfl rfl rfl rfl (by intro _ h; cases h; rfl) ⟨trivial, ⟨trivial, ⟨trivial, ⟨trivial, ⟨trivial, ⟨trivial, ⟨trivial, ⟨⟨⟨rfl, rfl⟩, trivial⟩, trivial⟩⟩⟩⟩⟩⟩⟩⟩ ?_
  refine a_rd (i := 13) hok rfl (by kernel_rfl) rfl (r_pickF rfl rfl) rfl ?_
  refine a_next hok 14 [] (by kernel_rfl) ?_ trivial
  refine a_st (i := 14) hok rfl rfl (St.ofRd (r_assign rfl)) (by intro _ h; cases h; rfl) (fun _ => ⟨trivial, ⟨trivial, ⟨trivial, ⟨trivial, ⟨trivial, ⟨trivial, ⟨trivial, ⟨trivial, ⟨trivial, trivial⟩⟩⟩⟩⟩⟩⟩⟩⟩) (fun _ => ?_)
  refine a_fin hok (by kernel_rfl) ?_
  refine n_then (ref_ret ?_)
  exact fin1 (.inl rfl) () [] rfl trivial rfl (rv_tmp rfl)

end Go.Dc
