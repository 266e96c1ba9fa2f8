/- Part LAW06ZD.A3 of a proof: lemmas. -/
import Derived.Test.YtejhbimlekcllaaGreatDoorLAW06ZDA2
import Derived.Test.YtejhbimlekcllaaGreatDoorProg
set_option linter.unusedVariables false
set_option linter.unusedSimpArgs false
set_option maxRecDepth 100000
set_option maxHeartbeats 4000000
namespace Go.Dc
open Go.Proofs
open Go.Proofs.Tryz (prog)

/-! deliberation/deliberationlaw06.awake -/
noncomputable def law06_awake_m  : Option (Bool) :=
  Option.bind (law06_one_m ) fun t1 =>
  Option.bind (idxM t1.Rules 0) fun t3 =>
  Option.bind (strict_Transpose_m t1) fun t4 =>
  Option.bind (idxM t1.Rules 0) fun t6 =>
  Option.bind (strict_Derives_m t1 t3.Body t6.Head) fun t7 =>
  bif t7 then
    Option.bind (strict_Closure_m t1 t3.Body) fun t8 =>
    bif (t8.length : Int) == 3 then
      bif t4.2 == 0 then
        bif (t4.1.Rules.length : Int) == 3 then
          Option.bind (idxM t4.1.Rules 1) fun t9 =>
          bif t9.Name.toList == (ByteArray.mk #[116, 49]).toList then
            Option.bind (idxM t4.1.Rules 1) fun t10 =>
            bif decide (t10.Head = (T_api_Literal.mk true (ByteArray.mk #[112]))) then
              Option.bind (strict_Closed_m t4.1) fun t11 =>
              bif t11 then
                Option.bind (strict_Closed_m t1) fun t12 =>
                bif !t12 then
                  Option.bind (strict_Sound_m t4.1) fun t13 =>
                  some t13
                else
                  some false
              else
                some false
            else
              some false
          else
            some false
        else
          some false
      else
        some false
    else
      some false
  else
    some false

theorem law06_awake_ok  {r : Bool} (hm : law06_awake_m  = some r) :
    FnOk prog 20 [] [] (fun (x : Unit) => [bv r]) (fun (x : Unit) => []) := by
  refine fn_ok (fn := Tryz.f20) (N := 71) (res := fun r x => [bv r]) (Ω1 := fun r x => []) Tryz.func20 rfl rfl hm rfl (fun E hM => ?_)
  unfold law06_awake_m
  refine ref_seq (ref_region ?_)
  refine as1 rfl rfl ?_
  refine l_nil (n_then (ref_seq (ref_region ?_)))
  refine pull fun t1 h_t1 => ?_
  refine s_st (s_call (ψ := fun (_ : Unit) => ag [slv rT_api_Premise t1.Premises, slv rT_api_Rule t1.Rules, slv rT_api_Promotion t1.Promotions]) (args := []) Tryz.call44 rfl (law06_one_ok h_t1) trivial (fun _ _ _ _ h => h)) rfl (fun _ => ?_)
  refine s_st (s_alloc zt_26) rfl (fun b2 => ?_)
  refine s_st0 (s_cstore (out := [slv rT_api_Premise t1.Premises, slv rT_api_Rule t1.Rules, slv rT_api_Promotion t1.Promotions]) Tryz.sizeOf26 rfl (j := 0) rfl (part_agO (ψs := [slv rT_api_Premise t1.Premises, slv rT_api_Rule t1.Rules, slv rT_api_Promotion t1.Promotions]) rfl ⟨.inl slv_at, .inl slv_at, .inl slv_at, trivial⟩) rfl rfl rfl) (fun _ => ?_)
  refine l_nil (n_then (ref_seq (ref_region ?_)))
  refine s_rd (r_faddr (fo := 1) Tryz.underlying26 rfl rfl Tryz.sizeOf23 rfl) rfl ?_
  refine s_rd (r_cload Tryz.isAgg23 rfl (j := 0) rfl rfl) rfl ?_
  refine pull fun t3 h_t3 => ?_
  refine s_rd (r_index h_t3 Tryz.underlying23 el_60 rfl rfl) rfl ?_
  refine s_rd (r_fea (fo := 3) (ρ := rT_api_Rule) (y := t3) (ρ' := (rSl rT_api_Literal)) (z := t3.Body) Tryz.underlying60 rfl rfl Tryz.sizeOf27 rfl rfl rfl) rfl ?_
  refine s_rd (r_load el_27 rfl) rfl ?_
  refine as1 rfl rfl ?_
  refine l_nil (n_then (ref_seq (ref_region ?_)))
  refine s_rd (r_cloadS Tryz.isAgg26 Tryz.sizeOf26 rfl (j := 0) rfl rfl rfl) rfl ?_
  refine pull fun t4 h_t4 => ?_
  refine s_st (s_call (ψ := fun (_ : Unit) => tup [ag [slv rT_api_Premise t4.1.Premises, slv rT_api_Rule t4.1.Rules, slv rT_api_Promotion t4.1.Promotions], iv .i64 t4.2]) (args := [.tmp 12]) Tryz.call22 rfl (strict_Transpose_ok h_t4) ⟨arg rfl, trivial⟩ (fun _ _ _ _ h => h)) rfl (fun _ => ?_)
  refine mv1 rfl rfl ?_
  refine s_rd (r_extract rfl rfl) rfl ?_
  refine s_rd (r_extract rfl rfl) rfl ?_
  refine s_st (s_alloc zt_26) rfl (fun b5 => ?_)
  refine s_st0 (s_cstore (out := [slv rT_api_Premise t4.1.Premises, slv rT_api_Rule t4.1.Rules, slv rT_api_Promotion t4.1.Promotions]) Tryz.sizeOf26 rfl (j := 1) rfl (part_agO (ψs := [slv rT_api_Premise t4.1.Premises, slv rT_api_Rule t4.1.Rules, slv rT_api_Promotion t4.1.Promotions]) rfl ⟨.inl slv_at, .inl slv_at, .inl slv_at, trivial⟩) rfl rfl rfl) (fun _ => ?_)
  refine as1 rfl rfl ?_
  refine l_nil ?_
  refine b_of (nrm [oc b2 [slv rT_api_Premise t1.Premises, slv rT_api_Rule t1.Rules, slv rT_api_Promotion t1.Promotions], oc b5 [slv rT_api_Premise t4.1.Premises, slv rT_api_Rule t4.1.Rules, slv rT_api_Promotion t4.1.Promotions]] rfl) ?_
  refine n_then (ref_seq ?_)
  refine ref_draw [0, 1, 2, 3, 4, 5, 6, 8, 9, 10, 12, 13, 14, 15, 16, 17, 18, 19, 20, 21, 22, 23, 24, 25, 26, 27, 28, 29, 30, 31, 32, 33, 34, 35, 36, 37, 38, 39, 40, 41, 42, 43, 45, 46, 47, 49, 50, 51, 52, 54] rfl (by kernel_rfl) (fun hok => ?_)
  refine a_rd (i := 0) hok rfl (by kernel_rfl) rfl (r_cloadS Tryz.isAgg26 Tryz.sizeOf26 rfl (j := 0) rfl rfl rfl) rfl ?_
  refine a_rd (i := 1) hok rfl (by kernel_rfl) rfl (r_move rfl) rfl ?_
  refine a_rd (i := 2) hok rfl (by kernel_rfl) rfl (r_faddr (fo := 1) Tryz.underlying26 rfl rfl Tryz.sizeOf23 rfl) rfl ?_
  refine a_rd (i := 3) hok rfl (by kernel_rfl) rfl (r_cload Tryz.isAgg23 rfl (j := 0) rfl rfl) rfl ?_
  refine pull fun t6 h_t6 => ?_
  refine a_rd (i := 4) hok rfl (by kernel_rfl) rfl (r_index h_t6 Tryz.underlying23 el_60 rfl rfl) rfl ?_
  refine a_rd (i := 5) hok rfl (by kernel_rfl) rfl (r_fea (fo := 4) (ρ := rT_api_Rule) (y := t6) (ρ' := rT_api_Literal) (z := t6.Head) Tryz.underlying60 rfl rfl Tryz.sizeOf29 rfl rfl rfl) rfl ?_
  refine a_rd (i := 6) hok rfl (by kernel_rfl) rfl (r_load el_29 rfl) rfl ?_
  refine pull fun t7 h_t7 => ?_
  refine a_next hok 7 [] (by kernel_rfl) ?_ trivial
  refine a_st (i := 7) hok rfl rfl (s_call (ψ := fun (_ : Unit) => bv t7) (args := [.tmp 16, .tmp 17, .tmp 22]) Tryz.call15 rfl (strict_Derives_ok h_t7) ⟨arg rfl, arg rfl, arg rfl, trivial⟩ (fun _ _ _ _ h => h)) (by intro _ h; cases h; rfl) (fun _ => ⟨trivial, ⟨trivial, ⟨trivial, ⟨⟨⟨rfl, rfl⟩, trivial⟩, ⟨trivial, ⟨trivial, ⟨trivial, trivial⟩⟩⟩⟩⟩⟩⟩) (fun _ => ?_)
  refine a_rd (i := 8) hok rfl (by kernel_rfl) rfl (r_move rfl) rfl ?_
  refine b_split (t := 24) rfl (fun _ => ?_) (fun _ => ?_)
  · refine a_rdOn (i := 9) hok rfl rfl rfl rfl (by kernel_rfl) rfl (r_cloadS Tryz.isAgg26 Tryz.sizeOf26 rfl (j := 0) rfl rfl rfl) rfl ?_
    refine a_rdOn (i := 10) hok rfl rfl rfl rfl (by kernel_rfl) rfl (r_move rfl) rfl ?_
    refine pull fun t8 h_t8 => ?_
    refine a_next hok 11 [] (by kernel_rfl) ?_ trivial
    refine a_stOn (i := 11) hok rfl rfl rfl rfl rfl (s_call (ψ := fun (_ : Unit) => slv rT_api_Literal t8) (args := [.tmp 25, .tmp 26]) Tryz.call13 rfl (strict_Closure_ok h_t8) ⟨arg rfl, arg rfl, trivial⟩ (fun _ _ _ _ h => h)) (by intro _ h; cases h; rfl) (fun _ => ⟨trivial, ⟨trivial, ⟨trivial, ⟨trivial, ⟨trivial, ⟨trivial, ⟨⟨⟨rfl, rfl⟩, trivial⟩, ⟨trivial, ⟨trivial, ⟨⟨⟨rfl, rfl⟩, trivial⟩, trivial⟩⟩⟩⟩⟩⟩⟩⟩⟩⟩) (fun _ => ?_)
    refine a_rdOn (i := 12) hok rfl rfl rfl rfl (by kernel_rfl) rfl (r_len Tryz.underlying27 rfl) rfl ?_
    refine a_rdOn (i := 13) hok rfl rfl rfl rfl (by kernel_rfl) rfl (r_eql rfl rfl) rfl ?_
    refine a_rd (i := 14) hok rfl (by kernel_rfl) rfl (r_pickT rfl rfl) rfl ?_
    refine a_rd (i := 15) hok rfl (by kernel_rfl) rfl (r_move rfl) rfl ?_
    refine b_split (t := 31) rfl (fun _ => ?_) (fun _ => ?_)
    · refine a_rdOn (i := 16) hok rfl rfl rfl rfl (by kernel_rfl) rfl (r_move rfl) rfl ?_
      refine a_rdOn (i := 17) hok rfl rfl rfl rfl (by kernel_rfl) rfl (r_eql rfl rfl) rfl ?_
      refine a_rd (i := 18) hok rfl (by kernel_rfl) rfl (r_pickT rfl rfl) rfl ?_
      refine a_rd (i := 19) hok rfl (by kernel_rfl) rfl (r_move rfl) rfl ?_
      refine b_split (t := 35) rfl (fun _ => ?_) (fun _ => ?_)
      · refine a_rdOn (i := 20) hok rfl rfl rfl rfl (by kernel_rfl) rfl (r_faddr (fo := 1) Tryz.underlying26 rfl rfl Tryz.sizeOf23 rfl) rfl ?_
        refine a_rdOn (i := 21) hok rfl rfl rfl rfl (by kernel_rfl) rfl (r_cload Tryz.isAgg23 rfl (j := 1) rfl rfl) rfl ?_
        refine a_rdOn (i := 22) hok rfl rfl rfl rfl (by kernel_rfl) rfl (r_len Tryz.underlying23 rfl) rfl ?_
        refine a_rdOn (i := 23) hok rfl rfl rfl rfl (by kernel_rfl) rfl (r_eql rfl rfl) rfl ?_
        refine a_rd (i := 24) hok rfl (by kernel_rfl) rfl (r_pickT rfl rfl) rfl ?_
        refine a_rd (i := 25) hok rfl (by kernel_rfl) rfl (r_move rfl) rfl ?_
        refine b_split (t := 41) rfl (fun _ => ?_) (fun _ => ?_)
        · refine a_rdOn (i := 26) hok rfl rfl rfl rfl (by kernel_rfl) rfl (r_faddr (fo := 1) Tryz.underlying26 rfl rfl Tryz.sizeOf23 rfl) rfl ?_
          refine a_rdOn (i := 27) hok rfl rfl rfl rfl (by kernel_rfl) rfl (r_cload Tryz.isAgg23 rfl (j := 1) rfl rfl) rfl ?_
          refine pull fun t9 h_t9 => ?_
          refine a_rdOn (i := 28) hok rfl rfl rfl rfl (by kernel_rfl) rfl (r_index h_t9 Tryz.underlying23 el_60 rfl rfl) rfl ?_
          refine a_rdOn (i := 29) hok rfl rfl rfl rfl (by kernel_rfl) rfl (r_fea (fo := 0) (ρ := rT_api_Rule) (y := t9) (ρ' := rS) (z := t9.Name) Tryz.underlying60 rfl rfl Tryz.sizeOf9 rfl rfl rfl) rfl ?_
          refine a_rdOn (i := 30) hok rfl rfl rfl rfl (by kernel_rfl) rfl (r_load el_9 rfl) rfl ?_
          refine a_rdOn (i := 31) hok rfl rfl rfl rfl (by kernel_rfl) rfl (r_seql rfl rfl) rfl ?_
          refine a_rd (i := 32) hok rfl (by kernel_rfl) rfl (r_pickT rfl rfl) rfl ?_
          refine a_rd (i := 33) hok rfl (by kernel_rfl) rfl (r_move rfl) rfl ?_
          refine b_split (t := 49) rfl (fun _ => ?_) (fun _ => ?_)
          · refine a_rdOn (i := 34) hok rfl rfl rfl rfl (by kernel_rfl) rfl (r_faddr (fo := 1) Tryz.underlying26 rfl rfl Tryz.sizeOf23 rfl) rfl ?_
            refine a_rdOn (i := 35) hok rfl rfl rfl rfl (by kernel_rfl) rfl (r_cload Tryz.isAgg23 rfl (j := 1) rfl rfl) rfl ?_
            refine pull fun t10 h_t10 => ?_
            refine a_rdOn (i := 36) hok rfl rfl rfl rfl (by kernel_rfl) rfl (r_index h_t10 Tryz.underlying23 el_60 rfl rfl) rfl ?_
            refine a_rdOn (i := 37) hok rfl rfl rfl rfl (by kernel_rfl) rfl (r_fea (fo := 4) (ρ := rT_api_Rule) (y := t10) (ρ' := rT_api_Literal) (z := t10.Head) Tryz.underlying60 rfl rfl Tryz.sizeOf29 rfl rfl rfl) rfl ?_
            refine a_rdOn (i := 38) hok rfl rfl rfl rfl (by kernel_rfl) rfl (r_load el_29 rfl) rfl ?_
            refine a_rdOn (i := 39) hok rfl rfl rfl rfl (by kernel_rfl) rfl (r_build (ps := [(0, .const (.bool true)), (1, .const (.string (ByteArray.mk #[112])))]) (rs := [(0, [bv true]), (1, [sv (ByteArray.mk #[112])])]) st_29 zs_29 ⟨rfl, (part_at rfl bv_at), ⟨rfl, (part_at rfl sv_at), trivial⟩⟩ rfl rfl) rfl ?_
            refine a_rdOn (i := 40) hok rfl rfl rfl rfl (by kernel_rfl) rfl (r_steql (u := t10.Head) (v := (T_api_Literal.mk true (ByteArray.mk #[112]))) eq_29 rfl rfl rfl rfl) rfl ?_
            refine a_rd (i := 41) hok rfl (by kernel_rfl) rfl (r_pickT rfl rfl) rfl ?_
            refine a_rd (i := 42) hok rfl (by kernel_rfl) rfl (r_move rfl) rfl ?_
            refine b_split (t := 58) rfl (fun _ => ?_) (fun _ => ?_)
            · refine a_rdOn (i := 43) hok rfl rfl rfl rfl (by kernel_rfl) rfl (r_cloadS Tryz.isAgg26 Tryz.sizeOf26 rfl (j := 1) rfl rfl rfl) rfl ?_
              refine pull fun t11 h_t11 => ?_
              refine a_next hok 44 [] (by kernel_rfl) ?_ trivial
              refine a_stOn (i := 44) hok rfl rfl rfl rfl rfl (s_call (ψ := fun (_ : Unit) => bv t11) (args := [.tmp 59]) Tryz.call25 rfl (strict_Closed_ok h_t11) ⟨arg rfl, trivial⟩ (fun _ _ _ _ h => h)) (by intro _ h; cases h; rfl) (fun _ => ⟨trivial, ⟨trivial, ⟨trivial, ⟨trivial, ⟨trivial, ⟨trivial, ⟨trivial, ⟨trivial, ⟨⟨⟨rfl, rfl⟩, trivial⟩, ⟨trivial, ⟨trivial, ⟨trivial, ⟨trivial, ⟨trivial, ⟨trivial, ⟨trivial, ⟨⟨⟨rfl, rfl⟩, trivial⟩, ⟨trivial, ⟨trivial, ⟨trivial, ⟨trivial, ⟨trivial, ⟨⟨⟨rfl, rfl⟩, trivial⟩, ⟨trivial, ⟨trivial, ⟨trivial, ⟨trivial, ⟨trivial, ⟨trivial, ⟨trivial, ⟨trivial, ⟨trivial, ⟨trivial, ⟨⟨⟨rfl, rfl⟩, trivial⟩, ⟨trivial, ⟨trivial, ⟨trivial, ⟨trivial, ⟨⟨⟨rfl, rfl⟩, trivial⟩, ⟨trivial, ⟨trivial, ⟨⟨⟨rfl, rfl⟩, trivial⟩, trivial⟩⟩⟩⟩⟩⟩⟩⟩⟩⟩⟩⟩⟩⟩⟩⟩⟩⟩⟩⟩⟩⟩⟩⟩⟩⟩⟩⟩⟩⟩⟩⟩⟩⟩⟩⟩⟩⟩⟩⟩⟩⟩) (fun _ => ?_)
              refine a_rd (i := 45) hok rfl (by kernel_rfl) rfl (r_pickT rfl rfl) rfl ?_
              refine a_rd (i := 46) hok rfl (by kernel_rfl) rfl (r_move rfl) rfl ?_
              refine b_split (t := 62) rfl (fun _ => ?_) (fun _ => ?_)
              · refine a_rdOn (i := 47) hok rfl rfl rfl rfl (by kernel_rfl) rfl (r_cloadS Tryz.isAgg26 Tryz.sizeOf26 rfl (j := 0) rfl rfl rfl) rfl ?_
                refine pull fun t12 h_t12 => ?_
                refine a_next hok 48 [] (by kernel_rfl) ?_ trivial
                refine a_stOn (i := 48) hok rfl rfl rfl rfl rfl (s_call (ψ := fun (_ : Unit) => bv t12) (args := [.tmp 63]) Tryz.call25 rfl (strict_Closed_ok h_t12) ⟨arg rfl, trivial⟩ (fun _ _ _ _ h => h)) (by intro _ h; cases h; rfl) (fun _ => ⟨trivial, ⟨trivial, ⟨trivial, ⟨⟨⟨rfl, rfl⟩, trivial⟩, ⟨trivial, ⟨trivial, ⟨trivial, ⟨trivial, ⟨trivial, ⟨trivial, ⟨trivial, ⟨⟨⟨rfl, rfl⟩, trivial⟩, ⟨trivial, ⟨trivial, ⟨trivial, ⟨trivial, ⟨trivial, ⟨trivial, ⟨trivial, ⟨⟨⟨rfl, rfl⟩, trivial⟩, ⟨trivial, ⟨trivial, ⟨trivial, ⟨trivial, ⟨trivial, ⟨⟨⟨rfl, rfl⟩, trivial⟩, ⟨trivial, ⟨trivial, ⟨trivial, ⟨trivial, ⟨trivial, ⟨trivial, ⟨trivial, ⟨trivial, ⟨trivial, ⟨trivial, ⟨⟨⟨rfl, rfl⟩, trivial⟩, ⟨trivial, ⟨trivial, ⟨trivial, ⟨trivial, ⟨⟨⟨rfl, rfl⟩, trivial⟩, ⟨trivial, ⟨trivial, ⟨⟨⟨rfl, rfl⟩, trivial⟩, trivial⟩⟩⟩⟩⟩⟩⟩⟩⟩⟩⟩⟩⟩⟩⟩⟩⟩⟩⟩⟩⟩⟩⟩⟩⟩⟩⟩⟩⟩⟩⟩⟩⟩⟩⟩⟩⟩⟩⟩⟩⟩⟩⟩⟩⟩) (fun _ => ?_)
                refine a_rdOn (i := 49) hok rfl rfl rfl rfl (by kernel_rfl) rfl (r_not rfl) rfl ?_
                refine a_rd (i := 50) hok rfl (by kernel_rfl) rfl (r_pickT rfl rfl) rfl ?_
                refine a_rd (i := 51) hok rfl (by kernel_rfl) rfl (r_move rfl) rfl ?_
                refine b_split (t := 67) rfl (fun _ => ?_) (fun _ => ?_)
                · refine a_rdOn (i := 52) hok rfl rfl rfl rfl (by kernel_rfl) rfl (r_cloadS Tryz.isAgg26 Tryz.sizeOf26 rfl (j := 1) rfl rfl rfl) rfl ?_
                  refine pull fun t13 h_t13 => ?_
                  refine a_next hok 53 [] (by kernel_rfl) ?_ trivial
                  refine a_stOn (i := 53) hok rfl rfl rfl rfl rfl (s_call (ψ := fun (_ : Unit) => bv t13) (args := [.tmp 68]) Tryz.call27 rfl (strict_Sound_ok h_t13) ⟨arg rfl, trivial⟩ (fun _ _ _ _ h => h)) (by intro _ h; cases h; rfl) (fun _ => ⟨trivial, ⟨trivial, ⟨trivial, ⟨trivial, ⟨⟨⟨rfl, rfl⟩, trivial⟩, ⟨trivial, ⟨trivial, ⟨⟨⟨rfl, rfl⟩, trivial⟩, ⟨trivial, ⟨trivial, ⟨trivial, ⟨trivial, ⟨trivial, ⟨trivial, ⟨trivial, ⟨⟨⟨rfl, rfl⟩, trivial⟩, ⟨trivial, ⟨trivial, ⟨trivial, ⟨trivial, ⟨trivial, ⟨trivial, ⟨trivial, ⟨⟨⟨rfl, rfl⟩, trivial⟩, ⟨trivial, ⟨trivial, ⟨trivial, ⟨trivial, ⟨trivial, ⟨⟨⟨rfl, rfl⟩, trivial⟩, ⟨trivial, ⟨trivial, ⟨trivial, ⟨trivial, ⟨trivial, ⟨trivial, ⟨trivial, ⟨trivial, ⟨trivial, ⟨trivial, ⟨⟨⟨rfl, rfl⟩, trivial⟩, ⟨trivial, ⟨trivial, ⟨trivial, ⟨trivial, ⟨⟨⟨rfl, rfl⟩, trivial⟩, ⟨trivial, ⟨trivial, ⟨⟨⟨rfl, rfl⟩, trivial⟩, trivial⟩⟩⟩⟩⟩⟩⟩⟩⟩⟩⟩⟩⟩⟩⟩⟩⟩⟩⟩⟩⟩⟩⟩⟩⟩⟩⟩⟩⟩⟩⟩⟩⟩⟩⟩⟩⟩⟩⟩⟩⟩⟩⟩⟩⟩⟩⟩⟩⟩) (fun _ => ?_)
                  refine a_rd (i := 54) hok rfl (by kernel_rfl) rfl (r_pickT rfl rfl) rfl ?_
                  refine a_next hok 55 [] (by kernel_rfl) ?_ trivial
                  refine a_st (i := 55) hok rfl rfl (St.ofRd (r_assign rfl)) (by intro _ h; cases h; rfl) (fun _ => ⟨trivial, ⟨trivial, ⟨trivial, ⟨trivial, ⟨trivial, ⟨trivial, ⟨trivial, ⟨trivial, ⟨trivial, ⟨trivial, ⟨trivial, ⟨trivial, ⟨trivial, ⟨trivial, ⟨trivial, ⟨trivial, ⟨trivial, ⟨trivial, ⟨trivial, ⟨trivial, ⟨trivial, ⟨trivial, ⟨trivial, ⟨trivial, ⟨trivial, ⟨trivial, ⟨trivial, ⟨trivial, ⟨trivial, ⟨trivial, ⟨trivial, ⟨trivial, ⟨trivial, ⟨trivial, ⟨trivial, ⟨trivial, ⟨trivial, ⟨trivial, ⟨trivial, ⟨trivial, ⟨trivial, ⟨trivial, ⟨trivial, ⟨trivial, ⟨trivial, ⟨trivial, ⟨trivial, ⟨trivial, ⟨trivial, ⟨trivial, trivial⟩⟩⟩⟩⟩⟩⟩⟩⟩⟩⟩⟩⟩⟩⟩⟩⟩⟩⟩⟩⟩⟩⟩⟩⟩⟩⟩⟩⟩⟩⟩⟩⟩⟩⟩⟩⟩⟩⟩⟩⟩⟩⟩⟩⟩⟩⟩⟩⟩⟩) (fun _ => ?_)
                  refine a_fin hok (by kernel_rfl) ?_
                  refine b_of (nrm [oc b2 [slv rT_api_Premise t1.Premises, slv rT_api_Rule t1.Rules, slv rT_api_Promotion t1.Promotions], oc b5 [slv rT_api_Premise t4.1.Premises, slv rT_api_Rule t4.1.Rules, slv rT_api_Promotion t4.1.Promotions]] rfl) ?_
                  refine n_then (ref_ret ?_)
                  exact fin1 (.inl rfl) () [] rfl trivial rfl (rv_tmp rfl)
                refine a_off (i := 52) hok rfl rfl rfl rfl rfl (by kernel_rfl) rfl rfl ?_
                refine a_next hok 53 [] (by kernel_rfl) ?_ trivial
                refine a_stOff (i := 53) hok rfl rfl rfl rfl rfl rfl (by intro _ h; cases h; rfl) ⟨trivial, ⟨trivial, ⟨trivial, ⟨trivial, ⟨⟨⟨rfl, rfl⟩, trivial⟩, ⟨trivial, ⟨trivial, ⟨⟨⟨rfl, rfl⟩, trivial⟩, ⟨trivial, ⟨trivial, ⟨trivial, ⟨trivial, ⟨trivial, ⟨trivial, ⟨trivial, ⟨⟨⟨rfl, rfl⟩, trivial⟩, ⟨trivial, ⟨trivial, ⟨trivial, ⟨trivial, ⟨trivial, ⟨trivial, ⟨trivial, ⟨⟨⟨rfl, rfl⟩, trivial⟩, ⟨trivial, ⟨trivial, ⟨trivial, ⟨trivial, ⟨trivial, ⟨⟨⟨rfl, rfl⟩, trivial⟩, ⟨trivial, ⟨trivial, ⟨trivial, ⟨trivial, ⟨trivial, ⟨trivial, ⟨trivial, ⟨trivial, ⟨trivial, ⟨trivial, ⟨⟨⟨rfl, rfl⟩, trivial⟩, ⟨trivial, ⟨trivial, ⟨trivial, ⟨trivial, ⟨⟨⟨rfl, rfl⟩, trivial⟩, ⟨trivial, ⟨trivial, ⟨⟨⟨rfl, rfl⟩, trivial⟩, trivial⟩⟩⟩⟩⟩⟩⟩⟩⟩⟩⟩⟩⟩⟩⟩⟩⟩⟩⟩⟩⟩⟩⟩⟩⟩⟩⟩⟩⟩⟩⟩⟩⟩⟩⟩⟩⟩⟩⟩⟩⟩⟩⟩⟩⟩⟩⟩⟩⟩ ?_
                refine a_rd (i := 54) hok rfl (by kernel_rfl) rfl (r_pickF rfl rfl) rfl ?_
                refine a_next hok 55 [] (by kernel_rfl) ?_ trivial
                refine a_st (i := 55) hok rfl rfl (St.ofRd (r_assign rfl)) (by intro _ h; cases h; rfl) (fun _ => ⟨trivial, ⟨trivial, ⟨trivial, ⟨trivial, ⟨trivial, ⟨trivial, ⟨trivial, ⟨trivial, ⟨trivial, ⟨trivial, ⟨trivial, ⟨trivial, ⟨trivial, ⟨trivial, ⟨trivial, ⟨trivial, ⟨trivial, ⟨trivial, ⟨trivial, ⟨trivial, ⟨trivial, ⟨trivial, ⟨trivial, ⟨trivial, ⟨trivial, ⟨trivial, ⟨trivial, ⟨trivial, ⟨trivial, ⟨trivial, ⟨trivial, ⟨trivial, ⟨trivial, ⟨trivial, ⟨trivial, ⟨trivial, ⟨trivial, ⟨trivial, ⟨trivial, ⟨trivial, ⟨trivial, ⟨trivial, ⟨trivial, ⟨trivial, ⟨trivial, ⟨trivial, ⟨trivial, ⟨trivial, ⟨trivial, ⟨trivial, trivial⟩⟩⟩⟩⟩⟩⟩⟩⟩⟩⟩⟩⟩⟩⟩⟩⟩⟩⟩⟩⟩⟩⟩⟩⟩⟩⟩⟩⟩⟩⟩⟩⟩⟩⟩⟩⟩⟩⟩⟩⟩⟩⟩⟩⟩⟩⟩⟩⟩⟩) (fun _ => ?_)
                refine a_fin hok (by kernel_rfl) ?_
                refine b_of (nrm [oc b2 [slv rT_api_Premise t1.Premises, slv rT_api_Rule t1.Rules, slv rT_api_Promotion t1.Promotions], oc b5 [slv rT_api_Premise t4.1.Premises, slv rT_api_Rule t4.1.Rules, slv rT_api_Promotion t4.1.Promotions]] rfl) ?_
                refine n_then (ref_ret ?_)
                exact fin1 (.inl rfl) () [] rfl trivial rfl (rv_tmp rfl)
              refine a_off (i := 47) hok rfl rfl rfl rfl rfl (by kernel_rfl) rfl rfl ?_
              refine a_next hok 48 [] (by kernel_rfl) ?_ trivial
              refine a_stOff (i := 48) hok rfl rfl rfl rfl rfl rfl (by intro _ h; cases h; rfl) ⟨trivial, ⟨trivial, ⟨trivial, ⟨⟨⟨rfl, rfl⟩, trivial⟩, ⟨trivial, ⟨trivial, ⟨trivial, ⟨trivial, ⟨trivial, ⟨trivial, ⟨trivial, ⟨⟨⟨rfl, rfl⟩, trivial⟩, ⟨trivial, ⟨trivial, ⟨trivial, ⟨trivial, ⟨trivial, ⟨trivial, ⟨trivial, ⟨⟨⟨rfl, rfl⟩, trivial⟩, ⟨trivial, ⟨trivial, ⟨trivial, ⟨trivial, ⟨trivial, ⟨⟨⟨rfl, rfl⟩, trivial⟩, ⟨trivial, ⟨trivial, ⟨trivial, ⟨trivial, ⟨trivial, ⟨trivial, ⟨trivial, ⟨trivial, ⟨trivial, ⟨trivial, ⟨⟨⟨rfl, rfl⟩, trivial⟩, ⟨trivial, ⟨trivial, ⟨trivial, ⟨trivial, ⟨⟨⟨rfl, rfl⟩, trivial⟩, ⟨trivial, ⟨trivial, ⟨⟨⟨rfl, rfl⟩, trivial⟩, trivial⟩⟩⟩⟩⟩⟩⟩⟩⟩⟩⟩⟩⟩⟩⟩⟩⟩⟩⟩⟩⟩⟩⟩⟩⟩⟩⟩⟩⟩⟩⟩⟩⟩⟩⟩⟩⟩⟩⟩⟩⟩⟩⟩⟩⟩ ?_
              refine a_off (i := 49) hok rfl rfl rfl rfl rfl (by kernel_rfl) rfl rfl ?_
              refine a_rd (i := 50) hok rfl (by kernel_rfl) rfl (r_pickF rfl rfl) rfl ?_
              refine a_rd (i := 51) hok rfl (by kernel_rfl) rfl (r_move rfl) rfl ?_
              refine a_off (i := 52) hok rfl rfl rfl rfl rfl (by kernel_rfl) rfl rfl ?_
              refine a_next hok 53 [] (by kernel_rfl) ?_ trivial
              refine a_stOff (i := 53) hok rfl rfl rfl rfl rfl rfl (by intro _ h; cases h; rfl) ⟨trivial, ⟨trivial, ⟨trivial, ⟨trivial, ⟨trivial, ⟨trivial, ⟨trivial, ⟨⟨⟨rfl, rfl⟩, trivial⟩, ⟨trivial, ⟨trivial, ⟨trivial, ⟨trivial, ⟨trivial, ⟨trivial, ⟨trivial, ⟨⟨⟨rfl, rfl⟩, trivial⟩, ⟨trivial, ⟨trivial, ⟨trivial, ⟨trivial, ⟨trivial, ⟨trivial, ⟨trivial, ⟨⟨⟨rfl, rfl⟩, trivial⟩, ⟨trivial, ⟨trivial, ⟨trivial, ⟨trivial, ⟨trivial, ⟨⟨⟨rfl, rfl⟩, trivial⟩, ⟨trivial, ⟨trivial, ⟨trivial, ⟨trivial, ⟨trivial, ⟨trivial, ⟨trivial, ⟨trivial, ⟨trivial, ⟨trivial, ⟨⟨⟨rfl, rfl⟩, trivial⟩, ⟨trivial, ⟨trivial, ⟨trivial, ⟨trivial, ⟨⟨⟨rfl, rfl⟩, trivial⟩, ⟨trivial, ⟨trivial, ⟨⟨⟨rfl, rfl⟩, trivial⟩, trivial⟩⟩⟩⟩⟩⟩⟩⟩⟩⟩⟩⟩⟩⟩⟩⟩⟩⟩⟩⟩⟩⟩⟩⟩⟩⟩⟩⟩⟩⟩⟩⟩⟩⟩⟩⟩⟩⟩⟩⟩⟩⟩⟩⟩⟩⟩⟩⟩⟩ ?_
              refine a_rd (i := 54) hok rfl (by kernel_rfl) rfl (r_pickF rfl rfl) rfl ?_
              refine a_next hok 55 [] (by kernel_rfl) ?_ trivial
              refine a_st (i := 55) hok rfl rfl (St.ofRd (r_assign rfl)) (by intro _ h; cases h; rfl) (fun _ => ⟨trivial, ⟨trivial, ⟨trivial, ⟨trivial, ⟨trivial, ⟨trivial, ⟨trivial, ⟨trivial, ⟨trivial, ⟨trivial, ⟨trivial, ⟨trivial, ⟨trivial, ⟨trivial, ⟨trivial, ⟨trivial, ⟨trivial, ⟨trivial, ⟨trivial, ⟨trivial, ⟨trivial, ⟨trivial, ⟨trivial, ⟨trivial, ⟨trivial, ⟨trivial, ⟨trivial, ⟨trivial, ⟨trivial, ⟨trivial, ⟨trivial, ⟨trivial, ⟨trivial, ⟨trivial, ⟨trivial, ⟨trivial, ⟨trivial, ⟨trivial, ⟨trivial, ⟨trivial, ⟨trivial, ⟨trivial, ⟨trivial, ⟨trivial, ⟨trivial, ⟨trivial, ⟨trivial, ⟨trivial, ⟨trivial, ⟨trivial, trivial⟩⟩⟩⟩⟩⟩⟩⟩⟩⟩⟩⟩⟩⟩⟩⟩⟩⟩⟩⟩⟩⟩⟩⟩⟩⟩⟩⟩⟩⟩⟩⟩⟩⟩⟩⟩⟩⟩⟩⟩⟩⟩⟩⟩⟩⟩⟩⟩⟩⟩) (fun _ => ?_)
              refine a_fin hok (by kernel_rfl) ?_
              refine b_of (nrm [oc b2 [slv rT_api_Premise t1.Premises, slv rT_api_Rule t1.Rules, slv rT_api_Promotion t1.Promotions], oc b5 [slv rT_api_Premise t4.1.Premises, slv rT_api_Rule t4.1.Rules, slv rT_api_Promotion t4.1.Promotions]] rfl) ?_
              refine n_then (ref_ret ?_)
              exact fin1 (.inl rfl) () [] rfl trivial rfl (rv_tmp rfl)
            refine a_off (i := 43) hok rfl rfl rfl rfl rfl (by kernel_rfl) rfl rfl ?_
            refine a_next hok 44 [] (by kernel_rfl) ?_ trivial
            refine a_stOff (i := 44) hok rfl rfl rfl rfl rfl rfl (by intro _ h; cases h; rfl) ⟨trivial, ⟨trivial, ⟨trivial, ⟨trivial, ⟨trivial, ⟨trivial, ⟨trivial, ⟨trivial, ⟨⟨⟨rfl, rfl⟩, trivial⟩, ⟨trivial, ⟨trivial, ⟨trivial, ⟨trivial, ⟨trivial, ⟨trivial, ⟨trivial, ⟨⟨⟨rfl, rfl⟩, trivial⟩, ⟨trivial, ⟨trivial, ⟨trivial, ⟨trivial, ⟨trivial, ⟨⟨⟨rfl, rfl⟩, trivial⟩, ⟨trivial, ⟨trivial, ⟨trivial, ⟨trivial, ⟨trivial, ⟨trivial, ⟨trivial, ⟨trivial, ⟨trivial, ⟨trivial, ⟨⟨⟨rfl, rfl⟩, trivial⟩, ⟨trivial, ⟨trivial, ⟨trivial, ⟨trivial, ⟨⟨⟨rfl, rfl⟩, trivial⟩, ⟨trivial, ⟨trivial, ⟨⟨⟨rfl, rfl⟩, trivial⟩, trivial⟩⟩⟩⟩⟩⟩⟩⟩⟩⟩⟩⟩⟩⟩⟩⟩⟩⟩⟩⟩⟩⟩⟩⟩⟩⟩⟩⟩⟩⟩⟩⟩⟩⟩⟩⟩⟩⟩⟩⟩⟩⟩ ?_
            refine a_rd (i := 45) hok rfl (by kernel_rfl) rfl (r_pickF rfl rfl) rfl ?_
            refine a_rd (i := 46) hok rfl (by kernel_rfl) rfl (r_move rfl) rfl ?_
            refine a_off (i := 47) hok rfl rfl rfl rfl rfl (by kernel_rfl) rfl rfl ?_
            refine a_next hok 48 [] (by kernel_rfl) ?_ trivial
            refine a_stOff (i := 48) hok rfl rfl rfl rfl rfl rfl (by intro _ h; cases h; rfl) ⟨trivial, ⟨trivial, ⟨trivial, ⟨trivial, ⟨trivial, ⟨trivial, ⟨trivial, ⟨trivial, ⟨trivial, ⟨trivial, ⟨trivial, ⟨⟨⟨rfl, rfl⟩, trivial⟩, ⟨trivial, ⟨trivial, ⟨trivial, ⟨trivial, ⟨trivial, ⟨trivial, ⟨trivial, ⟨⟨⟨rfl, rfl⟩, trivial⟩, ⟨trivial, ⟨trivial, ⟨trivial, ⟨trivial, ⟨trivial, ⟨⟨⟨rfl, rfl⟩, trivial⟩, ⟨trivial, ⟨trivial, ⟨trivial, ⟨trivial, ⟨trivial, ⟨trivial, ⟨trivial, ⟨trivial, ⟨trivial, ⟨trivial, ⟨⟨⟨rfl, rfl⟩, trivial⟩, ⟨trivial, ⟨trivial, ⟨trivial, ⟨trivial, ⟨⟨⟨rfl, rfl⟩, trivial⟩, ⟨trivial, ⟨trivial, ⟨⟨⟨rfl, rfl⟩, trivial⟩, trivial⟩⟩⟩⟩⟩⟩⟩⟩⟩⟩⟩⟩⟩⟩⟩⟩⟩⟩⟩⟩⟩⟩⟩⟩⟩⟩⟩⟩⟩⟩⟩⟩⟩⟩⟩⟩⟩⟩⟩⟩⟩⟩⟩⟩⟩ ?_
            refine a_off (i := 49) hok rfl rfl rfl rfl rfl (by kernel_rfl) rfl rfl ?_
            refine a_rd (i := 50) hok rfl (by kernel_rfl) rfl (r_pickF rfl rfl) rfl ?_
            refine a_rd (i := 51) hok rfl (by kernel_rfl) rfl (r_move rfl) rfl ?_
            refine a_off (i := 52) hok rfl rfl rfl rfl rfl (by kernel_rfl) rfl rfl ?_
            refine a_next hok 53 [] (by kernel_rfl) ?_ trivial
            refine a_stOff (i := 53) hok rfl rfl rfl rfl rfl rfl (by intro _ h; cases h; rfl) ⟨trivial, ⟨trivial, ⟨trivial, ⟨trivial, ⟨trivial, ⟨trivial, ⟨trivial, ⟨trivial, ⟨trivial, ⟨trivial, ⟨trivial, ⟨trivial, ⟨trivial, ⟨trivial, ⟨trivial, ⟨⟨⟨rfl, rfl⟩, trivial⟩, ⟨trivial, ⟨trivial, ⟨trivial, ⟨trivial, ⟨trivial, ⟨trivial, ⟨trivial, ⟨⟨⟨rfl, rfl⟩, trivial⟩, ⟨trivial, ⟨trivial, ⟨trivial, ⟨trivial, ⟨trivial, ⟨⟨⟨rfl, rfl⟩, trivial⟩, ⟨trivial, ⟨trivial, ⟨trivial, ⟨trivial, ⟨trivial, ⟨trivial, ⟨trivial, ⟨trivial, ⟨trivial, ⟨trivial, ⟨⟨⟨rfl, rfl⟩, trivial⟩, ⟨trivial, ⟨trivial, ⟨trivial, ⟨trivial, ⟨⟨⟨rfl, rfl⟩, trivial⟩, ⟨trivial, ⟨trivial, ⟨⟨⟨rfl, rfl⟩, trivial⟩, trivial⟩⟩⟩⟩⟩⟩⟩⟩⟩⟩⟩⟩⟩⟩⟩⟩⟩⟩⟩⟩⟩⟩⟩⟩⟩⟩⟩⟩⟩⟩⟩⟩⟩⟩⟩⟩⟩⟩⟩⟩⟩⟩⟩⟩⟩⟩⟩⟩⟩ ?_
            refine a_rd (i := 54) hok rfl (by kernel_rfl) rfl (r_pickF rfl rfl) rfl ?_
            refine a_next hok 55 [] (by kernel_rfl) ?_ trivial
            refine a_st (i := 55) hok rfl rfl (St.ofRd (r_assign rfl)) (by intro _ h; cases h; rfl) (fun _ => ⟨trivial, ⟨trivial, ⟨trivial, ⟨trivial, ⟨trivial, ⟨trivial, ⟨trivial, ⟨trivial, ⟨trivial, ⟨trivial, ⟨trivial, ⟨trivial, ⟨trivial, ⟨trivial, ⟨trivial, ⟨trivial, ⟨trivial, ⟨trivial, ⟨trivial, ⟨trivial, ⟨trivial, ⟨trivial, ⟨trivial, ⟨trivial, ⟨trivial, ⟨trivial, ⟨trivial, ⟨trivial, ⟨trivial, ⟨trivial, ⟨trivial, ⟨trivial, ⟨trivial, ⟨trivial, ⟨trivial, ⟨trivial, ⟨trivial, ⟨trivial, ⟨trivial, ⟨trivial, ⟨trivial, ⟨trivial, ⟨trivial, ⟨trivial, ⟨trivial, ⟨trivial, ⟨trivial, ⟨trivial, ⟨trivial, ⟨trivial, trivial⟩⟩⟩⟩⟩⟩⟩⟩⟩⟩⟩⟩⟩⟩⟩⟩⟩⟩⟩⟩⟩⟩⟩⟩⟩⟩⟩⟩⟩⟩⟩⟩⟩⟩⟩⟩⟩⟩⟩⟩⟩⟩⟩⟩⟩⟩⟩⟩⟩⟩) (fun _ => ?_)
            refine a_fin hok (by kernel_rfl) ?_
            refine n_then (ref_ret ?_)
            exact fin1 (.inl rfl) () [] rfl trivial rfl (rv_tmp rfl)
          refine a_off (i := 34) hok rfl rfl rfl rfl rfl (by kernel_rfl) rfl rfl ?_
          refine a_off (i := 35) hok rfl rfl rfl rfl rfl (by kernel_rfl) rfl rfl ?_
          refine a_off (i := 36) hok rfl rfl rfl rfl rfl (by kernel_rfl) rfl rfl ?_
          refine a_off (i := 37) hok rfl rfl rfl rfl rfl (by kernel_rfl) rfl rfl ?_
          refine a_off (i := 38) hok rfl rfl rfl rfl rfl (by kernel_rfl) rfl rfl ?_
          refine a_off (i := 39) hok rfl rfl rfl rfl rfl (by kernel_rfl) rfl rfl ?_
          refine a_off (i := 40) hok rfl rfl rfl rfl rfl (by kernel_rfl) rfl rfl ?_
          refine a_rd (i := 41) hok rfl (by kernel_rfl) rfl (r_pickF rfl rfl) rfl ?_
          refine a_rd (i := 42) hok rfl (by kernel_rfl) rfl (r_move rfl) rfl ?_
          refine a_off (i := 43) hok rfl rfl rfl rfl rfl (by kernel_rfl) rfl rfl ?_
          refine a_next hok 44 [] (by kernel_rfl) ?_ trivial
          refine a_stOff (i := 44) hok rfl rfl rfl rfl rfl rfl (by intro _ h; cases h; rfl) ⟨trivial, ⟨trivial, ⟨trivial, ⟨trivial, ⟨trivial, ⟨trivial, ⟨trivial, ⟨trivial, ⟨trivial, ⟨trivial, ⟨trivial, ⟨trivial, ⟨trivial, ⟨trivial, ⟨trivial, ⟨trivial, ⟨⟨⟨rfl, rfl⟩, trivial⟩, ⟨trivial, ⟨trivial, ⟨trivial, ⟨trivial, ⟨trivial, ⟨⟨⟨rfl, rfl⟩, trivial⟩, ⟨trivial, ⟨trivial, ⟨trivial, ⟨trivial, ⟨trivial, ⟨trivial, ⟨trivial, ⟨trivial, ⟨trivial, ⟨trivial, ⟨⟨⟨rfl, rfl⟩, trivial⟩, ⟨trivial, ⟨trivial, ⟨trivial, ⟨trivial, ⟨⟨⟨rfl, rfl⟩, trivial⟩, ⟨trivial, ⟨trivial, ⟨⟨⟨rfl, rfl⟩, trivial⟩, trivial⟩⟩⟩⟩⟩⟩⟩⟩⟩⟩⟩⟩⟩⟩⟩⟩⟩⟩⟩⟩⟩⟩⟩⟩⟩⟩⟩⟩⟩⟩⟩⟩⟩⟩⟩⟩⟩⟩⟩⟩⟩⟩ ?_
          refine a_rd (i := 45) hok rfl (by kernel_rfl) rfl (r_pickF rfl rfl) rfl ?_
          refine a_rd (i := 46) hok rfl (by kernel_rfl) rfl (r_move rfl) rfl ?_
          refine a_off (i := 47) hok rfl rfl rfl rfl rfl (by kernel_rfl) rfl rfl ?_
          refine a_next hok 48 [] (by kernel_rfl) ?_ trivial
          refine a_stOff (i := 48) hok rfl rfl rfl rfl rfl rfl (by intro _ h; cases h; rfl) ⟨trivial, ⟨trivial, ⟨trivial, ⟨trivial, ⟨trivial, ⟨trivial, ⟨trivial, ⟨trivial, ⟨trivial, ⟨trivial, ⟨trivial, ⟨trivial, ⟨trivial, ⟨trivial, ⟨trivial, ⟨trivial, ⟨trivial, ⟨trivial, ⟨trivial, ⟨⟨⟨rfl, rfl⟩, trivial⟩, ⟨trivial, ⟨trivial, ⟨trivial, ⟨trivial, ⟨trivial, ⟨⟨⟨rfl, rfl⟩, trivial⟩, ⟨trivial, ⟨trivial, ⟨trivial, ⟨trivial, ⟨trivial, ⟨trivial, ⟨trivial, ⟨trivial, ⟨trivial, ⟨trivial, ⟨⟨⟨rfl, rfl⟩, trivial⟩, ⟨trivial, ⟨trivial, ⟨trivial, ⟨trivial, ⟨⟨⟨rfl, rfl⟩, trivial⟩, ⟨trivial, ⟨trivial, ⟨⟨⟨rfl, rfl⟩, trivial⟩, trivial⟩⟩⟩⟩⟩⟩⟩⟩⟩⟩⟩⟩⟩⟩⟩⟩⟩⟩⟩⟩⟩⟩⟩⟩⟩⟩⟩⟩⟩⟩⟩⟩⟩⟩⟩⟩⟩⟩⟩⟩⟩⟩⟩⟩⟩ ?_
          refine a_off (i := 49) hok rfl rfl rfl rfl rfl (by kernel_rfl) rfl rfl ?_
          refine a_rd (i := 50) hok rfl (by kernel_rfl) rfl (r_pickF rfl rfl) rfl ?_
          refine a_rd (i := 51) hok rfl (by kernel_rfl) rfl (r_move rfl) rfl ?_
          refine a_off (i := 52) hok rfl rfl rfl rfl rfl (by kernel_rfl) rfl rfl ?_
          refine a_next hok 53 [] (by kernel_rfl) ?_ trivial
          refine a_stOff (i := 53) hok rfl rfl rfl rfl rfl rfl (by intro _ h; cases h; rfl) ⟨trivial, ⟨trivial, ⟨trivial, ⟨trivial, ⟨trivial, ⟨trivial, ⟨trivial, ⟨trivial, ⟨trivial, ⟨trivial, ⟨trivial, ⟨trivial, ⟨trivial, ⟨trivial, ⟨trivial, ⟨trivial, ⟨trivial, ⟨trivial, ⟨trivial, ⟨trivial, ⟨trivial, ⟨trivial, ⟨trivial, ⟨⟨⟨rfl, rfl⟩, trivial⟩, ⟨trivial, ⟨trivial, ⟨trivial, ⟨trivial, ⟨trivial, ⟨⟨⟨rfl, rfl⟩, trivial⟩, ⟨trivial, ⟨trivial, ⟨trivial, ⟨trivial, ⟨trivial, ⟨trivial, ⟨trivial, ⟨trivial, ⟨trivial, ⟨trivial, ⟨⟨⟨rfl, rfl⟩, trivial⟩, ⟨trivial, ⟨trivial, ⟨trivial, ⟨trivial, ⟨⟨⟨rfl, rfl⟩, trivial⟩, ⟨trivial, ⟨trivial, ⟨⟨⟨rfl, rfl⟩, trivial⟩, trivial⟩⟩⟩⟩⟩⟩⟩⟩⟩⟩⟩⟩⟩⟩⟩⟩⟩⟩⟩⟩⟩⟩⟩⟩⟩⟩⟩⟩⟩⟩⟩⟩⟩⟩⟩⟩⟩⟩⟩⟩⟩⟩⟩⟩⟩⟩⟩⟩⟩ ?_
          refine a_rd (i := 54) hok rfl (by kernel_rfl) rfl (r_pickF rfl rfl) rfl ?_
          refine a_next hok 55 [] (by kernel_rfl) ?_ trivial
          refine a_st (i := 55) hok rfl rfl (St.ofRd (r_assign rfl)) (by intro _ h; cases h; rfl) (fun _ => ⟨trivial, ⟨trivial, ⟨trivial, ⟨trivial, ⟨trivial, ⟨trivial, ⟨trivial, ⟨trivial, ⟨trivial, ⟨trivial, ⟨trivial, ⟨trivial, ⟨trivial, ⟨trivial, ⟨trivial, ⟨trivial, ⟨trivial, ⟨trivial, ⟨trivial, ⟨trivial, ⟨trivial, ⟨trivial, ⟨trivial, ⟨trivial, ⟨trivial, ⟨trivial, ⟨trivial, ⟨trivial, ⟨trivial, ⟨trivial, ⟨trivial, ⟨trivial, ⟨trivial, ⟨trivial, ⟨trivial, ⟨trivial, ⟨trivial, ⟨trivial, ⟨trivial, ⟨trivial, ⟨trivial, ⟨trivial, ⟨trivial, ⟨trivial, ⟨trivial, ⟨trivial, ⟨trivial, ⟨trivial, ⟨trivial, ⟨trivial, trivial⟩⟩⟩⟩⟩⟩⟩⟩⟩⟩⟩⟩⟩⟩⟩⟩⟩⟩⟩⟩⟩⟩⟩⟩⟩⟩⟩⟩⟩⟩⟩⟩⟩⟩⟩⟩⟩⟩⟩⟩⟩⟩⟩⟩⟩⟩⟩⟩⟩⟩) (fun _ => ?_)
          refine a_fin hok (by kernel_rfl) ?_
          refine n_then (ref_ret ?_)
          exact fin1 (.inl rfl) () [] rfl trivial rfl (rv_tmp rfl)
        refine a_off (i := 26) hok rfl rfl rfl rfl rfl (by kernel_rfl) rfl rfl ?_
        refine a_off (i := 27) hok rfl rfl rfl rfl rfl (by kernel_rfl) rfl rfl ?_
        refine a_off (i := 28) hok rfl rfl rfl rfl rfl (by kernel_rfl) rfl rfl ?_
        refine a_off (i := 29) hok rfl rfl rfl rfl rfl (by kernel_rfl) rfl rfl ?_
        refine a_off (i := 30) hok rfl rfl rfl rfl rfl (by kernel_rfl) rfl rfl ?_
        refine a_off (i := 31) hok rfl rfl rfl rfl rfl (by kernel_rfl) rfl rfl ?_
        refine a_rd (i := 32) hok rfl (by kernel_rfl) rfl (r_pickF rfl rfl) rfl ?_
        refine a_rd (i := 33) hok rfl (by kernel_rfl) rfl (r_move rfl) rfl ?_
        refine a_off (i := 34) hok rfl rfl rfl rfl rfl (by kernel_rfl) rfl rfl ?_
        refine a_off (i := 35) hok rfl rfl rfl rfl rfl (by kernel_rfl) rfl rfl ?_
        refine a_off (i := 36) hok rfl rfl rfl rfl rfl (by kernel_rfl) rfl rfl ?_
        refine a_off (i := 37) hok rfl rfl rfl rfl rfl (by kernel_rfl) rfl rfl ?_
        refine a_off (i := 38) hok rfl rfl rfl rfl rfl (by kernel_rfl) rfl rfl ?_
        refine a_off (i := 39) hok rfl rfl rfl rfl rfl (by kernel_rfl) rfl rfl ?_
        refine a_off (i := 40) hok rfl rfl rfl rfl rfl (by kernel_rfl) rfl rfl ?_
        refine a_rd (i := 41) hok rfl (by kernel_rfl) rfl (r_pickF rfl rfl) rfl ?_
        refine a_rd (i := 42) hok rfl (by kernel_rfl) rfl (r_move rfl) rfl ?_
        refine a_off (i := 43) hok rfl rfl rfl rfl rfl (by kernel_rfl) rfl rfl ?_
        refine a_next hok 44 [] (by kernel_rfl) ?_ trivial
        refine a_stOff (i := 44) hok rfl rfl rfl rfl rfl rfl (by intro _ h; cases h; rfl) ⟨trivial, ⟨trivial, ⟨trivial, ⟨trivial, ⟨trivial, ⟨trivial, ⟨trivial, ⟨trivial, ⟨trivial, ⟨trivial, ⟨trivial, ⟨trivial, ⟨trivial, ⟨trivial, ⟨trivial, ⟨trivial, ⟨trivial, ⟨trivial, ⟨trivial, ⟨trivial, ⟨trivial, ⟨trivial, ⟨⟨⟨rfl, rfl⟩, trivial⟩, ⟨trivial, ⟨trivial, ⟨trivial, ⟨trivial, ⟨trivial, ⟨trivial, ⟨trivial, ⟨trivial, ⟨trivial, ⟨trivial, ⟨⟨⟨rfl, rfl⟩, trivial⟩, ⟨trivial, ⟨trivial, ⟨trivial, ⟨trivial, ⟨⟨⟨rfl, rfl⟩, trivial⟩, ⟨trivial, ⟨trivial, ⟨⟨⟨rfl, rfl⟩, trivial⟩, trivial⟩⟩⟩⟩⟩⟩⟩⟩⟩⟩⟩⟩⟩⟩⟩⟩⟩⟩⟩⟩⟩⟩⟩⟩⟩⟩⟩⟩⟩⟩⟩⟩⟩⟩⟩⟩⟩⟩⟩⟩⟩⟩ ?_
        refine a_rd (i := 45) hok rfl (by kernel_rfl) rfl (r_pickF rfl rfl) rfl ?_
        refine a_rd (i := 46) hok rfl (by kernel_rfl) rfl (r_move rfl) rfl ?_
        refine a_off (i := 47) hok rfl rfl rfl rfl rfl (by kernel_rfl) rfl rfl ?_
        refine a_next hok 48 [] (by kernel_rfl) ?_ trivial
        refine a_stOff (i := 48) hok rfl rfl rfl rfl rfl rfl (by intro _ h; cases h; rfl) ⟨trivial, ⟨trivial, ⟨trivial, ⟨trivial, ⟨trivial, ⟨trivial, ⟨trivial, ⟨trivial, ⟨trivial, ⟨trivial, ⟨trivial, ⟨trivial, ⟨trivial, ⟨trivial, ⟨trivial, ⟨trivial, ⟨trivial, ⟨trivial, ⟨trivial, ⟨trivial, ⟨trivial, ⟨trivial, ⟨trivial, ⟨trivial, ⟨trivial, ⟨⟨⟨rfl, rfl⟩, trivial⟩, ⟨trivial, ⟨trivial, ⟨trivial, ⟨trivial, ⟨trivial, ⟨trivial, ⟨trivial, ⟨trivial, ⟨trivial, ⟨trivial, ⟨⟨⟨rfl, rfl⟩, trivial⟩, ⟨trivial, ⟨trivial, ⟨trivial, ⟨trivial, ⟨⟨⟨rfl, rfl⟩, trivial⟩, ⟨trivial, ⟨trivial, ⟨⟨⟨rfl, rfl⟩, trivial⟩, trivial⟩⟩⟩⟩⟩⟩⟩⟩⟩⟩⟩⟩⟩⟩⟩⟩⟩⟩⟩⟩⟩⟩⟩⟩⟩⟩⟩⟩⟩⟩⟩⟩⟩⟩⟩⟩⟩⟩⟩⟩⟩⟩⟩⟩⟩ ?_
        refine a_off (i := 49) hok rfl rfl rfl rfl rfl (by kernel_rfl) rfl rfl ?_
        refine a_rd (i := 50) hok rfl (by kernel_rfl) rfl (r_pickF rfl rfl) rfl ?_
        refine a_rd (i := 51) hok rfl (by kernel_rfl) rfl (r_move rfl) rfl ?_
        refine a_off (i := 52) hok rfl rfl rfl rfl rfl (by kernel_rfl) rfl rfl ?_
        refine a_next hok 53 [] (by kernel_rfl) ?_ trivial
        refine a_stOff (i := 53) hok rfl rfl rfl rfl rfl rfl (by intro _ h; cases h; rfl) ⟨trivial, ⟨trivial, ⟨trivial, ⟨trivial, ⟨trivial, ⟨trivial, ⟨trivial, ⟨trivial, ⟨trivial, ⟨trivial, ⟨trivial, ⟨trivial, ⟨trivial, ⟨trivial, ⟨trivial, ⟨trivial, ⟨trivial, ⟨trivial, ⟨trivial, ⟨trivial, ⟨trivial, ⟨trivial, ⟨trivial, ⟨trivial, ⟨trivial, ⟨trivial, ⟨trivial, ⟨trivial, ⟨trivial, ⟨⟨⟨rfl, rfl⟩, trivial⟩, ⟨trivial, ⟨trivial, ⟨trivial, ⟨trivial, ⟨trivial, ⟨trivial, ⟨trivial, ⟨trivial, ⟨trivial, ⟨trivial, ⟨⟨⟨rfl, rfl⟩, trivial⟩, ⟨trivial, ⟨trivial, ⟨trivial, ⟨trivial, ⟨⟨⟨rfl, rfl⟩, trivial⟩, ⟨trivial, ⟨trivial, ⟨⟨⟨rfl, rfl⟩, trivial⟩, trivial⟩⟩⟩⟩⟩⟩⟩⟩⟩⟩⟩⟩⟩⟩⟩⟩⟩⟩⟩⟩⟩⟩⟩⟩⟩⟩⟩⟩⟩⟩⟩⟩⟩⟩⟩⟩⟩⟩⟩⟩⟩⟩⟩⟩⟩⟩⟩⟩⟩ ?_
        refine a_rd (i := 54) hok rfl (by kernel_rfl) rfl (r_pickF rfl rfl) rfl ?_
        refine a_next hok 55 [] (by kernel_rfl) ?_ trivial
        refine a_st (i := 55) hok rfl rfl (St.ofRd (r_assign rfl)) (by intro _ h; cases h; rfl) (fun _ => ⟨trivial, ⟨trivial, ⟨trivial, ⟨trivial, ⟨trivial, ⟨trivial, ⟨trivial, ⟨trivial, ⟨trivial, ⟨trivial, ⟨trivial, ⟨trivial, ⟨trivial, ⟨trivial, ⟨trivial, ⟨trivial, ⟨trivial, ⟨trivial, ⟨trivial, ⟨trivial, ⟨trivial, ⟨trivial, ⟨trivial, ⟨trivial, ⟨trivial, ⟨trivial, ⟨trivial, ⟨trivial, ⟨trivial, ⟨trivial, ⟨trivial, ⟨trivial, ⟨trivial, ⟨trivial, ⟨trivial, ⟨trivial, ⟨trivial, ⟨trivial, ⟨trivial, ⟨trivial, ⟨trivial, ⟨trivial, ⟨trivial, ⟨trivial, ⟨trivial, ⟨trivial, ⟨trivial, ⟨trivial, ⟨trivial, ⟨trivial, trivial⟩⟩⟩⟩⟩⟩⟩⟩⟩⟩⟩⟩⟩⟩⟩⟩⟩⟩⟩⟩⟩⟩⟩⟩⟩⟩⟩⟩⟩⟩⟩⟩⟩⟩⟩⟩⟩⟩⟩⟩⟩⟩⟩⟩⟩⟩⟩⟩⟩⟩) (fun _ => ?_)
        refine a_fin hok (by kernel_rfl) ?_
        refine n_then (ref_ret ?_)
        exact fin1 (.inl rfl) () [] rfl trivial rfl (rv_tmp rfl)
      refine a_off (i := 20) hok rfl rfl rfl rfl rfl (by kernel_rfl) rfl rfl ?_
      refine a_off (i := 21) hok rfl rfl rfl rfl rfl (by kernel_rfl) rfl rfl ?_
      refine a_off (i := 22) hok rfl rfl rfl rfl rfl (by kernel_rfl) rfl rfl ?_
      refine a_off (i := 23) hok rfl rfl rfl rfl rfl (by kernel_rfl) rfl rfl ?_
      refine a_rd (i := 24) hok rfl (by kernel_rfl) rfl (r_pickF rfl rfl) rfl ?_
      refine a_rd (i := 25) hok rfl (by kernel_rfl) rfl (r_move rfl) rfl ?_
      refine a_off (i := 26) hok rfl rfl rfl rfl rfl (by kernel_rfl) rfl rfl ?_
      refine a_off (i := 27) hok rfl rfl rfl rfl rfl (by kernel_rfl) rfl rfl ?_
      refine a_off (i := 28) hok rfl rfl rfl rfl rfl (by kernel_rfl) rfl rfl ?_
      refine a_off (i := 29) hok rfl rfl rfl rfl rfl (by kernel_rfl) rfl rfl ?_
      refine a_off (i := 30) hok rfl rfl rfl rfl rfl (by kernel_rfl) rfl rfl ?_
      refine a_off (i := 31) hok rfl rfl rfl rfl rfl (by kernel_rfl) rfl rfl ?_
      refine a_rd (i := 32) hok rfl (by kernel_rfl) rfl (r_pickF rfl rfl) rfl ?_
      refine a_rd (i := 33) hok rfl (by kernel_rfl) rfl (r_move rfl) rfl ?_
      refine a_off (i := 34) hok rfl rfl rfl rfl rfl (by kernel_rfl) rfl rfl ?_
      refine a_off (i := 35) hok rfl rfl rfl rfl rfl (by kernel_rfl) rfl rfl ?_
      refine a_off (i := 36) hok rfl rfl rfl rfl rfl (by kernel_rfl) rfl rfl ?_
      refine a_off (i := 37) hok rfl rfl rfl rfl rfl (by kernel_rfl) rfl rfl ?_
      refine a_off (i := 38) hok rfl rfl rfl rfl rfl (by kernel_rfl) rfl rfl ?_
      refine a_off (i := 39) hok rfl rfl rfl rfl rfl (by kernel_rfl) rfl rfl ?_
      refine a_off (i := 40) hok rfl rfl rfl rfl rfl (by kernel_rfl) rfl rfl ?_
      refine a_rd (i := 41) hok rfl (by kernel_rfl) rfl (r_pickF rfl rfl) rfl ?_
      refine a_rd (i := 42) hok rfl (by kernel_rfl) rfl (r_move rfl) rfl ?_
      refine a_off (i := 43) hok rfl rfl rfl rfl rfl (by kernel_rfl) rfl rfl ?_
      refine a_next hok 44 [] (by kernel_rfl) ?_ trivial
      refine a_stOff (i := 44) hok rfl rfl rfl rfl rfl rfl (by intro _ h; cases h; rfl) ⟨trivial, ⟨trivial, ⟨trivial, ⟨trivial, ⟨trivial, ⟨trivial, ⟨trivial, ⟨trivial, ⟨trivial, ⟨trivial, ⟨trivial, ⟨trivial, ⟨trivial, ⟨trivial, ⟨trivial, ⟨trivial, ⟨trivial, ⟨trivial, ⟨trivial, ⟨trivial, ⟨trivial, ⟨trivial, ⟨trivial, ⟨trivial, ⟨trivial, ⟨trivial, ⟨trivial, ⟨trivial, ⟨trivial, ⟨trivial, ⟨trivial, ⟨trivial, ⟨trivial, ⟨⟨⟨rfl, rfl⟩, trivial⟩, ⟨trivial, ⟨trivial, ⟨trivial, ⟨trivial, ⟨⟨⟨rfl, rfl⟩, trivial⟩, ⟨trivial, ⟨trivial, ⟨⟨⟨rfl, rfl⟩, trivial⟩, trivial⟩⟩⟩⟩⟩⟩⟩⟩⟩⟩⟩⟩⟩⟩⟩⟩⟩⟩⟩⟩⟩⟩⟩⟩⟩⟩⟩⟩⟩⟩⟩⟩⟩⟩⟩⟩⟩⟩⟩⟩⟩⟩ ?_
      refine a_rd (i := 45) hok rfl (by kernel_rfl) rfl (r_pickF rfl rfl) rfl ?_
      refine a_rd (i := 46) hok rfl (by kernel_rfl) rfl (r_move rfl) rfl ?_
      refine a_off (i := 47) hok rfl rfl rfl rfl rfl (by kernel_rfl) rfl rfl ?_
      refine a_next hok 48 [] (by kernel_rfl) ?_ trivial
      refine a_stOff (i := 48) hok rfl rfl rfl rfl rfl rfl (by intro _ h; cases h; rfl) ⟨trivial, ⟨trivial, ⟨trivial, ⟨trivial, ⟨trivial, ⟨trivial, ⟨trivial, ⟨trivial, ⟨trivial, ⟨trivial, ⟨trivial, ⟨trivial, ⟨trivial, ⟨trivial, ⟨trivial, ⟨trivial, ⟨trivial, ⟨trivial, ⟨trivial, ⟨trivial, ⟨trivial, ⟨trivial, ⟨trivial, ⟨trivial, ⟨trivial, ⟨trivial, ⟨trivial, ⟨trivial, ⟨trivial, ⟨trivial, ⟨trivial, ⟨trivial, ⟨trivial, ⟨trivial, ⟨trivial, ⟨trivial, ⟨⟨⟨rfl, rfl⟩, trivial⟩, ⟨trivial, ⟨trivial, ⟨trivial, ⟨trivial, ⟨⟨⟨rfl, rfl⟩, trivial⟩, ⟨trivial, ⟨trivial, ⟨⟨⟨rfl, rfl⟩, trivial⟩, trivial⟩⟩⟩⟩⟩⟩⟩⟩⟩⟩⟩⟩⟩⟩⟩⟩⟩⟩⟩⟩⟩⟩⟩⟩⟩⟩⟩⟩⟩⟩⟩⟩⟩⟩⟩⟩⟩⟩⟩⟩⟩⟩⟩⟩⟩ ?_
      refine a_off (i := 49) hok rfl rfl rfl rfl rfl (by kernel_rfl) rfl rfl ?_
      refine a_rd (i := 50) hok rfl (by kernel_rfl) rfl (r_pickF rfl rfl) rfl ?_
      refine a_rd (i := 51) hok rfl (by kernel_rfl) rfl (r_move rfl) rfl ?_
      refine a_off (i := 52) hok rfl rfl rfl rfl rfl (by kernel_rfl) rfl rfl ?_
      refine a_next hok 53 [] (by kernel_rfl) ?_ trivial
      refine a_stOff (i := 53) hok rfl rfl rfl rfl rfl rfl (by intro _ h; cases h; rfl) ⟨trivial, ⟨trivial, ⟨trivial, ⟨trivial, ⟨trivial, ⟨trivial, ⟨trivial, ⟨trivial, ⟨trivial, ⟨trivial, ⟨trivial, ⟨trivial, ⟨trivial, ⟨trivial, ⟨trivial, ⟨trivial, ⟨trivial, ⟨trivial, ⟨trivial, ⟨trivial, ⟨trivial, ⟨trivial, ⟨trivial, ⟨trivial, ⟨trivial, ⟨trivial, ⟨trivial, ⟨trivial, ⟨trivial, ⟨trivial, ⟨trivial, ⟨trivial, ⟨trivial, ⟨trivial, ⟨trivial, ⟨trivial, ⟨trivial, ⟨trivial, ⟨trivial, ⟨trivial, ⟨⟨⟨rfl, rfl⟩, trivial⟩, ⟨trivial, ⟨trivial, ⟨trivial, ⟨trivial, ⟨⟨⟨rfl, rfl⟩, trivial⟩, ⟨trivial, ⟨trivial, ⟨⟨⟨rfl, rfl⟩, trivial⟩, trivial⟩⟩⟩⟩⟩⟩⟩⟩⟩⟩⟩⟩⟩⟩⟩⟩⟩⟩⟩⟩⟩⟩⟩⟩⟩⟩⟩⟩⟩⟩⟩⟩⟩⟩⟩⟩⟩⟩⟩⟩⟩⟩⟩⟩⟩⟩⟩⟩⟩ ?_
      refine a_rd (i := 54) hok rfl (by kernel_rfl) rfl (r_pickF rfl rfl) rfl ?_
      refine a_next hok 55 [] (by kernel_rfl) ?_ trivial
      refine a_st (i := 55) hok rfl rfl (St.ofRd (r_assign rfl)) (by intro _ h; cases h; rfl) (fun _ => ⟨trivial, ⟨trivial, ⟨trivial, ⟨trivial, ⟨trivial, ⟨trivial, ⟨trivial, ⟨trivial, ⟨trivial, ⟨trivial, ⟨trivial, ⟨trivial, ⟨trivial, ⟨trivial, ⟨trivial, ⟨trivial, ⟨trivial, ⟨trivial, ⟨trivial, ⟨trivial, ⟨trivial, ⟨trivial, ⟨trivial, ⟨trivial, ⟨trivial, ⟨trivial, ⟨trivial, ⟨trivial, ⟨trivial, ⟨trivial, ⟨trivial, ⟨trivial, ⟨trivial, ⟨trivial, ⟨trivial, ⟨trivial, ⟨trivial, ⟨trivial, ⟨trivial, ⟨trivial, ⟨trivial, ⟨trivial, ⟨trivial, ⟨trivial, ⟨trivial, ⟨trivial, ⟨trivial, ⟨trivial, ⟨trivial, ⟨trivial, trivial⟩⟩⟩⟩⟩⟩⟩⟩⟩⟩⟩⟩⟩⟩⟩⟩⟩⟩⟩⟩⟩⟩⟩⟩⟩⟩⟩⟩⟩⟩⟩⟩⟩⟩⟩⟩⟩⟩⟩⟩⟩⟩⟩⟩⟩⟩⟩⟩⟩⟩) (fun _ => ?_)
      refine a_fin hok (by kernel_rfl) ?_
      refine n_then (ref_ret ?_)
      exact fin1 (.inl rfl) () [] rfl trivial rfl (rv_tmp rfl)
    refine a_off (i := 16) hok rfl rfl rfl rfl rfl (by kernel_rfl) rfl rfl ?_
    refine a_off (i := 17) hok rfl rfl rfl rfl rfl (by kernel_rfl) rfl rfl ?_
    refine a_rd (i := 18) hok rfl (by kernel_rfl) rfl (r_pickF rfl rfl) rfl ?_
    refine a_rd (i := 19) hok rfl (by kernel_rfl) rfl (r_move rfl) rfl ?_
    refine a_off (i := 20) hok rfl rfl rfl rfl rfl (by kernel_rfl) rfl rfl ?_
    refine a_off (i := 21) hok rfl rfl rfl rfl rfl (by kernel_rfl) rfl rfl ?_
    refine a_off (i := 22) hok rfl rfl rfl rfl rfl (by kernel_rfl) rfl rfl ?_
    refine a_off (i := 23) hok rfl rfl rfl rfl rfl (by kernel_rfl) rfl rfl ?_
    refine a_rd (i := 24) hok rfl (by kernel_rfl) rfl (r_pickF rfl rfl) rfl ?_
    refine a_rd (i := 25) hok rfl (by kernel_rfl) rfl (r_move rfl) rfl ?_
    refine a_off (i := 26) hok rfl rfl rfl rfl rfl (by kernel_rfl) rfl rfl ?_
    refine a_off (i := 27) hok rfl rfl rfl rfl rfl (by kernel_rfl) rfl rfl ?_
    refine a_off (i := 28) hok rfl rfl rfl rfl rfl (by kernel_rfl) rfl rfl ?_
    refine a_off (i := 29) hok rfl rfl rfl rfl rfl (by kernel_rfl) rfl rfl ?_
    refine a_off (i := 30) hok rfl rfl rfl rfl rfl (by kernel_rfl) rfl rfl ?_
    refine a_off (i := 31) hok rfl rfl rfl rfl rfl (by kernel_rfl) rfl rfl ?_
    refine a_rd (i := 32) hok rfl (by kernel_rfl) rfl (r_pickF rfl rfl) rfl ?_
    refine a_rd (i := 33) hok rfl (by kernel_rfl) rfl (r_move rfl) rfl ?_
    refine a_off (i := 34) hok rfl rfl rfl rfl rfl (by kernel_rfl) rfl rfl ?_
    refine a_off (i := 35) hok rfl rfl rfl rfl rfl (by kernel_rfl) rfl rfl ?_
    refine a_off (i := 36) hok rfl rfl rfl rfl rfl (by kernel_rfl) rfl rfl ?_
    refine a_off (i := 37) hok rfl rfl rfl rfl rfl (by kernel_rfl) rfl rfl ?_
    refine a_off (i := 38) hok rfl rfl rfl rfl rfl (by kernel_rfl) rfl rfl ?_
    refine a_off (i := 39) hok rfl rfl rfl rfl rfl (by kernel_rfl) rfl rfl ?_
    refine a_off (i := 40) hok rfl rfl rfl rfl rfl (by kernel_rfl) rfl rfl ?_
    refine a_rd (i := 41) hok rfl (by kernel_rfl) rfl (r_pickF rfl rfl) rfl ?_
    refine a_rd (i := 42) hok rfl (by kernel_rfl) rfl (r_move rfl) rfl ?_
    refine a_off (i := 43) hok rfl rfl rfl rfl rfl (by kernel_rfl) rfl rfl ?_
    refine a_next hok 44 [] (by kernel_rfl) ?_ trivial
    refine a_stOff (i := 44) hok rfl rfl rfl rfl rfl rfl (by intro _ h; cases h; rfl) ⟨trivial, ⟨trivial, ⟨trivial, ⟨trivial, ⟨trivial, ⟨trivial, ⟨trivial, ⟨trivial, ⟨trivial, ⟨trivial, ⟨trivial, ⟨trivial, ⟨trivial, ⟨trivial, ⟨trivial, ⟨trivial, ⟨trivial, ⟨trivial, ⟨trivial, ⟨trivial, ⟨trivial, ⟨trivial, ⟨trivial, ⟨trivial, ⟨trivial, ⟨trivial, ⟨trivial, ⟨trivial, ⟨trivial, ⟨trivial, ⟨trivial, ⟨trivial, ⟨trivial, ⟨⟨⟨rfl, rfl⟩, trivial⟩, ⟨trivial, ⟨trivial, ⟨trivial, ⟨trivial, ⟨⟨⟨rfl, rfl⟩, trivial⟩, ⟨trivial, ⟨trivial, ⟨⟨⟨rfl, rfl⟩, trivial⟩, trivial⟩⟩⟩⟩⟩⟩⟩⟩⟩⟩⟩⟩⟩⟩⟩⟩⟩⟩⟩⟩⟩⟩⟩⟩⟩⟩⟩⟩⟩⟩⟩⟩⟩⟩⟩⟩⟩⟩⟩⟩⟩⟩ ?_
    refine a_rd (i := 45) hok rfl (by kernel_rfl) rfl (r_pickF rfl rfl) rfl ?_
    refine a_rd (i := 46) hok rfl (by kernel_rfl) rfl (r_move rfl) rfl ?_
    refine a_off (i := 47) hok rfl rfl rfl rfl rfl (by kernel_rfl) rfl rfl ?_
    refine a_next hok 48 [] (by kernel_rfl) ?_ trivial
    refine a_stOff (i := 48) hok rfl rfl rfl rfl rfl rfl (by intro _ h; cases h; rfl) ⟨trivial, ⟨trivial, ⟨trivial, ⟨trivial, ⟨trivial, ⟨trivial, ⟨trivial, ⟨trivial, ⟨trivial, ⟨trivial, ⟨trivial, ⟨trivial, ⟨trivial, ⟨trivial, ⟨trivial, ⟨trivial, ⟨trivial, ⟨trivial, ⟨trivial, ⟨trivial, ⟨trivial, ⟨trivial, ⟨trivial, ⟨trivial, ⟨trivial, ⟨trivial, ⟨trivial, ⟨trivial, ⟨trivial, ⟨trivial, ⟨trivial, ⟨trivial, ⟨trivial, ⟨trivial, ⟨trivial, ⟨trivial, ⟨⟨⟨rfl, rfl⟩, trivial⟩, ⟨trivial, ⟨trivial, ⟨trivial, ⟨trivial, ⟨⟨⟨rfl, rfl⟩, trivial⟩, ⟨trivial, ⟨trivial, ⟨⟨⟨rfl, rfl⟩, trivial⟩, trivial⟩⟩⟩⟩⟩⟩⟩⟩⟩⟩⟩⟩⟩⟩⟩⟩⟩⟩⟩⟩⟩⟩⟩⟩⟩⟩⟩⟩⟩⟩⟩⟩⟩⟩⟩⟩⟩⟩⟩⟩⟩⟩⟩⟩⟩ ?_
    refine a_off (i := 49) hok rfl rfl rfl rfl rfl (by kernel_rfl) rfl rfl ?_
    refine a_rd (i := 50) hok rfl (by kernel_rfl) rfl (r_pickF rfl rfl) rfl ?_
    refine a_rd (i := 51) hok rfl (by kernel_rfl) rfl (r_move rfl) rfl ?_
    refine a_off (i := 52) hok rfl rfl rfl rfl rfl (by kernel_rfl) rfl rfl ?_
    refine a_next hok 53 [] (by kernel_rfl) ?_ trivial
    refine a_stOff (i := 53) hok rfl rfl rfl rfl rfl rfl (by intro _ h; cases h; rfl) ⟨trivial, ⟨trivial, ⟨trivial, ⟨trivial, ⟨trivial, ⟨trivial, ⟨trivial, ⟨trivial, ⟨trivial, ⟨trivial, ⟨trivial, ⟨trivial, ⟨trivial, ⟨trivial, ⟨trivial, ⟨trivial, ⟨trivial, ⟨trivial, ⟨trivial, ⟨trivial, ⟨trivial, ⟨trivial, ⟨trivial, ⟨trivial, ⟨trivial, ⟨trivial, ⟨trivial, ⟨trivial, ⟨trivial, ⟨trivial, ⟨trivial, ⟨trivial, ⟨trivial, ⟨trivial, ⟨trivial, ⟨trivial, ⟨trivial, ⟨trivial, ⟨trivial, ⟨trivial, ⟨⟨⟨rfl, rfl⟩, trivial⟩, ⟨trivial, ⟨trivial, ⟨trivial, ⟨trivial, ⟨⟨⟨rfl, rfl⟩, trivial⟩, ⟨trivial, ⟨trivial, ⟨⟨⟨rfl, rfl⟩, trivial⟩, trivial⟩⟩⟩⟩⟩⟩⟩⟩⟩⟩⟩⟩⟩⟩⟩⟩⟩⟩⟩⟩⟩⟩⟩⟩⟩⟩⟩⟩⟩⟩⟩⟩⟩⟩⟩⟩⟩⟩⟩⟩⟩⟩⟩⟩⟩⟩⟩⟩⟩ ?_
    refine a_rd (i := 54) hok rfl (by kernel_rfl) rfl (r_pickF rfl rfl) rfl ?_
    refine a_next hok 55 [] (by kernel_rfl) ?_ trivial
    refine a_st (i := 55) hok rfl rfl (St.ofRd (r_assign rfl)) (by intro _ h; cases h; rfl) (fun _ => ⟨trivial, ⟨trivial, ⟨trivial, ⟨trivial, ⟨trivial, ⟨trivial, ⟨trivial, ⟨trivial, ⟨trivial, ⟨trivial, ⟨trivial, ⟨trivial, ⟨trivial, ⟨trivial, ⟨trivial, ⟨trivial, ⟨trivial, ⟨trivial, ⟨trivial, ⟨trivial, ⟨trivial, ⟨trivial, ⟨trivial, ⟨trivial, ⟨trivial, ⟨trivial, ⟨trivial, ⟨trivial, ⟨trivial, ⟨trivial, ⟨trivial, ⟨trivial, ⟨trivial, ⟨trivial, ⟨trivial, ⟨trivial, ⟨trivial, ⟨trivial, ⟨trivial, ⟨trivial, ⟨trivial, ⟨trivial, ⟨trivial, ⟨trivial, ⟨trivial, ⟨trivial, ⟨trivial, ⟨trivial, ⟨trivial, ⟨trivial, trivial⟩⟩⟩⟩⟩⟩⟩⟩⟩⟩⟩⟩⟩⟩⟩⟩⟩⟩⟩⟩⟩⟩⟩⟩⟩⟩⟩⟩⟩⟩⟩⟩⟩⟩⟩⟩⟩⟩⟩⟩⟩⟩⟩⟩⟩⟩⟩⟩⟩⟩) (fun _ => ?_)
    refine a_fin hok (by kernel_rfl) ?_
    refine n_then (ref_ret ?_)
    exact fin1 (.inl rfl) () [] rfl trivial rfl (rv_tmp rfl)
  refine a_off (i := 9) hok rfl rfl rfl rfl rfl (by kernel_rfl) rfl rfl ?_
  refine a_off (i := 10) hok rfl rfl rfl rfl rfl (by kernel_rfl) rfl rfl ?_
  refine a_next hok 11 [] (by kernel_rfl) ?_ trivial
  refine a_stOff (i := 11) hok rfl rfl rfl rfl rfl rfl (by intro _ h; cases h; rfl) ⟨trivial, ⟨trivial, ⟨trivial, ⟨trivial, ⟨trivial, ⟨trivial, ⟨⟨⟨rfl, rfl⟩, trivial⟩, ⟨trivial, ⟨trivial, ⟨⟨⟨rfl, rfl⟩, trivial⟩, trivial⟩⟩⟩⟩⟩⟩⟩⟩⟩⟩ ?_
  refine a_off (i := 12) hok rfl rfl rfl rfl rfl (by kernel_rfl) rfl rfl ?_
  refine a_off (i := 13) hok rfl rfl rfl rfl rfl (by kernel_rfl) rfl rfl ?_
  refine a_rd (i := 14) hok rfl (by kernel_rfl) rfl (r_pickF rfl rfl) rfl ?_
  refine a_rd (i := 15) hok rfl (by kernel_rfl) rfl (r_move rfl) rfl ?_
  refine a_off (i := 16) hok rfl rfl rfl rfl rfl (by kernel_rfl) rfl rfl ?_
  refine a_off (i := 17) hok rfl rfl rfl rfl rfl (by kernel_rfl) rfl rfl ?_
  refine a_rd (i := 18) hok rfl (by kernel_rfl) rfl (r_pickF rfl rfl) rfl ?_
  refine a_rd (i := 19) hok rfl (by kernel_rfl) rfl (r_move rfl) rfl ?_
  refine a_off (i := 20) hok rfl rfl rfl rfl rfl (by kernel_rfl) rfl rfl ?_
  refine a_off (i := 21) hok rfl rfl rfl rfl rfl (by kernel_rfl) rfl rfl ?_
  refine a_off (i := 22) hok rfl rfl rfl rfl rfl (by kernel_rfl) rfl rfl ?_
  refine a_off (i := 23) hok rfl rfl rfl rfl rfl (by kernel_rfl) rfl rfl ?_
  refine a_rd (i := 24) hok rfl (by kernel_rfl) rfl (r_pickF rfl rfl) rfl ?_
  refine a_rd (i := 25) hok rfl (by kernel_rfl) rfl (r_move rfl) rfl ?_
  refine a_off (i := 26) hok rfl rfl rfl rfl rfl (by kernel_rfl) rfl rfl ?_
  refine a_off (i := 27) hok rfl rfl rfl rfl rfl (by kernel_rfl) rfl rfl ?_
  refine a_off (i := 28) hok rfl rfl rfl rfl rfl (by kernel_rfl) rfl rfl ?_
  refine a_off (i := 29) hok rfl rfl rfl rfl rfl (by kernel_rfl) rfl rfl ?_
  refine a_off (i := 30) hok rfl rfl rfl rfl rfl (by kernel_rfl) rfl rfl ?_
  refine a_off (i := 31) hok rfl rfl rfl rfl rfl (by kernel_rfl) rfl rfl ?_
  refine a_rd (i := 32) hok rfl (by kernel_rfl) rfl (r_pickF rfl rfl) rfl ?_
  refine a_rd (i := 33) hok rfl (by kernel_rfl) rfl (r_move rfl) rfl ?_
  refine a_off (i := 34) hok rfl rfl rfl rfl rfl (by kernel_rfl) rfl rfl ?_
  refine a_off (i := 35) hok rfl rfl rfl rfl rfl (by kernel_rfl) rfl rfl ?_
  refine a_off (i := 36) hok rfl rfl rfl rfl rfl (by kernel_rfl) rfl rfl ?_
  refine a_off (i := 37) hok rfl rfl rfl rfl rfl (by kernel_rfl) rfl rfl ?_
  refine a_off (i := 38) hok rfl rfl rfl rfl rfl (by kernel_rfl) rfl rfl ?_
  refine a_off (i := 39) hok rfl rfl rfl rfl rfl (by kernel_rfl) rfl rfl ?_
  refine a_off (i := 40) hok rfl rfl rfl rfl rfl (by kernel_rfl) rfl rfl ?_
  refine a_rd (i := 41) hok rfl (by kernel_rfl) rfl (r_pickF rfl rfl) rfl ?_
  refine a_rd (i := 42) hok rfl (by kernel_rfl) rfl (r_move rfl) rfl ?_
  refine a_off (i := 43) hok rfl rfl rfl rfl rfl (by kernel_rfl) rfl rfl ?_
  refine a_next hok 44 [] (by kernel_rfl) ?_ trivial
  refine a_stOff (i := 44) hok rfl rfl rfl rfl rfl rfl (by intro _ h; cases h; rfl) ⟨trivial, ⟨trivial, ⟨trivial, ⟨trivial, ⟨trivial, ⟨trivial, ⟨trivial, ⟨trivial, ⟨trivial, ⟨trivial, ⟨trivial, ⟨trivial, ⟨trivial, ⟨trivial, ⟨trivial, ⟨trivial, ⟨trivial, ⟨trivial, ⟨trivial, ⟨trivial, ⟨trivial, ⟨trivial, ⟨trivial, ⟨trivial, ⟨trivial, ⟨trivial, ⟨trivial, ⟨trivial, ⟨trivial, ⟨trivial, ⟨trivial, ⟨trivial, ⟨trivial, ⟨trivial, ⟨trivial, ⟨trivial, ⟨trivial, ⟨trivial, ⟨⟨⟨rfl, rfl⟩, trivial⟩, ⟨trivial, ⟨trivial, ⟨⟨⟨rfl, rfl⟩, trivial⟩, trivial⟩⟩⟩⟩⟩⟩⟩⟩⟩⟩⟩⟩⟩⟩⟩⟩⟩⟩⟩⟩⟩⟩⟩⟩⟩⟩⟩⟩⟩⟩⟩⟩⟩⟩⟩⟩⟩⟩⟩⟩⟩⟩ ?_
  refine a_rd (i := 45) hok rfl (by kernel_rfl) rfl (r_pickF rfl rfl) rfl ?_
  refine a_rd (i := 46) hok rfl (by kernel_rfl) rfl (r_move rfl) rfl ?_
  refine a_off (i := 47) hok rfl rfl rfl rfl rfl (by kernel_rfl) rfl rfl ?_
  refine a_next hok 48 [] (by kernel_rfl) ?_ trivial
  refine a_stOff (i := 48) hok rfl rfl rfl rfl rfl rfl (by intro _ h; cases h; rfl) ⟨trivial, ⟨trivial, ⟨trivial, ⟨trivial, ⟨trivial, ⟨trivial, ⟨trivial, ⟨trivial, ⟨trivial, ⟨trivial, ⟨trivial, ⟨trivial, ⟨trivial, ⟨trivial, ⟨trivial, ⟨trivial, ⟨trivial, ⟨trivial, ⟨trivial, ⟨trivial, ⟨trivial, ⟨trivial, ⟨trivial, ⟨trivial, ⟨trivial, ⟨trivial, ⟨trivial, ⟨trivial, ⟨trivial, ⟨trivial, ⟨trivial, ⟨trivial, ⟨trivial, ⟨trivial, ⟨trivial, ⟨trivial, ⟨trivial, ⟨trivial, ⟨trivial, ⟨trivial, ⟨trivial, ⟨⟨⟨rfl, rfl⟩, trivial⟩, ⟨trivial, ⟨trivial, ⟨⟨⟨rfl, rfl⟩, trivial⟩, trivial⟩⟩⟩⟩⟩⟩⟩⟩⟩⟩⟩⟩⟩⟩⟩⟩⟩⟩⟩⟩⟩⟩⟩⟩⟩⟩⟩⟩⟩⟩⟩⟩⟩⟩⟩⟩⟩⟩⟩⟩⟩⟩⟩⟩⟩ ?_
  refine a_off (i := 49) hok rfl rfl rfl rfl rfl (by kernel_rfl) rfl rfl ?_
  refine a_rd (i := 50) hok rfl (by kernel_rfl) rfl (r_pickF rfl rfl) rfl ?_
  refine a_rd (i := 51) hok rfl (by kernel_rfl) rfl (r_move rfl) rfl ?_
  refine a_off (i := 52) hok rfl rfl rfl rfl rfl (by kernel_rfl) rfl rfl ?_
  refine a_next hok 53 [] (by kernel_rfl) ?_ trivial
  refine a_stOff (i := 53) hok rfl rfl rfl rfl rfl rfl (by intro _ h; cases h; rfl) ⟨trivial, ⟨trivial, ⟨trivial, ⟨trivial, ⟨trivial, ⟨trivial, ⟨trivial, ⟨trivial, ⟨trivial, ⟨trivial, ⟨trivial, ⟨trivial, ⟨trivial, ⟨trivial, ⟨trivial, ⟨trivial, ⟨trivial, ⟨trivial, ⟨trivial, ⟨trivial, ⟨trivial, ⟨trivial, ⟨trivial, ⟨trivial, ⟨trivial, ⟨trivial, ⟨trivial, ⟨trivial, ⟨trivial, ⟨trivial, ⟨trivial, ⟨trivial, ⟨trivial, ⟨trivial, ⟨trivial, ⟨trivial, ⟨trivial, ⟨trivial, ⟨trivial, ⟨trivial, ⟨trivial, ⟨trivial, ⟨trivial, ⟨trivial, ⟨trivial, ⟨⟨⟨rfl, rfl⟩, trivial⟩, ⟨trivial, ⟨trivial, ⟨⟨⟨rfl, rfl⟩, trivial⟩, trivial⟩⟩⟩⟩⟩⟩⟩⟩⟩⟩⟩⟩⟩⟩⟩⟩⟩⟩⟩⟩⟩⟩⟩⟩⟩⟩⟩⟩⟩⟩⟩⟩⟩⟩⟩⟩⟩⟩⟩⟩⟩⟩⟩⟩⟩⟩⟩⟩⟩ ?_
  refine a_rd (i := 54) hok rfl (by kernel_rfl) rfl (r_pickF rfl rfl) rfl ?_
  refine a_next hok 55 [] (by kernel_rfl) ?_ trivial
  refine a_st (i := 55) hok rfl rfl (St.ofRd (r_assign rfl)) (by intro _ h; cases h; rfl) (fun _ => ⟨trivial, ⟨trivial, ⟨trivial, ⟨trivial, ⟨trivial, ⟨trivial, ⟨trivial, ⟨trivial, ⟨trivial, ⟨trivial, ⟨trivial, ⟨trivial, ⟨trivial, ⟨trivial, ⟨trivial, ⟨trivial, ⟨trivial, ⟨trivial, ⟨trivial, ⟨trivial, ⟨trivial, ⟨trivial, ⟨trivial, ⟨trivial, ⟨trivial, ⟨trivial, ⟨trivial, ⟨trivial, ⟨trivial, ⟨trivial, ⟨trivial, ⟨trivial, ⟨trivial, ⟨trivial, ⟨trivial, ⟨trivial, ⟨trivial, ⟨trivial, ⟨trivial, ⟨trivial, ⟨trivial, ⟨trivial, ⟨trivial, ⟨trivial, ⟨trivial, ⟨trivial, ⟨trivial, ⟨trivial, ⟨trivial, ⟨trivial, trivial⟩⟩⟩⟩⟩⟩⟩⟩⟩⟩⟩⟩⟩⟩⟩⟩⟩⟩⟩⟩⟩⟩⟩⟩⟩⟩⟩⟩⟩⟩⟩⟩⟩⟩⟩⟩⟩⟩⟩⟩⟩⟩⟩⟩⟩⟩⟩⟩⟩⟩) (fun _ => ?_)
  refine a_fin hok (by kernel_rfl) ?_
  refine n_then (ref_ret ?_)
  exact fin1 (.inl rfl) () [] rfl trivial rfl (rv_tmp rfl)

/-! deliberation/deliberationlaw06.StrictCloses -/
noncomputable def law06_StrictCloses_l3 (t267 : T_api_Base) (y350 : (List T_api_Literal)) (s374 : Int × T_deliberationkeep_Src) : Option (Sum ((Sum (Bool) (T_deliberationkeep_Src))) (Int × T_deliberationkeep_Src)) :=
  bif decide (s374.1 < 3) then
    Option.bind (keep_Src_Literal_m s374.2 4) fun t377 =>
    Option.bind (strict_Derives_m t267 y350 t377.1) fun t379 =>
    Option.bind (ref06_Derives_m t267 y350 t377.1) fun t380 =>
    bif !(t379 == t380) then
      some (Sum.inl (Sum.inl false))
    else
      letM (iadd .i64 s374.1 1) fun k382 =>
      some (Sum.inr (k382, t377.2))
  else
    some (Sum.inl (Sum.inr s374.2))

noncomputable def law06_StrictCloses_l2 (some__1 : (List T_api_Literal)) (x_2 : T_api_Literal) (t267 : T_api_Base) (t269 : List T_api_Literal × T_deliberationkeep_Src) (s347 : Int × T_deliberationkeep_Src) : Option (Sum ((Sum (Bool) (T_deliberationkeep_Src))) (Int × T_deliberationkeep_Src)) :=
  bif decide (s347.1 < ([some__1, t269.1].length : Int)) then
    Option.bind (idxM [some__1, t269.1] s347.1) fun y350 =>
    Option.bind (strict_Closure_m t267 y350) fun t351 =>
    Option.bind (ref06_Closure_m t267 y350) fun t352 =>
    Option.bind (ref01_Same_m t351 t352) fun t353 =>
    bif !t353 then
      some (Sum.inl (Sum.inl false))
    else
      Option.bind (strict_Derives_m t267 y350 x_2) fun t354 =>
      Option.bind (ref06_Derives_m t267 y350 x_2) fun t355 =>
      bif !(t354 == t355) then
        some (Sum.inl (Sum.inl false))
      else
        Option.bind (loopC (law06_StrictCloses_l3 t267 y350) (0, s347.2)) (sumK (fun a : Bool => some (Sum.inl (Sum.inl a))) fun q383 : T_deliberationkeep_Src =>
          some (Sum.inr (iadd .i64 s347.1 1, q383)))
  else
    some (Sum.inl (Sum.inr s347.2))

noncomputable def law06_StrictCloses_l1 (raw_0 : T_api_Base) (some__1 : (List T_api_Literal)) (x_2 : T_api_Literal) (t7 : T_api_Base × T_deliberationkeep_Src) (t9 : T_api_Base × T_deliberationkeep_Src) (s264 : Int × T_deliberationkeep_Src) : Option (Sum ((Sum (Bool) (Unit))) (Int × T_deliberationkeep_Src)) :=
  bif decide (s264.1 < ([raw_0, t7.1, t9.1].length : Int)) then
    Option.bind (idxM [raw_0, t7.1, t9.1] s264.1) fun t267 =>
    Option.bind (keep_Src_Literals_m s264.2 4 4) fun t269 =>
    Option.bind (loopC (law06_StrictCloses_l2 some__1 x_2 t267 t269) (0, t269.2)) (sumK (fun a : Bool => some (Sum.inl (Sum.inl a))) fun q385 : T_deliberationkeep_Src =>
      Option.bind (strict_Axioms_m t267) fun t387 =>
      Option.bind (ref06_Axioms_m t267) fun t388 =>
      Option.bind (ref01_Same_m t387 t388) fun t389 =>
      bif !t389 then
        some (Sum.inl (Sum.inl false))
      else
        some (Sum.inr (iadd .i64 s264.1 1, q385)))
  else
    some (Sum.inl (Sum.inr ()))

noncomputable def law06_StrictCloses_m (raw_0 : T_api_Base) (some__1 : (List T_api_Literal)) (x_2 : T_api_Literal) (l_3 : (List Int)) : Option (Bool) :=
  Option.bind (keep_SmallBase_m raw_0) fun t3 =>
  bif !t3 then
    some true
  else
    bif decide ((some__1.length : Int) > 20) then
      some true
    else
      Option.bind (keep_New_m l_3) fun s5 =>
      Option.bind (keep_Src_Base_m s5 4 5 10) fun t7 =>
      Option.bind (law06_closed_m t7.2 3 6) fun t9 =>
      Option.bind (loopC (law06_StrictCloses_l1 raw_0 some__1 x_2 t7 t9) (0, t9.2)) (sumK (fun a : Bool => some a) fun q391 : Unit =>
        Option.bind (law06_awake_m ) fun t393 =>
        some t393)

theorem law06_StrictCloses_ok {raw_0 : T_api_Base} {some__1 : (List T_api_Literal)} {x_2 : T_api_Literal} {l_3 : (List Int)} {r : Bool} (hm : law06_StrictCloses_m raw_0 some__1 x_2 l_3 = some r) :
    FnOk prog 3 [ag [slv rT_api_Premise raw_0.Premises, slv rT_api_Rule raw_0.Rules, slv rT_api_Promotion raw_0.Promotions], slv rT_api_Literal some__1, ag [bv x_2.Neg, sv x_2.Name], slv (rI .i64) l_3] [] (fun (x : Unit) => [bv r]) (fun (x : Unit) => []) := by
  refine fn_ok (fn := Tryz.f3) (N := 89) (res := fun r x => [bv r]) (Ω1 := fun r x => []) Tryz.func3 rfl rfl hm rfl (fun E hM => ?_)
  unfold law06_StrictCloses_m
  refine ref_seq (ref_region ?_)
  refine s_st (s_box (part_agO (ψs := [slv rT_api_Premise raw_0.Premises, slv rT_api_Rule raw_0.Rules, slv rT_api_Promotion raw_0.Promotions]) rfl ⟨.inl slv_at, .inl slv_at, .inl slv_at, trivial⟩)) rfl (fun b1 => ?_)
  refine s_st (s_box (part_agO (ψs := [bv x_2.Neg, sv x_2.Name]) rfl ⟨.inl bv_at, .inl sv_at, trivial⟩)) rfl (fun b2 => ?_)
  refine as1 rfl rfl ?_
  refine l_nil (n_then (ref_seq (ref_seq (ref_region ?_))))
  refine s_rd (r_cloadS Tryz.isAgg26 Tryz.sizeOf26 rfl (j := 0) rfl rfl rfl) rfl ?_
  refine pull fun t3 h_t3 => ?_
  refine s_st (s_call (ψ := fun (_ : Unit) => bv t3) (args := [.tmp 16]) Tryz.call7 rfl (keep_SmallBase_ok h_t3) ⟨arg rfl, trivial⟩ (fun _ _ _ _ h => h)) rfl (fun _ => ?_)
  refine s_rd (r_not rfl) rfl ?_
  refine mv1 rfl rfl ?_
  refine b_split (t := 19) rfl (fun _ => ?_) (fun _ => ?_)
  · refine s_off rfl rfl rfl rfl rfl ?_
    refine s_off rfl rfl rfl rfl rfl ?_
    refine s_off rfl rfl rfl rfl rfl ?_
    refine s_rd (r_pickT rfl rfl) rfl ?_
    refine l_nil (n_then ?_)
    refine ref_condT rfl rfl ?_
    refine ref_seq (ref_region ?_)
    refine as1 rfl rfl ?_
    refine l_nil (n_then (ref_ret (r_then ?_)))
    exact fin1 (.inl rfl) () [] rfl trivial rfl (rv_tmp rfl)
  refine s_on rfl rfl rfl ?_
  refine mv1 rfl rfl ?_
  refine s_on rfl rfl rfl ?_
  refine s_rd (r_len Tryz.underlying27 rfl) rfl ?_
  refine s_on rfl rfl rfl ?_
  refine s_rd (r_gtr rfl rfl) rfl ?_
  refine s_rd (r_pickF rfl rfl) rfl ?_
  refine l_nil (n_then ?_)
  refine ref_cond rfl (fun hb4 => ?_) (fun hb4 => ?_)
  · refine ref_seq (ref_region ?_)
    refine as1 rfl rfl ?_
    refine l_nil (n_then (ref_ret (r_then ?_)))
    exact fin1 (.inl rfl) () [] rfl trivial rfl (rv_tmp rfl)
  refine ref_skip (n_then (ref_seq (ref_region ?_)))
  refine mv1 rfl rfl ?_
  refine pull fun s5 h_s5 => ?_
  refine s_st (s_call (ψ := fun (x6 : Nat) => pv (ptr x6 0)) (args := [.tmp 24]) Tryz.call8 rfl (keep_New_ok h_s5) ⟨arg rfl, trivial⟩ (fun _ _ _ _ h => h)) rfl (fun x6 => ?_)
  refine as1 rfl rfl ?_
  refine l_nil ?_
  refine b_of (nrm [oc b1 [slv rT_api_Premise raw_0.Premises, slv rT_api_Rule raw_0.Rules, slv rT_api_Promotion raw_0.Promotions], oc b2 [bv x_2.Neg, sv x_2.Name], oc x6 [slv (rI .i64) s5.L, iv .i64 s5.At]] rfl) ?_
  refine n_then (ref_seq (ref_seq ?_))
  refine ref_draw [0, 1, 3, 6, 7] rfl (by kernel_rfl) (fun hok => ?_)
  refine a_rd (i := 0) hok rfl (by kernel_rfl) rfl (r_cloadS Tryz.isAgg26 Tryz.sizeOf26 rfl (j := 0) rfl rfl rfl) rfl ?_
  refine a_rd (i := 1) hok rfl (by kernel_rfl) rfl (r_move rfl) rfl ?_
  refine a_rd (i := 3) hok rfl (by kernel_rfl) rfl (r_move rfl) rfl ?_
  refine a_rd (i := 7) hok rfl (by kernel_rfl) rfl (r_move rfl) rfl ?_
  refine pull fun t7 h_t7 => ?_
  refine a_next hok 2 [] (by kernel_rfl) ?_ trivial
  refine a_st (i := 2) hok rfl rfl (s_callC [2] [true] (fun (x8 : (Value × List Nat)) => [oc x6 [slv (rI .i64) t7.2.L, iv .i64 t7.2.At]]) (fun (x8 : (Value × List Nat)) => [oa rT_api_Rule x8.1 x8.2 t7.1.Rules]) (fun (x8 : (Value × List Nat)) => ag [slv rT_api_Premise t7.1.Premises, pv x8.1, slv rT_api_Promotion t7.1.Promotions]) (args := [.tmp 27, .const (.int .i64 (4)), .const (.int .i64 (5)), .const (.int .i64 (10))]) (caps := []) Tryz.call9 rfl (keep_Src_Base_ok h_t7) ⟨rfl, rfl, trivial⟩ (fun _ => rfl) (fun _ => trivial) (fun _ => rfl) ⟨arg rfl, arg rfl, arg rfl, arg rfl, trivial⟩ (fun _ _ _ _ h => h)) (by intro _ h; cases h; rfl) (fun _ => ⟨trivial, ⟨trivial, ⟨trivial, ⟨⟨⟨rfl, rfl⟩, trivial⟩, trivial⟩⟩⟩⟩) (fun x8 => ?_)
  refine pull fun t9 h_t9 => ?_
  refine a_next hok 4 [] (by kernel_rfl) ?_ trivial
  refine a_st (i := 4) hok rfl rfl (s_callC [2] [true] (fun (_ : Unit) => [oc x6 [slv (rI .i64) t9.2.L, iv .i64 t9.2.At]]) (fun (_ : Unit) => []) (fun (_ : Unit) => ag [slv rT_api_Premise t9.1.Premises, slv rT_api_Rule t9.1.Rules, slv rT_api_Promotion t9.1.Promotions]) (args := [.tmp 29, .const (.int .i64 (3)), .const (.int .i64 (6))]) (caps := []) Tryz.call10 rfl (law06_closed_ok h_t9) ⟨rfl, rfl, trivial⟩ (fun _ => rfl) (fun _ => trivial) (fun _ => rfl) ⟨arg rfl, arg rfl, arg rfl, trivial⟩ (fun _ _ _ _ h => h)) (by intro _ h; cases h; rfl) (fun _ => ⟨trivial, ⟨trivial, ⟨trivial, ⟨⟨⟨rfl, rfl⟩, trivial⟩, trivial⟩⟩⟩⟩) (fun _ => ?_)
  refine a_of (frzGL [(28, ag [slv rT_api_Premise t7.1.Premises, slv rT_api_Rule t7.1.Rules, slv rT_api_Promotion t7.1.Promotions])] [] (j := 3) rfl ⟨⟨_, rfl, .inr ⟨_, _, rfl, rfl, ⟨.inl rfl, .inr ⟨rfl, rfl⟩, .inl rfl, trivial⟩⟩⟩, trivial⟩ trivial) (frz_keeps (hv := x8.1) (χ := slv rT_api_Rule t7.1.Rules) (lo := []) (j := 3) rfl trivial) ?_
  refine a_next hok 5 [] (by kernel_rfl) ?_ trivial
  refine a_st (i := 5) hok rfl rfl (s_bslice (xs := [.tmp 26, .tmp 28, .tmp 30]) (ds := [raw_0, t7.1, t9.1]) Tryz.underlying36 el_26 rfl (Nat.le_of_ble_eq_true rfl) ⟨(part_agO (ψs := [slv rT_api_Premise raw_0.Premises, slv rT_api_Rule raw_0.Rules, slv rT_api_Promotion raw_0.Promotions]) rfl ⟨.inl slv_at, .inl slv_at, .inl slv_at, trivial⟩), ⟨(part_agO (ψs := [slv rT_api_Premise t7.1.Premises, slv rT_api_Rule t7.1.Rules, slv rT_api_Promotion t7.1.Promotions]) rfl ⟨.inl slv_at, .inl slv_at, .inl slv_at, trivial⟩), ⟨(part_agO (ψs := [slv rT_api_Premise t9.1.Premises, slv rT_api_Rule t9.1.Rules, slv rT_api_Promotion t9.1.Promotions]) rfl ⟨.inl slv_at, .inl slv_at, .inl slv_at, trivial⟩), trivial⟩⟩⟩) (by intro _ h; cases h; rfl) (fun _ => ⟨trivial, ⟨trivial, ⟨trivial, ⟨trivial, trivial⟩⟩⟩⟩) (fun _ => ?_)
  refine a_rd (i := 6) hok rfl (by kernel_rfl) rfl (r_len Tryz.underlying36 rfl) rfl ?_
  refine a_fin hok (by kernel_rfl) ?_
  refine n_then ?_
  refine ref_loopX (f := (law06_StrictCloses_l1 raw_0 some__1 x_2 t7 t9)) (Γl := (fun (s264 : Int × T_deliberationkeep_Src) (x265 : Unit) => [(1, slv rT_api_Literal some__1), (6, pv (ptr b2 0)), (9, pv (ptr x6 0)), (31, slv rT_api_Base [raw_0, t7.1, t9.1]), (32, iv .i64 ([raw_0, t7.1, t9.1].length : Int)), (33, iv .i64 s264.1)])) (Ωl := (fun (s264 : Int × T_deliberationkeep_Src) (x265 : Unit) => [oc b2 [bv x_2.Neg, sv x_2.Name], oc x6 [slv (rI .i64) s264.2.L, iv .i64 s264.2.At]])) (Γb := (fun (q391 : Unit) (y392 : Unit) => [])) (Ωb := (fun (q391 : Unit) (y392 : Unit) => [])) (kr := (fun a : Bool => some a)) (0, t9.2) () (weak [1, 2] ⟨rfl, rfl, rfl, rfl, rfl, rfl, trivial⟩ ⟨rfl, rfl, trivial⟩) (fun s264 x265 => ?_) (fun q391 y392 => ?_)
  · unfold law06_StrictCloses_l1
    refine ref_seq (ref_region ?_)
    refine s_rd (r_lss rfl rfl) rfl ?_
    refine l_nil (n_then (ref_seq ?_))
    refine ref_cond rfl (fun hb266 => ?_) (fun hb266 => ?_)
    · refine ref_skip (n_then (ref_seq (ref_block (ref_seq (ref_region ?_)))))
      refine pull fun t267 h_t267 => ?_
      refine s_rd (r_index h_t267 Tryz.underlying36 el_26 rfl rfl) rfl ?_
      refine s_rd (r_load el_26 rfl) rfl ?_
      refine s_st (s_alloc zt_26) rfl (fun b268 => ?_)
      refine s_st0 (s_cstore (out := [slv rT_api_Premise t267.Premises, slv rT_api_Rule t267.Rules, slv rT_api_Promotion t267.Promotions]) Tryz.sizeOf26 rfl (j := 2) rfl (part_agO (ψs := [slv rT_api_Premise t267.Premises, slv rT_api_Rule t267.Rules, slv rT_api_Promotion t267.Promotions]) rfl ⟨.inl slv_at, .inl slv_at, .inl slv_at, trivial⟩) rfl rfl rfl) (fun _ => ?_)
      refine l_nil ?_
      refine b_of (nrm [oc b2 [bv x_2.Neg, sv x_2.Name], oc x6 [slv (rI .i64) s264.2.L, iv .i64 s264.2.At], oc b268 [slv rT_api_Premise t267.Premises, slv rT_api_Rule t267.Rules, slv rT_api_Promotion t267.Promotions]] rfl) ?_
      refine n_then (ref_seq (ref_seq (ref_region ?_)))
      refine mv1 rfl rfl ?_
      refine mv1 rfl rfl ?_
      refine pull fun t269 h_t269 => ?_
      refine s_st (s_callC [1] [true] (fun (x270 : (Value × List Nat)) => [oc x6 [slv (rI .i64) t269.2.L, iv .i64 t269.2.At]]) (fun (x270 : (Value × List Nat)) => [oa rT_api_Literal x270.1 x270.2 t269.1]) (fun (x270 : (Value × List Nat)) => pv x270.1) (args := [.tmp 38, .const (.int .i64 (4)), .const (.int .i64 (4))]) (caps := []) Tryz.call11 rfl (keep_Src_Literals_ok h_t269) ⟨rfl, rfl, trivial⟩ (fun _ => rfl) (fun _ => trivial) (fun _ => rfl) ⟨arg rfl, arg rfl, arg rfl, trivial⟩ (fun _ _ _ _ h => h)) rfl (fun x270 => ?_)
      refine b_of (frzL [39] (j := 3) rfl ⟨rfl, trivial⟩) ?_
      refine s_st (s_bslice (xs := [.tmp 37, .tmp 39]) (ds := [some__1, t269.1]) Tryz.underlying38 el_27 rfl (Nat.le_of_ble_eq_true rfl) ⟨(part_at rfl slv_at), ⟨(part_at rfl slv_at), trivial⟩⟩) rfl (fun _ => ?_)
      refine s_rd (r_len Tryz.underlying38 rfl) rfl ?_
      refine mv1 rfl rfl ?_
      refine l_nil (n_then ?_)
      refine ref_loopX (f := (law06_StrictCloses_l2 some__1 x_2 t267 t269)) (Γl := (fun (s347 : Int × T_deliberationkeep_Src) (x348 : Unit) => [(1, slv rT_api_Literal some__1), (6, pv (ptr b2 0)), (9, pv (ptr x6 0)), (11, pv (ptr b268 0)), (31, slv rT_api_Base [raw_0, t7.1, t9.1]), (32, iv .i64 ([raw_0, t7.1, t9.1].length : Int)), (33, iv .i64 s264.1), (40, slv (rSl rT_api_Literal) [some__1, t269.1]), (41, iv .i64 ([some__1, t269.1].length : Int)), (42, iv .i64 s347.1)])) (Ωl := (fun (s347 : Int × T_deliberationkeep_Src) (x348 : Unit) => [oc b2 [bv x_2.Neg, sv x_2.Name], oc x6 [slv (rI .i64) s347.2.L, iv .i64 s347.2.At], oc b268 [slv rT_api_Premise t267.Premises, slv rT_api_Rule t267.Rules, slv rT_api_Promotion t267.Promotions]])) (Γb := (fun (q385 : T_deliberationkeep_Src) (y386 : Unit) => [(1, slv rT_api_Literal some__1), (6, pv (ptr b2 0)), (9, pv (ptr x6 0)), (11, pv (ptr b268 0)), (31, slv rT_api_Base [raw_0, t7.1, t9.1]), (32, iv .i64 ([raw_0, t7.1, t9.1].length : Int)), (33, iv .i64 s264.1)])) (Ωb := (fun (q385 : T_deliberationkeep_Src) (y386 : Unit) => [oc b2 [bv x_2.Neg, sv x_2.Name], oc x6 [slv (rI .i64) q385.L, iv .i64 q385.At], oc b268 [slv rT_api_Premise t267.Premises, slv rT_api_Rule t267.Rules, slv rT_api_Promotion t267.Promotions]])) (kr := (fun a : Bool => some (Sum.inl (Sum.inl a)))) (0, t269.2) () (weak [0, 1, 2] ⟨rfl, rfl, rfl, rfl, rfl, rfl, rfl, rfl, rfl, rfl, trivial⟩ ⟨rfl, rfl, rfl, trivial⟩) (fun s347 x348 => ?_) (fun q385 y386 => ?_)
      · unfold law06_StrictCloses_l2
        refine ref_seq (ref_region ?_)
        refine s_rd (r_lss rfl rfl) rfl ?_
        refine l_nil (n_then (ref_seq ?_))
        refine ref_cond rfl (fun hb349 => ?_) (fun hb349 => ?_)
        · refine ref_skip (n_then (ref_seq (ref_block (ref_seq (ref_region ?_)))))
          refine pull fun y350 h_y350 => ?_
          refine s_rd (r_index h_y350 Tryz.underlying38 el_27 rfl rfl) rfl ?_
          refine s_rd (r_load el_27 rfl) rfl ?_
          refine as1 rfl rfl ?_
          refine l_nil (n_then (ref_seq (ref_seq ?_)))
          refine ref_draw [0, 1, 3, 4, 7, 8, 9, 10, 11, 13, 14, 15, 17, 18] rfl (by kernel_rfl) (fun hok => ?_)
          refine a_rd (i := 0) hok rfl (by kernel_rfl) rfl (r_cloadS Tryz.isAgg26 Tryz.sizeOf26 rfl (j := 2) rfl rfl rfl) rfl ?_
          refine a_rd (i := 1) hok rfl (by kernel_rfl) rfl (r_move rfl) rfl ?_
          refine a_rd (i := 3) hok rfl (by kernel_rfl) rfl (r_cloadS Tryz.isAgg26 Tryz.sizeOf26 rfl (j := 2) rfl rfl rfl) rfl ?_
          refine a_rd (i := 4) hok rfl (by kernel_rfl) rfl (r_move rfl) rfl ?_
          refine pull fun t351 h_t351 => ?_
          refine a_next hok 2 [] (by kernel_rfl) ?_ trivial
          refine a_st (i := 2) hok rfl rfl (s_call (ψ := fun (_ : Unit) => slv rT_api_Literal t351) (args := [.tmp 46, .tmp 47]) Tryz.call13 rfl (strict_Closure_ok h_t351) ⟨arg rfl, arg rfl, trivial⟩ (fun _ _ _ _ h => h)) (by intro _ h; cases h; rfl) (fun _ => ⟨trivial, ⟨⟨⟨rfl, rfl⟩, trivial⟩, ⟨trivial, ⟨trivial, trivial⟩⟩⟩⟩) (fun _ => ?_)
          refine pull fun t352 h_t352 => ?_
          refine a_next hok 5 [] (by kernel_rfl) ?_ trivial
          refine a_st (i := 5) hok rfl rfl (s_call (ψ := fun (_ : Unit) => slv rT_api_Literal t352) (args := [.tmp 49, .tmp 50]) Tryz.call14 rfl (ref06_Closure_ok h_t352) ⟨arg rfl, arg rfl, trivial⟩ (fun _ _ _ _ h => h)) (by intro _ h; cases h; rfl) (fun _ => ⟨trivial, ⟨trivial, ⟨trivial, ⟨⟨⟨rfl, rfl⟩, trivial⟩, trivial⟩⟩⟩⟩) (fun _ => ?_)
          refine pull fun t353 h_t353 => ?_
          refine a_next hok 6 [] (by kernel_rfl) ?_ trivial
          refine a_st (i := 6) hok rfl rfl (s_call (ψ := fun (_ : Unit) => bv t353) (args := [.tmp 48, .tmp 51]) Tryz.call12 rfl (ref01_Same_ok h_t353) ⟨arg rfl, arg rfl, trivial⟩ (fun _ _ _ _ h => h)) (by intro _ h; cases h; rfl) (fun _ => ⟨trivial, ⟨⟨⟨rfl, rfl⟩, trivial⟩, ⟨trivial, ⟨⟨⟨rfl, rfl⟩, trivial⟩, trivial⟩⟩⟩⟩) (fun _ => ?_)
          refine a_rd (i := 7) hok rfl (by kernel_rfl) rfl (r_not rfl) rfl ?_
          refine a_rd (i := 8) hok rfl (by kernel_rfl) rfl (r_move rfl) rfl ?_
          refine b_split (t := 54) rfl (fun _ => ?_) (fun _ => ?_)
          · refine a_off (i := 9) hok rfl rfl rfl rfl rfl (by kernel_rfl) rfl rfl ?_
            refine a_off (i := 10) hok rfl rfl rfl rfl rfl (by kernel_rfl) rfl rfl ?_
            refine a_off (i := 11) hok rfl rfl rfl rfl rfl (by kernel_rfl) rfl rfl ?_
            refine a_off (i := 13) hok rfl rfl rfl rfl rfl (by kernel_rfl) rfl rfl ?_
            refine a_off (i := 14) hok rfl rfl rfl rfl rfl (by kernel_rfl) rfl rfl ?_
            refine a_off (i := 15) hok rfl rfl rfl rfl rfl (by kernel_rfl) rfl rfl ?_
            refine a_next hok 12 [] (by kernel_rfl) ?_ trivial
            refine a_stOff (i := 12) hok rfl rfl rfl rfl rfl rfl (by intro _ h; cases h; rfl) ⟨trivial, ⟨trivial, ⟨trivial, ⟨trivial, ⟨trivial, ⟨trivial, ⟨trivial, ⟨trivial, ⟨trivial, ⟨⟨⟨rfl, rfl⟩, trivial⟩, ⟨trivial, ⟨⟨⟨rfl, rfl⟩, trivial⟩, trivial⟩⟩⟩⟩⟩⟩⟩⟩⟩⟩⟩⟩ ?_
            refine a_next hok 16 [] (by kernel_rfl) ?_ trivial
            refine a_stOff (i := 16) hok rfl rfl rfl rfl rfl rfl (by intro _ h; cases h; rfl) ⟨trivial, ⟨trivial, ⟨trivial, ⟨trivial, ⟨trivial, ⟨trivial, ⟨trivial, ⟨trivial, ⟨trivial, ⟨⟨⟨rfl, rfl⟩, trivial⟩, ⟨trivial, ⟨⟨⟨rfl, rfl⟩, trivial⟩, trivial⟩⟩⟩⟩⟩⟩⟩⟩⟩⟩⟩⟩ ?_
            refine a_off (i := 17) hok rfl rfl rfl rfl rfl (by kernel_rfl) rfl rfl ?_
            refine a_rd (i := 18) hok rfl (by kernel_rfl) rfl (r_pickT rfl rfl) rfl ?_
            refine a_fin hok (by kernel_rfl) ?_
            refine b_of (nrm [oc b2 [bv x_2.Neg, sv x_2.Name], oc x6 [slv (rI .i64) s347.2.L, iv .i64 s347.2.At], oc b268 [slv rT_api_Premise t267.Premises, slv rT_api_Rule t267.Rules, slv rT_api_Promotion t267.Promotions]] rfl) ?_
            refine n_then ?_
            refine ref_condT rfl rfl ?_
            refine ref_seq (ref_region ?_)
            refine as1 rfl rfl ?_
            refine l_nil (n_then (ref_ret (r_then (r_block (r_then ?_)))))
            refine retX ?_
            refine r_block (r_then (r_block (r_then ?_)))
            refine retX ?_
            refine r_block (r_then ?_)
            exact fin1 (.inl rfl) () [] rfl trivial rfl (rv_tmp rfl)
          refine a_rdOn (i := 9) hok rfl rfl rfl rfl (by kernel_rfl) rfl (r_cloadS Tryz.isAgg26 Tryz.sizeOf26 rfl (j := 2) rfl rfl rfl) rfl ?_
          refine a_rdOn (i := 10) hok rfl rfl rfl rfl (by kernel_rfl) rfl (r_move rfl) rfl ?_
          refine a_rdOn (i := 11) hok rfl rfl rfl rfl (by kernel_rfl) rfl (r_cloadS Tryz.isAgg29 Tryz.sizeOf29 rfl (j := 0) rfl rfl rfl) rfl ?_
          refine a_rdOn (i := 13) hok rfl rfl rfl rfl (by kernel_rfl) rfl (r_cloadS Tryz.isAgg26 Tryz.sizeOf26 rfl (j := 2) rfl rfl rfl) rfl ?_
          refine a_rdOn (i := 14) hok rfl rfl rfl rfl (by kernel_rfl) rfl (r_move rfl) rfl ?_
          refine a_rdOn (i := 15) hok rfl rfl rfl rfl (by kernel_rfl) rfl (r_cloadS Tryz.isAgg29 Tryz.sizeOf29 rfl (j := 0) rfl rfl rfl) rfl ?_
          refine pull fun t354 h_t354 => ?_
          refine a_next hok 12 [] (by kernel_rfl) ?_ trivial
          refine a_stOn (i := 12) hok rfl rfl rfl rfl rfl (s_call (ψ := fun (_ : Unit) => bv t354) (args := [.tmp 55, .tmp 56, .tmp 57]) Tryz.call15 rfl (strict_Derives_ok h_t354) ⟨arg rfl, arg rfl, arg rfl, trivial⟩ (fun _ _ _ _ h => h)) (by intro _ h; cases h; rfl) (fun _ => ⟨⟨⟨rfl, rfl⟩, trivial⟩, ⟨trivial, ⟨⟨⟨rfl, rfl⟩, trivial⟩, ⟨trivial, ⟨trivial, ⟨trivial, ⟨trivial, ⟨trivial, ⟨trivial, ⟨⟨⟨rfl, rfl⟩, trivial⟩, ⟨trivial, ⟨⟨⟨rfl, rfl⟩, trivial⟩, trivial⟩⟩⟩⟩⟩⟩⟩⟩⟩⟩⟩⟩) (fun _ => ?_)
          refine pull fun t355 h_t355 => ?_
          refine a_next hok 16 [] (by kernel_rfl) ?_ trivial
          refine a_stOn (i := 16) hok rfl rfl rfl rfl rfl (s_call (ψ := fun (_ : Unit) => bv t355) (args := [.tmp 59, .tmp 60, .tmp 61]) Tryz.call16 rfl (ref06_Derives_ok h_t355) ⟨arg rfl, arg rfl, arg rfl, trivial⟩ (fun _ _ _ _ h => h)) (by intro _ h; cases h; rfl) (fun _ => ⟨trivial, ⟨trivial, ⟨trivial, ⟨⟨⟨rfl, rfl⟩, trivial⟩, ⟨trivial, ⟨⟨⟨rfl, rfl⟩, trivial⟩, ⟨trivial, ⟨trivial, ⟨trivial, ⟨⟨⟨rfl, rfl⟩, trivial⟩, ⟨trivial, ⟨⟨⟨rfl, rfl⟩, trivial⟩, trivial⟩⟩⟩⟩⟩⟩⟩⟩⟩⟩⟩⟩) (fun _ => ?_)
          refine a_rdOn (i := 17) hok rfl rfl rfl rfl (by kernel_rfl) rfl (r_bneq Tryz.underlying4 rfl rfl) rfl ?_
          refine a_rd (i := 18) hok rfl (by kernel_rfl) rfl (r_pickF rfl rfl) rfl ?_
          refine a_fin hok (by kernel_rfl) ?_
          refine b_of (nrm [oc b2 [bv x_2.Neg, sv x_2.Name], oc x6 [slv (rI .i64) s347.2.L, iv .i64 s347.2.At], oc b268 [slv rT_api_Premise t267.Premises, slv rT_api_Rule t267.Rules, slv rT_api_Promotion t267.Promotions]] rfl) ?_
          refine n_then ?_
          refine ref_cond rfl (fun hb356 => ?_) (fun hb356 => ?_)
          · refine ref_seq (ref_region ?_)
            refine as1 rfl rfl ?_
            refine l_nil (n_then (ref_ret (r_then (r_block (r_then ?_)))))
            refine retX ?_
            refine r_block (r_then (r_block (r_then ?_)))
            refine retX ?_
            refine r_block (r_then ?_)
            exact fin1 (.inl rfl) () [] rfl trivial rfl (rv_tmp rfl)
          refine ref_skip (n_then (ref_seq (ref_region ?_)))
          refine as1 rfl rfl ?_
          refine l_nil (n_then ?_)
          refine ref_loopX (f := (law06_StrictCloses_l3 t267 y350)) (Γl := (fun (s374 : Int × T_deliberationkeep_Src) (x375 : Unit) => [(1, slv rT_api_Literal some__1), (6, pv (ptr b2 0)), (9, pv (ptr x6 0)), (11, pv (ptr b268 0)), (13, slv rT_api_Literal y350), (14, iv .i64 s374.1), (31, slv rT_api_Base [raw_0, t7.1, t9.1]), (32, iv .i64 ([raw_0, t7.1, t9.1].length : Int)), (33, iv .i64 s264.1), (40, slv (rSl rT_api_Literal) [some__1, t269.1]), (41, iv .i64 ([some__1, t269.1].length : Int)), (42, iv .i64 s347.1), (55, ag [slv rT_api_Premise t267.Premises, slv rT_api_Rule t267.Rules, slv rT_api_Promotion t267.Promotions]), (56, slv rT_api_Literal y350), (57, ag [bv x_2.Neg, sv x_2.Name]), (58, bv t354), (59, ag [slv rT_api_Premise t267.Premises, slv rT_api_Rule t267.Rules, slv rT_api_Promotion t267.Promotions]), (60, slv rT_api_Literal y350), (61, ag [bv x_2.Neg, sv x_2.Name]), (62, bv t355), (63, bv (!(t354 == t355)))])) (Ωl := (fun (s374 : Int × T_deliberationkeep_Src) (x375 : Unit) => [oc b2 [bv x_2.Neg, sv x_2.Name], oc x6 [slv (rI .i64) s374.2.L, iv .i64 s374.2.At], oc b268 [slv rT_api_Premise t267.Premises, slv rT_api_Rule t267.Rules, slv rT_api_Promotion t267.Promotions]])) (Γb := (fun (q383 : T_deliberationkeep_Src) (y384 : Unit) => [(1, slv rT_api_Literal some__1), (6, pv (ptr b2 0)), (9, pv (ptr x6 0)), (11, pv (ptr b268 0)), (31, slv rT_api_Base [raw_0, t7.1, t9.1]), (32, iv .i64 ([raw_0, t7.1, t9.1].length : Int)), (33, iv .i64 s264.1), (40, slv (rSl rT_api_Literal) [some__1, t269.1]), (41, iv .i64 ([some__1, t269.1].length : Int)), (42, iv .i64 s347.1), (55, ag [slv rT_api_Premise t267.Premises, slv rT_api_Rule t267.Rules, slv rT_api_Promotion t267.Promotions]), (56, slv rT_api_Literal y350), (57, ag [bv x_2.Neg, sv x_2.Name]), (58, bv t354), (59, ag [slv rT_api_Premise t267.Premises, slv rT_api_Rule t267.Rules, slv rT_api_Promotion t267.Promotions]), (60, slv rT_api_Literal y350), (61, ag [bv x_2.Neg, sv x_2.Name]), (62, bv t355), (63, bv (!(t354 == t355)))])) (Ωb := (fun (q383 : T_deliberationkeep_Src) (y384 : Unit) => [oc b2 [bv x_2.Neg, sv x_2.Name], oc x6 [slv (rI .i64) q383.L, iv .i64 q383.At], oc b268 [slv rT_api_Premise t267.Premises, slv rT_api_Rule t267.Rules, slv rT_api_Promotion t267.Promotions]])) (kr := (fun a : Bool => some (Sum.inl (Sum.inl a)))) (0, s347.2) () (weak [0, 1, 2] ⟨rfl, rfl, rfl, rfl, rfl, rfl, rfl, rfl, rfl, rfl, rfl, rfl, rfl, rfl, rfl, rfl, rfl, rfl, rfl, rfl, rfl, trivial⟩ ⟨rfl, rfl, rfl, trivial⟩) (fun s374 x375 => ?_) (fun q383 y384 => ?_)
          · unfold law06_StrictCloses_l3
            refine ref_seq (ref_seq (ref_region ?_))
            refine mv1 rfl rfl ?_
            refine s_rd (r_lss rfl rfl) rfl ?_
            refine l_nil (n_then ?_)
            refine ref_cond rfl (fun hb376 => ?_) (fun hb376 => ?_)
            · refine ref_skip (n_then (ref_seq (ref_block (ref_seq (ref_region ?_)))))
              refine mv1 rfl rfl ?_
              refine pull fun t377 h_t377 => ?_
              refine s_st (s_callC [1] [true] (fun (_ : Unit) => [oc x6 [slv (rI .i64) t377.2.L, iv .i64 t377.2.At]]) (fun (_ : Unit) => []) (fun (_ : Unit) => ag [bv t377.1.Neg, sv t377.1.Name]) (args := [.tmp 69, .const (.int .i64 (4))]) (caps := []) Tryz.call17 rfl (keep_Src_Literal_ok h_t377) ⟨rfl, rfl, trivial⟩ (fun _ => rfl) (fun _ => trivial) (fun _ => rfl) ⟨arg rfl, arg rfl, trivial⟩ (fun _ _ _ _ h => h)) rfl (fun _ => ?_)
              refine s_st (s_alloc zt_29) rfl (fun b378 => ?_)
              refine s_st0 (s_cstore (out := [bv t377.1.Neg, sv t377.1.Name]) Tryz.sizeOf29 rfl (j := 3) rfl (part_agO (ψs := [bv t377.1.Neg, sv t377.1.Name]) rfl ⟨.inl bv_at, .inl sv_at, trivial⟩) rfl rfl rfl) (fun _ => ?_)
              refine l_nil (n_then (ref_seq ?_))
              refine ref_draw [0, 1, 2, 4, 5, 6, 8] rfl (by kernel_rfl) (fun hok => ?_)
              refine a_rd (i := 0) hok rfl (by kernel_rfl) rfl (r_cloadS Tryz.isAgg26 Tryz.sizeOf26 rfl (j := 2) rfl rfl rfl) rfl ?_
              refine a_rd (i := 1) hok rfl (by kernel_rfl) rfl (r_move rfl) rfl ?_
              refine a_rd (i := 2) hok rfl (by kernel_rfl) rfl (r_cloadS Tryz.isAgg29 Tryz.sizeOf29 rfl (j := 3) rfl rfl rfl) rfl ?_
              refine a_rd (i := 4) hok rfl (by kernel_rfl) rfl (r_cloadS Tryz.isAgg26 Tryz.sizeOf26 rfl (j := 2) rfl rfl rfl) rfl ?_
              refine a_rd (i := 5) hok rfl (by kernel_rfl) rfl (r_move rfl) rfl ?_
              refine a_rd (i := 6) hok rfl (by kernel_rfl) rfl (r_cloadS Tryz.isAgg29 Tryz.sizeOf29 rfl (j := 3) rfl rfl rfl) rfl ?_
              refine pull fun t379 h_t379 => ?_
              refine a_next hok 3 [] (by kernel_rfl) ?_ trivial
              refine a_st (i := 3) hok rfl rfl (s_call (ψ := fun (_ : Unit) => bv t379) (args := [.tmp 71, .tmp 72, .tmp 73]) Tryz.call15 rfl (strict_Derives_ok h_t379) ⟨arg rfl, arg rfl, arg rfl, trivial⟩ (fun _ _ _ _ h => h)) (by intro _ h; cases h; rfl) (fun _ => ⟨⟨⟨rfl, rfl⟩, trivial⟩, ⟨trivial, ⟨⟨⟨rfl, rfl⟩, trivial⟩, ⟨trivial, ⟨trivial, ⟨trivial, trivial⟩⟩⟩⟩⟩⟩) (fun _ => ?_)
              refine pull fun t380 h_t380 => ?_
              refine a_next hok 7 [] (by kernel_rfl) ?_ trivial
              refine a_st (i := 7) hok rfl rfl (s_call (ψ := fun (_ : Unit) => bv t380) (args := [.tmp 75, .tmp 76, .tmp 77]) Tryz.call16 rfl (ref06_Derives_ok h_t380) ⟨arg rfl, arg rfl, arg rfl, trivial⟩ (fun _ _ _ _ h => h)) (by intro _ h; cases h; rfl) (fun _ => ⟨trivial, ⟨trivial, ⟨trivial, ⟨⟨⟨rfl, rfl⟩, trivial⟩, ⟨trivial, ⟨⟨⟨rfl, rfl⟩, trivial⟩, trivial⟩⟩⟩⟩⟩⟩) (fun _ => ?_)
              refine a_rd (i := 8) hok rfl (by kernel_rfl) rfl (r_bneq Tryz.underlying4 rfl rfl) rfl ?_
              refine a_fin hok (by kernel_rfl) ?_
              refine b_of (nrm [oc b2 [bv x_2.Neg, sv x_2.Name], oc x6 [slv (rI .i64) t377.2.L, iv .i64 t377.2.At], oc b268 [slv rT_api_Premise t267.Premises, slv rT_api_Rule t267.Rules, slv rT_api_Promotion t267.Promotions], oc b378 [bv t377.1.Neg, sv t377.1.Name]] rfl) ?_
              refine n_then ?_
              refine ref_cond rfl (fun hb381 => ?_) (fun hb381 => ?_)
              · refine ref_seq (ref_region ?_)
                refine as1 rfl rfl ?_
                refine l_nil (n_then (ref_ret (r_block (r_then ?_))))
                refine retX ?_
                refine r_block (r_block (r_then ?_))
                refine retX ?_
                refine r_block (r_then (r_block (r_then ?_)))
                refine retX ?_
                refine r_block (r_then ?_)
                exact fin1 (.inl rfl) () [] rfl trivial rfl (rv_tmp rfl)
              refine ref_skip (n_block (n_then (ref_region ?_)))
              refine mv1 rfl rfl ?_
              refine s_rd (r_add rfl rfl) rfl ?_
              refine as1 rfl rfl ?_
              refine b_let (f := iv .i64) (t := 14) rfl fun k382 => ?_
              refine l_nil ?_
              exact goX () (weak [0, 1, 2] ⟨rfl, rfl, rfl, rfl, rfl, rfl, rfl, rfl, rfl, rfl, rfl, rfl, rfl, rfl, rfl, rfl, rfl, rfl, rfl, rfl, rfl, trivial⟩ ⟨rfl, rfl, rfl, trivial⟩)
            refine ref_exit (x_then ?_)
            exact brkX () (weak [0, 1, 2] ⟨rfl, rfl, rfl, rfl, rfl, rfl, rfl, rfl, rfl, rfl, rfl, rfl, rfl, rfl, rfl, rfl, rfl, rfl, rfl, trivial⟩ ⟨rfl, rfl, rfl, trivial⟩)
          refine n_block (n_then (ref_region ?_))
          refine s_rd (r_add rfl rfl) rfl ?_
          refine mv1 rfl rfl ?_
          refine l_nil ?_
          exact goX () (weak [0, 1, 2] ⟨rfl, rfl, rfl, rfl, rfl, rfl, rfl, rfl, rfl, rfl, trivial⟩ ⟨rfl, rfl, rfl, trivial⟩)
        refine ref_exit (x_then ?_)
        exact brkX () (weak [0, 1, 2] ⟨rfl, rfl, rfl, rfl, rfl, rfl, rfl, trivial⟩ ⟨rfl, rfl, rfl, trivial⟩)
      refine n_then (ref_seq ?_)
      refine ref_draw [0, 2, 5] rfl (by kernel_rfl) (fun hok => ?_)
      refine a_rd (i := 0) hok rfl (by kernel_rfl) rfl (r_cloadS Tryz.isAgg26 Tryz.sizeOf26 rfl (j := 2) rfl rfl rfl) rfl ?_
      refine a_rd (i := 2) hok rfl (by kernel_rfl) rfl (r_cloadS Tryz.isAgg26 Tryz.sizeOf26 rfl (j := 2) rfl rfl rfl) rfl ?_
      refine pull fun t387 h_t387 => ?_
      refine a_next hok 1 [] (by kernel_rfl) ?_ trivial
      refine a_st (i := 1) hok rfl rfl (s_call (ψ := fun (_ : Unit) => slv rT_api_Literal t387) (args := [.tmp 81]) Tryz.call18 rfl (strict_Axioms_ok h_t387) ⟨arg rfl, trivial⟩ (fun _ _ _ _ h => h)) (by intro _ h; cases h; rfl) (fun _ => ⟨⟨⟨rfl, rfl⟩, trivial⟩, ⟨trivial, trivial⟩⟩) (fun _ => ?_)
      refine pull fun t388 h_t388 => ?_
      refine a_next hok 3 [] (by kernel_rfl) ?_ trivial
      refine a_st (i := 3) hok rfl rfl (s_call (ψ := fun (_ : Unit) => slv rT_api_Literal t388) (args := [.tmp 83]) Tryz.call19 rfl (ref06_Axioms_ok h_t388) ⟨arg rfl, trivial⟩ (fun _ _ _ _ h => h)) (by intro _ h; cases h; rfl) (fun _ => ⟨trivial, ⟨⟨⟨rfl, rfl⟩, trivial⟩, trivial⟩⟩) (fun _ => ?_)
      refine pull fun t389 h_t389 => ?_
      refine a_next hok 4 [] (by kernel_rfl) ?_ trivial
      refine a_st (i := 4) hok rfl rfl (s_call (ψ := fun (_ : Unit) => bv t389) (args := [.tmp 82, .tmp 84]) Tryz.call12 rfl (ref01_Same_ok h_t389) ⟨arg rfl, arg rfl, trivial⟩ (fun _ _ _ _ h => h)) (by intro _ h; cases h; rfl) (fun _ => ⟨⟨⟨rfl, rfl⟩, trivial⟩, ⟨⟨⟨rfl, rfl⟩, trivial⟩, trivial⟩⟩) (fun _ => ?_)
      refine a_rd (i := 5) hok rfl (by kernel_rfl) rfl (r_not rfl) rfl ?_
      refine a_fin hok (by kernel_rfl) ?_
      refine n_then ?_
      refine ref_cond rfl (fun hb390 => ?_) (fun hb390 => ?_)
      · refine ref_seq (ref_region ?_)
        refine as1 rfl rfl ?_
        refine l_nil (n_then (ref_ret (r_block (r_then ?_))))
        refine retX ?_
        refine r_block (r_then ?_)
        exact fin1 (.inl rfl) () [] rfl trivial rfl (rv_tmp rfl)
      refine ref_skip (n_block (n_then (ref_region ?_)))
      refine s_rd (r_add rfl rfl) rfl ?_
      refine mv1 rfl rfl ?_
      refine l_nil ?_
      exact goX () (weak [0, 1] ⟨rfl, rfl, rfl, rfl, rfl, rfl, trivial⟩ ⟨rfl, rfl, trivial⟩)
    refine ref_exit (x_then ?_)
    exact brkX () (weak [] trivial trivial)
  refine n_then (ref_seq (ref_region ?_))
  refine pull fun t393 h_t393 => ?_
  refine s_st (s_call (ψ := fun (_ : Unit) => bv t393) (args := []) Tryz.call20 rfl (law06_awake_ok h_t393) trivial (fun _ _ _ _ h => h)) rfl (fun _ => ?_)
  refine as1 rfl rfl ?_
  refine l_nil (n_then (ref_ret ?_))
  exact fin1 (.inl rfl) () [] rfl trivial rfl (rv_tmp rfl)

/-! deliberation/deliberationlaw06.StrictContraposes -/
noncomputable def law06_StrictContraposes_l1 (t3 : T_api_Base × T_deliberationkeep_Src) (x5 : List T_api_Literal × T_deliberationkeep_Src) (t7 : T_api_Literal × T_deliberationkeep_Src) (with_9 : (List T_api_Literal)) (t11 : List T_api_Literal) (s25 : Int) : Option (Sum ((Sum (Bool) (Unit))) (Int)) :=
  bif decide (s25 < (t11.length : Int)) then
    Option.bind (idxM t11 s25) fun t28 =>
    Option.bind (strict_Derives_m t3.1 x5.1 t28) fun t30 =>
    bif t30 then
      some (Sum.inr (iadd .i64 s25 1))
    else
      Option.bind (literal_Complement_m t28) fun t32 =>
      Option.bind (appM 24 with_9 [t32]) fun t33 =>
      Option.bind (literal_Complement_m t7.1) fun t35 =>
      Option.bind (strict_Derives_m t3.1 t33 t35) fun t36 =>
      bif !t36 then
        some (Sum.inl (Sum.inl false))
      else
        some (Sum.inr (iadd .i64 s25 1))
  else
    some (Sum.inl (Sum.inr ()))

noncomputable def law06_StrictContraposes_m (l_0 : (List Int)) : Option (Bool) :=
  Option.bind (keep_New_m l_0) fun s1 =>
  Option.bind (law06_closed_m s1 3 6) fun t3 =>
  Option.bind (keep_Src_Literals_m t3.2 3 3) fun x5 =>
  Option.bind (keep_Src_Literal_m x5.2 3) fun t7 =>
  Option.bind (appM 24 x5.1 [t7.1]) fun with_9 =>
  Option.bind (strict_Closure_m t3.1 with_9) fun t11 =>
  Option.bind (loopC (law06_StrictContraposes_l1 t3 x5 t7 with_9 t11) 0) (sumK (fun a : Bool => some a) fun q38 : Unit =>
    Option.bind (law06_awake_m ) fun t40 =>
    some t40)

theorem law06_StrictContraposes_ok {l_0 : (List Int)} {r : Bool} (hm : law06_StrictContraposes_m l_0 = some r) :
    FnOk prog 5 [slv (rI .i64) l_0] [] (fun (x : Unit) => [bv r]) (fun (x : Unit) => []) := by
  refine fn_ok (fn := Tryz.f5) (N := 56) (res := fun r x => [bv r]) (Ω1 := fun r x => []) Tryz.func5 rfl rfl hm rfl (fun E hM => ?_)
  unfold law06_StrictContraposes_m
  refine ref_seq (ref_region ?_)
  refine as1 rfl rfl ?_
  refine l_nil (n_then (ref_seq (ref_region ?_)))
  refine mv1 rfl rfl ?_
  refine pull fun s1 h_s1 => ?_
  refine s_st (s_call (ψ := fun (x2 : Nat) => pv (ptr x2 0)) (args := [.tmp 10]) Tryz.call8 rfl (keep_New_ok h_s1) ⟨arg rfl, trivial⟩ (fun _ _ _ _ h => h)) rfl (fun x2 => ?_)
  refine as1 rfl rfl ?_
  refine l_nil (n_then (ref_seq (ref_region ?_)))
  refine mv1 rfl rfl ?_
  refine pull fun t3 h_t3 => ?_
  refine s_st (s_callC [0] [true] (fun (_ : Unit) => [oc x2 [slv (rI .i64) t3.2.L, iv .i64 t3.2.At]]) (fun (_ : Unit) => []) (fun (_ : Unit) => ag [slv rT_api_Premise t3.1.Premises, slv rT_api_Rule t3.1.Rules, slv rT_api_Promotion t3.1.Promotions]) (args := [.tmp 12, .const (.int .i64 (3)), .const (.int .i64 (6))]) (caps := []) Tryz.call10 rfl (law06_closed_ok h_t3) ⟨rfl, rfl, trivial⟩ (fun _ => rfl) (fun _ => trivial) (fun _ => rfl) ⟨arg rfl, arg rfl, arg rfl, trivial⟩ (fun _ _ _ _ h => h)) rfl (fun _ => ?_)
  refine s_st (s_alloc zt_26) rfl (fun b4 => ?_)
  refine s_st0 (s_cstore (out := [slv rT_api_Premise t3.1.Premises, slv rT_api_Rule t3.1.Rules, slv rT_api_Promotion t3.1.Promotions]) Tryz.sizeOf26 rfl (j := 1) rfl (part_agO (ψs := [slv rT_api_Premise t3.1.Premises, slv rT_api_Rule t3.1.Rules, slv rT_api_Promotion t3.1.Promotions]) rfl ⟨.inl slv_at, .inl slv_at, .inl slv_at, trivial⟩) rfl rfl rfl) (fun _ => ?_)
  refine l_nil ?_
  refine b_of (nrm [oc x2 [slv (rI .i64) t3.2.L, iv .i64 t3.2.At], oc b4 [slv rT_api_Premise t3.1.Premises, slv rT_api_Rule t3.1.Rules, slv rT_api_Promotion t3.1.Promotions]] rfl) ?_
  refine n_then (ref_seq (ref_region ?_))
  refine mv1 rfl rfl ?_
  refine pull fun x5 h_x5 => ?_
  refine s_st (s_callC [0] [true] (fun (x6 : (Value × List Nat)) => [oc x2 [slv (rI .i64) x5.2.L, iv .i64 x5.2.At]]) (fun (x6 : (Value × List Nat)) => [oa rT_api_Literal x6.1 x6.2 x5.1]) (fun (x6 : (Value × List Nat)) => pv x6.1) (args := [.tmp 14, .const (.int .i64 (3)), .const (.int .i64 (3))]) (caps := []) Tryz.call11 rfl (keep_Src_Literals_ok h_x5) ⟨rfl, rfl, trivial⟩ (fun _ => rfl) (fun _ => trivial) (fun _ => rfl) ⟨arg rfl, arg rfl, arg rfl, trivial⟩ (fun _ _ _ _ h => h)) rfl (fun x6 => ?_)
  refine mv1 rfl rfl ?_
  refine pull fun t7 h_t7 => ?_
  refine s_st (s_callC [0] [true] (fun (_ : Unit) => [oc x2 [slv (rI .i64) t7.2.L, iv .i64 t7.2.At]]) (fun (_ : Unit) => []) (fun (_ : Unit) => ag [bv t7.1.Neg, sv t7.1.Name]) (args := [.tmp 16, .const (.int .i64 (3))]) (caps := []) Tryz.call17 rfl (keep_Src_Literal_ok h_t7) ⟨rfl, rfl, trivial⟩ (fun _ => rfl) (fun _ => trivial) (fun _ => rfl) ⟨arg rfl, arg rfl, trivial⟩ (fun _ _ _ _ h => h)) rfl (fun _ => ?_)
  refine s_st (s_alloc zt_29) rfl (fun b8 => ?_)
  refine as1 rfl rfl ?_
  refine s_st0 (s_cstore (out := [bv t7.1.Neg, sv t7.1.Name]) Tryz.sizeOf29 rfl (j := 3) rfl (part_agO (ψs := [bv t7.1.Neg, sv t7.1.Name]) rfl ⟨.inl bv_at, .inl sv_at, trivial⟩) rfl rfl rfl) (fun _ => ?_)
  refine l_nil ?_
  refine b_of (nrm [oc x2 [slv (rI .i64) t7.2.L, iv .i64 t7.2.At], oc b4 [slv rT_api_Premise t3.1.Premises, slv rT_api_Rule t3.1.Rules, slv rT_api_Promotion t3.1.Promotions], oa rT_api_Literal x6.1 x6.2 x5.1, oc b8 [bv t7.1.Neg, sv t7.1.Name]] rfl) ?_
  refine n_then (ref_seq ?_)
  refine ref_draw [0, 1, 2, 3, 4, 5, 6] rfl (by kernel_rfl) (fun hok => ?_)
  refine a_rd (i := 0) hok rfl (by kernel_rfl) rfl (r_move rfl) rfl ?_
  refine a_rd (i := 1) hok rfl (by kernel_rfl) rfl (r_move rfl) rfl ?_
  refine a_rd (i := 2) hok rfl (by kernel_rfl) rfl (r_olen Tryz.underlying27 rfl (j := 2) rfl) rfl ?_
  refine a_rd (i := 3) hok rfl (by kernel_rfl) rfl (r_move rfl) rfl ?_
  refine a_rd (i := 4) hok rfl (by kernel_rfl) rfl (r_olen Tryz.underlying27 rfl (j := 2) rfl) rfl ?_
  refine a_of (frzL [15, 5, 18, 19, 21] (j := 2) rfl ⟨rfl, rfl, rfl, rfl, rfl, trivial⟩) (dead_keeps (j := 2) rfl) ?_
  refine a_rd (i := 5) hok rfl (by kernel_rfl) rfl (r_full Tryz.underlying27 el_29 rfl rfl rfl) rfl ?_
  refine a_rd (i := 6) hok rfl (by kernel_rfl) rfl (r_cloadS Tryz.isAgg29 Tryz.sizeOf29 rfl (j := 3) rfl rfl rfl) rfl ?_
  refine a_next hok 7 [] (by kernel_rfl) ?_ trivial
  refine a_st (i := 7) hok rfl rfl (s_bslice (xs := [.tmp 24]) (ds := [t7.1]) Tryz.underlying27 el_29 rfl (Nat.le_of_ble_eq_true rfl) ⟨(part_agO (ψs := [bv t7.1.Neg, sv t7.1.Name]) rfl ⟨.inl bv_at, .inl sv_at, trivial⟩), trivial⟩) (by intro _ h; cases h; rfl) (fun _ => ⟨trivial, ⟨trivial, ⟨trivial, ⟨trivial, ⟨trivial, ⟨trivial, ⟨trivial, trivial⟩⟩⟩⟩⟩⟩⟩) (fun _ => ?_)
  refine pull fun with_9 h_with_9 => ?_
  refine a_next hok 8 [] (by kernel_rfl) ?_ trivial
  refine a_st (i := 8) hok rfl rfl (s_appendF h_with_9 rfl Tryz.underlying27 el_29 rfl rfl) (by intro _ h; cases h; rfl) (fun _ => ⟨⟨⟨rfl, rfl⟩, trivial⟩, ⟨trivial, ⟨trivial, ⟨trivial, ⟨trivial, ⟨trivial, ⟨trivial, trivial⟩⟩⟩⟩⟩⟩⟩) (fun o10 => ?_)
  refine a_next hok 9 [] (by kernel_rfl) ?_ trivial
  refine a_st (i := 9) hok rfl rfl (St.ofRd (r_assign rfl)) (by intro _ h; cases h; rfl) (fun _ => ⟨trivial, ⟨trivial, ⟨trivial, ⟨trivial, ⟨trivial, ⟨trivial, ⟨trivial, trivial⟩⟩⟩⟩⟩⟩⟩) (fun _ => ?_)
  refine a_fin hok (by kernel_rfl) ?_
  refine n_then (ref_seq (ref_seq (ref_region ?_)))
  refine s_rd (r_cloadS Tryz.isAgg26 Tryz.sizeOf26 rfl (j := 1) rfl rfl rfl) rfl ?_
  refine mv1 rfl rfl ?_
  refine b_of (frzL [26, 7, 28] (j := 4) rfl ⟨rfl, rfl, rfl, trivial⟩) ?_
  refine pull fun t11 h_t11 => ?_
  refine s_st (s_call (ψ := fun (_ : Unit) => slv rT_api_Literal t11) (args := [.tmp 27, .tmp 28]) Tryz.call13 rfl (strict_Closure_ok h_t11) ⟨arg rfl, arg rfl, trivial⟩ (fun _ _ _ _ h => h)) rfl (fun _ => ?_)
  refine s_rd (r_len Tryz.underlying27 rfl) rfl ?_
  refine mv1 rfl rfl ?_
  refine l_nil ?_
  refine b_of (nrm [oc x2 [slv (rI .i64) t7.2.L, iv .i64 t7.2.At], oc b4 [slv rT_api_Premise t3.1.Premises, slv rT_api_Rule t3.1.Rules, slv rT_api_Promotion t3.1.Promotions], dead, oc b8 [bv t7.1.Neg, sv t7.1.Name], dead] rfl) ?_
  refine n_then ?_
  refine ref_loopX (f := (law06_StrictContraposes_l1 t3 x5 t7 with_9 t11)) (Γl := (fun (s25 : Int) (x26 : Unit) => [(4, pv (ptr b4 0)), (5, slv rT_api_Literal x5.1), (6, pv (ptr b8 0)), (7, slv rT_api_Literal with_9), (29, slv rT_api_Literal t11), (30, iv .i64 (t11.length : Int)), (31, iv .i64 s25)])) (Ωl := (fun (s25 : Int) (x26 : Unit) => [oc b4 [slv rT_api_Premise t3.1.Premises, slv rT_api_Rule t3.1.Rules, slv rT_api_Promotion t3.1.Promotions], oc b8 [bv t7.1.Neg, sv t7.1.Name]])) (Γb := (fun (q38 : Unit) (y39 : Unit) => [])) (Ωb := (fun (q38 : Unit) (y39 : Unit) => [])) (kr := (fun a : Bool => some a)) 0 () (weak [1, 3] ⟨rfl, rfl, rfl, rfl, rfl, rfl, rfl, trivial⟩ ⟨rfl, rfl, trivial⟩) (fun s25 x26 => ?_) (fun q38 y39 => ?_)
  · unfold law06_StrictContraposes_l1
    refine ref_seq (ref_region ?_)
    refine s_rd (r_lss rfl rfl) rfl ?_
    refine l_nil (n_then (ref_seq ?_))
    refine ref_cond rfl (fun hb27 => ?_) (fun hb27 => ?_)
    · refine ref_skip (n_then (ref_seq (ref_block (ref_seq (ref_region ?_)))))
      refine pull fun t28 h_t28 => ?_
      refine s_rd (r_index h_t28 Tryz.underlying27 el_29 rfl rfl) rfl ?_
      refine s_rd (r_load el_29 rfl) rfl ?_
      refine s_st (s_alloc zt_29) rfl (fun b29 => ?_)
      refine s_st0 (s_cstore (out := [bv t28.Neg, sv t28.Name]) Tryz.sizeOf29 rfl (j := 2) rfl (part_agO (ψs := [bv t28.Neg, sv t28.Name]) rfl ⟨.inl bv_at, .inl sv_at, trivial⟩) rfl rfl rfl) (fun _ => ?_)
      refine l_nil (n_then (ref_seq (ref_seq (ref_region ?_))))
      refine s_rd (r_cloadS Tryz.isAgg26 Tryz.sizeOf26 rfl (j := 0) rfl rfl rfl) rfl ?_
      refine mv1 rfl rfl ?_
      refine s_rd (r_cloadS Tryz.isAgg29 Tryz.sizeOf29 rfl (j := 2) rfl rfl rfl) rfl ?_
      refine pull fun t30 h_t30 => ?_
      refine s_st (s_call (ψ := fun (_ : Unit) => bv t30) (args := [.tmp 35, .tmp 36, .tmp 37]) Tryz.call15 rfl (strict_Derives_ok h_t30) ⟨arg rfl, arg rfl, arg rfl, trivial⟩ (fun _ _ _ _ h => h)) rfl (fun _ => ?_)
      refine l_nil (n_then ?_)
      refine ref_cond rfl (fun hb31 => ?_) (fun hb31 => ?_)
      · refine ref_exit (x_then (x_eq (n_then (ref_region ?_))))
        refine s_rd (r_add rfl rfl) rfl ?_
        refine mv1 rfl rfl ?_
        refine l_nil ?_
        exact goX () (weak [0, 1] ⟨rfl, rfl, rfl, rfl, rfl, rfl, rfl, trivial⟩ ⟨rfl, rfl, trivial⟩)
      refine ref_skip (n_then (ref_seq ?_))
      refine ref_draw [0, 1, 2, 3, 4, 5, 6, 7, 11, 14] rfl (by kernel_rfl) (fun hok => ?_)
      refine a_rd (i := 0) hok rfl (by kernel_rfl) rfl (r_cloadS Tryz.isAgg26 Tryz.sizeOf26 rfl (j := 0) rfl rfl rfl) rfl ?_
      refine a_rd (i := 1) hok rfl (by kernel_rfl) rfl (r_move rfl) rfl ?_
      refine a_rd (i := 2) hok rfl (by kernel_rfl) rfl (r_move rfl) rfl ?_
      refine a_rd (i := 3) hok rfl (by kernel_rfl) rfl (r_len Tryz.underlying27 rfl) rfl ?_
      refine a_rd (i := 4) hok rfl (by kernel_rfl) rfl (r_move rfl) rfl ?_
      refine a_rd (i := 5) hok rfl (by kernel_rfl) rfl (r_len Tryz.underlying27 rfl) rfl ?_
      refine a_rd (i := 6) hok rfl (by kernel_rfl) rfl (r_full Tryz.underlying27 el_29 rfl rfl rfl) rfl ?_
      refine a_rd (i := 7) hok rfl (by kernel_rfl) rfl (r_cloadS Tryz.isAgg29 Tryz.sizeOf29 rfl (j := 2) rfl rfl rfl) rfl ?_
      refine a_rd (i := 11) hok rfl (by kernel_rfl) rfl (r_cloadS Tryz.isAgg29 Tryz.sizeOf29 rfl (j := 1) rfl rfl rfl) rfl ?_
      refine pull fun t32 h_t32 => ?_
      refine a_next hok 8 [] (by kernel_rfl) ?_ trivial
      refine a_st (i := 8) hok rfl rfl (s_call (ψ := fun (_ : Unit) => ag [bv t32.Neg, sv t32.Name]) (args := [.tmp 46]) Tryz.call29 rfl (literal_Complement_ok h_t32) ⟨arg rfl, trivial⟩ (fun _ _ _ _ h => h)) (by intro _ h; cases h; rfl) (fun _ => ⟨⟨⟨rfl, rfl⟩, trivial⟩, ⟨trivial, ⟨trivial, ⟨trivial, ⟨trivial, ⟨trivial, ⟨trivial, ⟨trivial, ⟨⟨⟨rfl, rfl⟩, trivial⟩, trivial⟩⟩⟩⟩⟩⟩⟩⟩⟩) (fun _ => ?_)
      refine a_next hok 9 [] (by kernel_rfl) ?_ trivial
      refine a_st (i := 9) hok rfl rfl (s_bslice (xs := [.tmp 47]) (ds := [t32]) Tryz.underlying27 el_29 rfl (Nat.le_of_ble_eq_true rfl) ⟨(part_agO (ψs := [bv t32.Neg, sv t32.Name]) rfl ⟨.inl bv_at, .inl sv_at, trivial⟩), trivial⟩) (by intro _ h; cases h; rfl) (fun _ => ⟨⟨⟨rfl, rfl⟩, trivial⟩, ⟨⟨⟨rfl, rfl⟩, trivial⟩, ⟨trivial, ⟨trivial, ⟨trivial, ⟨trivial, ⟨trivial, ⟨trivial, ⟨⟨⟨rfl, rfl⟩, trivial⟩, trivial⟩⟩⟩⟩⟩⟩⟩⟩⟩) (fun _ => ?_)
      refine pull fun t33 h_t33 => ?_
      refine a_next hok 10 [] (by kernel_rfl) ?_ trivial
      refine a_st (i := 10) hok rfl rfl (s_appendF h_t33 rfl Tryz.underlying27 el_29 rfl rfl) (by intro _ h; cases h; rfl) (fun _ => ⟨⟨⟨rfl, rfl⟩, trivial⟩, ⟨⟨⟨rfl, rfl⟩, trivial⟩, ⟨trivial, ⟨trivial, ⟨trivial, ⟨trivial, ⟨trivial, ⟨trivial, ⟨⟨⟨rfl, rfl⟩, trivial⟩, trivial⟩⟩⟩⟩⟩⟩⟩⟩⟩) (fun o34 => ?_)
      refine pull fun t35 h_t35 => ?_
      refine a_next hok 12 [] (by kernel_rfl) ?_ trivial
      refine a_st (i := 12) hok rfl rfl (s_call (ψ := fun (_ : Unit) => ag [bv t35.Neg, sv t35.Name]) (args := [.tmp 50]) Tryz.call29 rfl (literal_Complement_ok h_t35) ⟨arg rfl, trivial⟩ (fun _ _ _ _ h => h)) (by intro _ h; cases h; rfl) (fun _ => ⟨trivial, ⟨⟨⟨rfl, rfl⟩, trivial⟩, ⟨trivial, ⟨trivial, ⟨trivial, ⟨trivial, ⟨trivial, ⟨trivial, ⟨⟨⟨rfl, rfl⟩, trivial⟩, trivial⟩⟩⟩⟩⟩⟩⟩⟩⟩) (fun _ => ?_)
      refine pull fun t36 h_t36 => ?_
      refine a_next hok 13 [] (by kernel_rfl) ?_ trivial
      refine a_st (i := 13) hok rfl rfl (s_callB (ψ := fun (_ : Unit) => bv t36) (args := [.tmp 39, .tmp 49, .tmp 51]) Tryz.call15 rfl (strict_Derives_ok h_t36) ⟨argB rfl, argO rfl (j := 3) rfl, argB rfl, trivial⟩ (fun _ _ _ _ _ h => h)) (by intro _ h; cases h; rfl) (fun _ => ⟨⟨⟨rfl, rfl⟩, trivial⟩, ⟨⟨⟨rfl, rfl⟩, trivial⟩, ⟨trivial, ⟨trivial, ⟨trivial, ⟨trivial, ⟨trivial, ⟨trivial, ⟨trivial, trivial⟩⟩⟩⟩⟩⟩⟩⟩⟩) (fun _ => ?_)
      refine a_rd (i := 14) hok rfl (by kernel_rfl) rfl (r_not rfl) rfl ?_
      refine a_fin hok (by kernel_rfl) ?_
      refine b_of (nrm [oc b4 [slv rT_api_Premise t3.1.Premises, slv rT_api_Rule t3.1.Rules, slv rT_api_Promotion t3.1.Promotions], oc b8 [bv t7.1.Neg, sv t7.1.Name], oc b29 [bv t28.Neg, sv t28.Name], oa rT_api_Literal o34.1 o34.2 t33] rfl) ?_
      refine n_then ?_
      refine ref_cond rfl (fun hb37 => ?_) (fun hb37 => ?_)
      · refine ref_seq (ref_region ?_)
        refine as1 rfl rfl ?_
        refine l_nil (n_then (ref_ret (r_block (r_then ?_))))
        refine retX ?_
        refine r_block (r_then ?_)
        exact fin1 (.inl rfl) () [] rfl trivial rfl (rv_tmp rfl)
      refine ref_skip (n_block (n_then (ref_region ?_)))
      refine s_rd (r_add rfl rfl) rfl ?_
      refine mv1 rfl rfl ?_
      refine l_nil ?_
      exact goX () (weak [0, 1] ⟨rfl, rfl, rfl, rfl, rfl, rfl, rfl, trivial⟩ ⟨rfl, rfl, trivial⟩)
    refine ref_exit (x_then ?_)
    exact brkX () (weak [] trivial trivial)
  refine n_then (ref_seq (ref_region ?_))
  refine pull fun t40 h_t40 => ?_
  refine s_st (s_call (ψ := fun (_ : Unit) => bv t40) (args := []) Tryz.call20 rfl (law06_awake_ok h_t40) trivial (fun _ _ _ _ h => h)) rfl (fun _ => ?_)
  refine as1 rfl rfl ?_
  refine l_nil (n_then (ref_ret ?_))
  exact fin1 (.inl rfl) () [] rfl trivial rfl (rv_tmp rfl)

/-! deliberation/deliberationlaw06.StrictBlames -/
noncomputable def law06_StrictBlames_l1 (t3 : T_api_Base × T_deliberationkeep_Src) (s21 : (List T_api_Literal) × Int) : Option (Sum ((List T_api_Literal)) ((List T_api_Literal) × Int)) :=
  bif decide (s21.2 < (s21.1.length : Int)) then
    Option.bind (slM s21.1 0 s21.2) fun t24 =>
    Option.bind (slM s21.1 (iadd .i64 s21.2 1) (s21.1.length : Int)) fun t25 =>
    Option.bind (appM 24 [] t24) fun t27 =>
    Option.bind (appM 24 t27 t25) fun rest_29 =>
    Option.bind (strict_Closure_m t3.1 rest_29) fun t31 =>
    Option.bind (literal_Consistent_m t31) fun t32 =>
    bif t32 then
      letM (iadd .i64 s21.2 1) fun i34 =>
      some (Sum.inr (s21.1, i34))
    else
      some (Sum.inr (rest_29, s21.2))
  else
    some (Sum.inl s21.1)

noncomputable def law06_StrictBlames_l2 (q35 : (List T_api_Literal)) (c37 : List T_api_Literal) (s48 : Int) : Option (Sum ((Sum (Bool) (Unit))) (Int)) :=
  bif decide (s48 < (q35.length : Int)) then
    Option.bind (idxM q35 s48) fun t51 =>
    Option.bind (literal_Complement_m t51) fun t52 =>
    Option.bind (literal_Has_m c37 t52) fun t53 =>
    bif !t53 then
      some (Sum.inl (Sum.inl false))
    else
      some (Sum.inr (iadd .i64 s48 1))
  else
    some (Sum.inl (Sum.inr ()))

noncomputable def law06_StrictBlames_m (l_0 : (List Int)) : Option (Bool) :=
  Option.bind (keep_New_m l_0) fun s1 =>
  Option.bind (law06_closed_m s1 4 6) fun t3 =>
  Option.bind (keep_Src_Literals_m t3.2 6 4) fun t5 =>
  Option.bind (ref01_Normal_m t5.1) fun x7 =>
  Option.bind (loopC (law06_StrictBlames_l1 t3) (x7, 0)) fun q35 : (List T_api_Literal) =>
  Option.bind (strict_Closure_m t3.1 q35) fun c37 =>
  Option.bind (literal_Consistent_m c37) fun t38 =>
  bif t38 then
    Option.bind (law06_awake_m ) fun t40 =>
    some t40
  else
    Option.bind (loopC (law06_StrictBlames_l2 q35 c37) 0) (sumK (fun a : Bool => some a) fun q55 : Unit =>
      Option.bind (law06_awake_m ) fun t57 =>
      some t57)

theorem law06_StrictBlames_ok {l_0 : (List Int)} {r : Bool} (hm : law06_StrictBlames_m l_0 = some r) :
    FnOk prog 6 [slv (rI .i64) l_0] [] (fun (x : Unit) => [bv r]) (fun (x : Unit) => []) := by
  refine fn_ok (fn := Tryz.f6) (N := 59) (res := fun r x => [bv r]) (Ω1 := fun r x => []) Tryz.func6 rfl rfl hm rfl (fun E hM => ?_)
  unfold law06_StrictBlames_m
  refine ref_seq (ref_region ?_)
  refine as1 rfl rfl ?_
  refine l_nil (n_then (ref_seq (ref_region ?_)))
  refine mv1 rfl rfl ?_
  refine pull fun s1 h_s1 => ?_
  refine s_st (s_call (ψ := fun (x2 : Nat) => pv (ptr x2 0)) (args := [.tmp 10]) Tryz.call8 rfl (keep_New_ok h_s1) ⟨arg rfl, trivial⟩ (fun _ _ _ _ h => h)) rfl (fun x2 => ?_)
  refine as1 rfl rfl ?_
  refine l_nil (n_then (ref_seq (ref_region ?_)))
  refine mv1 rfl rfl ?_
  refine pull fun t3 h_t3 => ?_
  refine s_st (s_callC [0] [true] (fun (_ : Unit) => [oc x2 [slv (rI .i64) t3.2.L, iv .i64 t3.2.At]]) (fun (_ : Unit) => []) (fun (_ : Unit) => ag [slv rT_api_Premise t3.1.Premises, slv rT_api_Rule t3.1.Rules, slv rT_api_Promotion t3.1.Promotions]) (args := [.tmp 12, .const (.int .i64 (4)), .const (.int .i64 (6))]) (caps := []) Tryz.call10 rfl (law06_closed_ok h_t3) ⟨rfl, rfl, trivial⟩ (fun _ => rfl) (fun _ => trivial) (fun _ => rfl) ⟨arg rfl, arg rfl, arg rfl, trivial⟩ (fun _ _ _ _ h => h)) rfl (fun _ => ?_)
  refine s_st (s_alloc zt_26) rfl (fun b4 => ?_)
  refine s_st0 (s_cstore (out := [slv rT_api_Premise t3.1.Premises, slv rT_api_Rule t3.1.Rules, slv rT_api_Promotion t3.1.Promotions]) Tryz.sizeOf26 rfl (j := 1) rfl (part_agO (ψs := [slv rT_api_Premise t3.1.Premises, slv rT_api_Rule t3.1.Rules, slv rT_api_Promotion t3.1.Promotions]) rfl ⟨.inl slv_at, .inl slv_at, .inl slv_at, trivial⟩) rfl rfl rfl) (fun _ => ?_)
  refine l_nil ?_
  refine b_of (nrm [oc x2 [slv (rI .i64) t3.2.L, iv .i64 t3.2.At], oc b4 [slv rT_api_Premise t3.1.Premises, slv rT_api_Rule t3.1.Rules, slv rT_api_Promotion t3.1.Promotions]] rfl) ?_
  refine n_then (ref_seq (ref_region ?_))
  refine mv1 rfl rfl ?_
  refine pull fun t5 h_t5 => ?_
  refine s_st (s_callC [0] [true] (fun (x6 : (Value × List Nat)) => [oc x2 [slv (rI .i64) t5.2.L, iv .i64 t5.2.At]]) (fun (x6 : (Value × List Nat)) => [oa rT_api_Literal x6.1 x6.2 t5.1]) (fun (x6 : (Value × List Nat)) => pv x6.1) (args := [.tmp 14, .const (.int .i64 (6)), .const (.int .i64 (4))]) (caps := []) Tryz.call11 rfl (keep_Src_Literals_ok h_t5) ⟨rfl, rfl, trivial⟩ (fun _ => rfl) (fun _ => trivial) (fun _ => rfl) ⟨arg rfl, arg rfl, arg rfl, trivial⟩ (fun _ _ _ _ h => h)) rfl (fun x6 => ?_)
  refine b_of (frzL [15] (j := 2) rfl ⟨rfl, trivial⟩) ?_
  refine pull fun x7 h_x7 => ?_
  refine s_st (s_call (ψ := fun (_ : Unit) => slv rT_api_Literal x7) (args := [.tmp 15]) Tryz.call30 rfl (ref01_Normal_ok h_x7) ⟨arg rfl, trivial⟩ (fun _ _ _ _ h => h)) rfl (fun _ => ?_)
  refine as1 rfl rfl ?_
  refine l_nil (n_then (ref_seq (ref_seq (ref_region ?_))))
  refine as1 rfl rfl ?_
  refine l_nil (n_then ?_)
  refine ref_loopB (f := (law06_StrictBlames_l1 t3)) (Γl := (fun (s21 : (List T_api_Literal) × Int) (x22 : Unit) => [(4, pv (ptr b4 0)), (5, slv rT_api_Literal s21.1), (6, iv .i64 s21.2)])) (Ωl := (fun (s21 : (List T_api_Literal) × Int) (x22 : Unit) => [oc b4 [slv rT_api_Premise t3.1.Premises, slv rT_api_Rule t3.1.Rules, slv rT_api_Promotion t3.1.Promotions]])) (Γb := (fun (q35 : (List T_api_Literal)) (y36 : Unit) => [(4, pv (ptr b4 0)), (5, slv rT_api_Literal q35)])) (Ωb := (fun (q35 : (List T_api_Literal)) (y36 : Unit) => [oc b4 [slv rT_api_Premise t3.1.Premises, slv rT_api_Rule t3.1.Rules, slv rT_api_Promotion t3.1.Promotions]])) (x7, 0) () (weak [1] ⟨rfl, rfl, rfl, trivial⟩ ⟨rfl, trivial⟩) (fun s21 x22 => ?_) (fun q35 y36 => ?_)
  · unfold law06_StrictBlames_l1
    refine ref_seq (ref_seq (ref_region ?_))
    refine mv1 rfl rfl ?_
    refine mv1 rfl rfl ?_
    refine s_rd (r_len Tryz.underlying27 rfl) rfl ?_
    refine s_rd (r_lss rfl rfl) rfl ?_
    refine l_nil (n_then ?_)
    refine ref_cond rfl (fun hb23 => ?_) (fun hb23 => ?_)
    · refine ref_skip (n_then (ref_block (ref_seq ?_)))
      refine ref_draw [1, 2, 3, 5, 6, 7, 8] rfl (by kernel_rfl) (fun hok => ?_)
      refine a_rd (i := 1) hok rfl (by kernel_rfl) rfl (r_move rfl) rfl ?_
      refine a_rd (i := 2) hok rfl (by kernel_rfl) rfl (r_move rfl) rfl ?_
      refine pull fun t24 h_t24 => ?_
      refine a_rd (i := 3) hok rfl (by kernel_rfl) rfl (r_slice h_t24 Tryz.underlying27 el_29 rfl .dft (.of rfl)) rfl ?_
      refine a_rd (i := 5) hok rfl (by kernel_rfl) rfl (r_move rfl) rfl ?_
      refine a_rd (i := 6) hok rfl (by kernel_rfl) rfl (r_move rfl) rfl ?_
      refine a_rd (i := 7) hok rfl (by kernel_rfl) rfl (r_add rfl rfl) rfl ?_
      refine pull fun t25 h_t25 => ?_
      refine a_rd (i := 8) hok rfl (by kernel_rfl) rfl (r_slice h_t25 Tryz.underlying27 el_29 rfl (.of rfl) .dft) rfl ?_
      refine a_next hok 0 [] (by kernel_rfl) ?_ trivial
      refine a_st (i := 0) hok rfl rfl (s_bsliceO (xs := []) (ds := []) Tryz.underlying27 el_29 rfl (Nat.le_of_ble_eq_true rfl) trivial) (by intro _ h; cases h; rfl) (fun _ => ⟨trivial, ⟨trivial, ⟨trivial, ⟨trivial, ⟨trivial, ⟨trivial, ⟨trivial, trivial⟩⟩⟩⟩⟩⟩⟩) (fun o26 => ?_)
      refine pull fun t27 h_t27 => ?_
      refine a_next hok 4 [] (by kernel_rfl) ?_ trivial
      refine a_st (i := 4) hok rfl rfl (s_append h_t27 Tryz.underlying27 el_29 rfl (j := 1) rfl rfl) (by intro _ h; cases h; rfl) (fun _ => ⟨trivial, ⟨trivial, ⟨trivial, ⟨trivial, ⟨trivial, ⟨trivial, ⟨trivial, trivial⟩⟩⟩⟩⟩⟩⟩) (fun o28 => ?_)
      refine pull fun rest_29 h_rest_29 => ?_
      refine a_next hok 9 [] (by kernel_rfl) ?_ trivial
      refine a_st (i := 9) hok rfl rfl (s_append h_rest_29 Tryz.underlying27 el_29 rfl (j := 1) rfl rfl) (by intro _ h; cases h; rfl) (fun _ => ⟨trivial, ⟨trivial, ⟨trivial, ⟨trivial, ⟨trivial, ⟨trivial, ⟨trivial, trivial⟩⟩⟩⟩⟩⟩⟩) (fun o30 => ?_)
      refine a_next hok 10 [] (by kernel_rfl) ?_ trivial
      refine a_st (i := 10) hok rfl rfl (St.ofRd (r_assign rfl)) (by intro _ h; cases h; rfl) (fun _ => ⟨trivial, ⟨trivial, ⟨trivial, ⟨trivial, ⟨trivial, ⟨trivial, ⟨trivial, trivial⟩⟩⟩⟩⟩⟩⟩) (fun _ => ?_)
      refine a_fin hok (by kernel_rfl) ?_
      refine b_of (nrm [oc b4 [slv rT_api_Premise t3.1.Premises, slv rT_api_Rule t3.1.Rules, slv rT_api_Promotion t3.1.Promotions], oa rT_api_Literal o30.1 o30.2 rest_29] rfl) ?_
      refine n_then (ref_seq (ref_region ?_))
      refine s_rd (r_cloadS Tryz.isAgg26 Tryz.sizeOf26 rfl (j := 0) rfl rfl rfl) rfl ?_
      refine mv1 rfl rfl ?_
      refine b_of (frzL [30, 7, 32] (j := 1) rfl ⟨rfl, rfl, rfl, trivial⟩) ?_
      refine pull fun t31 h_t31 => ?_
      refine s_st (s_call (ψ := fun (_ : Unit) => slv rT_api_Literal t31) (args := [.tmp 31, .tmp 32]) Tryz.call13 rfl (strict_Closure_ok h_t31) ⟨arg rfl, arg rfl, trivial⟩ (fun _ _ _ _ h => h)) rfl (fun _ => ?_)
      refine pull fun t32 h_t32 => ?_
      refine s_st (s_call (ψ := fun (_ : Unit) => bv t32) (args := [.tmp 33]) Tryz.call31 rfl (literal_Consistent_ok h_t32) ⟨arg rfl, trivial⟩ (fun _ _ _ _ h => h)) rfl (fun _ => ?_)
      refine l_nil (n_then ?_)
      refine ref_cond rfl (fun hb33 => ?_) (fun hb33 => ?_)
      · refine ref_region ?_
        refine mv1 rfl rfl ?_
        refine s_rd (r_add rfl rfl) rfl ?_
        refine as1 rfl rfl ?_
        refine b_let (f := iv .i64) (t := 6) rfl fun i34 => ?_
        refine l_nil (n_block ?_)
        exact goB () (weak [0] ⟨rfl, rfl, rfl, trivial⟩ ⟨rfl, trivial⟩)
      refine ref_region ?_
      refine mv1 rfl rfl ?_
      refine as1 rfl rfl ?_
      refine l_nil (n_block ?_)
      exact goB () (weak [0] ⟨rfl, rfl, rfl, trivial⟩ ⟨rfl, trivial⟩)
    refine ref_exit (x_then ?_)
    exact brkB () (weak [0] ⟨rfl, rfl, trivial⟩ ⟨rfl, trivial⟩)
  refine n_then (ref_seq (ref_region ?_))
  refine s_rd (r_cloadS Tryz.isAgg26 Tryz.sizeOf26 rfl (j := 0) rfl rfl rfl) rfl ?_
  refine mv1 rfl rfl ?_
  refine pull fun c37 h_c37 => ?_
  refine s_st (s_call (ψ := fun (_ : Unit) => slv rT_api_Literal c37) (args := [.tmp 38, .tmp 39]) Tryz.call13 rfl (strict_Closure_ok h_c37) ⟨arg rfl, arg rfl, trivial⟩ (fun _ _ _ _ h => h)) rfl (fun _ => ?_)
  refine as1 rfl rfl ?_
  refine l_nil (n_then (ref_seq (ref_seq (ref_region ?_))))
  refine mv1 rfl rfl ?_
  refine pull fun t38 h_t38 => ?_
  refine s_st (s_call (ψ := fun (_ : Unit) => bv t38) (args := [.tmp 41]) Tryz.call31 rfl (literal_Consistent_ok h_t38) ⟨arg rfl, trivial⟩ (fun _ _ _ _ h => h)) rfl (fun _ => ?_)
  refine l_nil (n_then ?_)
  refine ref_cond rfl (fun hb39 => ?_) (fun hb39 => ?_)
  · refine ref_seq (ref_region ?_)
    refine pull fun t40 h_t40 => ?_
    refine s_st (s_call (ψ := fun (_ : Unit) => bv t40) (args := []) Tryz.call20 rfl (law06_awake_ok h_t40) trivial (fun _ _ _ _ h => h)) rfl (fun _ => ?_)
    refine as1 rfl rfl ?_
    refine l_nil (n_then (ref_ret (r_then ?_)))
    exact fin1 (.inl rfl) () [] rfl trivial rfl (rv_tmp rfl)
  refine ref_skip (n_then (ref_seq (ref_seq (ref_region ?_))))
  refine mv1 rfl rfl ?_
  refine s_rd (r_len Tryz.underlying27 rfl) rfl ?_
  refine mv1 rfl rfl ?_
  refine l_nil (n_then ?_)
  refine ref_loopX (f := (law06_StrictBlames_l2 q35 c37)) (Γl := (fun (s48 : Int) (x49 : Unit) => [(5, slv rT_api_Literal q35), (8, slv rT_api_Literal c37), (45, iv .i64 (q35.length : Int)), (46, iv .i64 s48)])) (Ωl := (fun (s48 : Int) (x49 : Unit) => [])) (Γb := (fun (q55 : Unit) (y56 : Unit) => [])) (Ωb := (fun (q55 : Unit) (y56 : Unit) => [])) (kr := (fun a : Bool => some a)) 0 () (weak [] ⟨rfl, rfl, rfl, rfl, trivial⟩ trivial) (fun s48 x49 => ?_) (fun q55 y56 => ?_)
  · unfold law06_StrictBlames_l2
    refine ref_seq (ref_region ?_)
    refine s_rd (r_lss rfl rfl) rfl ?_
    refine l_nil (n_then (ref_seq ?_))
    refine ref_cond rfl (fun hb50 => ?_) (fun hb50 => ?_)
    · refine ref_skip (n_then (ref_seq (ref_block (ref_seq (ref_region ?_)))))
      refine mv1 rfl rfl ?_
      refine as1 rfl rfl ?_
      refine l_nil (n_then (ref_seq (ref_region ?_)))
      refine mv1 rfl rfl ?_
      refine mv1 rfl rfl ?_
      refine mv1 rfl rfl ?_
      refine pull fun t51 h_t51 => ?_
      refine s_rd (r_index h_t51 Tryz.underlying27 el_29 rfl rfl) rfl ?_
      refine s_rd (r_load el_29 rfl) rfl ?_
      refine pull fun t52 h_t52 => ?_
      refine s_st (s_call (ψ := fun (_ : Unit) => ag [bv t52.Neg, sv t52.Name]) (args := [.tmp 53]) Tryz.call29 rfl (literal_Complement_ok h_t52) ⟨arg rfl, trivial⟩ (fun _ _ _ _ h => h)) rfl (fun _ => ?_)
      refine pull fun t53 h_t53 => ?_
      refine s_st (s_call (ψ := fun (_ : Unit) => bv t53) (args := [.tmp 49, .tmp 54]) Tryz.call32 rfl (literal_Has_ok h_t53) ⟨arg rfl, arg rfl, trivial⟩ (fun _ _ _ _ h => h)) rfl (fun _ => ?_)
      refine s_rd (r_not rfl) rfl ?_
      refine l_nil (n_then ?_)
      refine ref_cond rfl (fun hb54 => ?_) (fun hb54 => ?_)
      · refine ref_seq (ref_region ?_)
        refine as1 rfl rfl ?_
        refine l_nil (n_then (ref_ret (r_block (r_then ?_))))
        refine retX ?_
        refine r_block (r_then ?_)
        exact fin1 (.inl rfl) () [] rfl trivial rfl (rv_tmp rfl)
      refine ref_skip (n_block (n_then (ref_region ?_)))
      refine s_rd (r_add rfl rfl) rfl ?_
      refine mv1 rfl rfl ?_
      refine l_nil ?_
      exact goX () (weak [] ⟨rfl, rfl, rfl, rfl, trivial⟩ trivial)
    refine ref_exit (x_then ?_)
    exact brkX () (weak [] trivial trivial)
  refine n_then (ref_seq (ref_region ?_))
  refine pull fun t57 h_t57 => ?_
  refine s_st (s_call (ψ := fun (_ : Unit) => bv t57) (args := []) Tryz.call20 rfl (law06_awake_ok h_t57) trivial (fun _ _ _ _ h => h)) rfl (fun _ => ?_)
  refine as1 rfl rfl ?_
  refine l_nil (n_then (ref_ret ?_))
  exact fin1 (.inl rfl) () [] rfl trivial rfl (rv_tmp rfl)

end Go.Dc
