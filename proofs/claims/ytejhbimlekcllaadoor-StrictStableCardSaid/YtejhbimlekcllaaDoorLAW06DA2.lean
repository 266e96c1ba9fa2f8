/- Part LAW06D.A2 of a proof: lemmas. -/
import Derived.Test.YtejhbimlekcllaaDoorLAW06DA1
import Derived.Test.YtejhbimlekcllaaDoorProg
set_option linter.unusedVariables false
set_option linter.unusedSimpArgs false
set_option maxRecDepth 100000
set_option maxHeartbeats 4000000
namespace Go.Dc
open Go.Proofs
open Go.Proofs.Tryd (prog)

/-! deliberation/deliberationlaw06.awake -/
noncomputable def law06_awake_m  : Option (Bool) :=
  Option.bind (law06_one_m ) fun t1 =>
  Option.bind (idxM t1.Rules 0) fun t3 =>
  Option.bind (strict_Transpose_m t1) fun t4 =>
  Option.bind (idxM t1.Rules 0) fun t6 =>
  Option.bind (strict_Derives_m t1 t3.Body t6.Head) fun t7 =>
  bif t7 then
    Option.bind (strict_Closure_m t1 t3.Body) fun t8 =>
    bif (t8.length : Int) == 3 then
      bif t4.2 == 0 then
        bif (t4.1.Rules.length : Int) == 3 then
          Option.bind (idxM t4.1.Rules 1) fun t9 =>
          bif t9.Name.toList == (ByteArray.mk #[116, 49]).toList then
            Option.bind (idxM t4.1.Rules 1) fun t10 =>
            bif decide (t10.Head = (T_api_Literal.mk true (ByteArray.mk #[112]))) then
              Option.bind (strict_Closed_m t4.1) fun t11 =>
              bif t11 then
                Option.bind (strict_Closed_m t1) fun t12 =>
                bif !t12 then
                  Option.bind (strict_Sound_m t4.1) fun t13 =>
                  some t13
                else
                  some false
              else
                some false
            else
              some false
          else
            some false
        else
          some false
      else
        some false
    else
      some false
  else
    some false

theorem law06_awake_ok  {r : Bool} (hm : law06_awake_m  = some r) :
    FnOk prog 13 [] [] (fun (x : Unit) => [bv r]) (fun (x : Unit) => []) := by
  refine fn_ok (fn := Tryd.f13) (N := 71) (res := fun r x => [bv r]) (Ω1 := fun r x => []) Tryd.func13 rfl rfl hm rfl (fun E hM => ?_)
  unfold law06_awake_m
  refine ref_seq (ref_region ?_)
  refine as1 rfl rfl ?_
  refine l_nil (n_then (ref_seq (ref_region ?_)))
  refine pull fun t1 h_t1 => ?_
  refine s_st (s_call (ψ := fun (_ : Unit) => ag [slv rT_api_Premise t1.Premises, slv rT_api_Rule t1.Rules, slv rT_api_Promotion t1.Promotions]) (args := []) Tryd.call28 rfl (law06_one_ok h_t1) trivial (fun _ _ _ _ h => h)) rfl (fun _ => ?_)
  refine s_st (s_alloc zt_29) rfl (fun b2 => ?_)
  refine s_st0 (s_cstore (out := [slv rT_api_Premise t1.Premises, slv rT_api_Rule t1.Rules, slv rT_api_Promotion t1.Promotions]) Tryd.sizeOf29 rfl (j := 0) rfl (part_agO (ψs := [slv rT_api_Premise t1.Premises, slv rT_api_Rule t1.Rules, slv rT_api_Promotion t1.Promotions]) rfl ⟨.inl slv_at, .inl slv_at, .inl slv_at, trivial⟩) rfl rfl rfl) (fun _ => ?_)
  refine l_nil (n_then (ref_seq (ref_region ?_)))
  refine s_rd (r_faddr (fo := 1) Tryd.underlying29 rfl rfl Tryd.sizeOf26 rfl) rfl ?_
  refine s_rd (r_cload Tryd.isAgg26 rfl (j := 0) rfl rfl) rfl ?_
  refine pull fun t3 h_t3 => ?_
  refine s_rd (r_index h_t3 Tryd.underlying26 el_40 rfl rfl) rfl ?_
  refine s_rd (r_fea (fo := 3) (ρ := rT_api_Rule) (y := t3) (ρ' := (rSl rT_api_Literal)) (z := t3.Body) Tryd.underlying40 rfl rfl Tryd.sizeOf31 rfl rfl rfl) rfl ?_
  refine s_rd (r_load el_31 rfl) rfl ?_
  refine as1 rfl rfl ?_
  refine l_nil (n_then (ref_seq (ref_region ?_)))
  refine s_rd (r_cloadS Tryd.isAgg29 Tryd.sizeOf29 rfl (j := 0) rfl rfl rfl) rfl ?_
  refine pull fun t4 h_t4 => ?_
  refine s_st (s_call (ψ := fun (_ : Unit) => tup [ag [slv rT_api_Premise t4.1.Premises, slv rT_api_Rule t4.1.Rules, slv rT_api_Promotion t4.1.Promotions], iv .i64 t4.2]) (args := [.tmp 12]) Tryd.call14 rfl (strict_Transpose_ok h_t4) ⟨arg rfl, trivial⟩ (fun _ _ _ _ h => h)) rfl (fun _ => ?_)
  refine mv1 rfl rfl ?_
  refine s_rd (r_extract rfl rfl) rfl ?_
  refine s_rd (r_extract rfl rfl) rfl ?_
  refine s_st (s_alloc zt_29) rfl (fun b5 => ?_)
  refine s_st0 (s_cstore (out := [slv rT_api_Premise t4.1.Premises, slv rT_api_Rule t4.1.Rules, slv rT_api_Promotion t4.1.Promotions]) Tryd.sizeOf29 rfl (j := 1) rfl (part_agO (ψs := [slv rT_api_Premise t4.1.Premises, slv rT_api_Rule t4.1.Rules, slv rT_api_Promotion t4.1.Promotions]) rfl ⟨.inl slv_at, .inl slv_at, .inl slv_at, trivial⟩) rfl rfl rfl) (fun _ => ?_)
  refine as1 rfl rfl ?_
  refine l_nil ?_
  refine b_of (nrm [oc b2 [slv rT_api_Premise t1.Premises, slv rT_api_Rule t1.Rules, slv rT_api_Promotion t1.Promotions], oc b5 [slv rT_api_Premise t4.1.Premises, slv rT_api_Rule t4.1.Rules, slv rT_api_Promotion t4.1.Promotions]] rfl) ?_
  refine n_then (ref_seq ?_)
  refine ref_draw [0, 1, 2, 3, 4, 5, 6, 8, 9, 10, 12, 13, 14, 15, 16, 17, 18, 19, 20, 21, 22, 23, 24, 25, 26, 27, 28, 29, 30, 31, 32, 33, 34, 35, 36, 37, 38, 39, 40, 41, 42, 43, 45, 46, 47, 49, 50, 51, 52, 54] rfl (by kernel_rfl) (fun hok => ?_)
  refine a_rd (i := 0) hok rfl (by kernel_rfl) rfl (r_cloadS Tryd.isAgg29 Tryd.sizeOf29 rfl (j := 0) rfl rfl rfl) rfl ?_
  refine a_rd (i := 1) hok rfl (by kernel_rfl) rfl (r_move rfl) rfl ?_
  refine a_rd (i := 2) hok rfl (by kernel_rfl) rfl (r_faddr (fo := 1) Tryd.underlying29 rfl rfl Tryd.sizeOf26 rfl) rfl ?_
  refine a_rd (i := 3) hok rfl (by kernel_rfl) rfl (r_cload Tryd.isAgg26 rfl (j := 0) rfl rfl) rfl ?_
  refine pull fun t6 h_t6 => ?_
  refine a_rd (i := 4) hok rfl (by kernel_rfl) rfl (r_index h_t6 Tryd.underlying26 el_40 rfl rfl) rfl ?_
  refine a_rd (i := 5) hok rfl (by kernel_rfl) rfl (r_fea (fo := 4) (ρ := rT_api_Rule) (y := t6) (ρ' := rT_api_Literal) (z := t6.Head) Tryd.underlying40 rfl rfl Tryd.sizeOf35 rfl rfl rfl) rfl ?_
  refine a_rd (i := 6) hok rfl (by kernel_rfl) rfl (r_load el_35 rfl) rfl ?_
  refine pull fun t7 h_t7 => ?_
  refine a_next hok 7 [] (by kernel_rfl) ?_ trivial
  refine a_st (i := 7) hok rfl rfl (s_call (ψ := fun (_ : Unit) => bv t7) (args := [.tmp 16, .tmp 17, .tmp 22]) Tryd.call29 rfl (strict_Derives_ok h_t7) ⟨arg rfl, arg rfl, arg rfl, trivial⟩ (fun _ _ _ _ h => h)) (by intro _ h; cases h; rfl) (fun _ => ⟨trivial, ⟨trivial, ⟨trivial, ⟨⟨⟨rfl, rfl⟩, trivial⟩, ⟨trivial, ⟨trivial, ⟨trivial, trivial⟩⟩⟩⟩⟩⟩⟩) (fun _ => ?_)
  refine a_rd (i := 8) hok rfl (by kernel_rfl) rfl (r_move rfl) rfl ?_
  refine b_split (t := 24) rfl (fun _ => ?_) (fun _ => ?_)
  · refine a_rdOn (i := 9) hok rfl rfl rfl rfl (by kernel_rfl) rfl (r_cloadS Tryd.isAgg29 Tryd.sizeOf29 rfl (j := 0) rfl rfl rfl) rfl ?_
    refine a_rdOn (i := 10) hok rfl rfl rfl rfl (by kernel_rfl) rfl (r_move rfl) rfl ?_
    refine pull fun t8 h_t8 => ?_
    refine a_next hok 11 [] (by kernel_rfl) ?_ trivial
    refine a_stOn (i := 11) hok rfl rfl rfl rfl rfl (s_call (ψ := fun (_ : Unit) => slv rT_api_Literal t8) (args := [.tmp 25, .tmp 26]) Tryd.call8 rfl (strict_Closure_ok h_t8) ⟨arg rfl, arg rfl, trivial⟩ (fun _ _ _ _ h => h)) (by intro _ h; cases h; rfl) (fun _ => ⟨trivial, ⟨trivial, ⟨trivial, ⟨trivial, ⟨trivial, ⟨trivial, ⟨⟨⟨rfl, rfl⟩, trivial⟩, ⟨trivial, ⟨trivial, ⟨⟨⟨rfl, rfl⟩, trivial⟩, trivial⟩⟩⟩⟩⟩⟩⟩⟩⟩⟩) (fun _ => ?_)
    refine a_rdOn (i := 12) hok rfl rfl rfl rfl (by kernel_rfl) rfl (r_len Tryd.underlying31 rfl) rfl ?_
    refine a_rdOn (i := 13) hok rfl rfl rfl rfl (by kernel_rfl) rfl (r_eql rfl rfl) rfl ?_
    refine a_rd (i := 14) hok rfl (by kernel_rfl) rfl (r_pickT rfl rfl) rfl ?_
    refine a_rd (i := 15) hok rfl (by kernel_rfl) rfl (r_move rfl) rfl ?_
    refine b_split (t := 31) rfl (fun _ => ?_) (fun _ => ?_)
    · refine a_rdOn (i := 16) hok rfl rfl rfl rfl (by kernel_rfl) rfl (r_move rfl) rfl ?_
      refine a_rdOn (i := 17) hok rfl rfl rfl rfl (by kernel_rfl) rfl (r_eql rfl rfl) rfl ?_
      refine a_rd (i := 18) hok rfl (by kernel_rfl) rfl (r_pickT rfl rfl) rfl ?_
      refine a_rd (i := 19) hok rfl (by kernel_rfl) rfl (r_move rfl) rfl ?_
      refine b_split (t := 35) rfl (fun _ => ?_) (fun _ => ?_)
      · refine a_rdOn (i := 20) hok rfl rfl rfl rfl (by kernel_rfl) rfl (r_faddr (fo := 1) Tryd.underlying29 rfl rfl Tryd.sizeOf26 rfl) rfl ?_
        refine a_rdOn (i := 21) hok rfl rfl rfl rfl (by kernel_rfl) rfl (r_cload Tryd.isAgg26 rfl (j := 1) rfl rfl) rfl ?_
        refine a_rdOn (i := 22) hok rfl rfl rfl rfl (by kernel_rfl) rfl (r_len Tryd.underlying26 rfl) rfl ?_
        refine a_rdOn (i := 23) hok rfl rfl rfl rfl (by kernel_rfl) rfl (r_eql rfl rfl) rfl ?_
        refine a_rd (i := 24) hok rfl (by kernel_rfl) rfl (r_pickT rfl rfl) rfl ?_
        refine a_rd (i := 25) hok rfl (by kernel_rfl) rfl (r_move rfl) rfl ?_
        refine b_split (t := 41) rfl (fun _ => ?_) (fun _ => ?_)
        · refine a_rdOn (i := 26) hok rfl rfl rfl rfl (by kernel_rfl) rfl (r_faddr (fo := 1) Tryd.underlying29 rfl rfl Tryd.sizeOf26 rfl) rfl ?_
          refine a_rdOn (i := 27) hok rfl rfl rfl rfl (by kernel_rfl) rfl (r_cload Tryd.isAgg26 rfl (j := 1) rfl rfl) rfl ?_
          refine pull fun t9 h_t9 => ?_
          refine a_rdOn (i := 28) hok rfl rfl rfl rfl (by kernel_rfl) rfl (r_index h_t9 Tryd.underlying26 el_40 rfl rfl) rfl ?_
          refine a_rdOn (i := 29) hok rfl rfl rfl rfl (by kernel_rfl) rfl (r_fea (fo := 0) (ρ := rT_api_Rule) (y := t9) (ρ' := rS) (z := t9.Name) Tryd.underlying40 rfl rfl Tryd.sizeOf9 rfl rfl rfl) rfl ?_
          refine a_rdOn (i := 30) hok rfl rfl rfl rfl (by kernel_rfl) rfl (r_load el_9 rfl) rfl ?_
          refine a_rdOn (i := 31) hok rfl rfl rfl rfl (by kernel_rfl) rfl (r_seql rfl rfl) rfl ?_
          refine a_rd (i := 32) hok rfl (by kernel_rfl) rfl (r_pickT rfl rfl) rfl ?_
          refine a_rd (i := 33) hok rfl (by kernel_rfl) rfl (r_move rfl) rfl ?_
          refine b_split (t := 49) rfl (fun _ => ?_) (fun _ => ?_)
          · refine a_rdOn (i := 34) hok rfl rfl rfl rfl (by kernel_rfl) rfl (r_faddr (fo := 1) Tryd.underlying29 rfl rfl Tryd.sizeOf26 rfl) rfl ?_
            refine a_rdOn (i := 35) hok rfl rfl rfl rfl (by kernel_rfl) rfl (r_cload Tryd.isAgg26 rfl (j := 1) rfl rfl) rfl ?_
            refine pull fun t10 h_t10 => ?_
            refine a_rdOn (i := 36) hok rfl rfl rfl rfl (by kernel_rfl) rfl (r_index h_t10 Tryd.underlying26 el_40 rfl rfl) rfl ?_
            refine a_rdOn (i := 37) hok rfl rfl rfl rfl (by kernel_rfl) rfl (r_fea (fo := 4) (ρ := rT_api_Rule) (y := t10) (ρ' := rT_api_Literal) (z := t10.Head) Tryd.underlying40 rfl rfl Tryd.sizeOf35 rfl rfl rfl) rfl ?_
            refine a_rdOn (i := 38) hok rfl rfl rfl rfl (by kernel_rfl) rfl (r_load el_35 rfl) rfl ?_
            refine a_rdOn (i := 39) hok rfl rfl rfl rfl (by kernel_rfl) rfl (r_build (ps := [(0, .const (.bool true)), (1, .const (.string (ByteArray.mk #[112])))]) (rs := [(0, [bv true]), (1, [sv (ByteArray.mk #[112])])]) st_35 zs_35 ⟨rfl, (part_at rfl bv_at), ⟨rfl, (part_at rfl sv_at), trivial⟩⟩ rfl rfl) rfl ?_
            refine a_rdOn (i := 40) hok rfl rfl rfl rfl (by kernel_rfl) rfl (r_steql (u := t10.Head) (v := (T_api_Literal.mk true (ByteArray.mk #[112]))) eq_35 rfl rfl rfl rfl) rfl ?_
            refine a_rd (i := 41) hok rfl (by kernel_rfl) rfl (r_pickT rfl rfl) rfl ?_
            refine a_rd (i := 42) hok rfl (by kernel_rfl) rfl (r_move rfl) rfl ?_
            refine b_split (t := 58) rfl (fun _ => ?_) (fun _ => ?_)
            · refine a_rdOn (i := 43) hok rfl rfl rfl rfl (by kernel_rfl) rfl (r_cloadS Tryd.isAgg29 Tryd.sizeOf29 rfl (j := 1) rfl rfl rfl) rfl ?_
              refine pull fun t11 h_t11 => ?_
              refine a_next hok 44 [] (by kernel_rfl) ?_ trivial
              refine a_stOn (i := 44) hok rfl rfl rfl rfl rfl (s_call (ψ := fun (_ : Unit) => bv t11) (args := [.tmp 59]) Tryd.call16 rfl (strict_Closed_ok h_t11) ⟨arg rfl, trivial⟩ (fun _ _ _ _ h => h)) (by intro _ h; cases h; rfl) (fun _ => ⟨trivial, ⟨trivial, ⟨trivial, ⟨trivial, ⟨trivial, ⟨trivial, ⟨trivial, ⟨trivial, ⟨⟨⟨rfl, rfl⟩, trivial⟩, ⟨trivial, ⟨trivial, ⟨trivial, ⟨trivial, ⟨trivial, ⟨trivial, ⟨trivial, ⟨⟨⟨rfl, rfl⟩, trivial⟩, ⟨trivial, ⟨trivial, ⟨trivial, ⟨trivial, ⟨trivial, ⟨⟨⟨rfl, rfl⟩, trivial⟩, ⟨trivial, ⟨trivial, ⟨trivial, ⟨trivial, ⟨trivial, ⟨trivial, ⟨trivial, ⟨trivial, ⟨trivial, ⟨trivial, ⟨⟨⟨rfl, rfl⟩, trivial⟩, ⟨trivial, ⟨trivial, ⟨trivial, ⟨trivial, ⟨⟨⟨rfl, rfl⟩, trivial⟩, ⟨trivial, ⟨trivial, ⟨⟨⟨rfl, rfl⟩, trivial⟩, trivial⟩⟩⟩⟩⟩⟩⟩⟩⟩⟩⟩⟩⟩⟩⟩⟩⟩⟩⟩⟩⟩⟩⟩⟩⟩⟩⟩⟩⟩⟩⟩⟩⟩⟩⟩⟩⟩⟩⟩⟩⟩⟩) (fun _ => ?_)
              refine a_rd (i := 45) hok rfl (by kernel_rfl) rfl (r_pickT rfl rfl) rfl ?_
              refine a_rd (i := 46) hok rfl (by kernel_rfl) rfl (r_move rfl) rfl ?_
              refine b_split (t := 62) rfl (fun _ => ?_) (fun _ => ?_)
              · refine a_rdOn (i := 47) hok rfl rfl rfl rfl (by kernel_rfl) rfl (r_cloadS Tryd.isAgg29 Tryd.sizeOf29 rfl (j := 0) rfl rfl rfl) rfl ?_
                refine pull fun t12 h_t12 => ?_
                refine a_next hok 48 [] (by kernel_rfl) ?_ trivial
                refine a_stOn (i := 48) hok rfl rfl rfl rfl rfl (s_call (ψ := fun (_ : Unit) => bv t12) (args := [.tmp 63]) Tryd.call16 rfl (strict_Closed_ok h_t12) ⟨arg rfl, trivial⟩ (fun _ _ _ _ h => h)) (by intro _ h; cases h; rfl) (fun _ => ⟨trivial, ⟨trivial, ⟨trivial, ⟨⟨⟨rfl, rfl⟩, trivial⟩, ⟨trivial, ⟨trivial, ⟨trivial, ⟨trivial, ⟨trivial, ⟨trivial, ⟨trivial, ⟨⟨⟨rfl, rfl⟩, trivial⟩, ⟨trivial, ⟨trivial, ⟨trivial, ⟨trivial, ⟨trivial, ⟨trivial, ⟨trivial, ⟨⟨⟨rfl, rfl⟩, trivial⟩, ⟨trivial, ⟨trivial, ⟨trivial, ⟨trivial, ⟨trivial, ⟨⟨⟨rfl, rfl⟩, trivial⟩, ⟨trivial, ⟨trivial, ⟨trivial, ⟨trivial, ⟨trivial, ⟨trivial, ⟨trivial, ⟨trivial, ⟨trivial, ⟨trivial, ⟨⟨⟨rfl, rfl⟩, trivial⟩, ⟨trivial, ⟨trivial, ⟨trivial, ⟨trivial, ⟨⟨⟨rfl, rfl⟩, trivial⟩, ⟨trivial, ⟨trivial, ⟨⟨⟨rfl, rfl⟩, trivial⟩, trivial⟩⟩⟩⟩⟩⟩⟩⟩⟩⟩⟩⟩⟩⟩⟩⟩⟩⟩⟩⟩⟩⟩⟩⟩⟩⟩⟩⟩⟩⟩⟩⟩⟩⟩⟩⟩⟩⟩⟩⟩⟩⟩⟩⟩⟩) (fun _ => ?_)
                refine a_rdOn (i := 49) hok rfl rfl rfl rfl (by kernel_rfl) rfl (r_not rfl) rfl ?_
                refine a_rd (i := 50) hok rfl (by kernel_rfl) rfl (r_pickT rfl rfl) rfl ?_
                refine a_rd (i := 51) hok rfl (by kernel_rfl) rfl (r_move rfl) rfl ?_
                refine b_split (t := 67) rfl (fun _ => ?_) (fun _ => ?_)
                · refine a_rdOn (i := 52) hok rfl rfl rfl rfl (by kernel_rfl) rfl (r_cloadS Tryd.isAgg29 Tryd.sizeOf29 rfl (j := 1) rfl rfl rfl) rfl ?_
                  refine pull fun t13 h_t13 => ?_
                  refine a_next hok 53 [] (by kernel_rfl) ?_ trivial
                  refine a_stOn (i := 53) hok rfl rfl rfl rfl rfl (s_call (ψ := fun (_ : Unit) => bv t13) (args := [.tmp 68]) Tryd.call30 rfl (strict_Sound_ok h_t13) ⟨arg rfl, trivial⟩ (fun _ _ _ _ h => h)) (by intro _ h; cases h; rfl) (fun _ => ⟨trivial, ⟨trivial, ⟨trivial, ⟨trivial, ⟨⟨⟨rfl, rfl⟩, trivial⟩, ⟨trivial, ⟨trivial, ⟨⟨⟨rfl, rfl⟩, trivial⟩, ⟨trivial, ⟨trivial, ⟨trivial, ⟨trivial, ⟨trivial, ⟨trivial, ⟨trivial, ⟨⟨⟨rfl, rfl⟩, trivial⟩, ⟨trivial, ⟨trivial, ⟨trivial, ⟨trivial, ⟨trivial, ⟨trivial, ⟨trivial, ⟨⟨⟨rfl, rfl⟩, trivial⟩, ⟨trivial, ⟨trivial, ⟨trivial, ⟨trivial, ⟨trivial, ⟨⟨⟨rfl, rfl⟩, trivial⟩, ⟨trivial, ⟨trivial, ⟨trivial, ⟨trivial, ⟨trivial, ⟨trivial, ⟨trivial, ⟨trivial, ⟨trivial, ⟨trivial, ⟨⟨⟨rfl, rfl⟩, trivial⟩, ⟨trivial, ⟨trivial, ⟨trivial, ⟨trivial, ⟨⟨⟨rfl, rfl⟩, trivial⟩, ⟨trivial, ⟨trivial, ⟨⟨⟨rfl, rfl⟩, trivial⟩, trivial⟩⟩⟩⟩⟩⟩⟩⟩⟩⟩⟩⟩⟩⟩⟩⟩⟩⟩⟩⟩⟩⟩⟩⟩⟩⟩⟩⟩⟩⟩⟩⟩⟩⟩⟩⟩⟩⟩⟩⟩⟩⟩⟩⟩⟩⟩⟩⟩⟩) (fun _ => ?_)
                  refine a_rd (i := 54) hok rfl (by kernel_rfl) rfl (r_pickT rfl rfl) rfl ?_
                  refine a_next hok 55 [] (by kernel_rfl) ?_ trivial
                  refine a_st (i := 55) hok rfl rfl (St.ofRd (r_assign rfl)) (by intro _ h; cases h; rfl) (fun _ => ⟨trivial, ⟨trivial, ⟨trivial, ⟨trivial, ⟨trivial, ⟨trivial, ⟨trivial, ⟨trivial, ⟨trivial, ⟨trivial, ⟨trivial, ⟨trivial, ⟨trivial, ⟨trivial, ⟨trivial, ⟨trivial, ⟨trivial, ⟨trivial, ⟨trivial, ⟨trivial, ⟨trivial, ⟨trivial, ⟨trivial, ⟨trivial, ⟨trivial, ⟨trivial, ⟨trivial, ⟨trivial, ⟨trivial, ⟨trivial, ⟨trivial, ⟨trivial, ⟨trivial, ⟨trivial, ⟨trivial, ⟨trivial, ⟨trivial, ⟨trivial, ⟨trivial, ⟨trivial, ⟨trivial, ⟨trivial, ⟨trivial, ⟨trivial, ⟨trivial, ⟨trivial, ⟨trivial, ⟨trivial, ⟨trivial, ⟨trivial, trivial⟩⟩⟩⟩⟩⟩⟩⟩⟩⟩⟩⟩⟩⟩⟩⟩⟩⟩⟩⟩⟩⟩⟩⟩⟩⟩⟩⟩⟩⟩⟩⟩⟩⟩⟩⟩⟩⟩⟩⟩⟩⟩⟩⟩⟩⟩⟩⟩⟩⟩) (fun _ => ?_)
                  refine a_fin hok (by kernel_rfl) ?_
                  refine b_of (nrm [oc b2 [slv rT_api_Premise t1.Premises, slv rT_api_Rule t1.Rules, slv rT_api_Promotion t1.Promotions], oc b5 [slv rT_api_Premise t4.1.Premises, slv rT_api_Rule t4.1.Rules, slv rT_api_Promotion t4.1.Promotions]] rfl) ?_
                  refine n_then (ref_ret ?_)
                  exact fin1 (.inl rfl) () [] rfl trivial rfl (rv_tmp rfl)
                refine a_off (i := 52) hok rfl rfl rfl rfl rfl (by kernel_rfl) rfl rfl ?_
                refine a_next hok 53 [] (by kernel_rfl) ?_ trivial
                refine a_stOff (i := 53) hok rfl rfl rfl rfl rfl rfl (by intro _ h; cases h; rfl) ⟨trivial, ⟨trivial, ⟨trivial, ⟨trivial, ⟨⟨⟨rfl, rfl⟩, trivial⟩, ⟨trivial, ⟨trivial, ⟨⟨⟨rfl, rfl⟩, trivial⟩, ⟨trivial, ⟨trivial, ⟨trivial, ⟨trivial, ⟨trivial, ⟨trivial, ⟨trivial, ⟨⟨⟨rfl, rfl⟩, trivial⟩, ⟨trivial, ⟨trivial, ⟨trivial, ⟨trivial, ⟨trivial, ⟨trivial, ⟨trivial, ⟨⟨⟨rfl, rfl⟩, trivial⟩, ⟨trivial, ⟨trivial, ⟨trivial, ⟨trivial, ⟨trivial, ⟨⟨⟨rfl, rfl⟩, trivial⟩, ⟨trivial, ⟨trivial, ⟨trivial, ⟨trivial, ⟨trivial, ⟨trivial, ⟨trivial, ⟨trivial, ⟨trivial, ⟨trivial, ⟨⟨⟨rfl, rfl⟩, trivial⟩, ⟨trivial, ⟨trivial, ⟨trivial, ⟨trivial, ⟨⟨⟨rfl, rfl⟩, trivial⟩, ⟨trivial, ⟨trivial, ⟨⟨⟨rfl, rfl⟩, trivial⟩, trivial⟩⟩⟩⟩⟩⟩⟩⟩⟩⟩⟩⟩⟩⟩⟩⟩⟩⟩⟩⟩⟩⟩⟩⟩⟩⟩⟩⟩⟩⟩⟩⟩⟩⟩⟩⟩⟩⟩⟩⟩⟩⟩⟩⟩⟩⟩⟩⟩⟩ ?_
                refine a_rd (i := 54) hok rfl (by kernel_rfl) rfl (r_pickF rfl rfl) rfl ?_
                refine a_next hok 55 [] (by kernel_rfl) ?_ trivial
                refine a_st (i := 55) hok rfl rfl (St.ofRd (r_assign rfl)) (by intro _ h; cases h; rfl) (fun _ => ⟨trivial, ⟨trivial, ⟨trivial, ⟨trivial, ⟨trivial, ⟨trivial, ⟨trivial, ⟨trivial, ⟨trivial, ⟨trivial, ⟨trivial, ⟨trivial, ⟨trivial, ⟨trivial, ⟨trivial, ⟨trivial, ⟨trivial, ⟨trivial, ⟨trivial, ⟨trivial, ⟨trivial, ⟨trivial, ⟨trivial, ⟨trivial, ⟨trivial, ⟨trivial, ⟨trivial, ⟨trivial, ⟨trivial, ⟨trivial, ⟨trivial, ⟨trivial, ⟨trivial, ⟨trivial, ⟨trivial, ⟨trivial, ⟨trivial, ⟨trivial, ⟨trivial, ⟨trivial, ⟨trivial, ⟨trivial, ⟨trivial, ⟨trivial, ⟨trivial, ⟨trivial, ⟨trivial, ⟨trivial, ⟨trivial, ⟨trivial, trivial⟩⟩⟩⟩⟩⟩⟩⟩⟩⟩⟩⟩⟩⟩⟩⟩⟩⟩⟩⟩⟩⟩⟩⟩⟩⟩⟩⟩⟩⟩⟩⟩⟩⟩⟩⟩⟩⟩⟩⟩⟩⟩⟩⟩⟩⟩⟩⟩⟩⟩) (fun _ => ?_)
                refine a_fin hok (by kernel_rfl) ?_
                refine b_of (nrm [oc b2 [slv rT_api_Premise t1.Premises, slv rT_api_Rule t1.Rules, slv rT_api_Promotion t1.Promotions], oc b5 [slv rT_api_Premise t4.1.Premises, slv rT_api_Rule t4.1.Rules, slv rT_api_Promotion t4.1.Promotions]] rfl) ?_
                refine n_then (ref_ret ?_)
                exact fin1 (.inl rfl) () [] rfl trivial rfl (rv_tmp rfl)
              refine a_off (i := 47) hok rfl rfl rfl rfl rfl (by kernel_rfl) rfl rfl ?_
              refine a_next hok 48 [] (by kernel_rfl) ?_ trivial
              refine a_stOff (i := 48) hok rfl rfl rfl rfl rfl rfl (by intro _ h; cases h; rfl) ⟨trivial, ⟨trivial, ⟨trivial, ⟨⟨⟨rfl, rfl⟩, trivial⟩, ⟨trivial, ⟨trivial, ⟨trivial, ⟨trivial, ⟨trivial, ⟨trivial, ⟨trivial, ⟨⟨⟨rfl, rfl⟩, trivial⟩, ⟨trivial, ⟨trivial, ⟨trivial, ⟨trivial, ⟨trivial, ⟨trivial, ⟨trivial, ⟨⟨⟨rfl, rfl⟩, trivial⟩, ⟨trivial, ⟨trivial, ⟨trivial, ⟨trivial, ⟨trivial, ⟨⟨⟨rfl, rfl⟩, trivial⟩, ⟨trivial, ⟨trivial, ⟨trivial, ⟨trivial, ⟨trivial, ⟨trivial, ⟨trivial, ⟨trivial, ⟨trivial, ⟨trivial, ⟨⟨⟨rfl, rfl⟩, trivial⟩, ⟨trivial, ⟨trivial, ⟨trivial, ⟨trivial, ⟨⟨⟨rfl, rfl⟩, trivial⟩, ⟨trivial, ⟨trivial, ⟨⟨⟨rfl, rfl⟩, trivial⟩, trivial⟩⟩⟩⟩⟩⟩⟩⟩⟩⟩⟩⟩⟩⟩⟩⟩⟩⟩⟩⟩⟩⟩⟩⟩⟩⟩⟩⟩⟩⟩⟩⟩⟩⟩⟩⟩⟩⟩⟩⟩⟩⟩⟩⟩⟩ ?_
              refine a_off (i := 49) hok rfl rfl rfl rfl rfl (by kernel_rfl) rfl rfl ?_
              refine a_rd (i := 50) hok rfl (by kernel_rfl) rfl (r_pickF rfl rfl) rfl ?_
              refine a_rd (i := 51) hok rfl (by kernel_rfl) rfl (r_move rfl) rfl ?_
              refine a_off (i := 52) hok rfl rfl rfl rfl rfl (by kernel_rfl) rfl rfl ?_
              refine a_next hok 53 [] (by kernel_rfl) ?_ trivial
              refine a_stOff (i := 53) hok rfl rfl rfl rfl rfl rfl (by intro _ h; cases h; rfl) ⟨trivial, ⟨trivial, ⟨trivial, ⟨trivial, ⟨trivial, ⟨trivial, ⟨trivial, ⟨⟨⟨rfl, rfl⟩, trivial⟩, ⟨trivial, ⟨trivial, ⟨trivial, ⟨trivial, ⟨trivial, ⟨trivial, ⟨trivial, ⟨⟨⟨rfl, rfl⟩, trivial⟩, ⟨trivial, ⟨trivial, ⟨trivial, ⟨trivial, ⟨trivial, ⟨trivial, ⟨trivial, ⟨⟨⟨rfl, rfl⟩, trivial⟩, ⟨trivial, ⟨trivial, ⟨trivial, ⟨trivial, ⟨trivial, ⟨⟨⟨rfl, rfl⟩, trivial⟩, ⟨trivial, ⟨trivial, ⟨trivial, ⟨trivial, ⟨trivial, ⟨trivial, ⟨trivial, ⟨trivial, ⟨trivial, ⟨trivial, ⟨⟨⟨rfl, rfl⟩, trivial⟩, ⟨trivial, ⟨trivial, ⟨trivial, ⟨trivial, ⟨⟨⟨rfl, rfl⟩, trivial⟩, ⟨trivial, ⟨trivial, ⟨⟨⟨rfl, rfl⟩, trivial⟩, trivial⟩⟩⟩⟩⟩⟩⟩⟩⟩⟩⟩⟩⟩⟩⟩⟩⟩⟩⟩⟩⟩⟩⟩⟩⟩⟩⟩⟩⟩⟩⟩⟩⟩⟩⟩⟩⟩⟩⟩⟩⟩⟩⟩⟩⟩⟩⟩⟩⟩ ?_
              refine a_rd (i := 54) hok rfl (by kernel_rfl) rfl (r_pickF rfl rfl) rfl ?_
              refine a_next hok 55 [] (by kernel_rfl) ?_ trivial
              refine a_st (i := 55) hok rfl rfl (St.ofRd (r_assign rfl)) (by intro _ h; cases h; rfl) (fun _ => ⟨trivial, ⟨trivial, ⟨trivial, ⟨trivial, ⟨trivial, ⟨trivial, ⟨trivial, ⟨trivial, ⟨trivial, ⟨trivial, ⟨trivial, ⟨trivial, ⟨trivial, ⟨trivial, ⟨trivial, ⟨trivial, ⟨trivial, ⟨trivial, ⟨trivial, ⟨trivial, ⟨trivial, ⟨trivial, ⟨trivial, ⟨trivial, ⟨trivial, ⟨trivial, ⟨trivial, ⟨trivial, ⟨trivial, ⟨trivial, ⟨trivial, ⟨trivial, ⟨trivial, ⟨trivial, ⟨trivial, ⟨trivial, ⟨trivial, ⟨trivial, ⟨trivial, ⟨trivial, ⟨trivial, ⟨trivial, ⟨trivial, ⟨trivial, ⟨trivial, ⟨trivial, ⟨trivial, ⟨trivial, ⟨trivial, ⟨trivial, trivial⟩⟩⟩⟩⟩⟩⟩⟩⟩⟩⟩⟩⟩⟩⟩⟩⟩⟩⟩⟩⟩⟩⟩⟩⟩⟩⟩⟩⟩⟩⟩⟩⟩⟩⟩⟩⟩⟩⟩⟩⟩⟩⟩⟩⟩⟩⟩⟩⟩⟩) (fun _ => ?_)
              refine a_fin hok (by kernel_rfl) ?_
              refine b_of (nrm [oc b2 [slv rT_api_Premise t1.Premises, slv rT_api_Rule t1.Rules, slv rT_api_Promotion t1.Promotions], oc b5 [slv rT_api_Premise t4.1.Premises, slv rT_api_Rule t4.1.Rules, slv rT_api_Promotion t4.1.Promotions]] rfl) ?_
              refine n_then (ref_ret ?_)
              exact fin1 (.inl rfl) () [] rfl trivial rfl (rv_tmp rfl)
            refine a_off (i := 43) hok rfl rfl rfl rfl rfl (by kernel_rfl) rfl rfl ?_
            refine a_next hok 44 [] (by kernel_rfl) ?_ trivial
            refine a_stOff (i := 44) hok rfl rfl rfl rfl rfl rfl (by intro _ h; cases h; rfl) ⟨trivial, ⟨trivial, ⟨trivial, ⟨trivial, ⟨trivial, ⟨trivial, ⟨trivial, ⟨trivial, ⟨⟨⟨rfl, rfl⟩, trivial⟩, ⟨trivial, ⟨trivial, ⟨trivial, ⟨trivial, ⟨trivial, ⟨trivial, ⟨trivial, ⟨⟨⟨rfl, rfl⟩, trivial⟩, ⟨trivial, ⟨trivial, ⟨trivial, ⟨trivial, ⟨trivial, ⟨⟨⟨rfl, rfl⟩, trivial⟩, ⟨trivial, ⟨trivial, ⟨trivial, ⟨trivial, ⟨trivial, ⟨trivial, ⟨trivial, ⟨trivial, ⟨trivial, ⟨trivial, ⟨⟨⟨rfl, rfl⟩, trivial⟩, ⟨trivial, ⟨trivial, ⟨trivial, ⟨trivial, ⟨⟨⟨rfl, rfl⟩, trivial⟩, ⟨trivial, ⟨trivial, ⟨⟨⟨rfl, rfl⟩, trivial⟩, trivial⟩⟩⟩⟩⟩⟩⟩⟩⟩⟩⟩⟩⟩⟩⟩⟩⟩⟩⟩⟩⟩⟩⟩⟩⟩⟩⟩⟩⟩⟩⟩⟩⟩⟩⟩⟩⟩⟩⟩⟩⟩⟩ ?_
            refine a_rd (i := 45) hok rfl (by kernel_rfl) rfl (r_pickF rfl rfl) rfl ?_
            refine a_rd (i := 46) hok rfl (by kernel_rfl) rfl (r_move rfl) rfl ?_
            refine a_off (i := 47) hok rfl rfl rfl rfl rfl (by kernel_rfl) rfl rfl ?_
            refine a_next hok 48 [] (by kernel_rfl) ?_ trivial
            refine a_stOff (i := 48) hok rfl rfl rfl rfl rfl rfl (by intro _ h; cases h; rfl) ⟨trivial, ⟨trivial, ⟨trivial, ⟨trivial, ⟨trivial, ⟨trivial, ⟨trivial, ⟨trivial, ⟨trivial, ⟨trivial, ⟨trivial, ⟨⟨⟨rfl, rfl⟩, trivial⟩, ⟨trivial, ⟨trivial, ⟨trivial, ⟨trivial, ⟨trivial, ⟨trivial, ⟨trivial, ⟨⟨⟨rfl, rfl⟩, trivial⟩, ⟨trivial, ⟨trivial, ⟨trivial, ⟨trivial, ⟨trivial, ⟨⟨⟨rfl, rfl⟩, trivial⟩, ⟨trivial, ⟨trivial, ⟨trivial, ⟨trivial, ⟨trivial, ⟨trivial, ⟨trivial, ⟨trivial, ⟨trivial, ⟨trivial, ⟨⟨⟨rfl, rfl⟩, trivial⟩, ⟨trivial, ⟨trivial, ⟨trivial, ⟨trivial, ⟨⟨⟨rfl, rfl⟩, trivial⟩, ⟨trivial, ⟨trivial, ⟨⟨⟨rfl, rfl⟩, trivial⟩, trivial⟩⟩⟩⟩⟩⟩⟩⟩⟩⟩⟩⟩⟩⟩⟩⟩⟩⟩⟩⟩⟩⟩⟩⟩⟩⟩⟩⟩⟩⟩⟩⟩⟩⟩⟩⟩⟩⟩⟩⟩⟩⟩⟩⟩⟩ ?_
            refine a_off (i := 49) hok rfl rfl rfl rfl rfl (by kernel_rfl) rfl rfl ?_
            refine a_rd (i := 50) hok rfl (by kernel_rfl) rfl (r_pickF rfl rfl) rfl ?_
            refine a_rd (i := 51) hok rfl (by kernel_rfl) rfl (r_move rfl) rfl ?_
            refine a_off (i := 52) hok rfl rfl rfl rfl rfl (by kernel_rfl) rfl rfl ?_
            refine a_next hok 53 [] (by kernel_rfl) ?_ trivial
            refine a_stOff (i := 53) hok rfl rfl rfl rfl rfl rfl (by intro _ h; cases h; rfl) ⟨trivial, ⟨trivial, ⟨trivial, ⟨trivial, ⟨trivial, ⟨trivial, ⟨trivial, ⟨trivial, ⟨trivial, ⟨trivial, ⟨trivial, ⟨trivial, ⟨trivial, ⟨trivial, ⟨trivial, ⟨⟨⟨rfl, rfl⟩, trivial⟩, ⟨trivial, ⟨trivial, ⟨trivial, ⟨trivial, ⟨trivial, ⟨trivial, ⟨trivial, ⟨⟨⟨rfl, rfl⟩, trivial⟩, ⟨trivial, ⟨trivial, ⟨trivial, ⟨trivial, ⟨trivial, ⟨⟨⟨rfl, rfl⟩, trivial⟩, ⟨trivial, ⟨trivial, ⟨trivial, ⟨trivial, ⟨trivial, ⟨trivial, ⟨trivial, ⟨trivial, ⟨trivial, ⟨trivial, ⟨⟨⟨rfl, rfl⟩, trivial⟩, ⟨trivial, ⟨trivial, ⟨trivial, ⟨trivial, ⟨⟨⟨rfl, rfl⟩, trivial⟩, ⟨trivial, ⟨trivial, ⟨⟨⟨rfl, rfl⟩, trivial⟩, trivial⟩⟩⟩⟩⟩⟩⟩⟩⟩⟩⟩⟩⟩⟩⟩⟩⟩⟩⟩⟩⟩⟩⟩⟩⟩⟩⟩⟩⟩⟩⟩⟩⟩⟩⟩⟩⟩⟩⟩⟩⟩⟩⟩⟩⟩⟩⟩⟩⟩ ?_
            refine a_rd (i := 54) hok rfl (by kernel_rfl) rfl (r_pickF rfl rfl) rfl ?_
            refine a_next hok 55 [] (by kernel_rfl) ?_ trivial
            refine a_st (i := 55) hok rfl rfl (St.ofRd (r_assign rfl)) (by intro _ h; cases h; rfl) (fun _ => ⟨trivial, ⟨trivial, ⟨trivial, ⟨trivial, ⟨trivial, ⟨trivial, ⟨trivial, ⟨trivial, ⟨trivial, ⟨trivial, ⟨trivial, ⟨trivial, ⟨trivial, ⟨trivial, ⟨trivial, ⟨trivial, ⟨trivial, ⟨trivial, ⟨trivial, ⟨trivial, ⟨trivial, ⟨trivial, ⟨trivial, ⟨trivial, ⟨trivial, ⟨trivial, ⟨trivial, ⟨trivial, ⟨trivial, ⟨trivial, ⟨trivial, ⟨trivial, ⟨trivial, ⟨trivial, ⟨trivial, ⟨trivial, ⟨trivial, ⟨trivial, ⟨trivial, ⟨trivial, ⟨trivial, ⟨trivial, ⟨trivial, ⟨trivial, ⟨trivial, ⟨trivial, ⟨trivial, ⟨trivial, ⟨trivial, ⟨trivial, trivial⟩⟩⟩⟩⟩⟩⟩⟩⟩⟩⟩⟩⟩⟩⟩⟩⟩⟩⟩⟩⟩⟩⟩⟩⟩⟩⟩⟩⟩⟩⟩⟩⟩⟩⟩⟩⟩⟩⟩⟩⟩⟩⟩⟩⟩⟩⟩⟩⟩⟩) (fun _ => ?_)
            refine a_fin hok (by kernel_rfl) ?_
            refine n_then (ref_ret ?_)
            exact fin1 (.inl rfl) () [] rfl trivial rfl (rv_tmp rfl)
          refine a_off (i := 34) hok rfl rfl rfl rfl rfl (by kernel_rfl) rfl rfl ?_
          refine a_off (i := 35) hok rfl rfl rfl rfl rfl (by kernel_rfl) rfl rfl ?_
          refine a_off (i := 36) hok rfl rfl rfl rfl rfl (by kernel_rfl) rfl rfl ?_
          refine a_off (i := 37) hok rfl rfl rfl rfl rfl (by kernel_rfl) rfl rfl ?_
          refine a_off (i := 38) hok rfl rfl rfl rfl rfl (by kernel_rfl) rfl rfl ?_
          refine a_off (i := 39) hok rfl rfl rfl rfl rfl (by kernel_rfl) rfl rfl ?_
          refine a_off (i := 40) hok rfl rfl rfl rfl rfl (by kernel_rfl) rfl rfl ?_
          refine a_rd (i := 41) hok rfl (by kernel_rfl) rfl (r_pickF rfl rfl) rfl ?_
          refine a_rd (i := 42) hok rfl (by kernel_rfl) rfl (r_move rfl) rfl ?_
          refine a_off (i := 43) hok rfl rfl rfl rfl rfl (by kernel_rfl) rfl rfl ?_
          refine a_next hok 44 [] (by kernel_rfl) ?_ trivial
          refine a_stOff (i := 44) hok rfl rfl rfl rfl rfl rfl (by intro _ h; cases h; rfl) ⟨trivial, ⟨trivial, ⟨trivial, ⟨trivial, ⟨trivial, ⟨trivial, ⟨trivial, ⟨trivial, ⟨trivial, ⟨trivial, ⟨trivial, ⟨trivial, ⟨trivial, ⟨trivial, ⟨trivial, ⟨trivial, ⟨⟨⟨rfl, rfl⟩, trivial⟩, ⟨trivial, ⟨trivial, ⟨trivial, ⟨trivial, ⟨trivial, ⟨⟨⟨rfl, rfl⟩, trivial⟩, ⟨trivial, ⟨trivial, ⟨trivial, ⟨trivial, ⟨trivial, ⟨trivial, ⟨trivial, ⟨trivial, ⟨trivial, ⟨trivial, ⟨⟨⟨rfl, rfl⟩, trivial⟩, ⟨trivial, ⟨trivial, ⟨trivial, ⟨trivial, ⟨⟨⟨rfl, rfl⟩, trivial⟩, ⟨trivial, ⟨trivial, ⟨⟨⟨rfl, rfl⟩, trivial⟩, trivial⟩⟩⟩⟩⟩⟩⟩⟩⟩⟩⟩⟩⟩⟩⟩⟩⟩⟩⟩⟩⟩⟩⟩⟩⟩⟩⟩⟩⟩⟩⟩⟩⟩⟩⟩⟩⟩⟩⟩⟩⟩⟩ ?_
          refine a_rd (i := 45) hok rfl (by kernel_rfl) rfl (r_pickF rfl rfl) rfl ?_
          refine a_rd (i := 46) hok rfl (by kernel_rfl) rfl (r_move rfl) rfl ?_
          refine a_off (i := 47) hok rfl rfl rfl rfl rfl (by kernel_rfl) rfl rfl ?_
          refine a_next hok 48 [] (by kernel_rfl) ?_ trivial
          refine a_stOff (i := 48) hok rfl rfl rfl rfl rfl rfl (by intro _ h; cases h; rfl) ⟨trivial, ⟨trivial, ⟨trivial, ⟨trivial, ⟨trivial, ⟨trivial, ⟨trivial, ⟨trivial, ⟨trivial, ⟨trivial, ⟨trivial, ⟨trivial, ⟨trivial, ⟨trivial, ⟨trivial, ⟨trivial, ⟨trivial, ⟨trivial, ⟨trivial, ⟨⟨⟨rfl, rfl⟩, trivial⟩, ⟨trivial, ⟨trivial, ⟨trivial, ⟨trivial, ⟨trivial, ⟨⟨⟨rfl, rfl⟩, trivial⟩, ⟨trivial, ⟨trivial, ⟨trivial, ⟨trivial, ⟨trivial, ⟨trivial, ⟨trivial, ⟨trivial, ⟨trivial, ⟨trivial, ⟨⟨⟨rfl, rfl⟩, trivial⟩, ⟨trivial, ⟨trivial, ⟨trivial, ⟨trivial, ⟨⟨⟨rfl, rfl⟩, trivial⟩, ⟨trivial, ⟨trivial, ⟨⟨⟨rfl, rfl⟩, trivial⟩, trivial⟩⟩⟩⟩⟩⟩⟩⟩⟩⟩⟩⟩⟩⟩⟩⟩⟩⟩⟩⟩⟩⟩⟩⟩⟩⟩⟩⟩⟩⟩⟩⟩⟩⟩⟩⟩⟩⟩⟩⟩⟩⟩⟩⟩⟩ ?_
          refine a_off (i := 49) hok rfl rfl rfl rfl rfl (by kernel_rfl) rfl rfl ?_
          refine a_rd (i := 50) hok rfl (by kernel_rfl) rfl (r_pickF rfl rfl) rfl ?_
          refine a_rd (i := 51) hok rfl (by kernel_rfl) rfl (r_move rfl) rfl ?_
          refine a_off (i := 52) hok rfl rfl rfl rfl rfl (by kernel_rfl) rfl rfl ?_
          refine a_next hok 53 [] (by kernel_rfl) ?_ trivial
          refine a_stOff (i := 53) hok rfl rfl rfl rfl rfl rfl (by intro _ h; cases h; rfl) ⟨trivial, ⟨trivial, ⟨trivial, ⟨trivial, ⟨trivial, ⟨trivial, ⟨trivial, ⟨trivial, ⟨trivial, ⟨trivial, ⟨trivial, ⟨trivial, ⟨trivial, ⟨trivial, ⟨trivial, ⟨trivial, ⟨trivial, ⟨trivial, ⟨trivial, ⟨trivial, ⟨trivial, ⟨trivial, ⟨trivial, ⟨⟨⟨rfl, rfl⟩, trivial⟩, ⟨trivial, ⟨trivial, ⟨trivial, ⟨trivial, ⟨trivial, ⟨⟨⟨rfl, rfl⟩, trivial⟩, ⟨trivial, ⟨trivial, ⟨trivial, ⟨trivial, ⟨trivial, ⟨trivial, ⟨trivial, ⟨trivial, ⟨trivial, ⟨trivial, ⟨⟨⟨rfl, rfl⟩, trivial⟩, ⟨trivial, ⟨trivial, ⟨trivial, ⟨trivial, ⟨⟨⟨rfl, rfl⟩, trivial⟩, ⟨trivial, ⟨trivial, ⟨⟨⟨rfl, rfl⟩, trivial⟩, trivial⟩⟩⟩⟩⟩⟩⟩⟩⟩⟩⟩⟩⟩⟩⟩⟩⟩⟩⟩⟩⟩⟩⟩⟩⟩⟩⟩⟩⟩⟩⟩⟩⟩⟩⟩⟩⟩⟩⟩⟩⟩⟩⟩⟩⟩⟩⟩⟩⟩ ?_
          refine a_rd (i := 54) hok rfl (by kernel_rfl) rfl (r_pickF rfl rfl) rfl ?_
          refine a_next hok 55 [] (by kernel_rfl) ?_ trivial
          refine a_st (i := 55) hok rfl rfl (St.ofRd (r_assign rfl)) (by intro _ h; cases h; rfl) (fun _ => ⟨trivial, ⟨trivial, ⟨trivial, ⟨trivial, ⟨trivial, ⟨trivial, ⟨trivial, ⟨trivial, ⟨trivial, ⟨trivial, ⟨trivial, ⟨trivial, ⟨trivial, ⟨trivial, ⟨trivial, ⟨trivial, ⟨trivial, ⟨trivial, ⟨trivial, ⟨trivial, ⟨trivial, ⟨trivial, ⟨trivial, ⟨trivial, ⟨trivial, ⟨trivial, ⟨trivial, ⟨trivial, ⟨trivial, ⟨trivial, ⟨trivial, ⟨trivial, ⟨trivial, ⟨trivial, ⟨trivial, ⟨trivial, ⟨trivial, ⟨trivial, ⟨trivial, ⟨trivial, ⟨trivial, ⟨trivial, ⟨trivial, ⟨trivial, ⟨trivial, ⟨trivial, ⟨trivial, ⟨trivial, ⟨trivial, ⟨trivial, trivial⟩⟩⟩⟩⟩⟩⟩⟩⟩⟩⟩⟩⟩⟩⟩⟩⟩⟩⟩⟩⟩⟩⟩⟩⟩⟩⟩⟩⟩⟩⟩⟩⟩⟩⟩⟩⟩⟩⟩⟩⟩⟩⟩⟩⟩⟩⟩⟩⟩⟩) (fun _ => ?_)
          refine a_fin hok (by kernel_rfl) ?_
          refine n_then (ref_ret ?_)
          exact fin1 (.inl rfl) () [] rfl trivial rfl (rv_tmp rfl)
        refine a_off (i := 26) hok rfl rfl rfl rfl rfl (by kernel_rfl) rfl rfl ?_
        refine a_off (i := 27) hok rfl rfl rfl rfl rfl (by kernel_rfl) rfl rfl ?_
        refine a_off (i := 28) hok rfl rfl rfl rfl rfl (by kernel_rfl) rfl rfl ?_
        refine a_off (i := 29) hok rfl rfl rfl rfl rfl (by kernel_rfl) rfl rfl ?_
        refine a_off (i := 30) hok rfl rfl rfl rfl rfl (by kernel_rfl) rfl rfl ?_
        refine a_off (i := 31) hok rfl rfl rfl rfl rfl (by kernel_rfl) rfl rfl ?_
        refine a_rd (i := 32) hok rfl (by kernel_rfl) rfl (r_pickF rfl rfl) rfl ?_
        refine a_rd (i := 33) hok rfl (by kernel_rfl) rfl (r_move rfl) rfl ?_
        refine a_off (i := 34) hok rfl rfl rfl rfl rfl (by kernel_rfl) rfl rfl ?_
        refine a_off (i := 35) hok rfl rfl rfl rfl rfl (by kernel_rfl) rfl rfl ?_
        refine a_off (i := 36) hok rfl rfl rfl rfl rfl (by kernel_rfl) rfl rfl ?_
        refine a_off (i := 37) hok rfl rfl rfl rfl rfl (by kernel_rfl) rfl rfl ?_
        refine a_off (i := 38) hok rfl rfl rfl rfl rfl (by kernel_rfl) rfl rfl ?_
        refine a_off (i := 39) hok rfl rfl rfl rfl rfl (by kernel_rfl) rfl rfl ?_
        refine a_off (i := 40) hok rfl rfl rfl rfl rfl (by kernel_rfl) rfl rfl ?_
        refine a_rd (i := 41) hok rfl (by kernel_rfl) rfl (r_pickF rfl rfl) rfl ?_
        refine a_rd (i := 42) hok rfl (by kernel_rfl) rfl (r_move rfl) rfl ?_
        refine a_off (i := 43) hok rfl rfl rfl rfl rfl (by kernel_rfl) rfl rfl ?_
        refine a_next hok 44 [] (by kernel_rfl) ?_ trivial
        refine a_stOff (i := 44) hok rfl rfl rfl rfl rfl rfl (by intro _ h; cases h; rfl) ⟨trivial, ⟨trivial, ⟨trivial, ⟨trivial, ⟨trivial, ⟨trivial, ⟨trivial, ⟨trivial, ⟨trivial, ⟨trivial, ⟨trivial, ⟨trivial, ⟨trivial, ⟨trivial, ⟨trivial, ⟨trivial, ⟨trivial, ⟨trivial, ⟨trivial, ⟨trivial, ⟨trivial, ⟨trivial, ⟨⟨⟨rfl, rfl⟩, trivial⟩, ⟨trivial, ⟨trivial, ⟨trivial, ⟨trivial, ⟨trivial, ⟨trivial, ⟨trivial, ⟨trivial, ⟨trivial, ⟨trivial, ⟨⟨⟨rfl, rfl⟩, trivial⟩, ⟨trivial, ⟨trivial, ⟨trivial, ⟨trivial, ⟨⟨⟨rfl, rfl⟩, trivial⟩, ⟨trivial, ⟨trivial, ⟨⟨⟨rfl, rfl⟩, trivial⟩, trivial⟩⟩⟩⟩⟩⟩⟩⟩⟩⟩⟩⟩⟩⟩⟩⟩⟩⟩⟩⟩⟩⟩⟩⟩⟩⟩⟩⟩⟩⟩⟩⟩⟩⟩⟩⟩⟩⟩⟩⟩⟩⟩ ?_
        refine a_rd (i := 45) hok rfl (by kernel_rfl) rfl (r_pickF rfl rfl) rfl ?_
        refine a_rd (i := 46) hok rfl (by kernel_rfl) rfl (r_move rfl) rfl ?_
        refine a_off (i := 47) hok rfl rfl rfl rfl rfl (by kernel_rfl) rfl rfl ?_
        refine a_next hok 48 [] (by kernel_rfl) ?_ trivial
        refine a_stOff (i := 48) hok rfl rfl rfl rfl rfl rfl (by intro _ h; cases h; rfl) ⟨trivial, ⟨trivial, ⟨trivial, ⟨trivial, ⟨trivial, ⟨trivial, ⟨trivial, ⟨trivial, ⟨trivial, ⟨trivial, ⟨trivial, ⟨trivial, ⟨trivial, ⟨trivial, ⟨trivial, ⟨trivial, ⟨trivial, ⟨trivial, ⟨trivial, ⟨trivial, ⟨trivial, ⟨trivial, ⟨trivial, ⟨trivial, ⟨trivial, ⟨⟨⟨rfl, rfl⟩, trivial⟩, ⟨trivial, ⟨trivial, ⟨trivial, ⟨trivial, ⟨trivial, ⟨trivial, ⟨trivial, ⟨trivial, ⟨trivial, ⟨trivial, ⟨⟨⟨rfl, rfl⟩, trivial⟩, ⟨trivial, ⟨trivial, ⟨trivial, ⟨trivial, ⟨⟨⟨rfl, rfl⟩, trivial⟩, ⟨trivial, ⟨trivial, ⟨⟨⟨rfl, rfl⟩, trivial⟩, trivial⟩⟩⟩⟩⟩⟩⟩⟩⟩⟩⟩⟩⟩⟩⟩⟩⟩⟩⟩⟩⟩⟩⟩⟩⟩⟩⟩⟩⟩⟩⟩⟩⟩⟩⟩⟩⟩⟩⟩⟩⟩⟩⟩⟩⟩ ?_
        refine a_off (i := 49) hok rfl rfl rfl rfl rfl (by kernel_rfl) rfl rfl ?_
        refine a_rd (i := 50) hok rfl (by kernel_rfl) rfl (r_pickF rfl rfl) rfl ?_
        refine a_rd (i := 51) hok rfl (by kernel_rfl) rfl (r_move rfl) rfl ?_
        refine a_off (i := 52) hok rfl rfl rfl rfl rfl (by kernel_rfl) rfl rfl ?_
        refine a_next hok 53 [] (by kernel_rfl) ?_ trivial
        refine a_stOff (i := 53) hok rfl rfl rfl rfl rfl rfl (by intro _ h; cases h; rfl) ⟨trivial, ⟨trivial, ⟨trivial, ⟨trivial, ⟨trivial, ⟨trivial, ⟨trivial, ⟨trivial, ⟨trivial, ⟨trivial, ⟨trivial, ⟨trivial, ⟨trivial, ⟨trivial, ⟨trivial, ⟨trivial, ⟨trivial, ⟨trivial, ⟨trivial, ⟨trivial, ⟨trivial, ⟨trivial, ⟨trivial, ⟨trivial, ⟨trivial, ⟨trivial, ⟨trivial, ⟨trivial, ⟨trivial, ⟨⟨⟨rfl, rfl⟩, trivial⟩, ⟨trivial, ⟨trivial, ⟨trivial, ⟨trivial, ⟨trivial, ⟨trivial, ⟨trivial, ⟨trivial, ⟨trivial, ⟨trivial, ⟨⟨⟨rfl, rfl⟩, trivial⟩, ⟨trivial, ⟨trivial, ⟨trivial, ⟨trivial, ⟨⟨⟨rfl, rfl⟩, trivial⟩, ⟨trivial, ⟨trivial, ⟨⟨⟨rfl, rfl⟩, trivial⟩, trivial⟩⟩⟩⟩⟩⟩⟩⟩⟩⟩⟩⟩⟩⟩⟩⟩⟩⟩⟩⟩⟩⟩⟩⟩⟩⟩⟩⟩⟩⟩⟩⟩⟩⟩⟩⟩⟩⟩⟩⟩⟩⟩⟩⟩⟩⟩⟩⟩⟩ ?_
        refine a_rd (i := 54) hok rfl (by kernel_rfl) rfl (r_pickF rfl rfl) rfl ?_
        refine a_next hok 55 [] (by kernel_rfl) ?_ trivial
        refine a_st (i := 55) hok rfl rfl (St.ofRd (r_assign rfl)) (by intro _ h; cases h; rfl) (fun _ => ⟨trivial, ⟨trivial, ⟨trivial, ⟨trivial, ⟨trivial, ⟨trivial, ⟨trivial, ⟨trivial, ⟨trivial, ⟨trivial, ⟨trivial, ⟨trivial, ⟨trivial, ⟨trivial, ⟨trivial, ⟨trivial, ⟨trivial, ⟨trivial, ⟨trivial, ⟨trivial, ⟨trivial, ⟨trivial, ⟨trivial, ⟨trivial, ⟨trivial, ⟨trivial, ⟨trivial, ⟨trivial, ⟨trivial, ⟨trivial, ⟨trivial, ⟨trivial, ⟨trivial, ⟨trivial, ⟨trivial, ⟨trivial, ⟨trivial, ⟨trivial, ⟨trivial, ⟨trivial, ⟨trivial, ⟨trivial, ⟨trivial, ⟨trivial, ⟨trivial, ⟨trivial, ⟨trivial, ⟨trivial, ⟨trivial, ⟨trivial, trivial⟩⟩⟩⟩⟩⟩⟩⟩⟩⟩⟩⟩⟩⟩⟩⟩⟩⟩⟩⟩⟩⟩⟩⟩⟩⟩⟩⟩⟩⟩⟩⟩⟩⟩⟩⟩⟩⟩⟩⟩⟩⟩⟩⟩⟩⟩⟩⟩⟩⟩) (fun _ => ?_)
        refine a_fin hok (by kernel_rfl) ?_
        refine n_then (ref_ret ?_)
        exact fin1 (.inl rfl) () [] rfl trivial rfl (rv_tmp rfl)
      refine a_off (i := 20) hok rfl rfl rfl rfl rfl (by kernel_rfl) rfl rfl ?_
      refine a_off (i := 21) hok rfl rfl rfl rfl rfl (by kernel_rfl) rfl rfl ?_
      refine a_off (i := 22) hok rfl rfl rfl rfl rfl (by kernel_rfl) rfl rfl ?_
      refine a_off (i := 23) hok rfl rfl rfl rfl rfl (by kernel_rfl) rfl rfl ?_
      refine a_rd (i := 24) hok rfl (by kernel_rfl) rfl (r_pickF rfl rfl) rfl ?_
      refine a_rd (i := 25) hok rfl (by kernel_rfl) rfl (r_move rfl) rfl ?_
      refine a_off (i := 26) hok rfl rfl rfl rfl rfl (by kernel_rfl) rfl rfl ?_
      refine a_off (i := 27) hok rfl rfl rfl rfl rfl (by kernel_rfl) rfl rfl ?_
      refine a_off (i := 28) hok rfl rfl rfl rfl rfl (by kernel_rfl) rfl rfl ?_
      refine a_off (i := 29) hok rfl rfl rfl rfl rfl (by kernel_rfl) rfl rfl ?_
      refine a_off (i := 30) hok rfl rfl rfl rfl rfl (by kernel_rfl) rfl rfl ?_
      refine a_off (i := 31) hok rfl rfl rfl rfl rfl (by kernel_rfl) rfl rfl ?_
      refine a_rd (i := 32) hok rfl (by kernel_rfl) rfl (r_pickF rfl rfl) rfl ?_
      refine a_rd (i := 33) hok rfl (by kernel_rfl) rfl (r_move rfl) rfl ?_
      refine a_off (i := 34) hok rfl rfl rfl rfl rfl (by kernel_rfl) rfl rfl ?_
      refine a_off (i := 35) hok rfl rfl rfl rfl rfl (by kernel_rfl) rfl rfl ?_
      refine a_off (i := 36) hok rfl rfl rfl rfl rfl (by kernel_rfl) rfl rfl ?_
      refine a_off (i := 37) hok rfl rfl rfl rfl rfl (by kernel_rfl) rfl rfl ?_
      refine a_off (i := 38) hok rfl rfl rfl rfl rfl (by kernel_rfl) rfl rfl ?_
      refine a_off (i := 39) hok rfl rfl rfl rfl rfl (by kernel_rfl) rfl rfl ?_
      refine a_off (i := 40) hok rfl rfl rfl rfl rfl (by kernel_rfl) rfl rfl ?_
      refine a_rd (i := 41) hok rfl (by kernel_rfl) rfl (r_pickF rfl rfl) rfl ?_
      refine a_rd (i := 42) hok rfl (by kernel_rfl) rfl (r_move rfl) rfl ?_
      refine a_off (i := 43) hok rfl rfl rfl rfl rfl (by kernel_rfl) rfl rfl ?_
      refine a_next hok 44 [] (by kernel_rfl) ?_ trivial
      refine a_stOff (i := 44) hok rfl rfl rfl rfl rfl rfl (by intro _ h; cases h; rfl) ⟨trivial, ⟨trivial, ⟨trivial, ⟨trivial, ⟨trivial, ⟨trivial, ⟨trivial, ⟨trivial, ⟨trivial, ⟨trivial, ⟨trivial, ⟨trivial, ⟨trivial, ⟨trivial, ⟨trivial, ⟨trivial, ⟨trivial, ⟨trivial, ⟨trivial, ⟨trivial, ⟨trivial, ⟨trivial, ⟨trivial, ⟨trivial, ⟨trivial, ⟨trivial, ⟨trivial, ⟨trivial, ⟨trivial, ⟨trivial, ⟨trivial, ⟨trivial, ⟨trivial, ⟨⟨⟨rfl, rfl⟩, trivial⟩, ⟨trivial, ⟨trivial, ⟨trivial, ⟨trivial, ⟨⟨⟨rfl, rfl⟩, trivial⟩, ⟨trivial, ⟨trivial, ⟨⟨⟨rfl, rfl⟩, trivial⟩, trivial⟩⟩⟩⟩⟩⟩⟩⟩⟩⟩⟩⟩⟩⟩⟩⟩⟩⟩⟩⟩⟩⟩⟩⟩⟩⟩⟩⟩⟩⟩⟩⟩⟩⟩⟩⟩⟩⟩⟩⟩⟩⟩ ?_
      refine a_rd (i := 45) hok rfl (by kernel_rfl) rfl (r_pickF rfl rfl) rfl ?_
      refine a_rd (i := 46) hok rfl (by kernel_rfl) rfl (r_move rfl) rfl ?_
      refine a_off (i := 47) hok rfl rfl rfl rfl rfl (by kernel_rfl) rfl rfl ?_
      refine a_next hok 48 [] (by kernel_rfl) ?_ trivial
      refine a_stOff (i := 48) hok rfl rfl rfl rfl rfl rfl (by intro _ h; cases h; rfl) ⟨trivial, ⟨trivial, ⟨trivial, ⟨trivial, ⟨trivial, ⟨trivial, ⟨trivial, ⟨trivial, ⟨trivial, ⟨trivial, ⟨trivial, ⟨trivial, ⟨trivial, ⟨trivial, ⟨trivial, ⟨trivial, ⟨trivial, ⟨trivial, ⟨trivial, ⟨trivial, ⟨trivial, ⟨trivial, ⟨trivial, ⟨trivial, ⟨trivial, ⟨trivial, ⟨trivial, ⟨trivial, ⟨trivial, ⟨trivial, ⟨trivial, ⟨trivial, ⟨trivial, ⟨trivial, ⟨trivial, ⟨trivial, ⟨⟨⟨rfl, rfl⟩, trivial⟩, ⟨trivial, ⟨trivial, ⟨trivial, ⟨trivial, ⟨⟨⟨rfl, rfl⟩, trivial⟩, ⟨trivial, ⟨trivial, ⟨⟨⟨rfl, rfl⟩, trivial⟩, trivial⟩⟩⟩⟩⟩⟩⟩⟩⟩⟩⟩⟩⟩⟩⟩⟩⟩⟩⟩⟩⟩⟩⟩⟩⟩⟩⟩⟩⟩⟩⟩⟩⟩⟩⟩⟩⟩⟩⟩⟩⟩⟩⟩⟩⟩ ?_
      refine a_off (i := 49) hok rfl rfl rfl rfl rfl (by kernel_rfl) rfl rfl ?_
      refine a_rd (i := 50) hok rfl (by kernel_rfl) rfl (r_pickF rfl rfl) rfl ?_
      refine a_rd (i := 51) hok rfl (by kernel_rfl) rfl (r_move rfl) rfl ?_
      refine a_off (i := 52) hok rfl rfl rfl rfl rfl (by kernel_rfl) rfl rfl ?_
      refine a_next hok 53 [] (by kernel_rfl) ?_ trivial
      refine a_stOff (i := 53) hok rfl rfl rfl rfl rfl rfl (by intro _ h; cases h; rfl) ⟨trivial, ⟨trivial, ⟨trivial, ⟨trivial, ⟨trivial, ⟨trivial, ⟨trivial, ⟨trivial, ⟨trivial, ⟨trivial, ⟨trivial, ⟨trivial, ⟨trivial, ⟨trivial, ⟨trivial, ⟨trivial, ⟨trivial, ⟨trivial, ⟨trivial, ⟨trivial, ⟨trivial, ⟨trivial, ⟨trivial, ⟨trivial, ⟨trivial, ⟨trivial, ⟨trivial, ⟨trivial, ⟨trivial, ⟨trivial, ⟨trivial, ⟨trivial, ⟨trivial, ⟨trivial, ⟨trivial, ⟨trivial, ⟨trivial, ⟨trivial, ⟨trivial, ⟨trivial, ⟨⟨⟨rfl, rfl⟩, trivial⟩, ⟨trivial, ⟨trivial, ⟨trivial, ⟨trivial, ⟨⟨⟨rfl, rfl⟩, trivial⟩, ⟨trivial, ⟨trivial, ⟨⟨⟨rfl, rfl⟩, trivial⟩, trivial⟩⟩⟩⟩⟩⟩⟩⟩⟩⟩⟩⟩⟩⟩⟩⟩⟩⟩⟩⟩⟩⟩⟩⟩⟩⟩⟩⟩⟩⟩⟩⟩⟩⟩⟩⟩⟩⟩⟩⟩⟩⟩⟩⟩⟩⟩⟩⟩⟩ ?_
      refine a_rd (i := 54) hok rfl (by kernel_rfl) rfl (r_pickF rfl rfl) rfl ?_
      refine a_next hok 55 [] (by kernel_rfl) ?_ trivial
      refine a_st (i := 55) hok rfl rfl (St.ofRd (r_assign rfl)) (by intro _ h; cases h; rfl) (fun _ => ⟨trivial, ⟨trivial, ⟨trivial, ⟨trivial, ⟨trivial, ⟨trivial, ⟨trivial, ⟨trivial, ⟨trivial, ⟨trivial, ⟨trivial, ⟨trivial, ⟨trivial, ⟨trivial, ⟨trivial, ⟨trivial, ⟨trivial, ⟨trivial, ⟨trivial, ⟨trivial, ⟨trivial, ⟨trivial, ⟨trivial, ⟨trivial, ⟨trivial, ⟨trivial, ⟨trivial, ⟨trivial, ⟨trivial, ⟨trivial, ⟨trivial, ⟨trivial, ⟨trivial, ⟨trivial, ⟨trivial, ⟨trivial, ⟨trivial, ⟨trivial, ⟨trivial, ⟨trivial, ⟨trivial, ⟨trivial, ⟨trivial, ⟨trivial, ⟨trivial, ⟨trivial, ⟨trivial, ⟨trivial, ⟨trivial, ⟨trivial, trivial⟩⟩⟩⟩⟩⟩⟩⟩⟩⟩⟩⟩⟩⟩⟩⟩⟩⟩⟩⟩⟩⟩⟩⟩⟩⟩⟩⟩⟩⟩⟩⟩⟩⟩⟩⟩⟩⟩⟩⟩⟩⟩⟩⟩⟩⟩⟩⟩⟩⟩) (fun _ => ?_)
      refine a_fin hok (by kernel_rfl) ?_
      refine n_then (ref_ret ?_)
      exact fin1 (.inl rfl) () [] rfl trivial rfl (rv_tmp rfl)
    refine a_off (i := 16) hok rfl rfl rfl rfl rfl (by kernel_rfl) rfl rfl ?_
    refine a_off (i := 17) hok rfl rfl rfl rfl rfl (by kernel_rfl) rfl rfl ?_
    refine a_rd (i := 18) hok rfl (by kernel_rfl) rfl (r_pickF rfl rfl) rfl ?_
    refine a_rd (i := 19) hok rfl (by kernel_rfl) rfl (r_move rfl) rfl ?_
    refine a_off (i := 20) hok rfl rfl rfl rfl rfl (by kernel_rfl) rfl rfl ?_
    refine a_off (i := 21) hok rfl rfl rfl rfl rfl (by kernel_rfl) rfl rfl ?_
    refine a_off (i := 22) hok rfl rfl rfl rfl rfl (by kernel_rfl) rfl rfl ?_
    refine a_off (i := 23) hok rfl rfl rfl rfl rfl (by kernel_rfl) rfl rfl ?_
    refine a_rd (i := 24) hok rfl (by kernel_rfl) rfl (r_pickF rfl rfl) rfl ?_
    refine a_rd (i := 25) hok rfl (by kernel_rfl) rfl (r_move rfl) rfl ?_
    refine a_off (i := 26) hok rfl rfl rfl rfl rfl (by kernel_rfl) rfl rfl ?_
    refine a_off (i := 27) hok rfl rfl rfl rfl rfl (by kernel_rfl) rfl rfl ?_
    refine a_off (i := 28) hok rfl rfl rfl rfl rfl (by kernel_rfl) rfl rfl ?_
    refine a_off (i := 29) hok rfl rfl rfl rfl rfl (by kernel_rfl) rfl rfl ?_
    refine a_off (i := 30) hok rfl rfl rfl rfl rfl (by kernel_rfl) rfl rfl ?_
    refine a_off (i := 31) hok rfl rfl rfl rfl rfl (by kernel_rfl) rfl rfl ?_
    refine a_rd (i := 32) hok rfl (by kernel_rfl) rfl (r_pickF rfl rfl) rfl ?_
    refine a_rd (i := 33) hok rfl (by kernel_rfl) rfl (r_move rfl) rfl ?_
    refine a_off (i := 34) hok rfl rfl rfl rfl rfl (by kernel_rfl) rfl rfl ?_
    refine a_off (i := 35) hok rfl rfl rfl rfl rfl (by kernel_rfl) rfl rfl ?_
    refine a_off (i := 36) hok rfl rfl rfl rfl rfl (by kernel_rfl) rfl rfl ?_
    refine a_off (i := 37) hok rfl rfl rfl rfl rfl (by kernel_rfl) rfl rfl ?_
    refine a_off (i := 38) hok rfl rfl rfl rfl rfl (by kernel_rfl) rfl rfl ?_
    refine a_off (i := 39) hok rfl rfl rfl rfl rfl (by kernel_rfl) rfl rfl ?_
    refine a_off (i := 40) hok rfl rfl rfl rfl rfl (by kernel_rfl) rfl rfl ?_
    refine a_rd (i := 41) hok rfl (by kernel_rfl) rfl (r_pickF rfl rfl) rfl ?_
    refine a_rd (i := 42) hok rfl (by kernel_rfl) rfl (r_move rfl) rfl ?_
    refine a_off (i := 43) hok rfl rfl rfl rfl rfl (by kernel_rfl) rfl rfl ?_
    refine a_next hok 44 [] (by kernel_rfl) ?_ trivial
    refine a_stOff (i := 44) hok rfl rfl rfl rfl rfl rfl (by intro _ h; cases h; rfl) ⟨trivial, ⟨trivial, ⟨trivial, ⟨trivial, ⟨trivial, ⟨trivial, ⟨trivial, ⟨trivial, ⟨trivial, ⟨trivial, ⟨trivial, ⟨trivial, ⟨trivial, ⟨trivial, ⟨trivial, ⟨trivial, ⟨trivial, ⟨trivial, ⟨trivial, ⟨trivial, ⟨trivial, ⟨trivial, ⟨trivial, ⟨trivial, ⟨trivial, ⟨trivial, ⟨trivial, ⟨trivial, ⟨trivial, ⟨trivial, ⟨trivial, ⟨trivial, ⟨trivial, ⟨⟨⟨rfl, rfl⟩, trivial⟩, ⟨trivial, ⟨trivial, ⟨trivial, ⟨trivial, ⟨⟨⟨rfl, rfl⟩, trivial⟩, ⟨trivial, ⟨trivial, ⟨⟨⟨rfl, rfl⟩, trivial⟩, trivial⟩⟩⟩⟩⟩⟩⟩⟩⟩⟩⟩⟩⟩⟩⟩⟩⟩⟩⟩⟩⟩⟩⟩⟩⟩⟩⟩⟩⟩⟩⟩⟩⟩⟩⟩⟩⟩⟩⟩⟩⟩⟩ ?_
    refine a_rd (i := 45) hok rfl (by kernel_rfl) rfl (r_pickF rfl rfl) rfl ?_
    refine a_rd (i := 46) hok rfl (by kernel_rfl) rfl (r_move rfl) rfl ?_
    refine a_off (i := 47) hok rfl rfl rfl rfl rfl (by kernel_rfl) rfl rfl ?_
    refine a_next hok 48 [] (by kernel_rfl) ?_ trivial
    refine a_stOff (i := 48) hok rfl rfl rfl rfl rfl rfl (by intro _ h; cases h; rfl) ⟨trivial, ⟨trivial, ⟨trivial, ⟨trivial, ⟨trivial, ⟨trivial, ⟨trivial, ⟨trivial, ⟨trivial, ⟨trivial, ⟨trivial, ⟨trivial, ⟨trivial, ⟨trivial, ⟨trivial, ⟨trivial, ⟨trivial, ⟨trivial, ⟨trivial, ⟨trivial, ⟨trivial, ⟨trivial, ⟨trivial, ⟨trivial, ⟨trivial, ⟨trivial, ⟨trivial, ⟨trivial, ⟨trivial, ⟨trivial, ⟨trivial, ⟨trivial, ⟨trivial, ⟨trivial, ⟨trivial, ⟨trivial, ⟨⟨⟨rfl, rfl⟩, trivial⟩, ⟨trivial, ⟨trivial, ⟨trivial, ⟨trivial, ⟨⟨⟨rfl, rfl⟩, trivial⟩, ⟨trivial, ⟨trivial, ⟨⟨⟨rfl, rfl⟩, trivial⟩, trivial⟩⟩⟩⟩⟩⟩⟩⟩⟩⟩⟩⟩⟩⟩⟩⟩⟩⟩⟩⟩⟩⟩⟩⟩⟩⟩⟩⟩⟩⟩⟩⟩⟩⟩⟩⟩⟩⟩⟩⟩⟩⟩⟩⟩⟩ ?_
    refine a_off (i := 49) hok rfl rfl rfl rfl rfl (by kernel_rfl) rfl rfl ?_
    refine a_rd (i := 50) hok rfl (by kernel_rfl) rfl (r_pickF rfl rfl) rfl ?_
    refine a_rd (i := 51) hok rfl (by kernel_rfl) rfl (r_move rfl) rfl ?_
    refine a_off (i := 52) hok rfl rfl rfl rfl rfl (by kernel_rfl) rfl rfl ?_
    refine a_next hok 53 [] (by kernel_rfl) ?_ trivial
    refine a_stOff (i := 53) hok rfl rfl rfl rfl rfl rfl (by intro _ h; cases h; rfl) ⟨trivial, ⟨trivial, ⟨trivial, ⟨trivial, ⟨trivial, ⟨trivial, ⟨trivial, ⟨trivial, ⟨trivial, ⟨trivial, ⟨trivial, ⟨trivial, ⟨trivial, ⟨trivial, ⟨trivial, ⟨trivial, ⟨trivial, ⟨trivial, ⟨trivial, ⟨trivial, ⟨trivial, ⟨trivial, ⟨trivial, ⟨trivial, ⟨trivial, ⟨trivial, ⟨trivial, ⟨trivial, ⟨trivial, ⟨trivial, ⟨trivial, ⟨trivial, ⟨trivial, ⟨trivial, ⟨trivial, ⟨trivial, ⟨trivial, ⟨trivial, ⟨trivial, ⟨trivial, ⟨⟨⟨rfl, rfl⟩, trivial⟩, ⟨trivial, ⟨trivial, ⟨trivial, ⟨trivial, ⟨⟨⟨rfl, rfl⟩, trivial⟩, ⟨trivial, ⟨trivial, ⟨⟨⟨rfl, rfl⟩, trivial⟩, trivial⟩⟩⟩⟩⟩⟩⟩⟩⟩⟩⟩⟩⟩⟩⟩⟩⟩⟩⟩⟩⟩⟩⟩⟩⟩⟩⟩⟩⟩⟩⟩⟩⟩⟩⟩⟩⟩⟩⟩⟩⟩⟩⟩⟩⟩⟩⟩⟩⟩ ?_
    refine a_rd (i := 54) hok rfl (by kernel_rfl) rfl (r_pickF rfl rfl) rfl ?_
    refine a_next hok 55 [] (by kernel_rfl) ?_ trivial
    refine a_st (i := 55) hok rfl rfl (St.ofRd (r_assign rfl)) (by intro _ h; cases h; rfl) (fun _ => ⟨trivial, ⟨trivial, ⟨trivial, ⟨trivial, ⟨trivial, ⟨trivial, ⟨trivial, ⟨trivial, ⟨trivial, ⟨trivial, ⟨trivial, ⟨trivial, ⟨trivial, ⟨trivial, ⟨trivial, ⟨trivial, ⟨trivial, ⟨trivial, ⟨trivial, ⟨trivial, ⟨trivial, ⟨trivial, ⟨trivial, ⟨trivial, ⟨trivial, ⟨trivial, ⟨trivial, ⟨trivial, ⟨trivial, ⟨trivial, ⟨trivial, ⟨trivial, ⟨trivial, ⟨trivial, ⟨trivial, ⟨trivial, ⟨trivial, ⟨trivial, ⟨trivial, ⟨trivial, ⟨trivial, ⟨trivial, ⟨trivial, ⟨trivial, ⟨trivial, ⟨trivial, ⟨trivial, ⟨trivial, ⟨trivial, ⟨trivial, trivial⟩⟩⟩⟩⟩⟩⟩⟩⟩⟩⟩⟩⟩⟩⟩⟩⟩⟩⟩⟩⟩⟩⟩⟩⟩⟩⟩⟩⟩⟩⟩⟩⟩⟩⟩⟩⟩⟩⟩⟩⟩⟩⟩⟩⟩⟩⟩⟩⟩⟩) (fun _ => ?_)
    refine a_fin hok (by kernel_rfl) ?_
    refine n_then (ref_ret ?_)
    exact fin1 (.inl rfl) () [] rfl trivial rfl (rv_tmp rfl)
  refine a_off (i := 9) hok rfl rfl rfl rfl rfl (by kernel_rfl) rfl rfl ?_
  refine a_off (i := 10) hok rfl rfl rfl rfl rfl (by kernel_rfl) rfl rfl ?_
  refine a_next hok 11 [] (by kernel_rfl) ?_ trivial
  refine a_stOff (i := 11) hok rfl rfl rfl rfl rfl rfl (by intro _ h; cases h; rfl) ⟨trivial, ⟨trivial, ⟨trivial, ⟨trivial, ⟨trivial, ⟨trivial, ⟨⟨⟨rfl, rfl⟩, trivial⟩, ⟨trivial, ⟨trivial, ⟨⟨⟨rfl, rfl⟩, trivial⟩, trivial⟩⟩⟩⟩⟩⟩⟩⟩⟩⟩ ?_
  refine a_off (i := 12) hok rfl rfl rfl rfl rfl (by kernel_rfl) rfl rfl ?_
  refine a_off (i := 13) hok rfl rfl rfl rfl rfl (by kernel_rfl) rfl rfl ?_
  refine a_rd (i := 14) hok rfl (by kernel_rfl) rfl (r_pickF rfl rfl) rfl ?_
  refine a_rd (i := 15) hok rfl (by kernel_rfl) rfl (r_move rfl) rfl ?_
  refine a_off (i := 16) hok rfl rfl rfl rfl rfl (by kernel_rfl) rfl rfl ?_
  refine a_off (i := 17) hok rfl rfl rfl rfl rfl (by kernel_rfl) rfl rfl ?_
  refine a_rd (i := 18) hok rfl (by kernel_rfl) rfl (r_pickF rfl rfl) rfl ?_
  refine a_rd (i := 19) hok rfl (by kernel_rfl) rfl (r_move rfl) rfl ?_
  refine a_off (i := 20) hok rfl rfl rfl rfl rfl (by kernel_rfl) rfl rfl ?_
  refine a_off (i := 21) hok rfl rfl rfl rfl rfl (by kernel_rfl) rfl rfl ?_
  refine a_off (i := 22) hok rfl rfl rfl rfl rfl (by kernel_rfl) rfl rfl ?_
  refine a_off (i := 23) hok rfl rfl rfl rfl rfl (by kernel_rfl) rfl rfl ?_
  refine a_rd (i := 24) hok rfl (by kernel_rfl) rfl (r_pickF rfl rfl) rfl ?_
  refine a_rd (i := 25) hok rfl (by kernel_rfl) rfl (r_move rfl) rfl ?_
  refine a_off (i := 26) hok rfl rfl rfl rfl rfl (by kernel_rfl) rfl rfl ?_
  refine a_off (i := 27) hok rfl rfl rfl rfl rfl (by kernel_rfl) rfl rfl ?_
  refine a_off (i := 28) hok rfl rfl rfl rfl rfl (by kernel_rfl) rfl rfl ?_
  refine a_off (i := 29) hok rfl rfl rfl rfl rfl (by kernel_rfl) rfl rfl ?_
  refine a_off (i := 30) hok rfl rfl rfl rfl rfl (by kernel_rfl) rfl rfl ?_
  refine a_off (i := 31) hok rfl rfl rfl rfl rfl (by kernel_rfl) rfl rfl ?_
  refine a_rd (i := 32) hok rfl (by kernel_rfl) rfl (r_pickF rfl rfl) rfl ?_
  refine a_rd (i := 33) hok rfl (by kernel_rfl) rfl (r_move rfl) rfl ?_
  refine a_off (i := 34) hok rfl rfl rfl rfl rfl (by kernel_rfl) rfl rfl ?_
  refine a_off (i := 35) hok rfl rfl rfl rfl rfl (by kernel_rfl) rfl rfl ?_
  refine a_off (i := 36) hok rfl rfl rfl rfl rfl (by kernel_rfl) rfl rfl ?_
  refine a_off (i := 37) hok rfl rfl rfl rfl rfl (by kernel_rfl) rfl rfl ?_
  refine a_off (i := 38) hok rfl rfl rfl rfl rfl (by kernel_rfl) rfl rfl ?_
  refine a_off (i := 39) hok rfl rfl rfl rfl rfl (by kernel_rfl) rfl rfl ?_
  refine a_off (i := 40) hok rfl rfl rfl rfl rfl (by kernel_rfl) rfl rfl ?_
  refine a_rd (i := 41) hok rfl (by kernel_rfl) rfl (r_pickF rfl rfl) rfl ?_
  refine a_rd (i := 42) hok rfl (by kernel_rfl) rfl (r_move rfl) rfl ?_
  refine a_off (i := 43) hok rfl rfl rfl rfl rfl (by kernel_rfl) rfl rfl ?_
  refine a_next hok 44 [] (by kernel_rfl) ?_ trivial
  refine a_stOff (i := 44) hok rfl rfl rfl rfl rfl rfl (by intro _ h; cases h; rfl) ⟨trivial, ⟨trivial, ⟨trivial, ⟨trivial, ⟨trivial, ⟨trivial, ⟨trivial, ⟨trivial, ⟨trivial, ⟨trivial, ⟨trivial, ⟨trivial, ⟨trivial, ⟨trivial, ⟨trivial, ⟨trivial, ⟨trivial, ⟨trivial, ⟨trivial, ⟨trivial, ⟨trivial, ⟨trivial, ⟨trivial, ⟨trivial, ⟨trivial, ⟨trivial, ⟨trivial, ⟨trivial, ⟨trivial, ⟨trivial, ⟨trivial, ⟨trivial, ⟨trivial, ⟨trivial, ⟨trivial, ⟨trivial, ⟨trivial, ⟨trivial, ⟨⟨⟨rfl, rfl⟩, trivial⟩, ⟨trivial, ⟨trivial, ⟨⟨⟨rfl, rfl⟩, trivial⟩, trivial⟩⟩⟩⟩⟩⟩⟩⟩⟩⟩⟩⟩⟩⟩⟩⟩⟩⟩⟩⟩⟩⟩⟩⟩⟩⟩⟩⟩⟩⟩⟩⟩⟩⟩⟩⟩⟩⟩⟩⟩⟩⟩ ?_
  refine a_rd (i := 45) hok rfl (by kernel_rfl) rfl (r_pickF rfl rfl) rfl ?_
  refine a_rd (i := 46) hok rfl (by kernel_rfl) rfl (r_move rfl) rfl ?_
  refine a_off (i := 47) hok rfl rfl rfl rfl rfl (by kernel_rfl) rfl rfl ?_
  refine a_next hok 48 [] (by kernel_rfl) ?_ trivial
  refine a_stOff (i := 48) hok rfl rfl rfl rfl rfl rfl (by intro _ h; cases h; rfl) ⟨trivial, ⟨trivial, ⟨trivial, ⟨trivial, ⟨trivial, ⟨trivial, ⟨trivial, ⟨trivial, ⟨trivial, ⟨trivial, ⟨trivial, ⟨trivial, ⟨trivial, ⟨trivial, ⟨trivial, ⟨trivial, ⟨trivial, ⟨trivial, ⟨trivial, ⟨trivial, ⟨trivial, ⟨trivial, ⟨trivial, ⟨trivial, ⟨trivial, ⟨trivial, ⟨trivial, ⟨trivial, ⟨trivial, ⟨trivial, ⟨trivial, ⟨trivial, ⟨trivial, ⟨trivial, ⟨trivial, ⟨trivial, ⟨trivial, ⟨trivial, ⟨trivial, ⟨trivial, ⟨trivial, ⟨⟨⟨rfl, rfl⟩, trivial⟩, ⟨trivial, ⟨trivial, ⟨⟨⟨rfl, rfl⟩, trivial⟩, trivial⟩⟩⟩⟩⟩⟩⟩⟩⟩⟩⟩⟩⟩⟩⟩⟩⟩⟩⟩⟩⟩⟩⟩⟩⟩⟩⟩⟩⟩⟩⟩⟩⟩⟩⟩⟩⟩⟩⟩⟩⟩⟩⟩⟩⟩ ?_
  refine a_off (i := 49) hok rfl rfl rfl rfl rfl (by kernel_rfl) rfl rfl ?_
  refine a_rd (i := 50) hok rfl (by kernel_rfl) rfl (r_pickF rfl rfl) rfl ?_
  refine a_rd (i := 51) hok rfl (by kernel_rfl) rfl (r_move rfl) rfl ?_
  refine a_off (i := 52) hok rfl rfl rfl rfl rfl (by kernel_rfl) rfl rfl ?_
  refine a_next hok 53 [] (by kernel_rfl) ?_ trivial
  refine a_stOff (i := 53) hok rfl rfl rfl rfl rfl rfl (by intro _ h; cases h; rfl) ⟨trivial, ⟨trivial, ⟨trivial, ⟨trivial, ⟨trivial, ⟨trivial, ⟨trivial, ⟨trivial, ⟨trivial, ⟨trivial, ⟨trivial, ⟨trivial, ⟨trivial, ⟨trivial, ⟨trivial, ⟨trivial, ⟨trivial, ⟨trivial, ⟨trivial, ⟨trivial, ⟨trivial, ⟨trivial, ⟨trivial, ⟨trivial, ⟨trivial, ⟨trivial, ⟨trivial, ⟨trivial, ⟨trivial, ⟨trivial, ⟨trivial, ⟨trivial, ⟨trivial, ⟨trivial, ⟨trivial, ⟨trivial, ⟨trivial, ⟨trivial, ⟨trivial, ⟨trivial, ⟨trivial, ⟨trivial, ⟨trivial, ⟨trivial, ⟨trivial, ⟨⟨⟨rfl, rfl⟩, trivial⟩, ⟨trivial, ⟨trivial, ⟨⟨⟨rfl, rfl⟩, trivial⟩, trivial⟩⟩⟩⟩⟩⟩⟩⟩⟩⟩⟩⟩⟩⟩⟩⟩⟩⟩⟩⟩⟩⟩⟩⟩⟩⟩⟩⟩⟩⟩⟩⟩⟩⟩⟩⟩⟩⟩⟩⟩⟩⟩⟩⟩⟩⟩⟩⟩⟩ ?_
  refine a_rd (i := 54) hok rfl (by kernel_rfl) rfl (r_pickF rfl rfl) rfl ?_
  refine a_next hok 55 [] (by kernel_rfl) ?_ trivial
  refine a_st (i := 55) hok rfl rfl (St.ofRd (r_assign rfl)) (by intro _ h; cases h; rfl) (fun _ => ⟨trivial, ⟨trivial, ⟨trivial, ⟨trivial, ⟨trivial, ⟨trivial, ⟨trivial, ⟨trivial, ⟨trivial, ⟨trivial, ⟨trivial, ⟨trivial, ⟨trivial, ⟨trivial, ⟨trivial, ⟨trivial, ⟨trivial, ⟨trivial, ⟨trivial, ⟨trivial, ⟨trivial, ⟨trivial, ⟨trivial, ⟨trivial, ⟨trivial, ⟨trivial, ⟨trivial, ⟨trivial, ⟨trivial, ⟨trivial, ⟨trivial, ⟨trivial, ⟨trivial, ⟨trivial, ⟨trivial, ⟨trivial, ⟨trivial, ⟨trivial, ⟨trivial, ⟨trivial, ⟨trivial, ⟨trivial, ⟨trivial, ⟨trivial, ⟨trivial, ⟨trivial, ⟨trivial, ⟨trivial, ⟨trivial, ⟨trivial, trivial⟩⟩⟩⟩⟩⟩⟩⟩⟩⟩⟩⟩⟩⟩⟩⟩⟩⟩⟩⟩⟩⟩⟩⟩⟩⟩⟩⟩⟩⟩⟩⟩⟩⟩⟩⟩⟩⟩⟩⟩⟩⟩⟩⟩⟩⟩⟩⟩⟩⟩) (fun _ => ?_)
  refine a_fin hok (by kernel_rfl) ?_
  refine n_then (ref_ret ?_)
  exact fin1 (.inl rfl) () [] rfl trivial rfl (rv_tmp rfl)

/-! deliberation/deliberationlaw06.StrictLeast -/
noncomputable def law06_StrictLeast_l1 (x5 : List T_api_Literal × T_deliberationkeep_Src) (c8 : List T_api_Literal) (s27 : Int) : Option (Sum ((Sum (Bool) (Unit))) (Int)) :=
  bif decide (s27 < (x5.1.length : Int)) then
    Option.bind (idxM x5.1 s27) fun t30 =>
    Option.bind (ref01_Has_m c8 t30) fun t31 =>
    bif !t31 then
      some (Sum.inl (Sum.inl false))
    else
      some (Sum.inr (iadd .i64 s27 1))
  else
    some (Sum.inl (Sum.inr ()))

noncomputable def law06_StrictLeast_l2 (c8 : List T_api_Literal) (more12 : List T_api_Literal) (wide17 : List T_api_Literal) (s43 : Int) : Option (Sum ((Sum (Bool) (Unit))) (Int)) :=
  bif decide (s43 < (c8.length : Int)) then
    Option.bind (idxM c8 s43) fun t46 =>
    Option.bind (ref01_Has_m more12 t46) fun t47 =>
    bif !t47 then
      some (Sum.inl (Sum.inl false))
    else
      Option.bind (idxM c8 s43) fun t48 =>
      Option.bind (ref01_Has_m wide17 t48) fun t49 =>
      bif !t49 then
        some (Sum.inl (Sum.inl false))
      else
        some (Sum.inr (iadd .i64 s43 1))
  else
    some (Sum.inl (Sum.inr ()))

noncomputable def law06_StrictLeast_l4 (c8 : List T_api_Literal) (t77 : T_api_Rule) (s85 : Bool × Int) : Option (Sum (Bool) (Bool × Int)) :=
  bif decide (s85.2 < (t77.Body.length : Int)) then
    Option.bind (idxM t77.Body s85.2) fun t88 =>
    bif s85.1 then
      Option.bind (ref01_Has_m c8 t88) fun t90 =>
      some (Sum.inr (t90, iadd .i64 s85.2 1))
    else
      some (Sum.inr (false, iadd .i64 s85.2 1))
  else
    some (Sum.inl s85.1)

noncomputable def law06_StrictLeast_l3 (t3 : T_api_Base × T_deliberationkeep_Src) (c8 : List T_api_Literal) (s74 : Int) : Option (Sum ((Sum (Bool) (Unit))) (Int)) :=
  bif decide (s74 < (t3.1.Rules.length : Int)) then
    Option.bind (idxM t3.1.Rules s74) fun t77 =>
    Option.bind (loopC (law06_StrictLeast_l4 c8 t77) (true, 0)) fun q91 : Bool =>
    bif t77.Strict then
      bif q91 then
        Option.bind (ref01_Has_m c8 t77.Head) fun t93 =>
        bif !t93 then
          some (Sum.inl (Sum.inl false))
        else
          some (Sum.inr (iadd .i64 s74 1))
      else
        some (Sum.inr (iadd .i64 s74 1))
    else
      some (Sum.inr (iadd .i64 s74 1))
  else
    some (Sum.inl (Sum.inr ()))

noncomputable def law06_StrictLeast_m (l_0 : (List Int)) : Option (Bool) :=
  Option.bind (keep_New_m l_0) fun s1 =>
  Option.bind (keep_Src_Base_m s1 4 3 10) fun t3 =>
  Option.bind (keep_Src_Literals_m t3.2 4 4) fun x5 =>
  Option.bind (strict_Closure_m t3.1 x5.1) fun c8 =>
  Option.bind (keep_Src_Literal_m x5.2 4) fun t9 =>
  Option.bind (appM 24 x5.1 [t9.1]) fun t10 =>
  Option.bind (strict_Closure_m t3.1 t10) fun more12 =>
  Option.bind (keep_Src_Literals_m t9.2 3 4) fun t13 =>
  Option.bind (appM 24 x5.1 t13.1) fun t15 =>
  Option.bind (ref06_Closure_m t3.1 t15) fun wide17 =>
  Option.bind (strict_Closure_m t3.1 c8) fun t18 =>
  Option.bind (ref01_Same_m t18 c8) fun t19 =>
  bif !t19 then
    some false
  else
    Option.bind (loopC (law06_StrictLeast_l1 x5 c8) 0) (sumK (fun a : Bool => some a) fun q33 : Unit =>
      Option.bind (loopC (law06_StrictLeast_l2 c8 more12 wide17) 0) (sumK (fun a : Bool => some a) fun q51 : Unit =>
        Option.bind (loopC (law06_StrictLeast_l3 t3 c8) 0) (sumK (fun a : Bool => some a) fun q95 : Unit =>
          Option.bind (law06_awake_m ) fun t97 =>
          some t97)))

theorem law06_StrictLeast_ok {l_0 : (List Int)} {r : Bool} (hm : law06_StrictLeast_m l_0 = some r) :
    FnOk prog 3 [slv (rI .i64) l_0] [] (fun (x : Unit) => [bv r]) (fun (x : Unit) => []) := by
  refine fn_ok (fn := Tryd.f3) (N := 124) (res := fun r x => [bv r]) (Ω1 := fun r x => []) Tryd.func3 rfl rfl hm rfl (fun E hM => ?_)
  unfold law06_StrictLeast_m
  refine ref_seq (ref_region ?_)
  refine as1 rfl rfl ?_
  refine l_nil (n_then (ref_seq (ref_region ?_)))
  refine mv1 rfl rfl ?_
  refine pull fun s1 h_s1 => ?_
  refine s_st (s_call (ψ := fun (x2 : Nat) => pv (ptr x2 0)) (args := [.tmp 16]) Tryd.call5 rfl (keep_New_ok h_s1) ⟨arg rfl, trivial⟩ (fun _ _ _ _ h => h)) rfl (fun x2 => ?_)
  refine as1 rfl rfl ?_
  refine l_nil (n_then (ref_seq (ref_region ?_)))
  refine mv1 rfl rfl ?_
  refine pull fun t3 h_t3 => ?_
  refine s_st (s_callC [0] [true] (fun (x4 : (Value × List Nat)) => [oc x2 [slv (rI .i64) t3.2.L, iv .i64 t3.2.At]]) (fun (x4 : (Value × List Nat)) => [oa rT_api_Rule x4.1 x4.2 t3.1.Rules]) (fun (x4 : (Value × List Nat)) => ag [slv rT_api_Premise t3.1.Premises, pv x4.1, slv rT_api_Promotion t3.1.Promotions]) (args := [.tmp 18, .const (.int .i64 (4)), .const (.int .i64 (3)), .const (.int .i64 (10))]) (caps := []) Tryd.call6 rfl (keep_Src_Base_ok h_t3) ⟨rfl, rfl, trivial⟩ (fun _ => rfl) (fun _ => trivial) (fun _ => rfl) ⟨arg rfl, arg rfl, arg rfl, arg rfl, trivial⟩ (fun _ _ _ _ h => h)) rfl (fun x4 => ?_)
  refine mv1 rfl rfl ?_
  refine pull fun x5 h_x5 => ?_
  refine s_st (s_callC [0] [true] (fun (x6 : (Value × List Nat)) => [oc x2 [slv (rI .i64) x5.2.L, iv .i64 x5.2.At]]) (fun (x6 : (Value × List Nat)) => [oa rT_api_Literal x6.1 x6.2 x5.1]) (fun (x6 : (Value × List Nat)) => pv x6.1) (args := [.tmp 20, .const (.int .i64 (4)), .const (.int .i64 (4))]) (caps := []) Tryd.call7 rfl (keep_Src_Literals_ok h_x5) ⟨rfl, rfl, trivial⟩ (fun _ => rfl) (fun _ => trivial) (fun _ => rfl) ⟨arg rfl, arg rfl, arg rfl, trivial⟩ (fun _ _ _ _ h => h)) rfl (fun x6 => ?_)
  refine s_st (s_alloc zt_29) rfl (fun b7 => ?_)
  refine s_st0 (s_cstore (out := [slv rT_api_Premise t3.1.Premises, pv x4.1, slv rT_api_Promotion t3.1.Promotions]) Tryd.sizeOf29 rfl (j := 3) rfl (part_agO (ψs := [slv rT_api_Premise t3.1.Premises, pv x4.1, slv rT_api_Promotion t3.1.Promotions]) rfl ⟨.inl slv_at, .inr ⟨_, _, _, _, _, 1, rfl, rfl⟩, .inl slv_at, trivial⟩) rfl rfl rfl) (fun _ => ?_)
  refine as1 rfl rfl ?_
  refine l_nil ?_
  refine b_of (nrm [oc x2 [slv (rI .i64) x5.2.L, iv .i64 x5.2.At], oa rT_api_Rule x4.1 x4.2 t3.1.Rules, oa rT_api_Literal x6.1 x6.2 x5.1, oc b7 [slv rT_api_Premise t3.1.Premises, pv x4.1, slv rT_api_Promotion t3.1.Promotions]] rfl) ?_
  refine n_then (ref_seq (ref_region ?_))
  refine s_rd (r_cloadS Tryd.isAgg29 Tryd.sizeOf29 rfl (j := 3) rfl rfl rfl) rfl ?_
  refine mv1 rfl rfl ?_
  refine b_of (frzGL [(19, ag [slv rT_api_Premise t3.1.Premises, slv rT_api_Rule t3.1.Rules, slv rT_api_Promotion t3.1.Promotions]), (22, ag [slv rT_api_Premise t3.1.Premises, slv rT_api_Rule t3.1.Rules, slv rT_api_Promotion t3.1.Promotions])] [(3, b7, [slv rT_api_Premise t3.1.Premises, slv rT_api_Rule t3.1.Rules, slv rT_api_Promotion t3.1.Promotions])] (j := 1) rfl ⟨⟨_, rfl, .inr ⟨_, _, rfl, rfl, ⟨.inl rfl, .inr ⟨rfl, rfl⟩, .inl rfl, trivial⟩⟩⟩, ⟨_, rfl, .inr ⟨_, _, rfl, rfl, ⟨.inl rfl, .inr ⟨rfl, rfl⟩, .inl rfl, trivial⟩⟩⟩, trivial⟩ ⟨⟨_, rfl, ⟨.inl rfl, .inr ⟨rfl, rfl⟩, .inl rfl, trivial⟩⟩, trivial⟩) ?_
  refine b_of (frzL [21, 5, 23] (j := 2) rfl ⟨rfl, rfl, rfl, trivial⟩) ?_
  refine pull fun c8 h_c8 => ?_
  refine s_st (s_call (ψ := fun (_ : Unit) => slv rT_api_Literal c8) (args := [.tmp 22, .tmp 23]) Tryd.call8 rfl (strict_Closure_ok h_c8) ⟨arg rfl, arg rfl, trivial⟩ (fun _ _ _ _ h => h)) rfl (fun _ => ?_)
  refine as1 rfl rfl ?_
  refine l_nil (n_then (ref_seq ?_))
  refine ref_draw [0, 1, 2, 3, 4, 5, 6, 7] rfl (by kernel_rfl) (fun hok => ?_)
  refine a_rd (i := 0) hok rfl (by kernel_rfl) rfl (r_cloadS Tryd.isAgg29 Tryd.sizeOf29 rfl (j := 3) rfl rfl rfl) rfl ?_
  refine a_rd (i := 1) hok rfl (by kernel_rfl) rfl (r_move rfl) rfl ?_
  refine a_rd (i := 2) hok rfl (by kernel_rfl) rfl (r_move rfl) rfl ?_
  refine a_rd (i := 3) hok rfl (by kernel_rfl) rfl (r_len Tryd.underlying31 rfl) rfl ?_
  refine a_rd (i := 4) hok rfl (by kernel_rfl) rfl (r_move rfl) rfl ?_
  refine a_rd (i := 5) hok rfl (by kernel_rfl) rfl (r_len Tryd.underlying31 rfl) rfl ?_
  refine a_rd (i := 6) hok rfl (by kernel_rfl) rfl (r_full Tryd.underlying31 el_35 rfl rfl rfl) rfl ?_
  refine a_rd (i := 7) hok rfl (by kernel_rfl) rfl (r_move rfl) rfl ?_
  refine pull fun t9 h_t9 => ?_
  refine a_next hok 8 [] (by kernel_rfl) ?_ trivial
  refine a_st (i := 8) hok rfl rfl (s_callC [0] [true] (fun (_ : Unit) => [oc x2 [slv (rI .i64) t9.2.L, iv .i64 t9.2.At]]) (fun (_ : Unit) => []) (fun (_ : Unit) => ag [bv t9.1.Neg, sv t9.1.Name]) (args := [.tmp 32, .const (.int .i64 (4))]) (caps := []) Tryd.call9 rfl (keep_Src_Literal_ok h_t9) ⟨rfl, rfl, trivial⟩ (fun _ => rfl) (fun _ => trivial) (fun _ => rfl) ⟨arg rfl, arg rfl, trivial⟩ (fun _ _ _ _ h => h)) (by intro _ h; cases h; rfl) (fun _ => ⟨trivial, ⟨trivial, ⟨trivial, ⟨trivial, ⟨trivial, ⟨trivial, ⟨trivial, ⟨⟨⟨rfl, rfl⟩, trivial⟩, trivial⟩⟩⟩⟩⟩⟩⟩⟩) (fun _ => ?_)
  refine a_next hok 9 [] (by kernel_rfl) ?_ trivial
  refine a_st (i := 9) hok rfl rfl (s_bslice (xs := [.tmp 33]) (ds := [t9.1]) Tryd.underlying31 el_35 rfl (Nat.le_of_ble_eq_true rfl) ⟨(part_agO (ψs := [bv t9.1.Neg, sv t9.1.Name]) rfl ⟨.inl bv_at, .inl sv_at, trivial⟩), trivial⟩) (by intro _ h; cases h; rfl) (fun _ => ⟨trivial, ⟨trivial, ⟨trivial, ⟨trivial, ⟨trivial, ⟨trivial, ⟨trivial, ⟨⟨⟨rfl, rfl⟩, trivial⟩, trivial⟩⟩⟩⟩⟩⟩⟩⟩) (fun _ => ?_)
  refine pull fun t10 h_t10 => ?_
  refine a_next hok 10 [] (by kernel_rfl) ?_ trivial
  refine a_st (i := 10) hok rfl rfl (s_appendF h_t10 rfl Tryd.underlying31 el_35 rfl rfl) (by intro _ h; cases h; rfl) (fun _ => ⟨trivial, ⟨trivial, ⟨trivial, ⟨trivial, ⟨trivial, ⟨trivial, ⟨trivial, ⟨⟨⟨rfl, rfl⟩, trivial⟩, trivial⟩⟩⟩⟩⟩⟩⟩⟩) (fun o11 => ?_)
  refine a_of (frzL [35] (j := 4) rfl ⟨rfl, trivial⟩) (dead_keeps (j := 4) rfl) ?_
  refine pull fun more12 h_more12 => ?_
  refine a_next hok 11 [] (by kernel_rfl) ?_ trivial
  refine a_st (i := 11) hok rfl rfl (s_call (ψ := fun (_ : Unit) => slv rT_api_Literal more12) (args := [.tmp 25, .tmp 35]) Tryd.call8 rfl (strict_Closure_ok h_more12) ⟨arg rfl, arg rfl, trivial⟩ (fun _ _ _ _ h => h)) (by intro _ h; cases h; rfl) (fun _ => ⟨trivial, ⟨trivial, ⟨trivial, ⟨trivial, ⟨trivial, ⟨trivial, ⟨trivial, ⟨trivial, trivial⟩⟩⟩⟩⟩⟩⟩⟩) (fun _ => ?_)
  refine a_next hok 12 [] (by kernel_rfl) ?_ trivial
  refine a_st (i := 12) hok rfl rfl (St.ofRd (r_assign rfl)) (by intro _ h; cases h; rfl) (fun _ => ⟨trivial, ⟨trivial, ⟨trivial, ⟨trivial, ⟨trivial, ⟨trivial, ⟨trivial, ⟨trivial, trivial⟩⟩⟩⟩⟩⟩⟩⟩) (fun _ => ?_)
  refine a_fin hok (by kernel_rfl) ?_
  refine b_of (nrm [oc x2 [slv (rI .i64) t9.2.L, iv .i64 t9.2.At], dead, dead, oc b7 [slv rT_api_Premise t3.1.Premises, slv rT_api_Rule t3.1.Rules, slv rT_api_Promotion t3.1.Promotions], dead] rfl) ?_
  refine n_then (ref_seq ?_)
  refine ref_draw [0, 1, 2, 3, 4, 5, 6, 7] rfl (by kernel_rfl) (fun hok => ?_)
  refine a_rd (i := 0) hok rfl (by kernel_rfl) rfl (r_cloadS Tryd.isAgg29 Tryd.sizeOf29 rfl (j := 3) rfl rfl rfl) rfl ?_
  refine a_rd (i := 1) hok rfl (by kernel_rfl) rfl (r_move rfl) rfl ?_
  refine a_rd (i := 2) hok rfl (by kernel_rfl) rfl (r_move rfl) rfl ?_
  refine a_rd (i := 3) hok rfl (by kernel_rfl) rfl (r_len Tryd.underlying31 rfl) rfl ?_
  refine a_rd (i := 4) hok rfl (by kernel_rfl) rfl (r_move rfl) rfl ?_
  refine a_rd (i := 5) hok rfl (by kernel_rfl) rfl (r_len Tryd.underlying31 rfl) rfl ?_
  refine a_rd (i := 6) hok rfl (by kernel_rfl) rfl (r_full Tryd.underlying31 el_35 rfl rfl rfl) rfl ?_
  refine a_rd (i := 7) hok rfl (by kernel_rfl) rfl (r_move rfl) rfl ?_
  refine pull fun t13 h_t13 => ?_
  refine a_next hok 8 [] (by kernel_rfl) ?_ trivial
  refine a_st (i := 8) hok rfl rfl (s_callC [0] [true] (fun (x14 : (Value × List Nat)) => [oc x2 [slv (rI .i64) t13.2.L, iv .i64 t13.2.At]]) (fun (x14 : (Value × List Nat)) => [oa rT_api_Literal x14.1 x14.2 t13.1]) (fun (x14 : (Value × List Nat)) => pv x14.1) (args := [.tmp 44, .const (.int .i64 (3)), .const (.int .i64 (4))]) (caps := []) Tryd.call7 rfl (keep_Src_Literals_ok h_t13) ⟨rfl, rfl, trivial⟩ (fun _ => rfl) (fun _ => trivial) (fun _ => rfl) ⟨arg rfl, arg rfl, arg rfl, trivial⟩ (fun _ _ _ _ h => h)) (by intro _ h; cases h; rfl) (fun _ => ⟨trivial, ⟨trivial, ⟨trivial, ⟨trivial, ⟨trivial, ⟨trivial, ⟨trivial, ⟨⟨⟨rfl, rfl⟩, trivial⟩, trivial⟩⟩⟩⟩⟩⟩⟩⟩) (fun x14 => ?_)
  refine a_of (frzL [45] (j := 5) rfl ⟨rfl, trivial⟩) (dead_keeps (j := 5) rfl) ?_
  refine pull fun t15 h_t15 => ?_
  refine a_next hok 9 [] (by kernel_rfl) ?_ trivial
  refine a_st (i := 9) hok rfl rfl (s_appendFS h_t15 Tryd.underlying31 el_35 rfl rfl) (by intro _ h; cases h; rfl) (fun _ => ⟨trivial, ⟨trivial, ⟨trivial, ⟨trivial, ⟨trivial, ⟨trivial, ⟨trivial, ⟨⟨⟨rfl, rfl⟩, trivial⟩, trivial⟩⟩⟩⟩⟩⟩⟩⟩) (fun _ => ?_)
  refine pull fun wide17 h_wide17 => ?_
  refine a_next hok 10 [] (by kernel_rfl) ?_ trivial
  refine a_st (i := 10) hok rfl rfl (s_call (ψ := fun (_ : Unit) => slv rT_api_Literal wide17) (args := [.tmp 37, .tmp 46]) Tryd.call10 rfl (ref06_Closure_ok h_wide17) ⟨arg rfl, arg rfl, trivial⟩ (fun _ _ _ _ h => h)) (by intro _ h; cases h; rfl) (fun _ => ⟨trivial, ⟨trivial, ⟨trivial, ⟨trivial, ⟨trivial, ⟨trivial, ⟨trivial, ⟨trivial, trivial⟩⟩⟩⟩⟩⟩⟩⟩) (fun _ => ?_)
  refine a_next hok 11 [] (by kernel_rfl) ?_ trivial
  refine a_st (i := 11) hok rfl rfl (St.ofRd (r_assign rfl)) (by intro _ h; cases h; rfl) (fun _ => ⟨trivial, ⟨trivial, ⟨trivial, ⟨trivial, ⟨trivial, ⟨trivial, ⟨trivial, ⟨trivial, trivial⟩⟩⟩⟩⟩⟩⟩⟩) (fun _ => ?_)
  refine a_fin hok (by kernel_rfl) ?_
  refine b_of (nrm [oc x2 [slv (rI .i64) t13.2.L, iv .i64 t13.2.At], dead, dead, oc b7 [slv rT_api_Premise t3.1.Premises, slv rT_api_Rule t3.1.Rules, slv rT_api_Promotion t3.1.Promotions], dead, dead] rfl) ?_
  refine n_then (ref_seq (ref_seq (ref_region ?_)))
  refine s_rd (r_cloadS Tryd.isAgg29 Tryd.sizeOf29 rfl (j := 3) rfl rfl rfl) rfl ?_
  refine mv1 rfl rfl ?_
  refine pull fun t18 h_t18 => ?_
  refine s_st (s_call (ψ := fun (_ : Unit) => slv rT_api_Literal t18) (args := [.tmp 48, .tmp 49]) Tryd.call8 rfl (strict_Closure_ok h_t18) ⟨arg rfl, arg rfl, trivial⟩ (fun _ _ _ _ h => h)) rfl (fun _ => ?_)
  refine mv1 rfl rfl ?_
  refine pull fun t19 h_t19 => ?_
  refine s_st (s_call (ψ := fun (_ : Unit) => bv t19) (args := [.tmp 50, .tmp 51]) Tryd.call11 rfl (ref01_Same_ok h_t19) ⟨arg rfl, arg rfl, trivial⟩ (fun _ _ _ _ h => h)) rfl (fun _ => ?_)
  refine s_rd (r_not rfl) rfl ?_
  refine l_nil (n_then ?_)
  refine ref_cond rfl (fun hb20 => ?_) (fun hb20 => ?_)
  · refine ref_seq (ref_region ?_)
    refine as1 rfl rfl ?_
    refine l_nil (n_then (ref_ret (r_then ?_)))
    exact fin1 (.inl rfl) () [] rfl trivial rfl (rv_tmp rfl)
  refine ref_skip (n_then (ref_seq (ref_seq (ref_region ?_))))
  refine mv1 rfl rfl ?_
  refine s_rd (r_len Tryd.underlying31 rfl) rfl ?_
  refine mv1 rfl rfl ?_
  refine l_nil (n_then ?_)
  refine ref_loopX (f := (law06_StrictLeast_l1 x5 c8)) (Γl := (fun (s27 : Int) (x28 : Unit) => [(4, pv (ptr b7 0)), (5, slv rT_api_Literal x5.1), (6, slv rT_api_Literal c8), (7, slv rT_api_Literal more12), (8, slv rT_api_Literal wide17), (55, iv .i64 (x5.1.length : Int)), (56, iv .i64 s27)])) (Ωl := (fun (s27 : Int) (x28 : Unit) => [oc b7 [slv rT_api_Premise t3.1.Premises, slv rT_api_Rule t3.1.Rules, slv rT_api_Promotion t3.1.Promotions]])) (Γb := (fun (q33 : Unit) (y34 : Unit) => [(4, pv (ptr b7 0)), (6, slv rT_api_Literal c8), (7, slv rT_api_Literal more12), (8, slv rT_api_Literal wide17)])) (Ωb := (fun (q33 : Unit) (y34 : Unit) => [oc b7 [slv rT_api_Premise t3.1.Premises, slv rT_api_Rule t3.1.Rules, slv rT_api_Promotion t3.1.Promotions]])) (kr := (fun a : Bool => some a)) 0 () (weak [3] ⟨rfl, rfl, rfl, rfl, rfl, rfl, rfl, trivial⟩ ⟨rfl, trivial⟩) (fun s27 x28 => ?_) (fun q33 y34 => ?_)
  · unfold law06_StrictLeast_l1
    refine ref_seq (ref_region ?_)
    refine s_rd (r_lss rfl rfl) rfl ?_
    refine l_nil (n_then (ref_seq ?_))
    refine ref_cond rfl (fun hb29 => ?_) (fun hb29 => ?_)
    · refine ref_skip (n_then (ref_seq (ref_block (ref_seq (ref_region ?_)))))
      refine mv1 rfl rfl ?_
      refine as1 rfl rfl ?_
      refine l_nil (n_then (ref_seq (ref_region ?_)))
      refine mv1 rfl rfl ?_
      refine mv1 rfl rfl ?_
      refine mv1 rfl rfl ?_
      refine pull fun t30 h_t30 => ?_
      refine s_rd (r_index h_t30 Tryd.underlying31 el_35 rfl rfl) rfl ?_
      refine s_rd (r_load el_35 rfl) rfl ?_
      refine pull fun t31 h_t31 => ?_
      refine s_st (s_call (ψ := fun (_ : Unit) => bv t31) (args := [.tmp 59, .tmp 63]) Tryd.call12 rfl (ref01_Has_ok h_t31) ⟨arg rfl, arg rfl, trivial⟩ (fun _ _ _ _ h => h)) rfl (fun _ => ?_)
      refine s_rd (r_not rfl) rfl ?_
      refine l_nil (n_then ?_)
      refine ref_cond rfl (fun hb32 => ?_) (fun hb32 => ?_)
      · refine ref_seq (ref_region ?_)
        refine as1 rfl rfl ?_
        refine l_nil (n_then (ref_ret (r_block (r_then ?_))))
        refine retX ?_
        refine r_block (r_then ?_)
        exact fin1 (.inl rfl) () [] rfl trivial rfl (rv_tmp rfl)
      refine ref_skip (n_block (n_then (ref_region ?_)))
      refine s_rd (r_add rfl rfl) rfl ?_
      refine mv1 rfl rfl ?_
      refine l_nil ?_
      exact goX () (weak [0] ⟨rfl, rfl, rfl, rfl, rfl, rfl, rfl, trivial⟩ ⟨rfl, trivial⟩)
    refine ref_exit (x_then ?_)
    exact brkX () (weak [0] ⟨rfl, rfl, rfl, rfl, trivial⟩ ⟨rfl, trivial⟩)
  refine n_then (ref_seq (ref_seq (ref_region ?_)))
  refine mv1 rfl rfl ?_
  refine s_rd (r_len Tryd.underlying31 rfl) rfl ?_
  refine mv1 rfl rfl ?_
  refine l_nil (n_then ?_)
  refine ref_loopX (f := (law06_StrictLeast_l2 c8 more12 wide17)) (Γl := (fun (s43 : Int) (x44 : Unit) => [(4, pv (ptr b7 0)), (6, slv rT_api_Literal c8), (7, slv rT_api_Literal more12), (8, slv rT_api_Literal wide17), (68, iv .i64 (c8.length : Int)), (69, iv .i64 s43)])) (Ωl := (fun (s43 : Int) (x44 : Unit) => [oc b7 [slv rT_api_Premise t3.1.Premises, slv rT_api_Rule t3.1.Rules, slv rT_api_Promotion t3.1.Promotions]])) (Γb := (fun (q51 : Unit) (y52 : Unit) => [(4, pv (ptr b7 0)), (6, slv rT_api_Literal c8)])) (Ωb := (fun (q51 : Unit) (y52 : Unit) => [oc b7 [slv rT_api_Premise t3.1.Premises, slv rT_api_Rule t3.1.Rules, slv rT_api_Promotion t3.1.Promotions]])) (kr := (fun a : Bool => some a)) 0 () (weak [0] ⟨rfl, rfl, rfl, rfl, rfl, rfl, trivial⟩ ⟨rfl, trivial⟩) (fun s43 x44 => ?_) (fun q51 y52 => ?_)
  · unfold law06_StrictLeast_l2
    refine ref_seq (ref_region ?_)
    refine s_rd (r_lss rfl rfl) rfl ?_
    refine l_nil (n_then (ref_seq ?_))
    refine ref_cond rfl (fun hb45 => ?_) (fun hb45 => ?_)
    · refine ref_skip (n_then (ref_seq (ref_block (ref_seq (ref_region ?_)))))
      refine mv1 rfl rfl ?_
      refine as1 rfl rfl ?_
      refine l_nil (n_then (ref_seq (ref_region ?_)))
      refine mv1 rfl rfl ?_
      refine mv1 rfl rfl ?_
      refine mv1 rfl rfl ?_
      refine pull fun t46 h_t46 => ?_
      refine s_rd (r_index h_t46 Tryd.underlying31 el_35 rfl rfl) rfl ?_
      refine s_rd (r_load el_35 rfl) rfl ?_
      refine pull fun t47 h_t47 => ?_
      refine s_st (s_call (ψ := fun (_ : Unit) => bv t47) (args := [.tmp 72, .tmp 76]) Tryd.call12 rfl (ref01_Has_ok h_t47) ⟨arg rfl, arg rfl, trivial⟩ (fun _ _ _ _ h => h)) rfl (fun _ => ?_)
      refine s_rd (r_not rfl) rfl ?_
      refine mv1 rfl rfl ?_
      refine b_split (t := 79) rfl (fun _ => ?_) (fun _ => ?_)
      · refine s_off rfl rfl rfl rfl rfl ?_
        refine s_off rfl rfl rfl rfl rfl ?_
        refine s_off rfl rfl rfl rfl rfl ?_
        refine s_off rfl rfl rfl rfl rfl ?_
        refine s_off rfl rfl rfl rfl rfl ?_
        refine s_off rfl rfl rfl rfl rfl ?_
        refine s_off rfl rfl rfl rfl rfl ?_
        refine s_rd (r_pickT rfl rfl) rfl ?_
        refine l_nil (n_then ?_)
        refine ref_condT rfl rfl ?_
        refine ref_seq (ref_region ?_)
        refine as1 rfl rfl ?_
        refine l_nil (n_then (ref_ret (r_block (r_then ?_))))
        refine retX ?_
        refine r_block (r_then ?_)
        exact fin1 (.inl rfl) () [] rfl trivial rfl (rv_tmp rfl)
      refine s_on rfl rfl rfl ?_
      refine mv1 rfl rfl ?_
      refine s_on rfl rfl rfl ?_
      refine mv1 rfl rfl ?_
      refine s_on rfl rfl rfl ?_
      refine mv1 rfl rfl ?_
      refine s_on rfl rfl rfl ?_
      refine pull fun t48 h_t48 => ?_
      refine s_rd (r_index h_t48 Tryd.underlying31 el_35 rfl rfl) rfl ?_
      refine s_on rfl rfl rfl ?_
      refine s_rd (r_load el_35 rfl) rfl ?_
      refine s_on rfl rfl rfl ?_
      refine pull fun t49 h_t49 => ?_
      refine s_st (s_call (ψ := fun (_ : Unit) => bv t49) (args := [.tmp 80, .tmp 84]) Tryd.call12 rfl (ref01_Has_ok h_t49) ⟨arg rfl, arg rfl, trivial⟩ (fun _ _ _ _ h => h)) rfl (fun _ => ?_)
      refine s_on rfl rfl rfl ?_
      refine s_rd (r_not rfl) rfl ?_
      refine s_rd (r_pickF rfl rfl) rfl ?_
      refine l_nil (n_then ?_)
      refine ref_cond rfl (fun hb50 => ?_) (fun hb50 => ?_)
      · refine ref_seq (ref_region ?_)
        refine as1 rfl rfl ?_
        refine l_nil (n_then (ref_ret (r_block (r_then ?_))))
        refine retX ?_
        refine r_block (r_then ?_)
        exact fin1 (.inl rfl) () [] rfl trivial rfl (rv_tmp rfl)
      refine ref_skip (n_block (n_then (ref_region ?_)))
      refine s_rd (r_add rfl rfl) rfl ?_
      refine mv1 rfl rfl ?_
      refine l_nil ?_
      exact goX () (weak [0] ⟨rfl, rfl, rfl, rfl, rfl, rfl, trivial⟩ ⟨rfl, trivial⟩)
    refine ref_exit (x_then ?_)
    exact brkX () (weak [0] ⟨rfl, rfl, trivial⟩ ⟨rfl, trivial⟩)
  refine n_then (ref_seq (ref_seq (ref_region ?_)))
  refine s_rd (r_faddr (fo := 1) Tryd.underlying29 rfl rfl Tryd.sizeOf26 rfl) rfl ?_
  refine s_rd (r_cload Tryd.isAgg26 rfl (j := 0) rfl rfl) rfl ?_
  refine s_rd (r_len Tryd.underlying26 rfl) rfl ?_
  refine mv1 rfl rfl ?_
  refine l_nil (n_then ?_)
  refine ref_loopX (f := (law06_StrictLeast_l3 t3 c8)) (Γl := (fun (s74 : Int) (x75 : Unit) => [(6, slv rT_api_Literal c8), (90, slv rT_api_Rule t3.1.Rules), (91, iv .i64 (t3.1.Rules.length : Int)), (92, iv .i64 s74)])) (Ωl := (fun (s74 : Int) (x75 : Unit) => [])) (Γb := (fun (q95 : Unit) (y96 : Unit) => [])) (Ωb := (fun (q95 : Unit) (y96 : Unit) => [])) (kr := (fun a : Bool => some a)) 0 () (weak [] ⟨rfl, rfl, rfl, rfl, trivial⟩ trivial) (fun s74 x75 => ?_) (fun q95 y96 => ?_)
  · unfold law06_StrictLeast_l3
    refine ref_seq (ref_region ?_)
    refine s_rd (r_lss rfl rfl) rfl ?_
    refine l_nil (n_then (ref_seq ?_))
    refine ref_cond rfl (fun hb76 => ?_) (fun hb76 => ?_)
    · refine ref_skip (n_then (ref_seq (ref_block (ref_seq (ref_region ?_)))))
      refine pull fun t77 h_t77 => ?_
      refine s_rd (r_index h_t77 Tryd.underlying26 el_40 rfl rfl) rfl ?_
      refine s_rd (r_load el_40 rfl) rfl ?_
      refine s_st (s_alloc zt_40) rfl (fun b78 => ?_)
      refine s_st0 (s_cstore (out := [sv t77.Name, bv t77.Strict, iv .i64 t77.Rank, slv rT_api_Literal t77.Body, bv t77.Head.Neg, sv t77.Head.Name]) Tryd.sizeOf40 rfl (j := 0) rfl (part_agO (ψs := [sv t77.Name, bv t77.Strict, iv .i64 t77.Rank, slv rT_api_Literal t77.Body, bv t77.Head.Neg, sv t77.Head.Name]) rfl ⟨.inl sv_at, .inl bv_at, .inl iv_at, .inl slv_at, .inl bv_at, .inl sv_at, trivial⟩) rfl rfl rfl) (fun _ => ?_)
      refine l_nil (n_then (ref_seq (ref_region ?_)))
      refine as1 rfl rfl ?_
      refine l_nil (n_then (ref_seq (ref_seq (ref_region ?_))))
      refine s_rd (r_faddr (fo := 3) Tryd.underlying40 rfl rfl Tryd.sizeOf31 rfl) rfl ?_
      refine s_rd (r_cload Tryd.isAgg31 rfl (j := 0) rfl rfl) rfl ?_
      refine s_rd (r_len Tryd.underlying31 rfl) rfl ?_
      refine mv1 rfl rfl ?_
      refine l_nil (n_then ?_)
      refine ref_loopB (f := (law06_StrictLeast_l4 c8 t77)) (Γl := (fun (s85 : Bool × Int) (x86 : Unit) => [(6, slv rT_api_Literal c8), (12, pv (ptr b78 0)), (13, bv s85.1), (90, slv rT_api_Rule t3.1.Rules), (91, iv .i64 (t3.1.Rules.length : Int)), (92, iv .i64 s74), (97, slv rT_api_Literal t77.Body), (98, iv .i64 (t77.Body.length : Int)), (99, iv .i64 s85.2)])) (Ωl := (fun (s85 : Bool × Int) (x86 : Unit) => [oc b78 [sv t77.Name, bv t77.Strict, iv .i64 t77.Rank, slv rT_api_Literal t77.Body, bv t77.Head.Neg, sv t77.Head.Name]])) (Γb := (fun (q91 : Bool) (y92 : Unit) => [(6, slv rT_api_Literal c8), (12, pv (ptr b78 0)), (13, bv q91), (90, slv rT_api_Rule t3.1.Rules), (91, iv .i64 (t3.1.Rules.length : Int)), (92, iv .i64 s74)])) (Ωb := (fun (q91 : Bool) (y92 : Unit) => [oc b78 [sv t77.Name, bv t77.Strict, iv .i64 t77.Rank, slv rT_api_Literal t77.Body, bv t77.Head.Neg, sv t77.Head.Name]])) (true, 0) () (weak [0] ⟨rfl, rfl, rfl, rfl, rfl, rfl, rfl, rfl, rfl, trivial⟩ ⟨rfl, trivial⟩) (fun s85 x86 => ?_) (fun q91 y92 => ?_)
      · unfold law06_StrictLeast_l4
        refine ref_seq (ref_region ?_)
        refine s_rd (r_lss rfl rfl) rfl ?_
        refine l_nil (n_then (ref_seq ?_))
        refine ref_cond rfl (fun hb87 => ?_) (fun hb87 => ?_)
        · refine ref_skip (n_then (ref_seq (ref_block (ref_seq (ref_region ?_)))))
          refine pull fun t88 h_t88 => ?_
          refine s_rd (r_index h_t88 Tryd.underlying31 el_35 rfl rfl) rfl ?_
          refine s_rd (r_load el_35 rfl) rfl ?_
          refine s_st (s_alloc zt_35) rfl (fun b89 => ?_)
          refine s_st0 (s_cstore (out := [bv t88.Neg, sv t88.Name]) Tryd.sizeOf35 rfl (j := 1) rfl (part_agO (ψs := [bv t88.Neg, sv t88.Name]) rfl ⟨.inl bv_at, .inl sv_at, trivial⟩) rfl rfl rfl) (fun _ => ?_)
          refine l_nil ?_
          refine b_of (nrm [oc b78 [sv t77.Name, bv t77.Strict, iv .i64 t77.Rank, slv rT_api_Literal t77.Body, bv t77.Head.Neg, sv t77.Head.Name], oc b89 [bv t88.Neg, sv t88.Name]] rfl) ?_
          refine n_then (ref_region ?_)
          refine mv1 rfl rfl ?_
          refine mv1 rfl rfl ?_
          refine b_split (t := 104) rfl (fun _ => ?_) (fun _ => ?_)
          · refine s_on rfl rfl rfl ?_
            refine mv1 rfl rfl ?_
            refine s_on rfl rfl rfl ?_
            refine s_rd (r_cloadS Tryd.isAgg35 Tryd.sizeOf35 rfl (j := 1) rfl rfl rfl) rfl ?_
            refine s_on rfl rfl rfl ?_
            refine pull fun t90 h_t90 => ?_
            refine s_st (s_call (ψ := fun (_ : Unit) => bv t90) (args := [.tmp 105, .tmp 106]) Tryd.call12 rfl (ref01_Has_ok h_t90) ⟨arg rfl, arg rfl, trivial⟩ (fun _ _ _ _ h => h)) rfl (fun _ => ?_)
            refine s_rd (r_pickT rfl rfl) rfl ?_
            refine as1 rfl rfl ?_
            refine l_nil (n_block (n_then (ref_region ?_)))
            refine s_rd (r_add rfl rfl) rfl ?_
            refine mv1 rfl rfl ?_
            refine l_nil ?_
            exact goB () (weak [0] ⟨rfl, rfl, rfl, rfl, rfl, rfl, rfl, rfl, rfl, trivial⟩ ⟨rfl, trivial⟩)
          refine s_off rfl rfl rfl rfl rfl ?_
          refine s_off rfl rfl rfl rfl rfl ?_
          refine s_off rfl rfl rfl rfl rfl ?_
          refine s_rd (r_pickF rfl rfl) rfl ?_
          refine as1 rfl rfl ?_
          refine l_nil (n_block (n_then (ref_region ?_)))
          refine s_rd (r_add rfl rfl) rfl ?_
          refine mv1 rfl rfl ?_
          refine l_nil ?_
          exact goB () (weak [0] ⟨rfl, rfl, rfl, rfl, rfl, rfl, rfl, rfl, rfl, trivial⟩ ⟨rfl, trivial⟩)
        refine ref_exit (x_then ?_)
        exact brkB () (weak [0] ⟨rfl, rfl, rfl, rfl, rfl, rfl, trivial⟩ ⟨rfl, trivial⟩)
      refine n_then (ref_seq (ref_region ?_))
      refine s_rd (r_faddr (fo := 1) Tryd.underlying40 rfl rfl Tryd.sizeOf4 rfl) rfl ?_
      refine s_rd (r_cload Tryd.isAgg4 rfl (j := 0) rfl rfl) rfl ?_
      refine mv1 rfl rfl ?_
      refine b_split (t := 112) rfl (fun _ => ?_) (fun _ => ?_)
      · refine s_on rfl rfl rfl ?_
        refine mv1 rfl rfl ?_
        refine s_rd (r_pickT rfl rfl) rfl ?_
        refine mv1 rfl rfl ?_
        refine b_split (t := 115) rfl (fun _ => ?_) (fun _ => ?_)
        · refine s_on rfl rfl rfl ?_
          refine mv1 rfl rfl ?_
          refine s_on rfl rfl rfl ?_
          refine s_rd (r_faddr (fo := 4) Tryd.underlying40 rfl rfl Tryd.sizeOf35 rfl) rfl ?_
          refine s_on rfl rfl rfl ?_
          refine s_rd (r_cloadS Tryd.isAgg35 Tryd.sizeOf35 rfl (j := 0) rfl rfl rfl) rfl ?_
          refine s_on rfl rfl rfl ?_
          refine pull fun t93 h_t93 => ?_
          refine s_st (s_call (ψ := fun (_ : Unit) => bv t93) (args := [.tmp 116, .tmp 118]) Tryd.call12 rfl (ref01_Has_ok h_t93) ⟨arg rfl, arg rfl, trivial⟩ (fun _ _ _ _ h => h)) rfl (fun _ => ?_)
          refine s_on rfl rfl rfl ?_
          refine s_rd (r_not rfl) rfl ?_
          refine s_rd (r_pickT rfl rfl) rfl ?_
          refine l_nil (n_then ?_)
          refine ref_cond rfl (fun hb94 => ?_) (fun hb94 => ?_)
          · refine ref_seq (ref_region ?_)
            refine as1 rfl rfl ?_
            refine l_nil (n_then (ref_ret (r_block (r_then ?_))))
            refine retX ?_
            refine r_block (r_then ?_)
            exact fin1 (.inl rfl) () [] rfl trivial rfl (rv_tmp rfl)
          refine ref_skip (n_block (n_then (ref_region ?_)))
          refine s_rd (r_add rfl rfl) rfl ?_
          refine mv1 rfl rfl ?_
          refine l_nil ?_
          exact goX () (weak [] ⟨rfl, rfl, rfl, rfl, trivial⟩ trivial)
        refine s_off rfl rfl rfl rfl rfl ?_
        refine s_off rfl rfl rfl rfl rfl ?_
        refine s_off rfl rfl rfl rfl rfl ?_
        refine s_off rfl rfl rfl rfl rfl ?_
        refine s_off rfl rfl rfl rfl rfl ?_
        refine s_rd (r_pickF rfl rfl) rfl ?_
        refine l_nil (n_then ?_)
        refine ref_condF rfl rfl ?_
        refine ref_skip (n_block (n_then (ref_region ?_)))
        refine s_rd (r_add rfl rfl) rfl ?_
        refine mv1 rfl rfl ?_
        refine l_nil ?_
        exact goX () (weak [] ⟨rfl, rfl, rfl, rfl, trivial⟩ trivial)
      refine s_off rfl rfl rfl rfl rfl ?_
      refine s_rd (r_pickF rfl rfl) rfl ?_
      refine mv1 rfl rfl ?_
      refine s_off rfl rfl rfl rfl rfl ?_
      refine s_off rfl rfl rfl rfl rfl ?_
      refine s_off rfl rfl rfl rfl rfl ?_
      refine s_off rfl rfl rfl rfl rfl ?_
      refine s_off rfl rfl rfl rfl rfl ?_
      refine s_rd (r_pickF rfl rfl) rfl ?_
      refine l_nil (n_then ?_)
      refine ref_condF rfl rfl ?_
      refine ref_skip (n_block (n_then (ref_region ?_)))
      refine s_rd (r_add rfl rfl) rfl ?_
      refine mv1 rfl rfl ?_
      refine l_nil ?_
      exact goX () (weak [] ⟨rfl, rfl, rfl, rfl, trivial⟩ trivial)
    refine ref_exit (x_then ?_)
    exact brkX () (weak [] trivial trivial)
  refine n_then (ref_seq (ref_region ?_))
  refine pull fun t97 h_t97 => ?_
  refine s_st (s_call (ψ := fun (_ : Unit) => bv t97) (args := []) Tryd.call13 rfl (law06_awake_ok h_t97) trivial (fun _ _ _ _ h => h)) rfl (fun _ => ?_)
  refine as1 rfl rfl ?_
  refine l_nil (n_then (ref_ret ?_))
  exact fin1 (.inl rfl) () [] rfl trivial rfl (rv_tmp rfl)

/-! deliberation/deliberationref05.Same -/
noncomputable def ref05_Same_l1 (a__0 : T_api_Base) (b_1 : T_api_Base) (s10 : Int) : Option (Sum ((Sum (Bool) (Unit))) (Int)) :=
  bif decide (s10 < (a__0.Premises.length : Int)) then
    Option.bind (idxM a__0.Premises s10) fun t13 =>
    Option.bind (idxM b_1.Premises s10) fun t14 =>
    bif !decide (t13 = t14) then
      some (Sum.inl (Sum.inl false))
    else
      letM (iadd .i64 s10 1) fun i16x =>
      some (Sum.inr i16x)
  else
    some (Sum.inl (Sum.inr ()))

noncomputable def ref05_Same_l2 (a__0 : T_api_Base) (b_1 : T_api_Base) (s29 : Int) : Option (Sum ((Sum (Bool) (Unit))) (Int)) :=
  bif decide (s29 < (a__0.Rules.length : Int)) then
    Option.bind (idxM a__0.Rules s29) fun t33 =>
    Option.bind (idxM b_1.Rules s29) fun t34 =>
    bif !(t33.Name.toList == t34.Name.toList) then
      some (Sum.inl (Sum.inl false))
    else
      bif !(t33.Strict == t34.Strict) then
        some (Sum.inl (Sum.inl false))
      else
        bif t33.Rank != t34.Rank then
          some (Sum.inl (Sum.inl false))
        else
          bif !decide (t33.Head = t34.Head) then
            some (Sum.inl (Sum.inl false))
          else
            Option.bind (ref01_Same_m t33.Body t34.Body) fun t37 =>
            bif !t37 then
              some (Sum.inl (Sum.inl false))
            else
              letM (iadd .i64 s29 1) fun i39 =>
              some (Sum.inr i39)
  else
    some (Sum.inl (Sum.inr ()))

noncomputable def ref05_Same_l3 (a__0 : T_api_Base) (b_1 : T_api_Base) (s48 : Int) : Option (Sum ((Sum (Bool) (Unit))) (Int)) :=
  bif decide (s48 < (a__0.Promotions.length : Int)) then
    Option.bind (idxM a__0.Promotions s48) fun t51 =>
    Option.bind (idxM b_1.Promotions s48) fun t52 =>
    bif !decide (t51 = t52) then
      some (Sum.inl (Sum.inl false))
    else
      letM (iadd .i64 s48 1) fun i54 =>
      some (Sum.inr i54)
  else
    some (Sum.inl (Sum.inr ()))

noncomputable def ref05_Same_m (a__0 : T_api_Base) (b_1 : T_api_Base) : Option (Bool) :=
  bif (a__0.Premises.length : Int) != (b_1.Premises.length : Int) then
    some false
  else
    bif (a__0.Rules.length : Int) != (b_1.Rules.length : Int) then
      some false
    else
      bif (a__0.Promotions.length : Int) != (b_1.Promotions.length : Int) then
        some false
      else
        Option.bind (loopC (ref05_Same_l1 a__0 b_1) 0) (sumK (fun a : Bool => some a) fun q17 : Unit =>
          Option.bind (loopC (ref05_Same_l2 a__0 b_1) 0) (sumK (fun a : Bool => some a) fun q40 : Unit =>
            Option.bind (loopC (ref05_Same_l3 a__0 b_1) 0) (sumK (fun a : Bool => some a) fun q55 : Unit =>
              some true)))

theorem ref05_Same_ok {a__0 : T_api_Base} {b_1 : T_api_Base} {r : Bool} (hm : ref05_Same_m a__0 b_1 = some r) :
    FnOk prog 15 [ag [slv rT_api_Premise a__0.Premises, slv rT_api_Rule a__0.Rules, slv rT_api_Promotion a__0.Promotions], ag [slv rT_api_Premise b_1.Premises, slv rT_api_Rule b_1.Rules, slv rT_api_Promotion b_1.Promotions]] [] (fun (x : Unit) => [bv r]) (fun (x : Unit) => []) := by
  refine fn_ok (fn := Tryd.f15) (N := 122) (res := fun r x => [bv r]) (Ω1 := fun r x => []) Tryd.func15 rfl rfl hm rfl (fun E hM => ?_)
  unfold ref05_Same_m
  refine ref_seq (ref_region ?_)
  refine s_st (s_box (part_agO (ψs := [slv rT_api_Premise a__0.Premises, slv rT_api_Rule a__0.Rules, slv rT_api_Promotion a__0.Promotions]) rfl ⟨.inl slv_at, .inl slv_at, .inl slv_at, trivial⟩)) rfl (fun b1 => ?_)
  refine s_st (s_box (part_agO (ψs := [slv rT_api_Premise b_1.Premises, slv rT_api_Rule b_1.Rules, slv rT_api_Promotion b_1.Promotions]) rfl ⟨.inl slv_at, .inl slv_at, .inl slv_at, trivial⟩)) rfl (fun b2 => ?_)
  refine as1 rfl rfl ?_
  refine l_nil (n_then (ref_seq (ref_seq (ref_region ?_))))
  refine s_rd (r_faddr (fo := 0) Tryd.underlying29 rfl rfl Tryd.sizeOf25 rfl) rfl ?_
  refine s_rd (r_cload Tryd.isAgg25 rfl (j := 0) rfl rfl) rfl ?_
  refine s_rd (r_len Tryd.underlying25 rfl) rfl ?_
  refine s_rd (r_faddr (fo := 0) Tryd.underlying29 rfl rfl Tryd.sizeOf25 rfl) rfl ?_
  refine s_rd (r_cload Tryd.isAgg25 rfl (j := 1) rfl rfl) rfl ?_
  refine s_rd (r_len Tryd.underlying25 rfl) rfl ?_
  refine s_rd (r_neq rfl rfl) rfl ?_
  refine mv1 rfl rfl ?_
  refine b_split (t := 17) rfl (fun _ => ?_) (fun _ => ?_)
  · refine s_off rfl rfl rfl rfl rfl ?_
    refine s_off rfl rfl rfl rfl rfl ?_
    refine s_off rfl rfl rfl rfl rfl ?_
    refine s_off rfl rfl rfl rfl rfl ?_
    refine s_off rfl rfl rfl rfl rfl ?_
    refine s_off rfl rfl rfl rfl rfl ?_
    refine s_off rfl rfl rfl rfl rfl ?_
    refine s_rd (r_pickT rfl rfl) rfl ?_
    refine mv1 rfl rfl ?_
    refine s_off rfl rfl rfl rfl rfl ?_
    refine s_off rfl rfl rfl rfl rfl ?_
    refine s_off rfl rfl rfl rfl rfl ?_
    refine s_off rfl rfl rfl rfl rfl ?_
    refine s_off rfl rfl rfl rfl rfl ?_
    refine s_off rfl rfl rfl rfl rfl ?_
    refine s_off rfl rfl rfl rfl rfl ?_
    refine s_rd (r_pickT rfl rfl) rfl ?_
    refine l_nil (n_then ?_)
    refine ref_condT rfl rfl ?_
    refine ref_seq (ref_region ?_)
    refine as1 rfl rfl ?_
    refine l_nil (n_then (ref_ret (r_then ?_)))
    exact fin1 (.inl rfl) () [] rfl trivial rfl (rv_tmp rfl)
  refine s_on rfl rfl rfl ?_
  refine s_rd (r_faddr (fo := 1) Tryd.underlying29 rfl rfl Tryd.sizeOf26 rfl) rfl ?_
  refine s_on rfl rfl rfl ?_
  refine s_rd (r_cload Tryd.isAgg26 rfl (j := 0) rfl rfl) rfl ?_
  refine s_on rfl rfl rfl ?_
  refine s_rd (r_len Tryd.underlying26 rfl) rfl ?_
  refine s_on rfl rfl rfl ?_
  refine s_rd (r_faddr (fo := 1) Tryd.underlying29 rfl rfl Tryd.sizeOf26 rfl) rfl ?_
  refine s_on rfl rfl rfl ?_
  refine s_rd (r_cload Tryd.isAgg26 rfl (j := 1) rfl rfl) rfl ?_
  refine s_on rfl rfl rfl ?_
  refine s_rd (r_len Tryd.underlying26 rfl) rfl ?_
  refine s_on rfl rfl rfl ?_
  refine s_rd (r_neq rfl rfl) rfl ?_
  refine s_rd (r_pickF rfl rfl) rfl ?_
  refine mv1 rfl rfl ?_
  refine b_split (t := 26) rfl (fun _ => ?_) (fun _ => ?_)
  · refine s_off rfl rfl rfl rfl rfl ?_
    refine s_off rfl rfl rfl rfl rfl ?_
    refine s_off rfl rfl rfl rfl rfl ?_
    refine s_off rfl rfl rfl rfl rfl ?_
    refine s_off rfl rfl rfl rfl rfl ?_
    refine s_off rfl rfl rfl rfl rfl ?_
    refine s_off rfl rfl rfl rfl rfl ?_
    refine s_rd (r_pickT rfl rfl) rfl ?_
    refine l_nil (n_then ?_)
    refine ref_condT rfl rfl ?_
    refine ref_seq (ref_region ?_)
    refine as1 rfl rfl ?_
    refine l_nil (n_then (ref_ret (r_then ?_)))
    exact fin1 (.inl rfl) () [] rfl trivial rfl (rv_tmp rfl)
  refine s_on rfl rfl rfl ?_
  refine s_rd (r_faddr (fo := 2) Tryd.underlying29 rfl rfl Tryd.sizeOf27 rfl) rfl ?_
  refine s_on rfl rfl rfl ?_
  refine s_rd (r_cload Tryd.isAgg27 rfl (j := 0) rfl rfl) rfl ?_
  refine s_on rfl rfl rfl ?_
  refine s_rd (r_len Tryd.underlying27 rfl) rfl ?_
  refine s_on rfl rfl rfl ?_
  refine s_rd (r_faddr (fo := 2) Tryd.underlying29 rfl rfl Tryd.sizeOf27 rfl) rfl ?_
  refine s_on rfl rfl rfl ?_
  refine s_rd (r_cload Tryd.isAgg27 rfl (j := 1) rfl rfl) rfl ?_
  refine s_on rfl rfl rfl ?_
  refine s_rd (r_len Tryd.underlying27 rfl) rfl ?_
  refine s_on rfl rfl rfl ?_
  refine s_rd (r_neq rfl rfl) rfl ?_
  refine s_rd (r_pickF rfl rfl) rfl ?_
  refine l_nil (n_then ?_)
  refine ref_cond rfl (fun hb3 => ?_) (fun hb3 => ?_)
  · refine ref_seq (ref_region ?_)
    refine as1 rfl rfl ?_
    refine l_nil (n_then (ref_ret (r_then ?_)))
    exact fin1 (.inl rfl) () [] rfl trivial rfl (rv_tmp rfl)
  refine ref_skip (n_then (ref_seq (ref_seq (ref_region ?_))))
  refine as1 rfl rfl ?_
  refine l_nil (n_then ?_)
  refine ref_loopX (f := (ref05_Same_l1 a__0 b_1)) (Γl := (fun (s10 : Int) (x11 : Unit) => [(2, pv (ptr b1 0)), (3, pv (ptr b2 0)), (5, iv .i64 s10)])) (Ωl := (fun (s10 : Int) (x11 : Unit) => [oc b1 [slv rT_api_Premise a__0.Premises, slv rT_api_Rule a__0.Rules, slv rT_api_Promotion a__0.Promotions], oc b2 [slv rT_api_Premise b_1.Premises, slv rT_api_Rule b_1.Rules, slv rT_api_Promotion b_1.Promotions]])) (Γb := (fun (q17 : Unit) (y18 : Unit) => [(2, pv (ptr b1 0)), (3, pv (ptr b2 0))])) (Ωb := (fun (q17 : Unit) (y18 : Unit) => [oc b1 [slv rT_api_Premise a__0.Premises, slv rT_api_Rule a__0.Rules, slv rT_api_Promotion a__0.Promotions], oc b2 [slv rT_api_Premise b_1.Premises, slv rT_api_Rule b_1.Rules, slv rT_api_Promotion b_1.Promotions]])) (kr := (fun a : Bool => some a)) 0 () (weak [0, 1] ⟨rfl, rfl, rfl, trivial⟩ ⟨rfl, rfl, trivial⟩) (fun s10 x11 => ?_) (fun q17 y18 => ?_)
  · unfold ref05_Same_l1
    refine ref_seq (ref_seq (ref_region ?_))
    refine mv1 rfl rfl ?_
    refine s_rd (r_faddr (fo := 0) Tryd.underlying29 rfl rfl Tryd.sizeOf25 rfl) rfl ?_
    refine s_rd (r_cload Tryd.isAgg25 rfl (j := 0) rfl rfl) rfl ?_
    refine s_rd (r_len Tryd.underlying25 rfl) rfl ?_
    refine s_rd (r_lss rfl rfl) rfl ?_
    refine l_nil (n_then ?_)
    refine ref_cond rfl (fun hb12 => ?_) (fun hb12 => ?_)
    · refine ref_skip (n_then (ref_seq (ref_block (ref_seq ?_))))
      refine ref_draw [0, 1, 2, 3, 4, 5, 6, 7, 8, 9, 10] rfl (by kernel_rfl) (fun hok => ?_)
      refine a_rd (i := 0) hok rfl (by kernel_rfl) rfl (r_faddr (fo := 0) Tryd.underlying29 rfl rfl Tryd.sizeOf25 rfl) rfl ?_
      refine a_rd (i := 1) hok rfl (by kernel_rfl) rfl (r_cload Tryd.isAgg25 rfl (j := 0) rfl rfl) rfl ?_
      refine a_rd (i := 2) hok rfl (by kernel_rfl) rfl (r_move rfl) rfl ?_
      refine pull fun t13 h_t13 => ?_
      refine a_rd (i := 3) hok rfl (by kernel_rfl) rfl (r_index h_t13 Tryd.underlying25 el_55 rfl rfl) rfl ?_
      refine a_rd (i := 4) hok rfl (by kernel_rfl) rfl (r_load el_55 rfl) rfl ?_
      refine a_rd (i := 5) hok rfl (by kernel_rfl) rfl (r_faddr (fo := 0) Tryd.underlying29 rfl rfl Tryd.sizeOf25 rfl) rfl ?_
      refine a_rd (i := 6) hok rfl (by kernel_rfl) rfl (r_cload Tryd.isAgg25 rfl (j := 1) rfl rfl) rfl ?_
      refine a_rd (i := 7) hok rfl (by kernel_rfl) rfl (r_move rfl) rfl ?_
      refine pull fun t14 h_t14 => ?_
      refine a_rd (i := 8) hok rfl (by kernel_rfl) rfl (r_index h_t14 Tryd.underlying25 el_55 rfl rfl) rfl ?_
      refine a_rd (i := 9) hok rfl (by kernel_rfl) rfl (r_load el_55 rfl) rfl ?_
      refine a_rd (i := 10) hok rfl (by kernel_rfl) rfl (r_stneq (u := t13) (v := t14) eq_55 rfl rfl rfl rfl) rfl ?_
      refine a_fin hok (by kernel_rfl) ?_
      refine n_then ?_
      refine ref_cond rfl (fun hb15 => ?_) (fun hb15 => ?_)
      · refine ref_seq (ref_region ?_)
        refine as1 rfl rfl ?_
        refine l_nil (n_then (ref_ret (r_block (r_then ?_))))
        refine retX ?_
        refine r_block (r_then ?_)
        exact fin1 (.inl rfl) () [] rfl trivial rfl (rv_tmp rfl)
      refine ref_skip (n_block (n_then (ref_region ?_)))
      refine mv1 rfl rfl ?_
      refine s_rd (r_add rfl rfl) rfl ?_
      refine as1 rfl rfl ?_
      refine b_let (f := iv .i64) (t := 5) rfl fun i16x => ?_
      refine l_nil ?_
      exact goX () (weak [0, 1] ⟨rfl, rfl, rfl, trivial⟩ ⟨rfl, rfl, trivial⟩)
    refine ref_exit (x_then ?_)
    exact brkX () (weak [0, 1] ⟨rfl, rfl, trivial⟩ ⟨rfl, rfl, trivial⟩)
  refine n_then (ref_seq (ref_seq (ref_region ?_)))
  refine as1 rfl rfl ?_
  refine l_nil (n_then ?_)
  refine ref_loopX (f := (ref05_Same_l2 a__0 b_1)) (Γl := (fun (s29 : Int) (x30 : Unit) => [(2, pv (ptr b1 0)), (3, pv (ptr b2 0)), (6, iv .i64 s29)])) (Ωl := (fun (s29 : Int) (x30 : Unit) => [oc b1 [slv rT_api_Premise a__0.Premises, slv rT_api_Rule a__0.Rules, slv rT_api_Promotion a__0.Promotions], oc b2 [slv rT_api_Premise b_1.Premises, slv rT_api_Rule b_1.Rules, slv rT_api_Promotion b_1.Promotions]])) (Γb := (fun (q40 : Unit) (y41 : Unit) => [(2, pv (ptr b1 0)), (3, pv (ptr b2 0))])) (Ωb := (fun (q40 : Unit) (y41 : Unit) => [oc b1 [slv rT_api_Premise a__0.Premises, slv rT_api_Rule a__0.Rules, slv rT_api_Promotion a__0.Promotions], oc b2 [slv rT_api_Premise b_1.Premises, slv rT_api_Rule b_1.Rules, slv rT_api_Promotion b_1.Promotions]])) (kr := (fun a : Bool => some a)) 0 () (weak [0, 1] ⟨rfl, rfl, rfl, trivial⟩ ⟨rfl, rfl, trivial⟩) (fun s29 x30 => ?_) (fun q40 y41 => ?_)
  · unfold ref05_Same_l2
    refine ref_seq (ref_seq (ref_region ?_))
    refine mv1 rfl rfl ?_
    refine s_rd (r_faddr (fo := 1) Tryd.underlying29 rfl rfl Tryd.sizeOf26 rfl) rfl ?_
    refine s_rd (r_cload Tryd.isAgg26 rfl (j := 0) rfl rfl) rfl ?_
    refine s_rd (r_len Tryd.underlying26 rfl) rfl ?_
    refine s_rd (r_lss rfl rfl) rfl ?_
    refine l_nil (n_then ?_)
    refine ref_cond rfl (fun hb31 => ?_) (fun hb31 => ?_)
    · refine ref_skip (n_then (ref_seq (ref_block (ref_seq ?_))))
      refine pull fun t33 h_t33 => ?_
      refine pull fun t34 h_t34 => ?_
      refine ref_drawI 2 [⟨[], [], [], [], [], fun us u => pv (ptr b1 1), fun us u => []⟩, ⟨[0], [], [], [0], [], fun us u => slv rT_api_Rule a__0.Rules, fun us u => []⟩, ⟨[], [], [], [], [], fun us u => iv .i64 s29, fun us u => []⟩, ⟨[0, 1, 2], [], [], [], [], fun us u => ea rT_api_Rule t33, fun us u => []⟩, ⟨[0, 1, 2, 3], [], [], [], [], fun us u => ag [sv t33.Name, bv t33.Strict, iv .i64 t33.Rank, slv rT_api_Literal t33.Body, bv t33.Head.Neg, sv t33.Head.Name], fun us u => []⟩, ⟨[], [], [], [], [], fun us u => pv (ptr b2 1), fun us u => []⟩, ⟨[5], [], [], [1], [], fun us u => slv rT_api_Rule b_1.Rules, fun us u => []⟩, ⟨[], [], [], [], [], fun us u => iv .i64 s29, fun us u => []⟩, ⟨[5, 6, 7], [], [], [], [], fun us u => ea rT_api_Rule t34, fun us u => []⟩, ⟨[5, 6, 7, 8], [], [], [], [], fun us u => ag [sv t34.Name, bv t34.Strict, iv .i64 t34.Rank, slv rT_api_Literal t34.Body, bv t34.Head.Neg, sv t34.Head.Name], fun us u => []⟩, ⟨[], [], [2], [2], [], fun us u => pv (ptr u.Nn 0), fun us u => [oc u.Nn [sv ByteArray.empty, bv false, iv .i64 0, pv (.slice none 0 0), bv false, sv ByteArray.empty]]⟩, ⟨[], [], [3], [3], [], fun us u => pv (ptr u.Nn 0), fun us u => [oc u.Nn [sv ByteArray.empty, bv false, iv .i64 0, pv (.slice none 0 0), bv false, sv ByteArray.empty]]⟩, ⟨[0, 1, 2, 3, 4, 10, 11], [10], [2], [2], [2], fun us u => pv undef, fun us u => [oc (us.getD 0 .none).Nn [sv t33.Name, bv t33.Strict, iv .i64 t33.Rank, slv rT_api_Literal t33.Body, bv t33.Head.Neg, sv t33.Head.Name]]⟩, ⟨[0, 1, 2, 3, 4, 5, 6, 7, 8, 9, 10, 11, 12], [11], [3], [3], [3], fun us u => pv undef, fun us u => [oc (us.getD 0 .none).Nn [sv t34.Name, bv t34.Strict, iv .i64 t34.Rank, slv rT_api_Literal t34.Body, bv t34.Head.Neg, sv t34.Head.Name]]⟩] (fun χ32 => [(2, pv (ptr b1 0)), (3, pv (ptr b2 0)), (6, iv .i64 s29), (7, pv (ptr (χ32 10).Nn 0)), (8, pv (ptr (χ32 11).Nn 0))]) (fun χ32 => [oc b1 [slv rT_api_Premise a__0.Premises, slv rT_api_Rule a__0.Rules, slv rT_api_Promotion a__0.Promotions], oc b2 [slv rT_api_Premise b_1.Premises, slv rT_api_Rule b_1.Rules, slv rT_api_Promotion b_1.Promotions], oc (χ32 10).Nn [sv t33.Name, bv t33.Strict, iv .i64 t33.Rank, slv rT_api_Literal t33.Body, bv t33.Head.Neg, sv t33.Head.Name], oc (χ32 11).Nn [sv t34.Name, bv t34.Strict, iv .i64 t34.Rank, slv rT_api_Literal t34.Body, bv t34.Head.Neg, sv t34.Head.Name]]) rfl (by kernel_rfl) ⟨fun χ32 Ω _ => St.toR (r_faddr (fo := 1) Tryd.underlying29 rfl rfl Tryd.sizeOf26 rfl) (fun _ => rfl) (fun _ => rfl), (by intro _ h; cases h; rfl), ⟨fun χ32 Ω ⟨h0, _⟩ => St.toR (r_cload Tryd.isAgg26 rfl (j := 0) h0 rfl) (fun _ => rfl) (fun _ => rfl), (by intro _ h; cases h; rfl), ⟨fun χ32 Ω _ => St.toR (r_move rfl) (fun _ => rfl) (fun _ => rfl), (by intro _ h; cases h; rfl), ⟨fun χ32 Ω _ => St.toR (r_index h_t33 Tryd.underlying26 el_40 rfl rfl) (fun _ => rfl) (fun _ => rfl), (by intro _ h; cases h; rfl), ⟨fun χ32 Ω _ => St.toR (r_load el_40 rfl) (fun _ => rfl) (fun _ => rfl), (by intro _ h; cases h; rfl), ⟨fun χ32 Ω _ => St.toR (r_faddr (fo := 1) Tryd.underlying29 rfl rfl Tryd.sizeOf26 rfl) (fun _ => rfl) (fun _ => rfl), (by intro _ h; cases h; rfl), ⟨fun χ32 Ω ⟨h1, _⟩ => St.toR (r_cload Tryd.isAgg26 rfl (j := 1) h1 rfl) (fun _ => rfl) (fun _ => rfl), (by intro _ h; cases h; rfl), ⟨fun χ32 Ω _ => St.toR (r_move rfl) (fun _ => rfl) (fun _ => rfl), (by intro _ h; cases h; rfl), ⟨fun χ32 Ω _ => St.toR (r_index h_t34 Tryd.underlying26 el_40 rfl rfl) (fun _ => rfl) (fun _ => rfl), (by intro _ h; cases h; rfl), ⟨fun χ32 Ω _ => St.toR (r_load el_40 rfl) (fun _ => rfl) (fun _ => rfl), (by intro _ h; cases h; rfl), ⟨fun χ32 Ω ⟨h2, _⟩ => St.to XU.Nn XU.hN (St.placeL (os := fun _ => [_]) [2] (s_alloc zt_40) (fun _ => rfl) (fun _ => ⟨h2, rfl, trivial⟩)) (fun _ => rfl) (fun _ => rfl), (by intro _ h; cases h; rfl), ⟨fun χ32 Ω ⟨h3, _⟩ => St.to XU.Nn XU.hN (St.placeL (os := fun _ => [_]) [3] (s_alloc zt_40) (fun _ => rfl) (fun _ => ⟨h3, rfl, trivial⟩)) (fun _ => rfl) (fun _ => rfl), (by intro _ h; cases h; rfl), ⟨fun χ32 Ω ⟨h2, _⟩ => St.to XU.U XU.hU (s_cstore (out := [sv t33.Name, bv t33.Strict, iv .i64 t33.Rank, slv rT_api_Literal t33.Body, bv t33.Head.Neg, sv t33.Head.Name]) Tryd.sizeOf40 rfl (j := 2) h2 (part_agO (ψs := [sv t33.Name, bv t33.Strict, iv .i64 t33.Rank, slv rT_api_Literal t33.Body, bv t33.Head.Neg, sv t33.Head.Name]) rfl ⟨.inl sv_at, .inl bv_at, .inl iv_at, .inl slv_at, .inl bv_at, .inl sv_at, trivial⟩) rfl rfl rfl) (fun _ => rfl) (fun _ => rfl), (by intro _ h; cases h), ⟨fun χ32 Ω ⟨h3, _⟩ => St.to XU.U XU.hU (s_cstore (out := [sv t34.Name, bv t34.Strict, iv .i64 t34.Rank, slv rT_api_Literal t34.Body, bv t34.Head.Neg, sv t34.Head.Name]) Tryd.sizeOf40 rfl (j := 3) h3 (part_agO (ψs := [sv t34.Name, bv t34.Strict, iv .i64 t34.Rank, slv rT_api_Literal t34.Body, bv t34.Head.Neg, sv t34.Head.Name]) rfl ⟨.inl sv_at, .inl bv_at, .inl iv_at, .inl slv_at, .inl bv_at, .inl sv_at, trivial⟩) rfl rfl rfl) (fun _ => rfl) (fun _ => rfl), (by intro _ h; cases h), trivial⟩⟩⟩⟩⟩⟩⟩⟩⟩⟩⟩⟩⟩⟩ (fun _ => ⟨rfl, rfl, rfl, rfl, rfl, trivial⟩) (fun _ => rfl) (fun χ32 => ?_)
      refine n_then (ref_seq (ref_region ?_))
      refine s_rd (r_faddr (fo := 0) Tryd.underlying40 rfl rfl Tryd.sizeOf9 rfl) rfl ?_
      refine s_rd (r_cload Tryd.isAgg9 rfl (j := 2) rfl rfl) rfl ?_
      refine s_rd (r_faddr (fo := 0) Tryd.underlying40 rfl rfl Tryd.sizeOf9 rfl) rfl ?_
      refine s_rd (r_cload Tryd.isAgg9 rfl (j := 3) rfl rfl) rfl ?_
      refine s_rd (r_sneq rfl rfl) rfl ?_
      refine mv1 rfl rfl ?_
      refine b_split (t := 75) rfl (fun _ => ?_) (fun _ => ?_)
      · refine s_off rfl rfl rfl rfl rfl ?_
        refine s_off rfl rfl rfl rfl rfl ?_
        refine s_off rfl rfl rfl rfl rfl ?_
        refine s_off rfl rfl rfl rfl rfl ?_
        refine s_off rfl rfl rfl rfl rfl ?_
        refine s_rd (r_pickT rfl rfl) rfl ?_
        refine mv1 rfl rfl ?_
        refine s_off rfl rfl rfl rfl rfl ?_
        refine s_off rfl rfl rfl rfl rfl ?_
        refine s_off rfl rfl rfl rfl rfl ?_
        refine s_off rfl rfl rfl rfl rfl ?_
        refine s_off rfl rfl rfl rfl rfl ?_
        refine s_rd (r_pickT rfl rfl) rfl ?_
        refine mv1 rfl rfl ?_
        refine s_off rfl rfl rfl rfl rfl ?_
        refine s_off rfl rfl rfl rfl rfl ?_
        refine s_off rfl rfl rfl rfl rfl ?_
        refine s_off rfl rfl rfl rfl rfl ?_
        refine s_off rfl rfl rfl rfl rfl ?_
        refine s_rd (r_pickT rfl rfl) rfl ?_
        refine mv1 rfl rfl ?_
        refine s_off rfl rfl rfl rfl rfl ?_
        refine s_off rfl rfl rfl rfl rfl ?_
        refine s_off rfl rfl rfl rfl rfl ?_
        refine s_off rfl rfl rfl rfl rfl ?_
        refine s_off rfl rfl rfl rfl rfl ?_
        refine s_off rfl rfl rfl rfl rfl ?_
        refine s_rd (r_pickT rfl rfl) rfl ?_
        refine l_nil (n_then ?_)
        refine ref_condT rfl rfl ?_
        refine ref_seq (ref_region ?_)
        refine as1 rfl rfl ?_
        refine l_nil (n_then (ref_ret (r_block (r_then ?_))))
        refine retX ?_
        refine r_block (r_then ?_)
        exact fin1 (.inl rfl) () [] rfl trivial rfl (rv_tmp rfl)
      refine s_on rfl rfl rfl ?_
      refine s_rd (r_faddr (fo := 1) Tryd.underlying40 rfl rfl Tryd.sizeOf4 rfl) rfl ?_
      refine s_on rfl rfl rfl ?_
      refine s_rd (r_cload Tryd.isAgg4 rfl (j := 2) rfl rfl) rfl ?_
      refine s_on rfl rfl rfl ?_
      refine s_rd (r_faddr (fo := 1) Tryd.underlying40 rfl rfl Tryd.sizeOf4 rfl) rfl ?_
      refine s_on rfl rfl rfl ?_
      refine s_rd (r_cload Tryd.isAgg4 rfl (j := 3) rfl rfl) rfl ?_
      refine s_on rfl rfl rfl ?_
      refine s_rd (r_bneq Tryd.underlying4 rfl rfl) rfl ?_
      refine s_rd (r_pickF rfl rfl) rfl ?_
      refine mv1 rfl rfl ?_
      refine b_split (t := 82) rfl (fun _ => ?_) (fun _ => ?_)
      · refine s_off rfl rfl rfl rfl rfl ?_
        refine s_off rfl rfl rfl rfl rfl ?_
        refine s_off rfl rfl rfl rfl rfl ?_
        refine s_off rfl rfl rfl rfl rfl ?_
        refine s_off rfl rfl rfl rfl rfl ?_
        refine s_rd (r_pickT rfl rfl) rfl ?_
        refine mv1 rfl rfl ?_
        refine s_off rfl rfl rfl rfl rfl ?_
        refine s_off rfl rfl rfl rfl rfl ?_
        refine s_off rfl rfl rfl rfl rfl ?_
        refine s_off rfl rfl rfl rfl rfl ?_
        refine s_off rfl rfl rfl rfl rfl ?_
        refine s_rd (r_pickT rfl rfl) rfl ?_
        refine mv1 rfl rfl ?_
        refine s_off rfl rfl rfl rfl rfl ?_
        refine s_off rfl rfl rfl rfl rfl ?_
        refine s_off rfl rfl rfl rfl rfl ?_
        refine s_off rfl rfl rfl rfl rfl ?_
        refine s_off rfl rfl rfl rfl rfl ?_
        refine s_off rfl rfl rfl rfl rfl ?_
        refine s_rd (r_pickT rfl rfl) rfl ?_
        refine l_nil (n_then ?_)
        refine ref_condT rfl rfl ?_
        refine ref_seq (ref_region ?_)
        refine as1 rfl rfl ?_
        refine l_nil (n_then (ref_ret (r_block (r_then ?_))))
        refine retX ?_
        refine r_block (r_then ?_)
        exact fin1 (.inl rfl) () [] rfl trivial rfl (rv_tmp rfl)
      refine s_on rfl rfl rfl ?_
      refine s_rd (r_faddr (fo := 2) Tryd.underlying40 rfl rfl Tryd.sizeOf3 rfl) rfl ?_
      refine s_on rfl rfl rfl ?_
      refine s_rd (r_cload Tryd.isAgg3 rfl (j := 2) rfl rfl) rfl ?_
      refine s_on rfl rfl rfl ?_
      refine s_rd (r_faddr (fo := 2) Tryd.underlying40 rfl rfl Tryd.sizeOf3 rfl) rfl ?_
      refine s_on rfl rfl rfl ?_
      refine s_rd (r_cload Tryd.isAgg3 rfl (j := 3) rfl rfl) rfl ?_
      refine s_on rfl rfl rfl ?_
      refine s_rd (r_neq rfl rfl) rfl ?_
      refine s_rd (r_pickF rfl rfl) rfl ?_
      refine mv1 rfl rfl ?_
      refine b_split (t := 89) rfl (fun _ => ?_) (fun _ => ?_)
      · refine s_off rfl rfl rfl rfl rfl ?_
        refine s_off rfl rfl rfl rfl rfl ?_
        refine s_off rfl rfl rfl rfl rfl ?_
        refine s_off rfl rfl rfl rfl rfl ?_
        refine s_off rfl rfl rfl rfl rfl ?_
        refine s_rd (r_pickT rfl rfl) rfl ?_
        refine mv1 rfl rfl ?_
        refine s_off rfl rfl rfl rfl rfl ?_
        refine s_off rfl rfl rfl rfl rfl ?_
        refine s_off rfl rfl rfl rfl rfl ?_
        refine s_off rfl rfl rfl rfl rfl ?_
        refine s_off rfl rfl rfl rfl rfl ?_
        refine s_off rfl rfl rfl rfl rfl ?_
        refine s_rd (r_pickT rfl rfl) rfl ?_
        refine l_nil (n_then ?_)
        refine ref_condT rfl rfl ?_
        refine ref_seq (ref_region ?_)
        refine as1 rfl rfl ?_
        refine l_nil (n_then (ref_ret (r_block (r_then ?_))))
        refine retX ?_
        refine r_block (r_then ?_)
        exact fin1 (.inl rfl) () [] rfl trivial rfl (rv_tmp rfl)
      refine s_on rfl rfl rfl ?_
      refine s_rd (r_faddr (fo := 4) Tryd.underlying40 rfl rfl Tryd.sizeOf35 rfl) rfl ?_
      refine s_on rfl rfl rfl ?_
      refine s_rd (r_cloadS Tryd.isAgg35 Tryd.sizeOf35 rfl (j := 2) rfl rfl rfl) rfl ?_
      refine s_on rfl rfl rfl ?_
      refine s_rd (r_faddr (fo := 4) Tryd.underlying40 rfl rfl Tryd.sizeOf35 rfl) rfl ?_
      refine s_on rfl rfl rfl ?_
      refine s_rd (r_cloadS Tryd.isAgg35 Tryd.sizeOf35 rfl (j := 3) rfl rfl rfl) rfl ?_
      refine s_on rfl rfl rfl ?_
      refine s_rd (r_stneq (u := t33.Head) (v := t34.Head) eq_35 rfl rfl rfl rfl) rfl ?_
      refine s_rd (r_pickF rfl rfl) rfl ?_
      refine mv1 rfl rfl ?_
      refine b_split (t := 96) rfl (fun _ => ?_) (fun _ => ?_)
      · refine s_off rfl rfl rfl rfl rfl ?_
        refine s_off rfl rfl rfl rfl rfl ?_
        refine s_off rfl rfl rfl rfl rfl ?_
        refine s_off rfl rfl rfl rfl rfl ?_
        refine s_off rfl rfl rfl rfl rfl ?_
        refine s_off rfl rfl rfl rfl rfl ?_
        refine s_rd (r_pickT rfl rfl) rfl ?_
        refine l_nil (n_then ?_)
        refine ref_condT rfl rfl ?_
        refine ref_seq (ref_region ?_)
        refine as1 rfl rfl ?_
        refine l_nil (n_then (ref_ret (r_block (r_then ?_))))
        refine retX ?_
        refine r_block (r_then ?_)
        exact fin1 (.inl rfl) () [] rfl trivial rfl (rv_tmp rfl)
      refine s_on rfl rfl rfl ?_
      refine s_rd (r_faddr (fo := 3) Tryd.underlying40 rfl rfl Tryd.sizeOf31 rfl) rfl ?_
      refine s_on rfl rfl rfl ?_
      refine s_rd (r_cload Tryd.isAgg31 rfl (j := 2) rfl rfl) rfl ?_
      refine s_on rfl rfl rfl ?_
      refine s_rd (r_faddr (fo := 3) Tryd.underlying40 rfl rfl Tryd.sizeOf31 rfl) rfl ?_
      refine s_on rfl rfl rfl ?_
      refine s_rd (r_cload Tryd.isAgg31 rfl (j := 3) rfl rfl) rfl ?_
      refine s_on rfl rfl rfl ?_
      refine pull fun t37 h_t37 => ?_
      refine s_st (s_call (ψ := fun (_ : Unit) => bv t37) (args := [.tmp 98, .tmp 100]) Tryd.call11 rfl (ref01_Same_ok h_t37) ⟨arg rfl, arg rfl, trivial⟩ (fun _ _ _ _ h => h)) rfl (fun _ => ?_)
      refine s_on rfl rfl rfl ?_
      refine s_rd (r_not rfl) rfl ?_
      refine s_rd (r_pickF rfl rfl) rfl ?_
      refine l_nil (n_then ?_)
      refine ref_cond rfl (fun hb38 => ?_) (fun hb38 => ?_)
      · refine ref_seq (ref_region ?_)
        refine as1 rfl rfl ?_
        refine l_nil (n_then (ref_ret (r_block (r_then ?_))))
        refine retX ?_
        refine r_block (r_then ?_)
        exact fin1 (.inl rfl) () [] rfl trivial rfl (rv_tmp rfl)
      refine ref_skip (n_block (n_then (ref_region ?_)))
      refine mv1 rfl rfl ?_
      refine s_rd (r_add rfl rfl) rfl ?_
      refine as1 rfl rfl ?_
      refine b_let (f := iv .i64) (t := 6) rfl fun i39 => ?_
      refine l_nil ?_
      exact goX () (weak [0, 1] ⟨rfl, rfl, rfl, trivial⟩ ⟨rfl, rfl, trivial⟩)
    refine ref_exit (x_then ?_)
    exact brkX () (weak [0, 1] ⟨rfl, rfl, trivial⟩ ⟨rfl, rfl, trivial⟩)
  refine n_then (ref_seq (ref_seq (ref_region ?_)))
  refine as1 rfl rfl ?_
  refine l_nil (n_then ?_)
  refine ref_loopX (f := (ref05_Same_l3 a__0 b_1)) (Γl := (fun (s48 : Int) (x49 : Unit) => [(2, pv (ptr b1 0)), (3, pv (ptr b2 0)), (9, iv .i64 s48)])) (Ωl := (fun (s48 : Int) (x49 : Unit) => [oc b1 [slv rT_api_Premise a__0.Premises, slv rT_api_Rule a__0.Rules, slv rT_api_Promotion a__0.Promotions], oc b2 [slv rT_api_Premise b_1.Premises, slv rT_api_Rule b_1.Rules, slv rT_api_Promotion b_1.Promotions]])) (Γb := (fun (q55 : Unit) (y56 : Unit) => [])) (Ωb := (fun (q55 : Unit) (y56 : Unit) => [])) (kr := (fun a : Bool => some a)) 0 () (weak [0, 1] ⟨rfl, rfl, rfl, trivial⟩ ⟨rfl, rfl, trivial⟩) (fun s48 x49 => ?_) (fun q55 y56 => ?_)
  · unfold ref05_Same_l3
    refine ref_seq (ref_seq (ref_region ?_))
    refine mv1 rfl rfl ?_
    refine s_rd (r_faddr (fo := 2) Tryd.underlying29 rfl rfl Tryd.sizeOf27 rfl) rfl ?_
    refine s_rd (r_cload Tryd.isAgg27 rfl (j := 0) rfl rfl) rfl ?_
    refine s_rd (r_len Tryd.underlying27 rfl) rfl ?_
    refine s_rd (r_lss rfl rfl) rfl ?_
    refine l_nil (n_then ?_)
    refine ref_cond rfl (fun hb50 => ?_) (fun hb50 => ?_)
    · refine ref_skip (n_then (ref_seq (ref_block (ref_seq ?_))))
      refine ref_draw [0, 1, 2, 3, 4, 5, 6, 7, 8, 9, 10] rfl (by kernel_rfl) (fun hok => ?_)
      refine a_rd (i := 0) hok rfl (by kernel_rfl) rfl (r_faddr (fo := 2) Tryd.underlying29 rfl rfl Tryd.sizeOf27 rfl) rfl ?_
      refine a_rd (i := 1) hok rfl (by kernel_rfl) rfl (r_cload Tryd.isAgg27 rfl (j := 0) rfl rfl) rfl ?_
      refine a_rd (i := 2) hok rfl (by kernel_rfl) rfl (r_move rfl) rfl ?_
      refine pull fun t51 h_t51 => ?_
      refine a_rd (i := 3) hok rfl (by kernel_rfl) rfl (r_index h_t51 Tryd.underlying27 el_59 rfl rfl) rfl ?_
      refine a_rd (i := 4) hok rfl (by kernel_rfl) rfl (r_load el_59 rfl) rfl ?_
      refine a_rd (i := 5) hok rfl (by kernel_rfl) rfl (r_faddr (fo := 2) Tryd.underlying29 rfl rfl Tryd.sizeOf27 rfl) rfl ?_
      refine a_rd (i := 6) hok rfl (by kernel_rfl) rfl (r_cload Tryd.isAgg27 rfl (j := 1) rfl rfl) rfl ?_
      refine a_rd (i := 7) hok rfl (by kernel_rfl) rfl (r_move rfl) rfl ?_
      refine pull fun t52 h_t52 => ?_
      refine a_rd (i := 8) hok rfl (by kernel_rfl) rfl (r_index h_t52 Tryd.underlying27 el_59 rfl rfl) rfl ?_
      refine a_rd (i := 9) hok rfl (by kernel_rfl) rfl (r_load el_59 rfl) rfl ?_
      refine a_rd (i := 10) hok rfl (by kernel_rfl) rfl (r_stneq (u := t51) (v := t52) eq_59 rfl rfl rfl rfl) rfl ?_
      refine a_fin hok (by kernel_rfl) ?_
      refine n_then ?_
      refine ref_cond rfl (fun hb53 => ?_) (fun hb53 => ?_)
      · refine ref_seq (ref_region ?_)
        refine as1 rfl rfl ?_
        refine l_nil (n_then (ref_ret (r_block (r_then ?_))))
        refine retX ?_
        refine r_block (r_then ?_)
        exact fin1 (.inl rfl) () [] rfl trivial rfl (rv_tmp rfl)
      refine ref_skip (n_block (n_then (ref_region ?_)))
      refine mv1 rfl rfl ?_
      refine s_rd (r_add rfl rfl) rfl ?_
      refine as1 rfl rfl ?_
      refine b_let (f := iv .i64) (t := 9) rfl fun i54 => ?_
      refine l_nil ?_
      exact goX () (weak [0, 1] ⟨rfl, rfl, rfl, trivial⟩ ⟨rfl, rfl, trivial⟩)
    refine ref_exit (x_then ?_)
    exact brkX () (weak [] trivial trivial)
  refine n_then (ref_seq (ref_region ?_))
  refine as1 rfl rfl ?_
  refine l_nil (n_then (ref_ret ?_))
  exact fin1 (.inl rfl) () [] rfl trivial rfl (rv_tmp rfl)

/-! deliberation/deliberationlaw06.StrictStable -/
noncomputable def law06_StrictStable_m (l_0 : (List Int)) : Option (Bool) :=
  Option.bind (keep_New_m l_0) fun s1 =>
  Option.bind (keep_Src_Base_m s1 4 4 8) fun t3 =>
  Option.bind (strict_Transpose_m t3.1) fun t6 =>
  bif t6.2 != 0 then
    bif t6.2 == 2 then
      Option.bind (law06_awake_m ) fun t9 =>
      some t9
    else
      some false
  else
    Option.bind (strict_Transpose_m t6.1) fun t10 =>
    bif t10.2 != 0 then
      some false
    else
      Option.bind (ref05_Same_m t6.1 t10.1) fun t12 =>
      bif !t12 then
        some false
      else
        Option.bind (strict_Closed_m t6.1) fun t13 =>
        bif !t13 then
          some false
        else
          bif decide ((t6.1.Rules.length : Int) < (t3.1.Rules.length : Int)) then
            some false
          else
            Option.bind (strict_Closed_m t3.1) fun t14 =>
            bif !(((t6.1.Rules.length : Int) == (t3.1.Rules.length : Int)) == t14) then
              some false
            else
              Option.bind (slM t6.1.Rules 0 (t3.1.Rules.length : Int)) fun t16 =>
              Option.bind (ref05_Same_m (T_api_Base.mk t6.1.Premises t16 t6.1.Promotions) t3.1) fun t17 =>
              bif t17 then
                Option.bind (law06_awake_m ) fun t18 =>
                some t18
              else
                some false

theorem law06_StrictStable_ok {l_0 : (List Int)} {r : Bool} (hm : law06_StrictStable_m l_0 = some r) :
    FnOk prog 4 [slv (rI .i64) l_0] [] (fun (x : Unit) => [bv r]) (fun (x : Unit) => []) := by
  refine fn_ok (fn := Tryd.f4) (N := 77) (res := fun r x => [bv r]) (Ω1 := fun r x => []) Tryd.func4 rfl rfl hm rfl (fun E hM => ?_)
  unfold law06_StrictStable_m
  refine ref_seq (ref_region ?_)
  refine as1 rfl rfl ?_
  refine l_nil (n_then (ref_seq (ref_region ?_)))
  refine mv1 rfl rfl ?_
  refine pull fun s1 h_s1 => ?_
  refine s_st (s_call (ψ := fun (x2 : Nat) => pv (ptr x2 0)) (args := [.tmp 9]) Tryd.call5 rfl (keep_New_ok h_s1) ⟨arg rfl, trivial⟩ (fun _ _ _ _ h => h)) rfl (fun x2 => ?_)
  refine as1 rfl rfl ?_
  refine l_nil (n_then (ref_seq (ref_region ?_)))
  refine mv1 rfl rfl ?_
  refine pull fun t3 h_t3 => ?_
  refine s_st (s_callC [0] [true] (fun (x4 : (Value × List Nat)) => [oc x2 [slv (rI .i64) t3.2.L, iv .i64 t3.2.At]]) (fun (x4 : (Value × List Nat)) => [oa rT_api_Rule x4.1 x4.2 t3.1.Rules]) (fun (x4 : (Value × List Nat)) => ag [slv rT_api_Premise t3.1.Premises, pv x4.1, slv rT_api_Promotion t3.1.Promotions]) (args := [.tmp 11, .const (.int .i64 (4)), .const (.int .i64 (4)), .const (.int .i64 (8))]) (caps := []) Tryd.call6 rfl (keep_Src_Base_ok h_t3) ⟨rfl, rfl, trivial⟩ (fun _ => rfl) (fun _ => trivial) (fun _ => rfl) ⟨arg rfl, arg rfl, arg rfl, arg rfl, trivial⟩ (fun _ _ _ _ h => h)) rfl (fun x4 => ?_)
  refine s_st (s_alloc zt_29) rfl (fun b5 => ?_)
  refine s_st0 (s_cstore (out := [slv rT_api_Premise t3.1.Premises, pv x4.1, slv rT_api_Promotion t3.1.Promotions]) Tryd.sizeOf29 rfl (j := 2) rfl (part_agO (ψs := [slv rT_api_Premise t3.1.Premises, pv x4.1, slv rT_api_Promotion t3.1.Promotions]) rfl ⟨.inl slv_at, .inr ⟨_, _, _, _, _, 1, rfl, rfl⟩, .inl slv_at, trivial⟩) rfl rfl rfl) (fun _ => ?_)
  refine l_nil ?_
  refine b_of (nrm [oc x2 [slv (rI .i64) t3.2.L, iv .i64 t3.2.At], oa rT_api_Rule x4.1 x4.2 t3.1.Rules, oc b5 [slv rT_api_Premise t3.1.Premises, pv x4.1, slv rT_api_Promotion t3.1.Promotions]] rfl) ?_
  refine n_then (ref_seq (ref_region ?_))
  refine s_rd (r_cloadS Tryd.isAgg29 Tryd.sizeOf29 rfl (j := 2) rfl rfl rfl) rfl ?_
  refine b_of (frzGL [(12, ag [slv rT_api_Premise t3.1.Premises, slv rT_api_Rule t3.1.Rules, slv rT_api_Promotion t3.1.Promotions]), (14, ag [slv rT_api_Premise t3.1.Premises, slv rT_api_Rule t3.1.Rules, slv rT_api_Promotion t3.1.Promotions])] [(2, b5, [slv rT_api_Premise t3.1.Premises, slv rT_api_Rule t3.1.Rules, slv rT_api_Promotion t3.1.Promotions])] (j := 1) rfl ⟨⟨_, rfl, .inr ⟨_, _, rfl, rfl, ⟨.inl rfl, .inr ⟨rfl, rfl⟩, .inl rfl, trivial⟩⟩⟩, ⟨_, rfl, .inr ⟨_, _, rfl, rfl, ⟨.inl rfl, .inr ⟨rfl, rfl⟩, .inl rfl, trivial⟩⟩⟩, trivial⟩ ⟨⟨_, rfl, ⟨.inl rfl, .inr ⟨rfl, rfl⟩, .inl rfl, trivial⟩⟩, trivial⟩) ?_
  refine pull fun t6 h_t6 => ?_
  refine s_st (s_call (ψ := fun (_ : Unit) => tup [ag [slv rT_api_Premise t6.1.Premises, slv rT_api_Rule t6.1.Rules, slv rT_api_Promotion t6.1.Promotions], iv .i64 t6.2]) (args := [.tmp 14]) Tryd.call14 rfl (strict_Transpose_ok h_t6) ⟨arg rfl, trivial⟩ (fun _ _ _ _ h => h)) rfl (fun _ => ?_)
  refine mv1 rfl rfl ?_
  refine s_rd (r_extract rfl rfl) rfl ?_
  refine s_rd (r_extract rfl rfl) rfl ?_
  refine s_st (s_alloc zt_29) rfl (fun b7 => ?_)
  refine s_st0 (s_cstore (out := [slv rT_api_Premise t6.1.Premises, slv rT_api_Rule t6.1.Rules, slv rT_api_Promotion t6.1.Promotions]) Tryd.sizeOf29 rfl (j := 3) rfl (part_agO (ψs := [slv rT_api_Premise t6.1.Premises, slv rT_api_Rule t6.1.Rules, slv rT_api_Promotion t6.1.Promotions]) rfl ⟨.inl slv_at, .inl slv_at, .inl slv_at, trivial⟩) rfl rfl rfl) (fun _ => ?_)
  refine as1 rfl rfl ?_
  refine l_nil (n_then (ref_seq (ref_seq (ref_region ?_))))
  refine mv1 rfl rfl ?_
  refine s_rd (r_neq rfl rfl) rfl ?_
  refine l_nil (n_then ?_)
  refine ref_cond rfl (fun hb8 => ?_) (fun hb8 => ?_)
  · refine ref_seq (ref_region ?_)
    refine mv1 rfl rfl ?_
    refine s_rd (r_eql rfl rfl) rfl ?_
    refine mv1 rfl rfl ?_
    refine b_split (t := 22) rfl (fun _ => ?_) (fun _ => ?_)
    · refine s_on rfl rfl rfl ?_
      refine pull fun t9 h_t9 => ?_
      refine s_st (s_call (ψ := fun (_ : Unit) => bv t9) (args := []) Tryd.call13 rfl (law06_awake_ok h_t9) trivial (fun _ _ _ _ h => h)) rfl (fun _ => ?_)
      refine s_rd (r_pickT rfl rfl) rfl ?_
      refine as1 rfl rfl ?_
      refine l_nil ?_
      refine b_of (nrm [oc x2 [slv (rI .i64) t3.2.L, iv .i64 t3.2.At], dead, oc b5 [slv rT_api_Premise t3.1.Premises, slv rT_api_Rule t3.1.Rules, slv rT_api_Promotion t3.1.Promotions], oc b7 [slv rT_api_Premise t6.1.Premises, slv rT_api_Rule t6.1.Rules, slv rT_api_Promotion t6.1.Promotions]] rfl) ?_
      refine n_then (ref_ret (r_then ?_))
      exact fin1 (.inl rfl) () [] rfl trivial rfl (rv_tmp rfl)
    refine s_off rfl rfl rfl rfl rfl ?_
    refine s_rd (r_pickF rfl rfl) rfl ?_
    refine as1 rfl rfl ?_
    refine l_nil (n_then (ref_ret (r_then ?_)))
    exact fin1 (.inl rfl) () [] rfl trivial rfl (rv_tmp rfl)
  refine ref_skip (n_then (ref_seq (ref_region ?_)))
  refine s_rd (r_cloadS Tryd.isAgg29 Tryd.sizeOf29 rfl (j := 3) rfl rfl rfl) rfl ?_
  refine pull fun t10 h_t10 => ?_
  refine s_st (s_call (ψ := fun (_ : Unit) => tup [ag [slv rT_api_Premise t10.1.Premises, slv rT_api_Rule t10.1.Rules, slv rT_api_Promotion t10.1.Promotions], iv .i64 t10.2]) (args := [.tmp 26]) Tryd.call14 rfl (strict_Transpose_ok h_t10) ⟨arg rfl, trivial⟩ (fun _ _ _ _ h => h)) rfl (fun _ => ?_)
  refine mv1 rfl rfl ?_
  refine s_rd (r_extract rfl rfl) rfl ?_
  refine s_rd (r_extract rfl rfl) rfl ?_
  refine s_st (s_alloc zt_29) rfl (fun b11 => ?_)
  refine s_st0 (s_cstore (out := [slv rT_api_Premise t10.1.Premises, slv rT_api_Rule t10.1.Rules, slv rT_api_Promotion t10.1.Promotions]) Tryd.sizeOf29 rfl (j := 4) rfl (part_agO (ψs := [slv rT_api_Premise t10.1.Premises, slv rT_api_Rule t10.1.Rules, slv rT_api_Promotion t10.1.Promotions]) rfl ⟨.inl slv_at, .inl slv_at, .inl slv_at, trivial⟩) rfl rfl rfl) (fun _ => ?_)
  refine as1 rfl rfl ?_
  refine l_nil ?_
  refine b_of (nrm [oc x2 [slv (rI .i64) t3.2.L, iv .i64 t3.2.At], dead, oc b5 [slv rT_api_Premise t3.1.Premises, slv rT_api_Rule t3.1.Rules, slv rT_api_Promotion t3.1.Promotions], oc b7 [slv rT_api_Premise t6.1.Premises, slv rT_api_Rule t6.1.Rules, slv rT_api_Promotion t6.1.Promotions], oc b11 [slv rT_api_Premise t10.1.Premises, slv rT_api_Rule t10.1.Rules, slv rT_api_Promotion t10.1.Promotions]] rfl) ?_
  refine n_then (ref_seq (ref_seq ?_))
  refine ref_draw [0, 1, 2, 3, 4, 6, 7, 8, 9, 11, 12, 13, 14, 15, 16, 17, 18, 19, 20, 21, 22, 23, 24, 25, 26, 27, 28, 29, 30, 32, 33] rfl (by kernel_rfl) (fun hok => ?_)
  refine a_rd (i := 0) hok rfl (by kernel_rfl) rfl (r_move rfl) rfl ?_
  refine a_rd (i := 1) hok rfl (by kernel_rfl) rfl (r_neq rfl rfl) rfl ?_
  refine a_rd (i := 2) hok rfl (by kernel_rfl) rfl (r_move rfl) rfl ?_
  refine b_split (t := 32) rfl (fun _ => ?_) (fun _ => ?_)
  · refine a_off (i := 3) hok rfl rfl rfl rfl rfl (by kernel_rfl) rfl rfl ?_
    refine a_off (i := 4) hok rfl rfl rfl rfl rfl (by kernel_rfl) rfl rfl ?_
    refine a_next hok 5 [] (by kernel_rfl) ?_ trivial
    refine a_stOff (i := 5) hok rfl rfl rfl rfl rfl rfl (by intro _ h; cases h; rfl) ⟨trivial, ⟨trivial, ⟨trivial, ⟨trivial, ⟨trivial, trivial⟩⟩⟩⟩⟩ ?_
    refine a_off (i := 6) hok rfl rfl rfl rfl rfl (by kernel_rfl) rfl rfl ?_
    refine a_rd (i := 7) hok rfl (by kernel_rfl) rfl (r_pickT rfl rfl) rfl ?_
    refine a_rd (i := 8) hok rfl (by kernel_rfl) rfl (r_move rfl) rfl ?_
    refine a_off (i := 9) hok rfl rfl rfl rfl rfl (by kernel_rfl) rfl rfl ?_
    refine a_next hok 10 [] (by kernel_rfl) ?_ trivial
    refine a_stOff (i := 10) hok rfl rfl rfl rfl rfl rfl (by intro _ h; cases h; rfl) ⟨trivial, ⟨trivial, ⟨trivial, ⟨trivial, ⟨trivial, ⟨trivial, ⟨trivial, ⟨trivial, ⟨trivial, trivial⟩⟩⟩⟩⟩⟩⟩⟩⟩ ?_
    refine a_off (i := 11) hok rfl rfl rfl rfl rfl (by kernel_rfl) rfl rfl ?_
    refine a_rd (i := 12) hok rfl (by kernel_rfl) rfl (r_pickT rfl rfl) rfl ?_
    refine a_rd (i := 13) hok rfl (by kernel_rfl) rfl (r_move rfl) rfl ?_
    refine a_off (i := 14) hok rfl rfl rfl rfl rfl (by kernel_rfl) rfl rfl ?_
    refine a_off (i := 15) hok rfl rfl rfl rfl rfl (by kernel_rfl) rfl rfl ?_
    refine a_off (i := 16) hok rfl rfl rfl rfl rfl (by kernel_rfl) rfl rfl ?_
    refine a_off (i := 17) hok rfl rfl rfl rfl rfl (by kernel_rfl) rfl rfl ?_
    refine a_off (i := 18) hok rfl rfl rfl rfl rfl (by kernel_rfl) rfl rfl ?_
    refine a_off (i := 19) hok rfl rfl rfl rfl rfl (by kernel_rfl) rfl rfl ?_
    refine a_off (i := 20) hok rfl rfl rfl rfl rfl (by kernel_rfl) rfl rfl ?_
    refine a_rd (i := 21) hok rfl (by kernel_rfl) rfl (r_pickT rfl rfl) rfl ?_
    refine a_rd (i := 22) hok rfl (by kernel_rfl) rfl (r_move rfl) rfl ?_
    refine a_off (i := 23) hok rfl rfl rfl rfl rfl (by kernel_rfl) rfl rfl ?_
    refine a_off (i := 24) hok rfl rfl rfl rfl rfl (by kernel_rfl) rfl rfl ?_
    refine a_off (i := 25) hok rfl rfl rfl rfl rfl (by kernel_rfl) rfl rfl ?_
    refine a_off (i := 26) hok rfl rfl rfl rfl rfl (by kernel_rfl) rfl rfl ?_
    refine a_off (i := 27) hok rfl rfl rfl rfl rfl (by kernel_rfl) rfl rfl ?_
    refine a_off (i := 28) hok rfl rfl rfl rfl rfl (by kernel_rfl) rfl rfl ?_
    refine a_off (i := 29) hok rfl rfl rfl rfl rfl (by kernel_rfl) rfl rfl ?_
    refine a_off (i := 30) hok rfl rfl rfl rfl rfl (by kernel_rfl) rfl rfl ?_
    refine a_next hok 31 [] (by kernel_rfl) ?_ trivial
    refine a_stOff (i := 31) hok rfl rfl rfl rfl rfl rfl (by intro _ h; cases h; rfl) ⟨trivial, ⟨trivial, ⟨trivial, ⟨trivial, ⟨trivial, ⟨trivial, ⟨trivial, ⟨trivial, ⟨trivial, ⟨trivial, ⟨trivial, ⟨trivial, ⟨trivial, ⟨trivial, ⟨trivial, ⟨trivial, ⟨trivial, ⟨trivial, ⟨trivial, ⟨trivial, ⟨trivial, ⟨trivial, ⟨trivial, ⟨trivial, ⟨trivial, ⟨trivial, ⟨trivial, ⟨trivial, ⟨trivial, trivial⟩⟩⟩⟩⟩⟩⟩⟩⟩⟩⟩⟩⟩⟩⟩⟩⟩⟩⟩⟩⟩⟩⟩⟩⟩⟩⟩⟩⟩ ?_
    refine a_off (i := 32) hok rfl rfl rfl rfl rfl (by kernel_rfl) rfl rfl ?_
    refine a_rd (i := 33) hok rfl (by kernel_rfl) rfl (r_pickT rfl rfl) rfl ?_
    refine a_fin hok (by kernel_rfl) ?_
    refine n_then ?_
    refine ref_condT rfl rfl ?_
    refine ref_seq (ref_region ?_)
    refine as1 rfl rfl ?_
    refine l_nil (n_then (ref_ret (r_then ?_)))
    exact fin1 (.inl rfl) () [] rfl trivial rfl (rv_tmp rfl)
  refine a_rdOn (i := 3) hok rfl rfl rfl rfl (by kernel_rfl) rfl (r_cloadS Tryd.isAgg29 Tryd.sizeOf29 rfl (j := 3) rfl rfl rfl) rfl ?_
  refine a_rdOn (i := 4) hok rfl rfl rfl rfl (by kernel_rfl) rfl (r_cloadS Tryd.isAgg29 Tryd.sizeOf29 rfl (j := 4) rfl rfl rfl) rfl ?_
  refine pull fun t12 h_t12 => ?_
  refine a_next hok 5 [] (by kernel_rfl) ?_ trivial
  refine a_stOn (i := 5) hok rfl rfl rfl rfl rfl (s_call (ψ := fun (_ : Unit) => bv t12) (args := [.tmp 33, .tmp 34]) Tryd.call15 rfl (ref05_Same_ok h_t12) ⟨arg rfl, arg rfl, trivial⟩ (fun _ _ _ _ h => h)) (by intro _ h; cases h; rfl) (fun _ => ⟨trivial, ⟨trivial, ⟨trivial, ⟨trivial, ⟨trivial, trivial⟩⟩⟩⟩⟩) (fun _ => ?_)
  refine a_rdOn (i := 6) hok rfl rfl rfl rfl (by kernel_rfl) rfl (r_not rfl) rfl ?_
  refine a_rd (i := 7) hok rfl (by kernel_rfl) rfl (r_pickF rfl rfl) rfl ?_
  refine a_rd (i := 8) hok rfl (by kernel_rfl) rfl (r_move rfl) rfl ?_
  refine b_split (t := 38) rfl (fun _ => ?_) (fun _ => ?_)
  · refine a_off (i := 9) hok rfl rfl rfl rfl rfl (by kernel_rfl) rfl rfl ?_
    refine a_next hok 10 [] (by kernel_rfl) ?_ trivial
    refine a_stOff (i := 10) hok rfl rfl rfl rfl rfl rfl (by intro _ h; cases h; rfl) ⟨trivial, ⟨trivial, ⟨trivial, ⟨trivial, ⟨⟨⟨rfl, rfl⟩, trivial⟩, ⟨⟨⟨rfl, rfl⟩, trivial⟩, ⟨trivial, ⟨trivial, ⟨trivial, trivial⟩⟩⟩⟩⟩⟩⟩⟩⟩ ?_
    refine a_off (i := 11) hok rfl rfl rfl rfl rfl (by kernel_rfl) rfl rfl ?_
    refine a_rd (i := 12) hok rfl (by kernel_rfl) rfl (r_pickT rfl rfl) rfl ?_
    refine a_rd (i := 13) hok rfl (by kernel_rfl) rfl (r_move rfl) rfl ?_
    refine a_off (i := 14) hok rfl rfl rfl rfl rfl (by kernel_rfl) rfl rfl ?_
    refine a_off (i := 15) hok rfl rfl rfl rfl rfl (by kernel_rfl) rfl rfl ?_
    refine a_off (i := 16) hok rfl rfl rfl rfl rfl (by kernel_rfl) rfl rfl ?_
    refine a_off (i := 17) hok rfl rfl rfl rfl rfl (by kernel_rfl) rfl rfl ?_
    refine a_off (i := 18) hok rfl rfl rfl rfl rfl (by kernel_rfl) rfl rfl ?_
    refine a_off (i := 19) hok rfl rfl rfl rfl rfl (by kernel_rfl) rfl rfl ?_
    refine a_off (i := 20) hok rfl rfl rfl rfl rfl (by kernel_rfl) rfl rfl ?_
    refine a_rd (i := 21) hok rfl (by kernel_rfl) rfl (r_pickT rfl rfl) rfl ?_
    refine a_rd (i := 22) hok rfl (by kernel_rfl) rfl (r_move rfl) rfl ?_
    refine a_off (i := 23) hok rfl rfl rfl rfl rfl (by kernel_rfl) rfl rfl ?_
    refine a_off (i := 24) hok rfl rfl rfl rfl rfl (by kernel_rfl) rfl rfl ?_
    refine a_off (i := 25) hok rfl rfl rfl rfl rfl (by kernel_rfl) rfl rfl ?_
    refine a_off (i := 26) hok rfl rfl rfl rfl rfl (by kernel_rfl) rfl rfl ?_
    refine a_off (i := 27) hok rfl rfl rfl rfl rfl (by kernel_rfl) rfl rfl ?_
    refine a_off (i := 28) hok rfl rfl rfl rfl rfl (by kernel_rfl) rfl rfl ?_
    refine a_off (i := 29) hok rfl rfl rfl rfl rfl (by kernel_rfl) rfl rfl ?_
    refine a_off (i := 30) hok rfl rfl rfl rfl rfl (by kernel_rfl) rfl rfl ?_
    refine a_next hok 31 [] (by kernel_rfl) ?_ trivial
    refine a_stOff (i := 31) hok rfl rfl rfl rfl rfl rfl (by intro _ h; cases h; rfl) ⟨trivial, ⟨trivial, ⟨trivial, ⟨trivial, ⟨trivial, ⟨trivial, ⟨trivial, ⟨trivial, ⟨trivial, ⟨trivial, ⟨trivial, ⟨trivial, ⟨trivial, ⟨trivial, ⟨trivial, ⟨trivial, ⟨trivial, ⟨trivial, ⟨trivial, ⟨trivial, ⟨trivial, ⟨trivial, ⟨trivial, ⟨trivial, ⟨⟨⟨rfl, rfl⟩, trivial⟩, ⟨⟨⟨rfl, rfl⟩, trivial⟩, ⟨trivial, ⟨trivial, ⟨trivial, trivial⟩⟩⟩⟩⟩⟩⟩⟩⟩⟩⟩⟩⟩⟩⟩⟩⟩⟩⟩⟩⟩⟩⟩⟩⟩⟩⟩⟩⟩ ?_
    refine a_off (i := 32) hok rfl rfl rfl rfl rfl (by kernel_rfl) rfl rfl ?_
    refine a_rd (i := 33) hok rfl (by kernel_rfl) rfl (r_pickT rfl rfl) rfl ?_
    refine a_fin hok (by kernel_rfl) ?_
    refine n_then ?_
    refine ref_condT rfl rfl ?_
    refine ref_seq (ref_region ?_)
    refine as1 rfl rfl ?_
    refine l_nil (n_then (ref_ret (r_then ?_)))
    exact fin1 (.inl rfl) () [] rfl trivial rfl (rv_tmp rfl)
  refine a_rdOn (i := 9) hok rfl rfl rfl rfl (by kernel_rfl) rfl (r_cloadS Tryd.isAgg29 Tryd.sizeOf29 rfl (j := 3) rfl rfl rfl) rfl ?_
  refine pull fun t13 h_t13 => ?_
  refine a_next hok 10 [] (by kernel_rfl) ?_ trivial
  refine a_stOn (i := 10) hok rfl rfl rfl rfl rfl (s_call (ψ := fun (_ : Unit) => bv t13) (args := [.tmp 39]) Tryd.call16 rfl (strict_Closed_ok h_t13) ⟨arg rfl, trivial⟩ (fun _ _ _ _ h => h)) (by intro _ h; cases h; rfl) (fun _ => ⟨trivial, ⟨trivial, ⟨trivial, ⟨trivial, ⟨⟨⟨rfl, rfl⟩, trivial⟩, ⟨⟨⟨rfl, rfl⟩, trivial⟩, ⟨trivial, ⟨trivial, ⟨trivial, trivial⟩⟩⟩⟩⟩⟩⟩⟩⟩) (fun _ => ?_)
  refine a_rdOn (i := 11) hok rfl rfl rfl rfl (by kernel_rfl) rfl (r_not rfl) rfl ?_
  refine a_rd (i := 12) hok rfl (by kernel_rfl) rfl (r_pickF rfl rfl) rfl ?_
  refine a_rd (i := 13) hok rfl (by kernel_rfl) rfl (r_move rfl) rfl ?_
  refine b_split (t := 43) rfl (fun _ => ?_) (fun _ => ?_)
  · refine a_off (i := 14) hok rfl rfl rfl rfl rfl (by kernel_rfl) rfl rfl ?_
    refine a_off (i := 15) hok rfl rfl rfl rfl rfl (by kernel_rfl) rfl rfl ?_
    refine a_off (i := 16) hok rfl rfl rfl rfl rfl (by kernel_rfl) rfl rfl ?_
    refine a_off (i := 17) hok rfl rfl rfl rfl rfl (by kernel_rfl) rfl rfl ?_
    refine a_off (i := 18) hok rfl rfl rfl rfl rfl (by kernel_rfl) rfl rfl ?_
    refine a_off (i := 19) hok rfl rfl rfl rfl rfl (by kernel_rfl) rfl rfl ?_
    refine a_off (i := 20) hok rfl rfl rfl rfl rfl (by kernel_rfl) rfl rfl ?_
    refine a_rd (i := 21) hok rfl (by kernel_rfl) rfl (r_pickT rfl rfl) rfl ?_
    refine a_rd (i := 22) hok rfl (by kernel_rfl) rfl (r_move rfl) rfl ?_
    refine a_off (i := 23) hok rfl rfl rfl rfl rfl (by kernel_rfl) rfl rfl ?_
    refine a_off (i := 24) hok rfl rfl rfl rfl rfl (by kernel_rfl) rfl rfl ?_
    refine a_off (i := 25) hok rfl rfl rfl rfl rfl (by kernel_rfl) rfl rfl ?_
    refine a_off (i := 26) hok rfl rfl rfl rfl rfl (by kernel_rfl) rfl rfl ?_
    refine a_off (i := 27) hok rfl rfl rfl rfl rfl (by kernel_rfl) rfl rfl ?_
    refine a_off (i := 28) hok rfl rfl rfl rfl rfl (by kernel_rfl) rfl rfl ?_
    refine a_off (i := 29) hok rfl rfl rfl rfl rfl (by kernel_rfl) rfl rfl ?_
    refine a_off (i := 30) hok rfl rfl rfl rfl rfl (by kernel_rfl) rfl rfl ?_
    refine a_next hok 31 [] (by kernel_rfl) ?_ trivial
    refine a_stOff (i := 31) hok rfl rfl rfl rfl rfl rfl (by intro _ h; cases h; rfl) ⟨trivial, ⟨trivial, ⟨trivial, ⟨trivial, ⟨trivial, ⟨trivial, ⟨trivial, ⟨trivial, ⟨trivial, ⟨trivial, ⟨trivial, ⟨trivial, ⟨trivial, ⟨trivial, ⟨trivial, ⟨trivial, ⟨trivial, ⟨trivial, ⟨trivial, ⟨trivial, ⟨⟨⟨rfl, rfl⟩, trivial⟩, ⟨trivial, ⟨trivial, ⟨trivial, ⟨⟨⟨rfl, rfl⟩, trivial⟩, ⟨⟨⟨rfl, rfl⟩, trivial⟩, ⟨trivial, ⟨trivial, ⟨trivial, trivial⟩⟩⟩⟩⟩⟩⟩⟩⟩⟩⟩⟩⟩⟩⟩⟩⟩⟩⟩⟩⟩⟩⟩⟩⟩⟩⟩⟩⟩ ?_
    refine a_off (i := 32) hok rfl rfl rfl rfl rfl (by kernel_rfl) rfl rfl ?_
    refine a_rd (i := 33) hok rfl (by kernel_rfl) rfl (r_pickT rfl rfl) rfl ?_
    refine a_fin hok (by kernel_rfl) ?_
    refine n_then ?_
    refine ref_condT rfl rfl ?_
    refine ref_seq (ref_region ?_)
    refine as1 rfl rfl ?_
    refine l_nil (n_then (ref_ret (r_then ?_)))
    exact fin1 (.inl rfl) () [] rfl trivial rfl (rv_tmp rfl)
  refine a_rdOn (i := 14) hok rfl rfl rfl rfl (by kernel_rfl) rfl (r_faddr (fo := 1) Tryd.underlying29 rfl rfl Tryd.sizeOf26 rfl) rfl ?_
  refine a_rdOn (i := 15) hok rfl rfl rfl rfl (by kernel_rfl) rfl (r_cload Tryd.isAgg26 rfl (j := 3) rfl rfl) rfl ?_
  refine a_rdOn (i := 16) hok rfl rfl rfl rfl (by kernel_rfl) rfl (r_len Tryd.underlying26 rfl) rfl ?_
  refine a_rdOn (i := 17) hok rfl rfl rfl rfl (by kernel_rfl) rfl (r_faddr (fo := 1) Tryd.underlying29 rfl rfl Tryd.sizeOf26 rfl) rfl ?_
  refine a_rdOn (i := 18) hok rfl rfl rfl rfl (by kernel_rfl) rfl (r_cload Tryd.isAgg26 rfl (j := 2) rfl rfl) rfl ?_
  refine a_rdOn (i := 19) hok rfl rfl rfl rfl (by kernel_rfl) rfl (r_len Tryd.underlying26 rfl) rfl ?_
  refine a_rdOn (i := 20) hok rfl rfl rfl rfl (by kernel_rfl) rfl (r_lss rfl rfl) rfl ?_
  refine a_rd (i := 21) hok rfl (by kernel_rfl) rfl (r_pickF rfl rfl) rfl ?_
  refine a_rd (i := 22) hok rfl (by kernel_rfl) rfl (r_move rfl) rfl ?_
  refine b_split (t := 52) rfl (fun _ => ?_) (fun _ => ?_)
  · refine a_off (i := 23) hok rfl rfl rfl rfl rfl (by kernel_rfl) rfl rfl ?_
    refine a_off (i := 24) hok rfl rfl rfl rfl rfl (by kernel_rfl) rfl rfl ?_
    refine a_off (i := 25) hok rfl rfl rfl rfl rfl (by kernel_rfl) rfl rfl ?_
    refine a_off (i := 26) hok rfl rfl rfl rfl rfl (by kernel_rfl) rfl rfl ?_
    refine a_off (i := 27) hok rfl rfl rfl rfl rfl (by kernel_rfl) rfl rfl ?_
    refine a_off (i := 28) hok rfl rfl rfl rfl rfl (by kernel_rfl) rfl rfl ?_
    refine a_off (i := 29) hok rfl rfl rfl rfl rfl (by kernel_rfl) rfl rfl ?_
    refine a_off (i := 30) hok rfl rfl rfl rfl rfl (by kernel_rfl) rfl rfl ?_
    refine a_next hok 31 [] (by kernel_rfl) ?_ trivial
    refine a_stOff (i := 31) hok rfl rfl rfl rfl rfl rfl (by intro _ h; cases h; rfl) ⟨trivial, ⟨trivial, ⟨trivial, ⟨trivial, ⟨trivial, ⟨trivial, ⟨trivial, ⟨trivial, ⟨trivial, ⟨trivial, ⟨trivial, ⟨trivial, ⟨⟨⟨rfl, rfl⟩, trivial⟩, ⟨trivial, ⟨trivial, ⟨⟨⟨rfl, rfl⟩, trivial⟩, ⟨trivial, ⟨trivial, ⟨trivial, ⟨trivial, ⟨⟨⟨rfl, rfl⟩, trivial⟩, ⟨trivial, ⟨trivial, ⟨trivial, ⟨⟨⟨rfl, rfl⟩, trivial⟩, ⟨⟨⟨rfl, rfl⟩, trivial⟩, ⟨trivial, ⟨trivial, ⟨trivial, trivial⟩⟩⟩⟩⟩⟩⟩⟩⟩⟩⟩⟩⟩⟩⟩⟩⟩⟩⟩⟩⟩⟩⟩⟩⟩⟩⟩⟩⟩ ?_
    refine a_off (i := 32) hok rfl rfl rfl rfl rfl (by kernel_rfl) rfl rfl ?_
    refine a_rd (i := 33) hok rfl (by kernel_rfl) rfl (r_pickT rfl rfl) rfl ?_
    refine a_fin hok (by kernel_rfl) ?_
    refine n_then ?_
    refine ref_condT rfl rfl ?_
    refine ref_seq (ref_region ?_)
    refine as1 rfl rfl ?_
    refine l_nil (n_then (ref_ret (r_then ?_)))
    exact fin1 (.inl rfl) () [] rfl trivial rfl (rv_tmp rfl)
  refine a_rdOn (i := 23) hok rfl rfl rfl rfl (by kernel_rfl) rfl (r_faddr (fo := 1) Tryd.underlying29 rfl rfl Tryd.sizeOf26 rfl) rfl ?_
  refine a_rdOn (i := 24) hok rfl rfl rfl rfl (by kernel_rfl) rfl (r_cload Tryd.isAgg26 rfl (j := 3) rfl rfl) rfl ?_
  refine a_rdOn (i := 25) hok rfl rfl rfl rfl (by kernel_rfl) rfl (r_len Tryd.underlying26 rfl) rfl ?_
  refine a_rdOn (i := 26) hok rfl rfl rfl rfl (by kernel_rfl) rfl (r_faddr (fo := 1) Tryd.underlying29 rfl rfl Tryd.sizeOf26 rfl) rfl ?_
  refine a_rdOn (i := 27) hok rfl rfl rfl rfl (by kernel_rfl) rfl (r_cload Tryd.isAgg26 rfl (j := 2) rfl rfl) rfl ?_
  refine a_rdOn (i := 28) hok rfl rfl rfl rfl (by kernel_rfl) rfl (r_len Tryd.underlying26 rfl) rfl ?_
  refine a_rdOn (i := 29) hok rfl rfl rfl rfl (by kernel_rfl) rfl (r_eql rfl rfl) rfl ?_
  refine a_rdOn (i := 30) hok rfl rfl rfl rfl (by kernel_rfl) rfl (r_cloadS Tryd.isAgg29 Tryd.sizeOf29 rfl (j := 2) rfl rfl rfl) rfl ?_
  refine pull fun t14 h_t14 => ?_
  refine a_next hok 31 [] (by kernel_rfl) ?_ trivial
  refine a_stOn (i := 31) hok rfl rfl rfl rfl rfl (s_call (ψ := fun (_ : Unit) => bv t14) (args := [.tmp 60]) Tryd.call16 rfl (strict_Closed_ok h_t14) ⟨arg rfl, trivial⟩ (fun _ _ _ _ h => h)) (by intro _ h; cases h; rfl) (fun _ => ⟨trivial, ⟨trivial, ⟨trivial, ⟨⟨⟨rfl, rfl⟩, trivial⟩, ⟨trivial, ⟨trivial, ⟨⟨⟨rfl, rfl⟩, trivial⟩, ⟨trivial, ⟨trivial, ⟨trivial, ⟨trivial, ⟨trivial, ⟨⟨⟨rfl, rfl⟩, trivial⟩, ⟨trivial, ⟨trivial, ⟨⟨⟨rfl, rfl⟩, trivial⟩, ⟨trivial, ⟨trivial, ⟨trivial, ⟨trivial, ⟨⟨⟨rfl, rfl⟩, trivial⟩, ⟨trivial, ⟨trivial, ⟨trivial, ⟨⟨⟨rfl, rfl⟩, trivial⟩, ⟨⟨⟨rfl, rfl⟩, trivial⟩, ⟨trivial, ⟨trivial, ⟨trivial, trivial⟩⟩⟩⟩⟩⟩⟩⟩⟩⟩⟩⟩⟩⟩⟩⟩⟩⟩⟩⟩⟩⟩⟩⟩⟩⟩⟩⟩⟩) (fun _ => ?_)
  refine a_rdOn (i := 32) hok rfl rfl rfl rfl (by kernel_rfl) rfl (r_bneq Tryd.underlying4 rfl rfl) rfl ?_
  refine a_rd (i := 33) hok rfl (by kernel_rfl) rfl (r_pickF rfl rfl) rfl ?_
  refine a_fin hok (by kernel_rfl) ?_
  refine n_then ?_
  refine ref_cond rfl (fun hb15 => ?_) (fun hb15 => ?_)
  · refine ref_seq (ref_region ?_)
    refine as1 rfl rfl ?_
    refine l_nil (n_then (ref_ret (r_then ?_)))
    exact fin1 (.inl rfl) () [] rfl trivial rfl (rv_tmp rfl)
  refine ref_skip (n_then (ref_seq (ref_region ?_)))
  refine s_rd (r_faddr (fo := 1) Tryd.underlying29 rfl rfl Tryd.sizeOf26 rfl) rfl ?_
  refine s_rd (r_cload Tryd.isAgg26 rfl (j := 3) rfl rfl) rfl ?_
  refine s_rd (r_faddr (fo := 1) Tryd.underlying29 rfl rfl Tryd.sizeOf26 rfl) rfl ?_
  refine s_rd (r_cload Tryd.isAgg26 rfl (j := 2) rfl rfl) rfl ?_
  refine s_rd (r_len Tryd.underlying26 rfl) rfl ?_
  refine pull fun t16 h_t16 => ?_
  refine s_rd (r_slice h_t16 Tryd.underlying26 el_40 rfl .dft (.of rfl)) rfl ?_
  refine s_rd (r_faddr (fo := 1) Tryd.underlying29 rfl rfl Tryd.sizeOf26 rfl) rfl ?_
  refine s_st0 (s_cstore (out := [slv rT_api_Premise t6.1.Premises, slv rT_api_Rule t16, slv rT_api_Promotion t6.1.Promotions]) Tryd.sizeOf26 rfl (j := 3) rfl (part_at rfl slv_at) rfl rfl rfl) (fun _ => ?_)
  refine l_nil ?_
  refine b_of (nrm [oc x2 [slv (rI .i64) t3.2.L, iv .i64 t3.2.At], dead, oc b5 [slv rT_api_Premise t3.1.Premises, slv rT_api_Rule t3.1.Rules, slv rT_api_Promotion t3.1.Promotions], oc b7 [slv rT_api_Premise t6.1.Premises, slv rT_api_Rule t16, slv rT_api_Promotion t6.1.Promotions], oc b11 [slv rT_api_Premise t10.1.Premises, slv rT_api_Rule t10.1.Rules, slv rT_api_Promotion t10.1.Promotions]] rfl) ?_
  refine n_then (ref_seq (ref_region ?_))
  refine s_rd (r_cloadS Tryd.isAgg29 Tryd.sizeOf29 rfl (j := 3) rfl rfl rfl) rfl ?_
  refine s_rd (r_cloadS Tryd.isAgg29 Tryd.sizeOf29 rfl (j := 2) rfl rfl rfl) rfl ?_
  refine pull fun t17 h_t17 => ?_
  refine s_st (s_call (ψ := fun (_ : Unit) => bv t17) (args := [.tmp 71, .tmp 72]) Tryd.call15 rfl (ref05_Same_ok h_t17) ⟨arg rfl, arg rfl, trivial⟩ (fun _ _ _ _ h => h)) rfl (fun _ => ?_)
  refine mv1 rfl rfl ?_
  refine b_split (t := 74) rfl (fun _ => ?_) (fun _ => ?_)
  · refine s_on rfl rfl rfl ?_
    refine pull fun t18 h_t18 => ?_
    refine s_st (s_call (ψ := fun (_ : Unit) => bv t18) (args := []) Tryd.call13 rfl (law06_awake_ok h_t18) trivial (fun _ _ _ _ h => h)) rfl (fun _ => ?_)
    refine s_rd (r_pickT rfl rfl) rfl ?_
    refine as1 rfl rfl ?_
    refine l_nil (n_then (ref_ret ?_))
    exact fin1 (.inl rfl) () [] rfl trivial rfl (rv_tmp rfl)
  refine s_off rfl rfl rfl rfl rfl ?_
  refine s_rd (r_pickF rfl rfl) rfl ?_
  refine as1 rfl rfl ?_
  refine l_nil (n_then (ref_ret ?_))
  exact fin1 (.inl rfl) () [] rfl trivial rfl (rv_tmp rfl)

end Go.Dc
