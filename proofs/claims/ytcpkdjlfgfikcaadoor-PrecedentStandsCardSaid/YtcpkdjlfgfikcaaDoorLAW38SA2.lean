/- Part LAW38S.A2 of a proof: lemmas. -/
import Derived.Test.YtcpkdjlfgfikcaaDoorLAW38SA1
import Derived.Test.YtcpkdjlfgfikcaaDoorProg
set_option linter.unusedVariables false
set_option maxRecDepth 100000
set_option maxHeartbeats 4000000
namespace Go.Dc
open Go.Proofs
open Go.Proofs.Tryd (prog)

/-! deliberation/deliberationlaw38.awake -/
noncomputable def law38_awake_m  : Option (Bool) :=
  Option.bind (law38_sides_m ) fun t1 =>
  Option.bind (precedent_Reasons_m (T_api_Library.mk t1 [(T_api_Case.mk (ByteArray.mk #[99]) [(ByteArray.mk #[97]), (ByteArray.mk #[98]), (ByteArray.mk #[120])] 1 [(ByteArray.mk #[97])])]) [(ByteArray.mk #[97]), (ByteArray.mk #[120])]) fun t3 =>
  Option.bind (precedent_Strong_m (T_api_Library.mk t1 [(T_api_Case.mk (ByteArray.mk #[99]) [(ByteArray.mk #[97]), (ByteArray.mk #[98]), (ByteArray.mk #[120])] 1 [(ByteArray.mk #[97])])]) [(ByteArray.mk #[97]), (ByteArray.mk #[120])]) fun t5 =>
  Option.bind (precedent_Distinguish_m (T_api_Library.mk t1 [(T_api_Case.mk (ByteArray.mk #[99]) [(ByteArray.mk #[97]), (ByteArray.mk #[98]), (ByteArray.mk #[120])] 1 [(ByteArray.mk #[97])])]) 0 [(ByteArray.mk #[97]), (ByteArray.mk #[120])]) fun t7 =>
  Option.bind (precedent_Distinguish_m (T_api_Library.mk t1 [(T_api_Case.mk (ByteArray.mk #[99]) [(ByteArray.mk #[97]), (ByteArray.mk #[98]), (ByteArray.mk #[120])] 1 [(ByteArray.mk #[97])])]) 0 [(ByteArray.mk #[97]), (ByteArray.mk #[98]), (ByteArray.mk #[120]), (ByteArray.mk #[121])]) fun t9 =>
  Option.bind (precedent_Decide_m (T_api_Library.mk t1 [(T_api_Case.mk (ByteArray.mk #[99]) [(ByteArray.mk #[97]), (ByteArray.mk #[98]), (ByteArray.mk #[120])] 1 [(ByteArray.mk #[97])])]) [(ByteArray.mk #[97]), (ByteArray.mk #[120])]) fun t11 =>
  bif t3.2 == 0 then
    bif t5.2 == 0 then
      bif t7.2 == 0 then
        bif t9.2 == 0 then
          bif t11.2.2 == 0 then
            Option.bind (keep_Ints_m t3.1.For [0]) fun t12 =>
            bif t12 then
              bif (t5.1.For.length : Int) == 0 then
                Option.bind (ref38_Same_m t7.1 [(ByteArray.mk #[98])]) fun t13 =>
                bif t13 then
                  Option.bind (ref38_Same_m t9.1 [(ByteArray.mk #[121])]) fun t14 =>
                  bif t14 then
                    bif t11.1 == 1 then
                      some (t11.2.1 == 0)
                    else
                      some false
                  else
                    some false
                else
                  some false
              else
                some false
            else
              some false
          else
            some false
        else
          some false
      else
        some false
    else
      some false
  else
    some false

theorem law38_awake_ok  {r : Bool} (hm : law38_awake_m  = some r) :
    FnOk prog 15 [] [tbO (rI .u8) 0 tab_0] (fun (x : Unit) => [bv r]) (fun (x : Unit) => [tbO (rI .u8) 0 tab_0]) := by
  refine fn_ok (fn := Tryd.f15) (N := 98) (res := fun r x => [bv r]) (Ω1 := fun r x => [tbO (rI .u8) 0 tab_0]) Tryd.func15 rfl rfl hm rfl (fun E hM => ?_)
  unfold law38_awake_m
  refine ref_seq (ref_region ?_)
  refine as1 rfl rfl ?_
  refine l_nil (n_then (ref_seq (ref_region ?_)))
  refine pull fun t1 h_t1 => ?_
  refine s_st (s_call (ψ := fun (_ : Unit) => ag [slv rS t1.i0, slv rS t1.i1]) (args := []) Tryd.call18 rfl (law38_sides_ok h_t1) trivial (fun _ _ _ _ h => h)) rfl (fun _ => ?_)
  refine s_st (s_bslice (xs := [.const (.string (ByteArray.mk #[97])), .const (.string (ByteArray.mk #[98])), .const (.string (ByteArray.mk #[120]))]) (ds := [(ByteArray.mk #[97]), (ByteArray.mk #[98]), (ByteArray.mk #[120])]) Tryd.underlying25 el_9 rfl (Nat.le_of_ble_eq_true rfl) ⟨(part_at rfl sv_at), ⟨(part_at rfl sv_at), ⟨(part_at rfl sv_at), trivial⟩⟩⟩) rfl (fun _ => ?_)
  refine s_st (s_bslice (xs := [.const (.string (ByteArray.mk #[97]))]) (ds := [(ByteArray.mk #[97])]) Tryd.underlying25 el_9 rfl (Nat.le_of_ble_eq_true rfl) ⟨(part_at rfl sv_at), trivial⟩) rfl (fun _ => ?_)
  refine s_rd (r_build (ps := [(0, .const (.string (ByteArray.mk #[99]))), (1, .tmp 14), (2, .const (.int .i64 (1))), (3, .tmp 15)]) (rs := [(0, [sv (ByteArray.mk #[99])]), (1, [slv rS [(ByteArray.mk #[97]), (ByteArray.mk #[98]), (ByteArray.mk #[120])]]), (2, [iv .i64 1]), (3, [slv rS [(ByteArray.mk #[97])]])]) st_39 zs_39 ⟨rfl, (part_at rfl sv_at), ⟨rfl, (part_at rfl slv_at), ⟨rfl, (part_at rfl iv_at), ⟨rfl, (part_at rfl slv_at), trivial⟩⟩⟩⟩ rfl rfl) rfl ?_
  refine s_st (s_bslice (xs := [.tmp 16]) (ds := [(T_api_Case.mk (ByteArray.mk #[99]) [(ByteArray.mk #[97]), (ByteArray.mk #[98]), (ByteArray.mk #[120])] 1 [(ByteArray.mk #[97])])]) Tryd.underlying27 el_39 rfl (Nat.le_of_ble_eq_true rfl) ⟨(part_agO (ψs := [sv (ByteArray.mk #[99]), slv rS [(ByteArray.mk #[97]), (ByteArray.mk #[98]), (ByteArray.mk #[120])], iv .i64 1, slv rS [(ByteArray.mk #[97])]]) rfl ⟨.inl sv_at, .inl slv_at, .inl iv_at, .inl slv_at, trivial⟩), trivial⟩) rfl (fun _ => ?_)
  refine s_rd (r_build (ps := [(0, .tmp 13), (1, .tmp 17)]) (rs := [(0, [slv rS t1.i0, slv rS t1.i1]), (1, [slv rT_api_Case [(T_api_Case.mk (ByteArray.mk #[99]) [(ByteArray.mk #[97]), (ByteArray.mk #[98]), (ByteArray.mk #[120])] 1 [(ByteArray.mk #[97])])]])]) st_29 zs_29 ⟨rfl, (part_agO (ψs := [slv rS t1.i0, slv rS t1.i1]) rfl ⟨.inl slv_at, .inl slv_at, trivial⟩), ⟨rfl, (part_at rfl slv_at), trivial⟩⟩ rfl rfl) rfl ?_
  refine s_st (s_alloc zt_29) rfl (fun b2 => ?_)
  refine s_st0 (s_cstore (out := [slv rS t1.i0, slv rS t1.i1, slv rT_api_Case [(T_api_Case.mk (ByteArray.mk #[99]) [(ByteArray.mk #[97]), (ByteArray.mk #[98]), (ByteArray.mk #[120])] 1 [(ByteArray.mk #[97])])]]) Tryd.sizeOf29 rfl (j := 1) rfl (part_agO (ψs := [slv rS t1.i0, slv rS t1.i1, slv rT_api_Case [(T_api_Case.mk (ByteArray.mk #[99]) [(ByteArray.mk #[97]), (ByteArray.mk #[98]), (ByteArray.mk #[120])] 1 [(ByteArray.mk #[97])])]]) rfl ⟨.inl slv_at, .inl slv_at, .inl slv_at, trivial⟩) rfl rfl rfl) (fun _ => ?_)
  refine l_nil ?_
  refine b_of (nrm [tbO (rI .u8) 0 tab_0, oc b2 [slv rS t1.i0, slv rS t1.i1, slv rT_api_Case [(T_api_Case.mk (ByteArray.mk #[99]) [(ByteArray.mk #[97]), (ByteArray.mk #[98]), (ByteArray.mk #[120])] 1 [(ByteArray.mk #[97])])]]] rfl) ?_
  refine n_then (ref_seq (ref_region ?_))
  refine s_rd (r_cloadS Tryd.isAgg29 Tryd.sizeOf29 rfl (j := 1) rfl rfl rfl) rfl ?_
  refine s_st (s_bslice (xs := [.const (.string (ByteArray.mk #[97])), .const (.string (ByteArray.mk #[120]))]) (ds := [(ByteArray.mk #[97]), (ByteArray.mk #[120])]) Tryd.underlying25 el_9 rfl (Nat.le_of_ble_eq_true rfl) ⟨(part_at rfl sv_at), ⟨(part_at rfl sv_at), trivial⟩⟩) rfl (fun _ => ?_)
  refine pull fun t3 h_t3 => ?_
  refine s_st (s_call (ψ := fun (_ : Unit) => tup [ag [slv (rI .i64) t3.1.For, slv (rI .i64) t3.1.Against], iv .i64 t3.2]) (args := [.tmp 20, .tmp 21]) Tryd.call11 rfl (precedent_Reasons_ok h_t3) ⟨arg rfl, arg rfl, trivial⟩ (fun _ _ _ _ h => h)) rfl (fun _ => ?_)
  refine mv1 rfl rfl ?_
  refine s_rd (r_extract rfl rfl) rfl ?_
  refine s_rd (r_extract rfl rfl) rfl ?_
  refine s_st (s_alloc zt_33) rfl (fun b4 => ?_)
  refine s_st0 (s_cstore (out := [slv (rI .i64) t3.1.For, slv (rI .i64) t3.1.Against]) Tryd.sizeOf33 rfl (j := 2) rfl (part_agO (ψs := [slv (rI .i64) t3.1.For, slv (rI .i64) t3.1.Against]) rfl ⟨.inl slv_at, .inl slv_at, trivial⟩) rfl rfl rfl) (fun _ => ?_)
  refine as1 rfl rfl ?_
  refine l_nil ?_
  refine b_of (nrm [tbO (rI .u8) 0 tab_0, oc b2 [slv rS t1.i0, slv rS t1.i1, slv rT_api_Case [(T_api_Case.mk (ByteArray.mk #[99]) [(ByteArray.mk #[97]), (ByteArray.mk #[98]), (ByteArray.mk #[120])] 1 [(ByteArray.mk #[97])])]], oc b4 [slv (rI .i64) t3.1.For, slv (rI .i64) t3.1.Against]] rfl) ?_
  refine n_then (ref_seq (ref_region ?_))
  refine s_rd (r_cloadS Tryd.isAgg29 Tryd.sizeOf29 rfl (j := 1) rfl rfl rfl) rfl ?_
  refine s_st (s_bslice (xs := [.const (.string (ByteArray.mk #[97])), .const (.string (ByteArray.mk #[120]))]) (ds := [(ByteArray.mk #[97]), (ByteArray.mk #[120])]) Tryd.underlying25 el_9 rfl (Nat.le_of_ble_eq_true rfl) ⟨(part_at rfl sv_at), ⟨(part_at rfl sv_at), trivial⟩⟩) rfl (fun _ => ?_)
  refine pull fun t5 h_t5 => ?_
  refine s_st (s_call (ψ := fun (_ : Unit) => tup [ag [slv (rI .i64) t5.1.For, slv (rI .i64) t5.1.Against], iv .i64 t5.2]) (args := [.tmp 26, .tmp 27]) Tryd.call10 rfl (precedent_Strong_ok h_t5) ⟨arg rfl, arg rfl, trivial⟩ (fun _ _ _ _ h => h)) rfl (fun _ => ?_)
  refine mv1 rfl rfl ?_
  refine s_rd (r_extract rfl rfl) rfl ?_
  refine s_rd (r_extract rfl rfl) rfl ?_
  refine s_st (s_alloc zt_33) rfl (fun b6 => ?_)
  refine s_st0 (s_cstore (out := [slv (rI .i64) t5.1.For, slv (rI .i64) t5.1.Against]) Tryd.sizeOf33 rfl (j := 3) rfl (part_agO (ψs := [slv (rI .i64) t5.1.For, slv (rI .i64) t5.1.Against]) rfl ⟨.inl slv_at, .inl slv_at, trivial⟩) rfl rfl rfl) (fun _ => ?_)
  refine as1 rfl rfl ?_
  refine l_nil ?_
  refine b_of (nrm [tbO (rI .u8) 0 tab_0, oc b2 [slv rS t1.i0, slv rS t1.i1, slv rT_api_Case [(T_api_Case.mk (ByteArray.mk #[99]) [(ByteArray.mk #[97]), (ByteArray.mk #[98]), (ByteArray.mk #[120])] 1 [(ByteArray.mk #[97])])]], oc b4 [slv (rI .i64) t3.1.For, slv (rI .i64) t3.1.Against], oc b6 [slv (rI .i64) t5.1.For, slv (rI .i64) t5.1.Against]] rfl) ?_
  refine n_then (ref_seq (ref_region ?_))
  refine s_rd (r_cloadS Tryd.isAgg29 Tryd.sizeOf29 rfl (j := 1) rfl rfl rfl) rfl ?_
  refine s_st (s_bslice (xs := [.const (.string (ByteArray.mk #[97])), .const (.string (ByteArray.mk #[120]))]) (ds := [(ByteArray.mk #[97]), (ByteArray.mk #[120])]) Tryd.underlying25 el_9 rfl (Nat.le_of_ble_eq_true rfl) ⟨(part_at rfl sv_at), ⟨(part_at rfl sv_at), trivial⟩⟩) rfl (fun _ => ?_)
  refine pull fun t7 h_t7 => ?_
  refine s_st (s_call (ψ := fun (x8 : (Value × List Nat)) => tup [pv x8.1, iv .i64 t7.2]) (args := [.tmp 32, .const (.int .i64 (0)), .tmp 33]) Tryd.call13 rfl (precedent_Distinguish_ok h_t7) ⟨arg rfl, arg rfl, arg rfl, trivial⟩ (fun _ _ _ _ h => h)) rfl (fun x8 => ?_)
  refine mv1 rfl rfl ?_
  refine s_rd (r_extract rfl rfl) rfl ?_
  refine s_rd (r_extract rfl rfl) rfl ?_
  refine as1 rfl rfl ?_
  refine as1 rfl rfl ?_
  refine l_nil (n_then (ref_seq (ref_region ?_)))
  refine s_rd (r_cloadS Tryd.isAgg29 Tryd.sizeOf29 rfl (j := 1) rfl rfl rfl) rfl ?_
  refine s_st (s_bslice (xs := [.const (.string (ByteArray.mk #[97])), .const (.string (ByteArray.mk #[98])), .const (.string (ByteArray.mk #[120])), .const (.string (ByteArray.mk #[121]))]) (ds := [(ByteArray.mk #[97]), (ByteArray.mk #[98]), (ByteArray.mk #[120]), (ByteArray.mk #[121])]) Tryd.underlying25 el_9 rfl (Nat.le_of_ble_eq_true rfl) ⟨(part_at rfl sv_at), ⟨(part_at rfl sv_at), ⟨(part_at rfl sv_at), ⟨(part_at rfl sv_at), trivial⟩⟩⟩⟩) rfl (fun _ => ?_)
  refine pull fun t9 h_t9 => ?_
  refine s_st (s_call (ψ := fun (x10 : (Value × List Nat)) => tup [pv x10.1, iv .i64 t9.2]) (args := [.tmp 38, .const (.int .i64 (0)), .tmp 39]) Tryd.call13 rfl (precedent_Distinguish_ok h_t9) ⟨arg rfl, arg rfl, arg rfl, trivial⟩ (fun _ _ _ _ h => h)) rfl (fun x10 => ?_)
  refine mv1 rfl rfl ?_
  refine s_rd (r_extract rfl rfl) rfl ?_
  refine s_rd (r_extract rfl rfl) rfl ?_
  refine as1 rfl rfl ?_
  refine as1 rfl rfl ?_
  refine l_nil ?_
  refine b_of (nrm [tbO (rI .u8) 0 tab_0, oc b2 [slv rS t1.i0, slv rS t1.i1, slv rT_api_Case [(T_api_Case.mk (ByteArray.mk #[99]) [(ByteArray.mk #[97]), (ByteArray.mk #[98]), (ByteArray.mk #[120])] 1 [(ByteArray.mk #[97])])]], oc b4 [slv (rI .i64) t3.1.For, slv (rI .i64) t3.1.Against], oc b6 [slv (rI .i64) t5.1.For, slv (rI .i64) t5.1.Against], oa rS x8.1 x8.2 t7.1, oa rS x10.1 x10.2 t9.1] rfl) ?_
  refine n_then (ref_seq (ref_region ?_))
  refine s_rd (r_cloadS Tryd.isAgg29 Tryd.sizeOf29 rfl (j := 1) rfl rfl rfl) rfl ?_
  refine s_st (s_bslice (xs := [.const (.string (ByteArray.mk #[97])), .const (.string (ByteArray.mk #[120]))]) (ds := [(ByteArray.mk #[97]), (ByteArray.mk #[120])]) Tryd.underlying25 el_9 rfl (Nat.le_of_ble_eq_true rfl) ⟨(part_at rfl sv_at), ⟨(part_at rfl sv_at), trivial⟩⟩) rfl (fun _ => ?_)
  refine pull fun t11 h_t11 => ?_
  refine s_st (s_callC [0] [true] (fun (_ : Unit) => [tbO (rI .u8) 0 tab_0]) (fun (_ : Unit) => []) (fun (_ : Unit) => tup [iv .i64 t11.1, iv .i64 t11.2.1, iv .i64 t11.2.2]) (args := [.tmp 44, .tmp 45]) (caps := []) Tryd.call20 rfl (precedent_Decide_ok h_t11) ⟨rfl, rfl, trivial⟩ (fun _ => rfl) (fun _ => trivial) (fun _ => rfl) ⟨arg rfl, arg rfl, trivial⟩ (fun _ _ _ _ h => h)) rfl (fun _ => ?_)
  refine mv1 rfl rfl ?_
  refine s_rd (r_extract rfl rfl) rfl ?_
  refine s_rd (r_extract rfl rfl) rfl ?_
  refine s_rd (r_extract rfl rfl) rfl ?_
  refine as1 rfl rfl ?_
  refine as1 rfl rfl ?_
  refine as1 rfl rfl ?_
  refine l_nil (n_then (ref_seq (ref_region ?_)))
  refine mv1 rfl rfl ?_
  refine s_rd (r_eql rfl rfl) rfl ?_
  refine mv1 rfl rfl ?_
  refine b_split (t := 52) rfl (fun _ => ?_) (fun _ => ?_)
  · refine s_on rfl rfl rfl ?_
    refine mv1 rfl rfl ?_
    refine s_on rfl rfl rfl ?_
    refine s_rd (r_eql rfl rfl) rfl ?_
    refine s_rd (r_pickT rfl rfl) rfl ?_
    refine mv1 rfl rfl ?_
    refine b_split (t := 56) rfl (fun _ => ?_) (fun _ => ?_)
    · refine s_on rfl rfl rfl ?_
      refine mv1 rfl rfl ?_
      refine s_on rfl rfl rfl ?_
      refine s_rd (r_eql rfl rfl) rfl ?_
      refine s_rd (r_pickT rfl rfl) rfl ?_
      refine mv1 rfl rfl ?_
      refine b_split (t := 60) rfl (fun _ => ?_) (fun _ => ?_)
      · refine s_on rfl rfl rfl ?_
        refine mv1 rfl rfl ?_
        refine s_on rfl rfl rfl ?_
        refine s_rd (r_eql rfl rfl) rfl ?_
        refine s_rd (r_pickT rfl rfl) rfl ?_
        refine mv1 rfl rfl ?_
        refine b_split (t := 64) rfl (fun _ => ?_) (fun _ => ?_)
        · refine s_on rfl rfl rfl ?_
          refine mv1 rfl rfl ?_
          refine s_on rfl rfl rfl ?_
          refine s_rd (r_eql rfl rfl) rfl ?_
          refine s_rd (r_pickT rfl rfl) rfl ?_
          refine mv1 rfl rfl ?_
          refine b_split (t := 68) rfl (fun _ => ?_) (fun _ => ?_)
          · refine s_on rfl rfl rfl ?_
            refine s_rd (r_faddr (fo := 0) Tryd.underlying33 rfl rfl Tryd.sizeOf22 rfl) rfl ?_
            refine s_on rfl rfl rfl ?_
            refine s_rd (r_cload Tryd.isAgg22 rfl (j := 2) rfl rfl) rfl ?_
            refine s_on rfl rfl rfl ?_
            refine s_st (s_bslice (xs := [.const (.int .i64 (0))]) (ds := [0]) Tryd.underlying22 el_3 rfl (Nat.le_of_ble_eq_true rfl) ⟨(part_at rfl iv_at), trivial⟩) rfl (fun _ => ?_)
            refine s_on rfl rfl rfl ?_
            refine pull fun t12 h_t12 => ?_
            refine s_st (s_call (ψ := fun (_ : Unit) => bv t12) (args := [.tmp 70, .tmp 71]) Tryd.call38 rfl (keep_Ints_ok h_t12) ⟨arg rfl, arg rfl, trivial⟩ (fun _ _ _ _ h => h)) rfl (fun _ => ?_)
            refine s_rd (r_pickT rfl rfl) rfl ?_
            refine mv1 rfl rfl ?_
            refine b_split (t := 74) rfl (fun _ => ?_) (fun _ => ?_)
            · refine s_on rfl rfl rfl ?_
              refine s_rd (r_faddr (fo := 0) Tryd.underlying33 rfl rfl Tryd.sizeOf22 rfl) rfl ?_
              refine s_on rfl rfl rfl ?_
              refine s_rd (r_cload Tryd.isAgg22 rfl (j := 3) rfl rfl) rfl ?_
              refine s_on rfl rfl rfl ?_
              refine s_rd (r_len Tryd.underlying22 rfl) rfl ?_
              refine s_on rfl rfl rfl ?_
              refine s_rd (r_eql rfl rfl) rfl ?_
              refine s_rd (r_pickT rfl rfl) rfl ?_
              refine mv1 rfl rfl ?_
              refine b_split (t := 80) rfl (fun _ => ?_) (fun _ => ?_)
              · refine s_on rfl rfl rfl ?_
                refine mv1 rfl rfl ?_
                refine s_on rfl rfl rfl ?_
                refine s_st (s_bslice (xs := [.const (.string (ByteArray.mk #[98]))]) (ds := [(ByteArray.mk #[98])]) Tryd.underlying25 el_9 rfl (Nat.le_of_ble_eq_true rfl) ⟨(part_at rfl sv_at), trivial⟩) rfl (fun _ => ?_)
                refine s_on rfl rfl rfl ?_
                refine pull fun t13 h_t13 => ?_
                refine s_st (s_callB (ψ := fun (_ : Unit) => bv t13) (args := [.tmp 81, .tmp 82]) Tryd.call39 rfl (ref38_Same_ok h_t13) ⟨argO rfl (j := 4) rfl, argB rfl, trivial⟩ (fun _ _ _ _ _ h => h)) rfl (fun _ => ?_)
                refine s_rd (r_pickT rfl rfl) rfl ?_
                refine mv1 rfl rfl ?_
                refine b_split (t := 85) rfl (fun _ => ?_) (fun _ => ?_)
                · refine s_on rfl rfl rfl ?_
                  refine mv1 rfl rfl ?_
                  refine s_on rfl rfl rfl ?_
                  refine s_st (s_bslice (xs := [.const (.string (ByteArray.mk #[121]))]) (ds := [(ByteArray.mk #[121])]) Tryd.underlying25 el_9 rfl (Nat.le_of_ble_eq_true rfl) ⟨(part_at rfl sv_at), trivial⟩) rfl (fun _ => ?_)
                  refine s_on rfl rfl rfl ?_
                  refine pull fun t14 h_t14 => ?_
                  refine s_st (s_callB (ψ := fun (_ : Unit) => bv t14) (args := [.tmp 86, .tmp 87]) Tryd.call39 rfl (ref38_Same_ok h_t14) ⟨argO rfl (j := 5) rfl, argB rfl, trivial⟩ (fun _ _ _ _ _ h => h)) rfl (fun _ => ?_)
                  refine s_rd (r_pickT rfl rfl) rfl ?_
                  refine mv1 rfl rfl ?_
                  refine b_split (t := 90) rfl (fun _ => ?_) (fun _ => ?_)
                  · refine s_on rfl rfl rfl ?_
                    refine mv1 rfl rfl ?_
                    refine s_on rfl rfl rfl ?_
                    refine s_rd (r_eql rfl rfl) rfl ?_
                    refine s_rd (r_pickT rfl rfl) rfl ?_
                    refine mv1 rfl rfl ?_
                    refine b_split (t := 94) rfl (fun _ => ?_) (fun _ => ?_)
                    · refine s_on rfl rfl rfl ?_
                      refine mv1 rfl rfl ?_
                      refine s_on rfl rfl rfl ?_
                      refine s_rd (r_eql rfl rfl) rfl ?_
                      refine s_rd (r_pickT rfl rfl) rfl ?_
                      refine as1 rfl rfl ?_
                      refine l_nil ?_
                      refine b_of (nrm [tbO (rI .u8) 0 tab_0, oc b2 [slv rS t1.i0, slv rS t1.i1, slv rT_api_Case [(T_api_Case.mk (ByteArray.mk #[99]) [(ByteArray.mk #[97]), (ByteArray.mk #[98]), (ByteArray.mk #[120])] 1 [(ByteArray.mk #[97])])]], oc b4 [slv (rI .i64) t3.1.For, slv (rI .i64) t3.1.Against], oc b6 [slv (rI .i64) t5.1.For, slv (rI .i64) t5.1.Against], oa rS x8.1 x8.2 t7.1, oa rS x10.1 x10.2 t9.1] rfl) ?_
                      refine n_then (ref_ret ?_)
                      exact fin1 (.inl rfl) () [0] rfl ⟨rfl, trivial⟩ rfl (rv_tmp rfl)
                    refine s_off rfl rfl rfl rfl rfl ?_
                    refine s_off rfl rfl rfl rfl rfl ?_
                    refine s_rd (r_pickF rfl rfl) rfl ?_
                    refine as1 rfl rfl ?_
                    refine l_nil ?_
                    refine b_of (nrm [tbO (rI .u8) 0 tab_0, oc b2 [slv rS t1.i0, slv rS t1.i1, slv rT_api_Case [(T_api_Case.mk (ByteArray.mk #[99]) [(ByteArray.mk #[97]), (ByteArray.mk #[98]), (ByteArray.mk #[120])] 1 [(ByteArray.mk #[97])])]], oc b4 [slv (rI .i64) t3.1.For, slv (rI .i64) t3.1.Against], oc b6 [slv (rI .i64) t5.1.For, slv (rI .i64) t5.1.Against], oa rS x8.1 x8.2 t7.1, oa rS x10.1 x10.2 t9.1] rfl) ?_
                    refine n_then (ref_ret ?_)
                    exact fin1 (.inl rfl) () [0] rfl ⟨rfl, trivial⟩ rfl (rv_tmp rfl)
                  refine s_off rfl rfl rfl rfl rfl ?_
                  refine s_off rfl rfl rfl rfl rfl ?_
                  refine s_rd (r_pickF rfl rfl) rfl ?_
                  refine mv1 rfl rfl ?_
                  refine s_off rfl rfl rfl rfl rfl ?_
                  refine s_off rfl rfl rfl rfl rfl ?_
                  refine s_rd (r_pickF rfl rfl) rfl ?_
                  refine as1 rfl rfl ?_
                  refine l_nil ?_
                  refine b_of (nrm [tbO (rI .u8) 0 tab_0, oc b2 [slv rS t1.i0, slv rS t1.i1, slv rT_api_Case [(T_api_Case.mk (ByteArray.mk #[99]) [(ByteArray.mk #[97]), (ByteArray.mk #[98]), (ByteArray.mk #[120])] 1 [(ByteArray.mk #[97])])]], oc b4 [slv (rI .i64) t3.1.For, slv (rI .i64) t3.1.Against], oc b6 [slv (rI .i64) t5.1.For, slv (rI .i64) t5.1.Against], oa rS x8.1 x8.2 t7.1, oa rS x10.1 x10.2 t9.1] rfl) ?_
                  refine n_then (ref_ret ?_)
                  exact fin1 (.inl rfl) () [0] rfl ⟨rfl, trivial⟩ rfl (rv_tmp rfl)
                refine s_off rfl rfl rfl rfl rfl ?_
                refine s_off rfl rfl rfl rfl rfl ?_
                refine s_off rfl rfl rfl rfl rfl ?_
                refine s_rd (r_pickF rfl rfl) rfl ?_
                refine mv1 rfl rfl ?_
                refine s_off rfl rfl rfl rfl rfl ?_
                refine s_off rfl rfl rfl rfl rfl ?_
                refine s_rd (r_pickF rfl rfl) rfl ?_
                refine mv1 rfl rfl ?_
                refine s_off rfl rfl rfl rfl rfl ?_
                refine s_off rfl rfl rfl rfl rfl ?_
                refine s_rd (r_pickF rfl rfl) rfl ?_
                refine as1 rfl rfl ?_
                refine l_nil ?_
                refine b_of (nrm [tbO (rI .u8) 0 tab_0, oc b2 [slv rS t1.i0, slv rS t1.i1, slv rT_api_Case [(T_api_Case.mk (ByteArray.mk #[99]) [(ByteArray.mk #[97]), (ByteArray.mk #[98]), (ByteArray.mk #[120])] 1 [(ByteArray.mk #[97])])]], oc b4 [slv (rI .i64) t3.1.For, slv (rI .i64) t3.1.Against], oc b6 [slv (rI .i64) t5.1.For, slv (rI .i64) t5.1.Against], oa rS x8.1 x8.2 t7.1, oa rS x10.1 x10.2 t9.1] rfl) ?_
                refine n_then (ref_ret ?_)
                exact fin1 (.inl rfl) () [0] rfl ⟨rfl, trivial⟩ rfl (rv_tmp rfl)
              refine s_off rfl rfl rfl rfl rfl ?_
              refine s_off rfl rfl rfl rfl rfl ?_
              refine s_off rfl rfl rfl rfl rfl ?_
              refine s_rd (r_pickF rfl rfl) rfl ?_
              refine mv1 rfl rfl ?_
              refine s_off rfl rfl rfl rfl rfl ?_
              refine s_off rfl rfl rfl rfl rfl ?_
              refine s_off rfl rfl rfl rfl rfl ?_
              refine s_rd (r_pickF rfl rfl) rfl ?_
              refine mv1 rfl rfl ?_
              refine s_off rfl rfl rfl rfl rfl ?_
              refine s_off rfl rfl rfl rfl rfl ?_
              refine s_rd (r_pickF rfl rfl) rfl ?_
              refine mv1 rfl rfl ?_
              refine s_off rfl rfl rfl rfl rfl ?_
              refine s_off rfl rfl rfl rfl rfl ?_
              refine s_rd (r_pickF rfl rfl) rfl ?_
              refine as1 rfl rfl ?_
              refine l_nil ?_
              refine b_of (nrm [tbO (rI .u8) 0 tab_0, oc b2 [slv rS t1.i0, slv rS t1.i1, slv rT_api_Case [(T_api_Case.mk (ByteArray.mk #[99]) [(ByteArray.mk #[97]), (ByteArray.mk #[98]), (ByteArray.mk #[120])] 1 [(ByteArray.mk #[97])])]], oc b4 [slv (rI .i64) t3.1.For, slv (rI .i64) t3.1.Against], oc b6 [slv (rI .i64) t5.1.For, slv (rI .i64) t5.1.Against], oa rS x8.1 x8.2 t7.1, oa rS x10.1 x10.2 t9.1] rfl) ?_
              refine n_then (ref_ret ?_)
              exact fin1 (.inl rfl) () [0] rfl ⟨rfl, trivial⟩ rfl (rv_tmp rfl)
            refine s_off rfl rfl rfl rfl rfl ?_
            refine s_off rfl rfl rfl rfl rfl ?_
            refine s_off rfl rfl rfl rfl rfl ?_
            refine s_off rfl rfl rfl rfl rfl ?_
            refine s_rd (r_pickF rfl rfl) rfl ?_
            refine mv1 rfl rfl ?_
            refine s_off rfl rfl rfl rfl rfl ?_
            refine s_off rfl rfl rfl rfl rfl ?_
            refine s_off rfl rfl rfl rfl rfl ?_
            refine s_rd (r_pickF rfl rfl) rfl ?_
            refine mv1 rfl rfl ?_
            refine s_off rfl rfl rfl rfl rfl ?_
            refine s_off rfl rfl rfl rfl rfl ?_
            refine s_off rfl rfl rfl rfl rfl ?_
            refine s_rd (r_pickF rfl rfl) rfl ?_
            refine mv1 rfl rfl ?_
            refine s_off rfl rfl rfl rfl rfl ?_
            refine s_off rfl rfl rfl rfl rfl ?_
            refine s_rd (r_pickF rfl rfl) rfl ?_
            refine mv1 rfl rfl ?_
            refine s_off rfl rfl rfl rfl rfl ?_
            refine s_off rfl rfl rfl rfl rfl ?_
            refine s_rd (r_pickF rfl rfl) rfl ?_
            refine as1 rfl rfl ?_
            refine l_nil ?_
            refine b_of (nrm [tbO (rI .u8) 0 tab_0, oc b2 [slv rS t1.i0, slv rS t1.i1, slv rT_api_Case [(T_api_Case.mk (ByteArray.mk #[99]) [(ByteArray.mk #[97]), (ByteArray.mk #[98]), (ByteArray.mk #[120])] 1 [(ByteArray.mk #[97])])]], oc b4 [slv (rI .i64) t3.1.For, slv (rI .i64) t3.1.Against], oc b6 [slv (rI .i64) t5.1.For, slv (rI .i64) t5.1.Against], oa rS x8.1 x8.2 t7.1, oa rS x10.1 x10.2 t9.1] rfl) ?_
            refine n_then (ref_ret ?_)
            exact fin1 (.inl rfl) () [0] rfl ⟨rfl, trivial⟩ rfl (rv_tmp rfl)
          refine s_off rfl rfl rfl rfl rfl ?_
          refine s_off rfl rfl rfl rfl rfl ?_
          refine s_off rfl rfl rfl rfl rfl ?_
          refine s_off rfl rfl rfl rfl rfl ?_
          refine s_rd (r_pickF rfl rfl) rfl ?_
          refine mv1 rfl rfl ?_
          refine s_off rfl rfl rfl rfl rfl ?_
          refine s_off rfl rfl rfl rfl rfl ?_
          refine s_off rfl rfl rfl rfl rfl ?_
          refine s_off rfl rfl rfl rfl rfl ?_
          refine s_rd (r_pickF rfl rfl) rfl ?_
          refine mv1 rfl rfl ?_
          refine s_off rfl rfl rfl rfl rfl ?_
          refine s_off rfl rfl rfl rfl rfl ?_
          refine s_off rfl rfl rfl rfl rfl ?_
          refine s_rd (r_pickF rfl rfl) rfl ?_
          refine mv1 rfl rfl ?_
          refine s_off rfl rfl rfl rfl rfl ?_
          refine s_off rfl rfl rfl rfl rfl ?_
          refine s_off rfl rfl rfl rfl rfl ?_
          refine s_rd (r_pickF rfl rfl) rfl ?_
          refine mv1 rfl rfl ?_
          refine s_off rfl rfl rfl rfl rfl ?_
          refine s_off rfl rfl rfl rfl rfl ?_
          refine s_rd (r_pickF rfl rfl) rfl ?_
          refine mv1 rfl rfl ?_
          refine s_off rfl rfl rfl rfl rfl ?_
          refine s_off rfl rfl rfl rfl rfl ?_
          refine s_rd (r_pickF rfl rfl) rfl ?_
          refine as1 rfl rfl ?_
          refine l_nil (n_then (ref_ret ?_))
          exact fin1 (.inl rfl) () [0] rfl ⟨rfl, trivial⟩ rfl (rv_tmp rfl)
        refine s_off rfl rfl rfl rfl rfl ?_
        refine s_off rfl rfl rfl rfl rfl ?_
        refine s_rd (r_pickF rfl rfl) rfl ?_
        refine mv1 rfl rfl ?_
        refine s_off rfl rfl rfl rfl rfl ?_
        refine s_off rfl rfl rfl rfl rfl ?_
        refine s_off rfl rfl rfl rfl rfl ?_
        refine s_off rfl rfl rfl rfl rfl ?_
        refine s_rd (r_pickF rfl rfl) rfl ?_
        refine mv1 rfl rfl ?_
        refine s_off rfl rfl rfl rfl rfl ?_
        refine s_off rfl rfl rfl rfl rfl ?_
        refine s_off rfl rfl rfl rfl rfl ?_
        refine s_off rfl rfl rfl rfl rfl ?_
        refine s_rd (r_pickF rfl rfl) rfl ?_
        refine mv1 rfl rfl ?_
        refine s_off rfl rfl rfl rfl rfl ?_
        refine s_off rfl rfl rfl rfl rfl ?_
        refine s_off rfl rfl rfl rfl rfl ?_
        refine s_rd (r_pickF rfl rfl) rfl ?_
        refine mv1 rfl rfl ?_
        refine s_off rfl rfl rfl rfl rfl ?_
        refine s_off rfl rfl rfl rfl rfl ?_
        refine s_off rfl rfl rfl rfl rfl ?_
        refine s_rd (r_pickF rfl rfl) rfl ?_
        refine mv1 rfl rfl ?_
        refine s_off rfl rfl rfl rfl rfl ?_
        refine s_off rfl rfl rfl rfl rfl ?_
        refine s_rd (r_pickF rfl rfl) rfl ?_
        refine mv1 rfl rfl ?_
        refine s_off rfl rfl rfl rfl rfl ?_
        refine s_off rfl rfl rfl rfl rfl ?_
        refine s_rd (r_pickF rfl rfl) rfl ?_
        refine as1 rfl rfl ?_
        refine l_nil (n_then (ref_ret ?_))
        exact fin1 (.inl rfl) () [0] rfl ⟨rfl, trivial⟩ rfl (rv_tmp rfl)
      refine s_off rfl rfl rfl rfl rfl ?_
      refine s_off rfl rfl rfl rfl rfl ?_
      refine s_rd (r_pickF rfl rfl) rfl ?_
      refine mv1 rfl rfl ?_
      refine s_off rfl rfl rfl rfl rfl ?_
      refine s_off rfl rfl rfl rfl rfl ?_
      refine s_rd (r_pickF rfl rfl) rfl ?_
      refine mv1 rfl rfl ?_
      refine s_off rfl rfl rfl rfl rfl ?_
      refine s_off rfl rfl rfl rfl rfl ?_
      refine s_off rfl rfl rfl rfl rfl ?_
      refine s_off rfl rfl rfl rfl rfl ?_
      refine s_rd (r_pickF rfl rfl) rfl ?_
      refine mv1 rfl rfl ?_
      refine s_off rfl rfl rfl rfl rfl ?_
      refine s_off rfl rfl rfl rfl rfl ?_
      refine s_off rfl rfl rfl rfl rfl ?_
      refine s_off rfl rfl rfl rfl rfl ?_
      refine s_rd (r_pickF rfl rfl) rfl ?_
      refine mv1 rfl rfl ?_
      refine s_off rfl rfl rfl rfl rfl ?_
      refine s_off rfl rfl rfl rfl rfl ?_
      refine s_off rfl rfl rfl rfl rfl ?_
      refine s_rd (r_pickF rfl rfl) rfl ?_
      refine mv1 rfl rfl ?_
      refine s_off rfl rfl rfl rfl rfl ?_
      refine s_off rfl rfl rfl rfl rfl ?_
      refine s_off rfl rfl rfl rfl rfl ?_
      refine s_rd (r_pickF rfl rfl) rfl ?_
      refine mv1 rfl rfl ?_
      refine s_off rfl rfl rfl rfl rfl ?_
      refine s_off rfl rfl rfl rfl rfl ?_
      refine s_rd (r_pickF rfl rfl) rfl ?_
      refine mv1 rfl rfl ?_
      refine s_off rfl rfl rfl rfl rfl ?_
      refine s_off rfl rfl rfl rfl rfl ?_
      refine s_rd (r_pickF rfl rfl) rfl ?_
      refine as1 rfl rfl ?_
      refine l_nil (n_then (ref_ret ?_))
      exact fin1 (.inl rfl) () [0] rfl ⟨rfl, trivial⟩ rfl (rv_tmp rfl)
    refine s_off rfl rfl rfl rfl rfl ?_
    refine s_off rfl rfl rfl rfl rfl ?_
    refine s_rd (r_pickF rfl rfl) rfl ?_
    refine mv1 rfl rfl ?_
    refine s_off rfl rfl rfl rfl rfl ?_
    refine s_off rfl rfl rfl rfl rfl ?_
    refine s_rd (r_pickF rfl rfl) rfl ?_
    refine mv1 rfl rfl ?_
    refine s_off rfl rfl rfl rfl rfl ?_
    refine s_off rfl rfl rfl rfl rfl ?_
    refine s_rd (r_pickF rfl rfl) rfl ?_
    refine mv1 rfl rfl ?_
    refine s_off rfl rfl rfl rfl rfl ?_
    refine s_off rfl rfl rfl rfl rfl ?_
    refine s_off rfl rfl rfl rfl rfl ?_
    refine s_off rfl rfl rfl rfl rfl ?_
    refine s_rd (r_pickF rfl rfl) rfl ?_
    refine mv1 rfl rfl ?_
    refine s_off rfl rfl rfl rfl rfl ?_
    refine s_off rfl rfl rfl rfl rfl ?_
    refine s_off rfl rfl rfl rfl rfl ?_
    refine s_off rfl rfl rfl rfl rfl ?_
    refine s_rd (r_pickF rfl rfl) rfl ?_
    refine mv1 rfl rfl ?_
    refine s_off rfl rfl rfl rfl rfl ?_
    refine s_off rfl rfl rfl rfl rfl ?_
    refine s_off rfl rfl rfl rfl rfl ?_
    refine s_rd (r_pickF rfl rfl) rfl ?_
    refine mv1 rfl rfl ?_
    refine s_off rfl rfl rfl rfl rfl ?_
    refine s_off rfl rfl rfl rfl rfl ?_
    refine s_off rfl rfl rfl rfl rfl ?_
    refine s_rd (r_pickF rfl rfl) rfl ?_
    refine mv1 rfl rfl ?_
    refine s_off rfl rfl rfl rfl rfl ?_
    refine s_off rfl rfl rfl rfl rfl ?_
    refine s_rd (r_pickF rfl rfl) rfl ?_
    refine mv1 rfl rfl ?_
    refine s_off rfl rfl rfl rfl rfl ?_
    refine s_off rfl rfl rfl rfl rfl ?_
    refine s_rd (r_pickF rfl rfl) rfl ?_
    refine as1 rfl rfl ?_
    refine l_nil (n_then (ref_ret ?_))
    exact fin1 (.inl rfl) () [0] rfl ⟨rfl, trivial⟩ rfl (rv_tmp rfl)
  refine s_off rfl rfl rfl rfl rfl ?_
  refine s_off rfl rfl rfl rfl rfl ?_
  refine s_rd (r_pickF rfl rfl) rfl ?_
  refine mv1 rfl rfl ?_
  refine s_off rfl rfl rfl rfl rfl ?_
  refine s_off rfl rfl rfl rfl rfl ?_
  refine s_rd (r_pickF rfl rfl) rfl ?_
  refine mv1 rfl rfl ?_
  refine s_off rfl rfl rfl rfl rfl ?_
  refine s_off rfl rfl rfl rfl rfl ?_
  refine s_rd (r_pickF rfl rfl) rfl ?_
  refine mv1 rfl rfl ?_
  refine s_off rfl rfl rfl rfl rfl ?_
  refine s_off rfl rfl rfl rfl rfl ?_
  refine s_rd (r_pickF rfl rfl) rfl ?_
  refine mv1 rfl rfl ?_
  refine s_off rfl rfl rfl rfl rfl ?_
  refine s_off rfl rfl rfl rfl rfl ?_
  refine s_off rfl rfl rfl rfl rfl ?_
  refine s_off rfl rfl rfl rfl rfl ?_
  refine s_rd (r_pickF rfl rfl) rfl ?_
  refine mv1 rfl rfl ?_
  refine s_off rfl rfl rfl rfl rfl ?_
  refine s_off rfl rfl rfl rfl rfl ?_
  refine s_off rfl rfl rfl rfl rfl ?_
  refine s_off rfl rfl rfl rfl rfl ?_
  refine s_rd (r_pickF rfl rfl) rfl ?_
  refine mv1 rfl rfl ?_
  refine s_off rfl rfl rfl rfl rfl ?_
  refine s_off rfl rfl rfl rfl rfl ?_
  refine s_off rfl rfl rfl rfl rfl ?_
  refine s_rd (r_pickF rfl rfl) rfl ?_
  refine mv1 rfl rfl ?_
  refine s_off rfl rfl rfl rfl rfl ?_
  refine s_off rfl rfl rfl rfl rfl ?_
  refine s_off rfl rfl rfl rfl rfl ?_
  refine s_rd (r_pickF rfl rfl) rfl ?_
  refine mv1 rfl rfl ?_
  refine s_off rfl rfl rfl rfl rfl ?_
  refine s_off rfl rfl rfl rfl rfl ?_
  refine s_rd (r_pickF rfl rfl) rfl ?_
  refine mv1 rfl rfl ?_
  refine s_off rfl rfl rfl rfl rfl ?_
  refine s_off rfl rfl rfl rfl rfl ?_
  refine s_rd (r_pickF rfl rfl) rfl ?_
  refine as1 rfl rfl ?_
  refine l_nil (n_then (ref_ret ?_))
  exact fin1 (.inl rfl) () [0] rfl ⟨rfl, trivial⟩ rfl (rv_tmp rfl)

/-! deliberation/deliberationlaw38.PrecedentForces -/
noncomputable def law38_PrecedentForces_l1 (t3 : T_api_Library × T_deliberationkeep_Src) (f5 : List ByteArray × T_deliberationkeep_Src) (t7 : T_api_Force × Int) (s33 : Int) : Option (Sum ((Sum (Bool) (Unit))) (Int)) :=
  bif decide (s33 < (t3.1.Cases.length : Int)) then
    Option.bind (idxM t3.1.Cases s33) fun t36 =>
    Option.bind (precedent_Distinguish_m t3.1 s33 f5.1) fun t38 =>
    Option.bind (precedent_Strong_m t3.1 t36.Facts) fun t40 =>
    bif t38.2 != 0 then
      some (Sum.inl (Sum.inl false))
    else
      bif t40.2 != 0 then
        some (Sum.inl (Sum.inl false))
      else
        Option.bind (keep_In_m t7.1.For s33) fun forced43 =>
        Option.bind (keep_In_m t40.1.For s33) fun own44 =>
        joinM (fun j48 : Bool × Bool =>
            bif !(j48.1 == ((t38.1.length : Int) == 0)) then
              some (Sum.inl (Sum.inl false))
            else
              bif !j48.2 then
                some (Sum.inl (Sum.inl false))
              else
                letM (iadd .i64 s33 1) fun i52 =>
                some (Sum.inr i52)) fun k50 =>
        bif t36.Winner == 2 then
          Option.bind (keep_In_m t7.1.Against s33) fun forced46 =>
          Option.bind (keep_In_m t40.1.Against s33) fun own47 =>
          k50 (forced46, own47)
        else
          k50 (forced43, own44)
  else
    some (Sum.inl (Sum.inr ()))

noncomputable def law38_PrecedentForces_m (l_0 : (List Int)) : Option (Bool) :=
  Option.bind (keep_New_m l_0) fun s1 =>
  Option.bind (law38_library_m s1 5) fun t3 =>
  Option.bind (law38_facts_m t3.2) fun f5 =>
  Option.bind (precedent_Strong_m t3.1 f5.1) fun t7 =>
  Option.bind (precedent_Reasons_m t3.1 f5.1) fun t9 =>
  bif t7.2 != 0 then
    some false
  else
    bif t9.2 != 0 then
      some false
    else
      Option.bind (keep_Inside_m t7.1.For t9.1.For) fun t11 =>
      bif !t11 then
        some false
      else
        Option.bind (keep_Inside_m t7.1.Against t9.1.Against) fun t12 =>
        bif !t12 then
          some false
        else
          Option.bind (loopC (law38_PrecedentForces_l1 t3 f5 t7) 0) (sumK (fun a : Bool => some a) fun q53 : Unit =>
            Option.bind (law38_awake_m ) fun t55 =>
            some t55)

theorem law38_PrecedentForces_ok {l_0 : (List Int)} {r : Bool} (hm : law38_PrecedentForces_m l_0 = some r) :
    FnOk prog 3 [slv (rI .i64) l_0] [tbO (rI .u8) 0 tab_0] (fun (x : Unit) => [bv r]) (fun (x : Unit) => [tbO (rI .u8) 0 tab_0]) := by
  refine fn_ok (fn := Tryd.f3) (N := 119) (res := fun r x => [bv r]) (Ω1 := fun r x => [tbO (rI .u8) 0 tab_0]) Tryd.func3 rfl rfl hm rfl (fun E hM => ?_)
  unfold law38_PrecedentForces_m
  refine ref_seq (ref_region ?_)
  refine as1 rfl rfl ?_
  refine l_nil (n_then (ref_seq (ref_region ?_)))
  refine mv1 rfl rfl ?_
  refine pull fun s1 h_s1 => ?_
  refine s_st (s_call (ψ := fun (x2 : Nat) => pv (ptr x2 0)) (args := [.tmp 18]) Tryd.call7 rfl (keep_New_ok h_s1) ⟨arg rfl, trivial⟩ (fun _ _ _ _ h => h)) rfl (fun x2 => ?_)
  refine as1 rfl rfl ?_
  refine l_nil (n_then (ref_seq (ref_region ?_)))
  refine mv1 rfl rfl ?_
  refine pull fun t3 h_t3 => ?_
  refine s_st (s_callC [1] [true] (fun (_ : Unit) => [oc x2 [slv (rI .i64) t3.2.L, iv .i64 t3.2.At]]) (fun (_ : Unit) => []) (fun (_ : Unit) => ag [slv rS t3.1.Sides.i0, slv rS t3.1.Sides.i1, slv rT_api_Case t3.1.Cases]) (args := [.tmp 20, .const (.int .i64 (5))]) (caps := []) Tryd.call8 rfl (law38_library_ok h_t3) ⟨rfl, rfl, trivial⟩ (fun _ => rfl) (fun _ => trivial) (fun _ => rfl) ⟨arg rfl, arg rfl, trivial⟩ (fun _ _ _ _ h => h)) rfl (fun _ => ?_)
  refine s_st (s_alloc zt_29) rfl (fun b4 => ?_)
  refine s_st0 (s_cstore (out := [slv rS t3.1.Sides.i0, slv rS t3.1.Sides.i1, slv rT_api_Case t3.1.Cases]) Tryd.sizeOf29 rfl (j := 2) rfl (part_agO (ψs := [slv rS t3.1.Sides.i0, slv rS t3.1.Sides.i1, slv rT_api_Case t3.1.Cases]) rfl ⟨.inl slv_at, .inl slv_at, .inl slv_at, trivial⟩) rfl rfl rfl) (fun _ => ?_)
  refine l_nil ?_
  refine b_of (nrm [tbO (rI .u8) 0 tab_0, oc x2 [slv (rI .i64) t3.2.L, iv .i64 t3.2.At], oc b4 [slv rS t3.1.Sides.i0, slv rS t3.1.Sides.i1, slv rT_api_Case t3.1.Cases]] rfl) ?_
  refine n_then (ref_seq (ref_region ?_))
  refine mv1 rfl rfl ?_
  refine pull fun f5 h_f5 => ?_
  refine s_st (s_callC [1] [true] (fun (x6 : (Value × List Nat)) => [oc x2 [slv (rI .i64) f5.2.L, iv .i64 f5.2.At]]) (fun (x6 : (Value × List Nat)) => [oa rS x6.1 x6.2 f5.1]) (fun (x6 : (Value × List Nat)) => pv x6.1) (args := [.tmp 22]) (caps := []) Tryd.call9 rfl (law38_facts_ok h_f5) ⟨rfl, rfl, trivial⟩ (fun _ => rfl) (fun _ => trivial) (fun _ => rfl) ⟨arg rfl, trivial⟩ (fun _ _ _ _ h => h)) rfl (fun x6 => ?_)
  refine as1 rfl rfl ?_
  refine l_nil (n_then (ref_seq (ref_region ?_)))
  refine s_rd (r_cloadS Tryd.isAgg29 Tryd.sizeOf29 rfl (j := 2) rfl rfl rfl) rfl ?_
  refine mv1 rfl rfl ?_
  refine b_of (frzL [23, 5, 26] (j := 3) rfl ⟨rfl, rfl, rfl, trivial⟩) ?_
  refine pull fun t7 h_t7 => ?_
  refine s_st (s_call (ψ := fun (_ : Unit) => tup [ag [slv (rI .i64) t7.1.For, slv (rI .i64) t7.1.Against], iv .i64 t7.2]) (args := [.tmp 25, .tmp 26]) Tryd.call10 rfl (precedent_Strong_ok h_t7) ⟨arg rfl, arg rfl, trivial⟩ (fun _ _ _ _ h => h)) rfl (fun _ => ?_)
  refine mv1 rfl rfl ?_
  refine s_rd (r_extract rfl rfl) rfl ?_
  refine s_rd (r_extract rfl rfl) rfl ?_
  refine s_st (s_alloc zt_33) rfl (fun b8 => ?_)
  refine s_st0 (s_cstore (out := [slv (rI .i64) t7.1.For, slv (rI .i64) t7.1.Against]) Tryd.sizeOf33 rfl (j := 4) rfl (part_agO (ψs := [slv (rI .i64) t7.1.For, slv (rI .i64) t7.1.Against]) rfl ⟨.inl slv_at, .inl slv_at, trivial⟩) rfl rfl rfl) (fun _ => ?_)
  refine as1 rfl rfl ?_
  refine l_nil ?_
  refine b_of (nrm [tbO (rI .u8) 0 tab_0, oc x2 [slv (rI .i64) f5.2.L, iv .i64 f5.2.At], oc b4 [slv rS t3.1.Sides.i0, slv rS t3.1.Sides.i1, slv rT_api_Case t3.1.Cases], dead, oc b8 [slv (rI .i64) t7.1.For, slv (rI .i64) t7.1.Against]] rfl) ?_
  refine n_then (ref_seq (ref_region ?_))
  refine s_rd (r_cloadS Tryd.isAgg29 Tryd.sizeOf29 rfl (j := 2) rfl rfl rfl) rfl ?_
  refine mv1 rfl rfl ?_
  refine pull fun t9 h_t9 => ?_
  refine s_st (s_call (ψ := fun (_ : Unit) => tup [ag [slv (rI .i64) t9.1.For, slv (rI .i64) t9.1.Against], iv .i64 t9.2]) (args := [.tmp 31, .tmp 32]) Tryd.call11 rfl (precedent_Reasons_ok h_t9) ⟨arg rfl, arg rfl, trivial⟩ (fun _ _ _ _ h => h)) rfl (fun _ => ?_)
  refine mv1 rfl rfl ?_
  refine s_rd (r_extract rfl rfl) rfl ?_
  refine s_rd (r_extract rfl rfl) rfl ?_
  refine s_st (s_alloc zt_33) rfl (fun b10 => ?_)
  refine s_st0 (s_cstore (out := [slv (rI .i64) t9.1.For, slv (rI .i64) t9.1.Against]) Tryd.sizeOf33 rfl (j := 5) rfl (part_agO (ψs := [slv (rI .i64) t9.1.For, slv (rI .i64) t9.1.Against]) rfl ⟨.inl slv_at, .inl slv_at, trivial⟩) rfl rfl rfl) (fun _ => ?_)
  refine as1 rfl rfl ?_
  refine l_nil (n_then (ref_seq (ref_seq (ref_region ?_))))
  refine mv1 rfl rfl ?_
  refine s_rd (r_neq rfl rfl) rfl ?_
  refine mv1 rfl rfl ?_
  refine b_split (t := 38) rfl (fun _ => ?_) (fun _ => ?_)
  · refine s_off rfl rfl rfl rfl rfl ?_
    refine s_off rfl rfl rfl rfl rfl ?_
    refine s_rd (r_pickT rfl rfl) rfl ?_
    refine mv1 rfl rfl ?_
    refine s_off rfl rfl rfl rfl rfl ?_
    refine s_off rfl rfl rfl rfl rfl ?_
    refine s_off rfl rfl rfl rfl rfl ?_
    refine s_off rfl rfl rfl rfl rfl ?_
    refine s_off rfl rfl rfl rfl rfl ?_
    refine s_off rfl rfl rfl rfl rfl ?_
    refine s_rd (r_pickT rfl rfl) rfl ?_
    refine mv1 rfl rfl ?_
    refine s_off rfl rfl rfl rfl rfl ?_
    refine s_off rfl rfl rfl rfl rfl ?_
    refine s_off rfl rfl rfl rfl rfl ?_
    refine s_off rfl rfl rfl rfl rfl ?_
    refine s_off rfl rfl rfl rfl rfl ?_
    refine s_off rfl rfl rfl rfl rfl ?_
    refine s_rd (r_pickT rfl rfl) rfl ?_
    refine l_nil (n_then ?_)
    refine ref_condT rfl rfl ?_
    refine ref_seq (ref_region ?_)
    refine as1 rfl rfl ?_
    refine l_nil (n_then (ref_ret (r_then ?_)))
    exact fin1 (.inl rfl) () [0] rfl ⟨rfl, trivial⟩ rfl (rv_tmp rfl)
  refine s_on rfl rfl rfl ?_
  refine mv1 rfl rfl ?_
  refine s_on rfl rfl rfl ?_
  refine s_rd (r_neq rfl rfl) rfl ?_
  refine s_rd (r_pickF rfl rfl) rfl ?_
  refine mv1 rfl rfl ?_
  refine b_split (t := 42) rfl (fun _ => ?_) (fun _ => ?_)
  · refine s_off rfl rfl rfl rfl rfl ?_
    refine s_off rfl rfl rfl rfl rfl ?_
    refine s_off rfl rfl rfl rfl rfl ?_
    refine s_off rfl rfl rfl rfl rfl ?_
    refine s_off rfl rfl rfl rfl rfl ?_
    refine s_off rfl rfl rfl rfl rfl ?_
    refine s_rd (r_pickT rfl rfl) rfl ?_
    refine mv1 rfl rfl ?_
    refine s_off rfl rfl rfl rfl rfl ?_
    refine s_off rfl rfl rfl rfl rfl ?_
    refine s_off rfl rfl rfl rfl rfl ?_
    refine s_off rfl rfl rfl rfl rfl ?_
    refine s_off rfl rfl rfl rfl rfl ?_
    refine s_off rfl rfl rfl rfl rfl ?_
    refine s_rd (r_pickT rfl rfl) rfl ?_
    refine l_nil (n_then ?_)
    refine ref_condT rfl rfl ?_
    refine ref_seq (ref_region ?_)
    refine as1 rfl rfl ?_
    refine l_nil (n_then (ref_ret (r_then ?_)))
    exact fin1 (.inl rfl) () [0] rfl ⟨rfl, trivial⟩ rfl (rv_tmp rfl)
  refine s_on rfl rfl rfl ?_
  refine s_rd (r_faddr (fo := 0) Tryd.underlying33 rfl rfl Tryd.sizeOf22 rfl) rfl ?_
  refine s_on rfl rfl rfl ?_
  refine s_rd (r_cload Tryd.isAgg22 rfl (j := 4) rfl rfl) rfl ?_
  refine s_on rfl rfl rfl ?_
  refine s_rd (r_faddr (fo := 0) Tryd.underlying33 rfl rfl Tryd.sizeOf22 rfl) rfl ?_
  refine s_on rfl rfl rfl ?_
  refine s_rd (r_cload Tryd.isAgg22 rfl (j := 5) rfl rfl) rfl ?_
  refine s_on rfl rfl rfl ?_
  refine pull fun t11 h_t11 => ?_
  refine s_st (s_call (ψ := fun (_ : Unit) => bv t11) (args := [.tmp 44, .tmp 46]) Tryd.call12 rfl (keep_Inside_ok h_t11) ⟨arg rfl, arg rfl, trivial⟩ (fun _ _ _ _ h => h)) rfl (fun _ => ?_)
  refine s_on rfl rfl rfl ?_
  refine s_rd (r_not rfl) rfl ?_
  refine s_rd (r_pickF rfl rfl) rfl ?_
  refine mv1 rfl rfl ?_
  refine b_split (t := 50) rfl (fun _ => ?_) (fun _ => ?_)
  · refine s_off rfl rfl rfl rfl rfl ?_
    refine s_off rfl rfl rfl rfl rfl ?_
    refine s_off rfl rfl rfl rfl rfl ?_
    refine s_off rfl rfl rfl rfl rfl ?_
    refine s_off rfl rfl rfl rfl rfl ?_
    refine s_off rfl rfl rfl rfl rfl ?_
    refine s_rd (r_pickT rfl rfl) rfl ?_
    refine l_nil ?_
    refine b_of (nrm [tbO (rI .u8) 0 tab_0, oc x2 [slv (rI .i64) f5.2.L, iv .i64 f5.2.At], oc b4 [slv rS t3.1.Sides.i0, slv rS t3.1.Sides.i1, slv rT_api_Case t3.1.Cases], dead, oc b8 [slv (rI .i64) t7.1.For, slv (rI .i64) t7.1.Against], oc b10 [slv (rI .i64) t9.1.For, slv (rI .i64) t9.1.Against]] rfl) ?_
    refine n_then ?_
    refine ref_condT rfl rfl ?_
    refine ref_seq (ref_region ?_)
    refine as1 rfl rfl ?_
    refine l_nil (n_then (ref_ret (r_then ?_)))
    exact fin1 (.inl rfl) () [0] rfl ⟨rfl, trivial⟩ rfl (rv_tmp rfl)
  refine s_on rfl rfl rfl ?_
  refine s_rd (r_faddr (fo := 1) Tryd.underlying33 rfl rfl Tryd.sizeOf22 rfl) rfl ?_
  refine s_on rfl rfl rfl ?_
  refine s_rd (r_cload Tryd.isAgg22 rfl (j := 4) rfl rfl) rfl ?_
  refine s_on rfl rfl rfl ?_
  refine s_rd (r_faddr (fo := 1) Tryd.underlying33 rfl rfl Tryd.sizeOf22 rfl) rfl ?_
  refine s_on rfl rfl rfl ?_
  refine s_rd (r_cload Tryd.isAgg22 rfl (j := 5) rfl rfl) rfl ?_
  refine s_on rfl rfl rfl ?_
  refine pull fun t12 h_t12 => ?_
  refine s_st (s_call (ψ := fun (_ : Unit) => bv t12) (args := [.tmp 52, .tmp 54]) Tryd.call12 rfl (keep_Inside_ok h_t12) ⟨arg rfl, arg rfl, trivial⟩ (fun _ _ _ _ h => h)) rfl (fun _ => ?_)
  refine s_on rfl rfl rfl ?_
  refine s_rd (r_not rfl) rfl ?_
  refine s_rd (r_pickF rfl rfl) rfl ?_
  refine l_nil ?_
  refine b_of (nrm [tbO (rI .u8) 0 tab_0, oc x2 [slv (rI .i64) f5.2.L, iv .i64 f5.2.At], oc b4 [slv rS t3.1.Sides.i0, slv rS t3.1.Sides.i1, slv rT_api_Case t3.1.Cases], dead, oc b8 [slv (rI .i64) t7.1.For, slv (rI .i64) t7.1.Against], oc b10 [slv (rI .i64) t9.1.For, slv (rI .i64) t9.1.Against]] rfl) ?_
  refine n_then ?_
  refine ref_cond rfl (fun hb13 => ?_) (fun hb13 => ?_)
  · refine ref_seq (ref_region ?_)
    refine as1 rfl rfl ?_
    refine l_nil (n_then (ref_ret (r_then ?_)))
    exact fin1 (.inl rfl) () [0] rfl ⟨rfl, trivial⟩ rfl (rv_tmp rfl)
  refine ref_skip (n_then (ref_seq (ref_seq (ref_region ?_))))
  refine as1 rfl rfl ?_
  refine l_nil (n_then ?_)
  refine ref_loopX (f := (law38_PrecedentForces_l1 t3 f5 t7)) (Γl := (fun (s33 : Int) (x34 : Unit) => [(4, pv (ptr b4 0)), (5, slv rS f5.1), (6, pv (ptr b8 0)), (10, iv .i64 s33)])) (Ωl := (fun (s33 : Int) (x34 : Unit) => [tbO (rI .u8) 0 tab_0, oc b4 [slv rS t3.1.Sides.i0, slv rS t3.1.Sides.i1, slv rT_api_Case t3.1.Cases], oc b8 [slv (rI .i64) t7.1.For, slv (rI .i64) t7.1.Against]])) (Γb := (fun (q53 : Unit) (y54 : Unit) => [])) (Ωb := (fun (q53 : Unit) (y54 : Unit) => [tbO (rI .u8) 0 tab_0])) (kr := (fun a : Bool => some a)) 0 () (weak [0, 2, 4] ⟨rfl, rfl, rfl, rfl, trivial⟩ ⟨rfl, rfl, rfl, trivial⟩) (fun s33 x34 => ?_) (fun q53 y54 => ?_)
  · unfold law38_PrecedentForces_l1
    refine ref_seq (ref_seq (ref_region ?_))
    refine mv1 rfl rfl ?_
    refine s_rd (r_faddr (fo := 2) Tryd.underlying29 rfl rfl Tryd.sizeOf27 rfl) rfl ?_
    refine s_rd (r_cload Tryd.isAgg27 rfl (j := 1) rfl rfl) rfl ?_
    refine s_rd (r_len Tryd.underlying27 rfl) rfl ?_
    refine s_rd (r_lss rfl rfl) rfl ?_
    refine l_nil (n_then ?_)
    refine ref_cond rfl (fun hb35 => ?_) (fun hb35 => ?_)
    · refine ref_skip (n_then (ref_seq (ref_block (ref_seq (ref_region ?_)))))
      refine s_rd (r_faddr (fo := 2) Tryd.underlying29 rfl rfl Tryd.sizeOf27 rfl) rfl ?_
      refine s_rd (r_cload Tryd.isAgg27 rfl (j := 1) rfl rfl) rfl ?_
      refine mv1 rfl rfl ?_
      refine pull fun t36 h_t36 => ?_
      refine s_rd (r_index h_t36 Tryd.underlying27 el_39 rfl rfl) rfl ?_
      refine s_rd (r_load el_39 rfl) rfl ?_
      refine s_st (s_alloc zt_39) rfl (fun b37 => ?_)
      refine s_st0 (s_cstore (out := [sv t36.Name, slv rS t36.Facts, iv .i64 t36.Winner, slv rS t36.Reason]) Tryd.sizeOf39 rfl (j := 3) rfl (part_agO (ψs := [sv t36.Name, slv rS t36.Facts, iv .i64 t36.Winner, slv rS t36.Reason]) rfl ⟨.inl sv_at, .inl slv_at, .inl iv_at, .inl slv_at, trivial⟩) rfl rfl rfl) (fun _ => ?_)
      refine l_nil (n_then (ref_seq (ref_region ?_)))
      refine s_rd (r_cloadS Tryd.isAgg29 Tryd.sizeOf29 rfl (j := 1) rfl rfl rfl) rfl ?_
      refine mv1 rfl rfl ?_
      refine mv1 rfl rfl ?_
      refine pull fun t38 h_t38 => ?_
      refine s_st (s_call (ψ := fun (x39 : (Value × List Nat)) => tup [pv x39.1, iv .i64 t38.2]) (args := [.tmp 71, .tmp 72, .tmp 73]) Tryd.call13 rfl (precedent_Distinguish_ok h_t38) ⟨arg rfl, arg rfl, arg rfl, trivial⟩ (fun _ _ _ _ h => h)) rfl (fun x39 => ?_)
      refine mv1 rfl rfl ?_
      refine s_rd (r_extract rfl rfl) rfl ?_
      refine s_rd (r_extract rfl rfl) rfl ?_
      refine as1 rfl rfl ?_
      refine as1 rfl rfl ?_
      refine l_nil (n_then (ref_seq (ref_region ?_)))
      refine s_rd (r_cloadS Tryd.isAgg29 Tryd.sizeOf29 rfl (j := 1) rfl rfl rfl) rfl ?_
      refine s_rd (r_faddr (fo := 1) Tryd.underlying39 rfl rfl Tryd.sizeOf25 rfl) rfl ?_
      refine s_rd (r_cload Tryd.isAgg25 rfl (j := 3) rfl rfl) rfl ?_
      refine pull fun t40 h_t40 => ?_
      refine s_st (s_call (ψ := fun (_ : Unit) => tup [ag [slv (rI .i64) t40.1.For, slv (rI .i64) t40.1.Against], iv .i64 t40.2]) (args := [.tmp 78, .tmp 80]) Tryd.call10 rfl (precedent_Strong_ok h_t40) ⟨arg rfl, arg rfl, trivial⟩ (fun _ _ _ _ h => h)) rfl (fun _ => ?_)
      refine mv1 rfl rfl ?_
      refine s_rd (r_extract rfl rfl) rfl ?_
      refine s_rd (r_extract rfl rfl) rfl ?_
      refine s_st (s_alloc zt_33) rfl (fun b41 => ?_)
      refine s_st0 (s_cstore (out := [slv (rI .i64) t40.1.For, slv (rI .i64) t40.1.Against]) Tryd.sizeOf33 rfl (j := 5) rfl (part_agO (ψs := [slv (rI .i64) t40.1.For, slv (rI .i64) t40.1.Against]) rfl ⟨.inl slv_at, .inl slv_at, trivial⟩) rfl rfl rfl) (fun _ => ?_)
      refine as1 rfl rfl ?_
      refine l_nil ?_
      refine b_of (nrm [tbO (rI .u8) 0 tab_0, oc b4 [slv rS t3.1.Sides.i0, slv rS t3.1.Sides.i1, slv rT_api_Case t3.1.Cases], oc b8 [slv (rI .i64) t7.1.For, slv (rI .i64) t7.1.Against], oc b37 [sv t36.Name, slv rS t36.Facts, iv .i64 t36.Winner, slv rS t36.Reason], oa rS x39.1 x39.2 t38.1, oc b41 [slv (rI .i64) t40.1.For, slv (rI .i64) t40.1.Against]] rfl) ?_
      refine n_then (ref_seq (ref_seq (ref_region ?_)))
      refine mv1 rfl rfl ?_
      refine s_rd (r_neq rfl rfl) rfl ?_
      refine mv1 rfl rfl ?_
      refine b_split (t := 86) rfl (fun _ => ?_) (fun _ => ?_)
      · refine s_off rfl rfl rfl rfl rfl ?_
        refine s_off rfl rfl rfl rfl rfl ?_
        refine s_rd (r_pickT rfl rfl) rfl ?_
        refine l_nil (n_then ?_)
        refine ref_condT rfl rfl ?_
        refine ref_seq (ref_region ?_)
        refine as1 rfl rfl ?_
        refine l_nil (n_then (ref_ret (r_then (r_block (r_then ?_)))))
        refine retX ?_
        refine r_block (r_then ?_)
        exact fin1 (.inl rfl) () [0] rfl ⟨rfl, trivial⟩ rfl (rv_tmp rfl)
      refine s_on rfl rfl rfl ?_
      refine mv1 rfl rfl ?_
      refine s_on rfl rfl rfl ?_
      refine s_rd (r_neq rfl rfl) rfl ?_
      refine s_rd (r_pickF rfl rfl) rfl ?_
      refine l_nil (n_then ?_)
      refine ref_cond rfl (fun hb42 => ?_) (fun hb42 => ?_)
      · refine ref_seq (ref_region ?_)
        refine as1 rfl rfl ?_
        refine l_nil (n_then (ref_ret (r_then (r_block (r_then ?_)))))
        refine retX ?_
        refine r_block (r_then ?_)
        exact fin1 (.inl rfl) () [0] rfl ⟨rfl, trivial⟩ rfl (rv_tmp rfl)
      refine ref_skip (n_then (ref_seq ?_))
      refine ref_draw [0, 1, 2, 4, 5, 6] rfl (by kernel_rfl) (fun hok => ?_)
      refine a_rd (i := 0) hok rfl (by kernel_rfl) rfl (r_faddr (fo := 0) Tryd.underlying33 rfl rfl Tryd.sizeOf22 rfl) rfl ?_
      refine a_rd (i := 1) hok rfl (by kernel_rfl) rfl (r_cload Tryd.isAgg22 rfl (j := 2) rfl rfl) rfl ?_
      refine a_rd (i := 2) hok rfl (by kernel_rfl) rfl (r_move rfl) rfl ?_
      refine a_rd (i := 4) hok rfl (by kernel_rfl) rfl (r_faddr (fo := 0) Tryd.underlying33 rfl rfl Tryd.sizeOf22 rfl) rfl ?_
      refine a_rd (i := 5) hok rfl (by kernel_rfl) rfl (r_cload Tryd.isAgg22 rfl (j := 5) rfl rfl) rfl ?_
      refine a_rd (i := 6) hok rfl (by kernel_rfl) rfl (r_move rfl) rfl ?_
      refine pull fun forced43 h_forced43 => ?_
      refine a_next hok 3 [] (by kernel_rfl) ?_ trivial
      refine a_st (i := 3) hok rfl rfl (s_call (ψ := fun (_ : Unit) => bv forced43) (args := [.tmp 91, .tmp 92]) Tryd.call14 rfl (keep_In_ok h_forced43) ⟨arg rfl, arg rfl, trivial⟩ (fun _ _ _ _ h => h)) (by intro _ h; cases h; rfl) (fun _ => ⟨trivial, ⟨⟨⟨rfl, rfl⟩, trivial⟩, ⟨trivial, ⟨trivial, ⟨trivial, ⟨trivial, trivial⟩⟩⟩⟩⟩⟩) (fun _ => ?_)
      refine pull fun own44 h_own44 => ?_
      refine a_next hok 7 [] (by kernel_rfl) ?_ trivial
      refine a_st (i := 7) hok rfl rfl (s_call (ψ := fun (_ : Unit) => bv own44) (args := [.tmp 95, .tmp 96]) Tryd.call14 rfl (keep_In_ok h_own44) ⟨arg rfl, arg rfl, trivial⟩ (fun _ _ _ _ h => h)) (by intro _ h; cases h; rfl) (fun _ => ⟨trivial, ⟨trivial, ⟨trivial, ⟨trivial, ⟨⟨⟨rfl, rfl⟩, trivial⟩, ⟨trivial, trivial⟩⟩⟩⟩⟩⟩) (fun _ => ?_)
      refine a_next hok 8 [] (by kernel_rfl) ?_ trivial
      refine a_st (i := 8) hok rfl rfl (St.ofRd (r_assign rfl)) (by intro _ h; cases h; rfl) (fun _ => ⟨trivial, ⟨⟨⟨rfl, rfl⟩, trivial⟩, ⟨trivial, ⟨trivial, ⟨trivial, ⟨trivial, trivial⟩⟩⟩⟩⟩⟩) (fun _ => ?_)
      refine a_next hok 9 [] (by kernel_rfl) ?_ trivial
      refine a_st (i := 9) hok rfl rfl (St.ofRd (r_assign rfl)) (by intro _ h; cases h; rfl) (fun _ => ⟨trivial, ⟨trivial, ⟨trivial, ⟨trivial, ⟨trivial, ⟨trivial, trivial⟩⟩⟩⟩⟩⟩) (fun _ => ?_)
      refine a_fin hok (by kernel_rfl) ?_
      refine b_of (nrm [tbO (rI .u8) 0 tab_0, oc b4 [slv rS t3.1.Sides.i0, slv rS t3.1.Sides.i1, slv rT_api_Case t3.1.Cases], oc b8 [slv (rI .i64) t7.1.For, slv (rI .i64) t7.1.Against], oc b37 [sv t36.Name, slv rS t36.Facts, iv .i64 t36.Winner, slv rS t36.Reason], oa rS x39.1 x39.2 t38.1, oc b41 [slv (rI .i64) t40.1.For, slv (rI .i64) t40.1.Against]] rfl) ?_
      refine n_then (ref_seq ?_)
      refine ref_join (fun (j48 : Bool × Bool) (x49 : Unit) => [(4, pv (ptr b4 0)), (5, slv rS f5.1), (6, pv (ptr b8 0)), (10, iv .i64 s33), (12, pv x39.1), (16, bv j48.1), (17, bv j48.2), (87, iv .i64 t40.2), (88, bv (t40.2 != 0))]) (fun (j48 : Bool × Bool) (x49 : Unit) => [oc b4 [slv rS t3.1.Sides.i0, slv rS t3.1.Sides.i1, slv rT_api_Case t3.1.Cases], oc b8 [slv (rI .i64) t7.1.For, slv (rI .i64) t7.1.Against], oa rS x39.1 x39.2 t38.1, tbO (rI .u8) 0 tab_0]) (fun k50 hk50 => ?_) (fun j48 x49 => ?_)
      · refine ref_seq (ref_region ?_)
        refine s_rd (r_faddr (fo := 2) Tryd.underlying39 rfl rfl Tryd.sizeOf3 rfl) rfl ?_
        refine s_rd (r_cload Tryd.isAgg3 rfl (j := 3) rfl rfl) rfl ?_
        refine s_rd (r_eql rfl rfl) rfl ?_
        refine l_nil (n_then ?_)
        refine ref_cond rfl (fun hb45 => ?_) (fun hb45 => ?_)
        · refine ref_draw [0, 1, 2, 4, 5, 6] rfl (by kernel_rfl) (fun hok => ?_)
          refine a_rd (i := 0) hok rfl (by kernel_rfl) rfl (r_faddr (fo := 1) Tryd.underlying33 rfl rfl Tryd.sizeOf22 rfl) rfl ?_
          refine a_rd (i := 1) hok rfl (by kernel_rfl) rfl (r_cload Tryd.isAgg22 rfl (j := 2) rfl rfl) rfl ?_
          refine a_rd (i := 2) hok rfl (by kernel_rfl) rfl (r_move rfl) rfl ?_
          refine a_rd (i := 4) hok rfl (by kernel_rfl) rfl (r_faddr (fo := 1) Tryd.underlying33 rfl rfl Tryd.sizeOf22 rfl) rfl ?_
          refine a_rd (i := 5) hok rfl (by kernel_rfl) rfl (r_cload Tryd.isAgg22 rfl (j := 5) rfl rfl) rfl ?_
          refine a_rd (i := 6) hok rfl (by kernel_rfl) rfl (r_move rfl) rfl ?_
          refine pull fun forced46 h_forced46 => ?_
          refine a_next hok 3 [] (by kernel_rfl) ?_ trivial
          refine a_st (i := 3) hok rfl rfl (s_call (ψ := fun (_ : Unit) => bv forced46) (args := [.tmp 102, .tmp 103]) Tryd.call14 rfl (keep_In_ok h_forced46) ⟨arg rfl, arg rfl, trivial⟩ (fun _ _ _ _ h => h)) (by intro _ h; cases h; rfl) (fun _ => ⟨trivial, ⟨⟨⟨rfl, rfl⟩, trivial⟩, ⟨trivial, ⟨trivial, ⟨trivial, ⟨trivial, trivial⟩⟩⟩⟩⟩⟩) (fun _ => ?_)
          refine pull fun own47 h_own47 => ?_
          refine a_next hok 7 [] (by kernel_rfl) ?_ trivial
          refine a_st (i := 7) hok rfl rfl (s_call (ψ := fun (_ : Unit) => bv own47) (args := [.tmp 106, .tmp 107]) Tryd.call14 rfl (keep_In_ok h_own47) ⟨arg rfl, arg rfl, trivial⟩ (fun _ _ _ _ h => h)) (by intro _ h; cases h; rfl) (fun _ => ⟨trivial, ⟨trivial, ⟨trivial, ⟨trivial, ⟨⟨⟨rfl, rfl⟩, trivial⟩, ⟨trivial, trivial⟩⟩⟩⟩⟩⟩) (fun _ => ?_)
          refine a_next hok 8 [] (by kernel_rfl) ?_ trivial
          refine a_st (i := 8) hok rfl rfl (St.ofRd (r_assign rfl)) (by intro _ h; cases h; rfl) (fun _ => ⟨trivial, ⟨⟨⟨rfl, rfl⟩, trivial⟩, ⟨trivial, ⟨trivial, ⟨trivial, ⟨trivial, trivial⟩⟩⟩⟩⟩⟩) (fun _ => ?_)
          refine a_next hok 9 [] (by kernel_rfl) ?_ trivial
          refine a_st (i := 9) hok rfl rfl (St.ofRd (r_assign rfl)) (by intro _ h; cases h; rfl) (fun _ => ⟨trivial, ⟨trivial, ⟨trivial, ⟨trivial, ⟨trivial, ⟨trivial, trivial⟩⟩⟩⟩⟩⟩) (fun _ => ?_)
          refine a_fin hok (by kernel_rfl) ?_
          refine b_of (nrm [tbO (rI .u8) 0 tab_0, oc b4 [slv rS t3.1.Sides.i0, slv rS t3.1.Sides.i1, slv rT_api_Case t3.1.Cases], oc b8 [slv (rI .i64) t7.1.For, slv (rI .i64) t7.1.Against], oc b37 [sv t36.Name, slv rS t36.Facts, iv .i64 t36.Winner, slv rS t36.Reason], oa rS x39.1 x39.2 t38.1, oc b41 [slv (rI .i64) t40.1.For, slv (rI .i64) t40.1.Against]] rfl) ?_
          exact b_to (hk50 (forced46, own47) ()) (weak [1, 2, 4, 0] ⟨rfl, rfl, rfl, rfl, rfl, rfl, rfl, rfl, rfl, trivial⟩ ⟨rfl, rfl, rfl, rfl, trivial⟩)
        refine ref_skip ?_
        exact b_to (hk50 (forced43, own44) ()) (weak [1, 2, 4, 0] ⟨rfl, rfl, rfl, rfl, rfl, rfl, rfl, rfl, rfl, trivial⟩ ⟨rfl, rfl, rfl, rfl, trivial⟩)
      refine n_then (ref_seq (ref_region ?_))
      refine mv1 rfl rfl ?_
      refine mv1 rfl rfl ?_
      refine s_rd (r_olen Tryd.underlying25 rfl (j := 2) rfl) rfl ?_
      refine s_rd (r_eql rfl rfl) rfl ?_
      refine s_rd (r_bneq Tryd.underlying4 rfl rfl) rfl ?_
      refine mv1 rfl rfl ?_
      refine b_split (t := 114) rfl (fun _ => ?_) (fun _ => ?_)
      · refine s_off rfl rfl rfl rfl rfl ?_
        refine s_off rfl rfl rfl rfl rfl ?_
        refine s_rd (r_pickT rfl rfl) rfl ?_
        refine l_nil (n_then ?_)
        refine ref_condT rfl rfl ?_
        refine ref_seq (ref_region ?_)
        refine as1 rfl rfl ?_
        refine l_nil (n_then (ref_ret (r_block (r_then ?_))))
        refine retX ?_
        refine r_block (r_then ?_)
        exact fin1 (.inl rfl) () [3] rfl ⟨rfl, trivial⟩ rfl (rv_tmp rfl)
      refine s_on rfl rfl rfl ?_
      refine mv1 rfl rfl ?_
      refine s_on rfl rfl rfl ?_
      refine s_rd (r_not rfl) rfl ?_
      refine s_rd (r_pickF rfl rfl) rfl ?_
      refine l_nil (n_then ?_)
      refine ref_cond rfl (fun hb51 => ?_) (fun hb51 => ?_)
      · refine ref_seq (ref_region ?_)
        refine as1 rfl rfl ?_
        refine l_nil (n_then (ref_ret (r_block (r_then ?_))))
        refine retX ?_
        refine r_block (r_then ?_)
        exact fin1 (.inl rfl) () [3] rfl ⟨rfl, trivial⟩ rfl (rv_tmp rfl)
      refine ref_skip (n_block (n_then (ref_region ?_)))
      refine mv1 rfl rfl ?_
      refine s_rd (r_add rfl rfl) rfl ?_
      refine as1 rfl rfl ?_
      refine b_let (f := iv .i64) (t := 10) rfl fun i52 => ?_
      refine l_nil ?_
      exact goX () (weak [3, 0, 1] ⟨rfl, rfl, rfl, rfl, trivial⟩ ⟨rfl, rfl, rfl, trivial⟩)
    refine ref_exit (x_then ?_)
    exact brkX () (weak [0] trivial ⟨rfl, trivial⟩)
  refine n_then (ref_seq (ref_region ?_))
  refine pull fun t55 h_t55 => ?_
  refine s_st (s_callC [0] [true] (fun (_ : Unit) => [tbO (rI .u8) 0 tab_0]) (fun (_ : Unit) => []) (fun (_ : Unit) => bv t55) (args := []) (caps := []) Tryd.call15 rfl (law38_awake_ok h_t55) ⟨rfl, rfl, trivial⟩ (fun _ => rfl) (fun _ => trivial) (fun _ => rfl) trivial (fun _ _ _ _ h => h)) rfl (fun _ => ?_)
  refine as1 rfl rfl ?_
  refine l_nil (n_then (ref_ret ?_))
  exact fin1 (.inl rfl) () [0] rfl ⟨rfl, trivial⟩ rfl (rv_tmp rfl)

/-! (*deliberation/deliberationkeep.Src).Text -/
noncomputable def keep_Src_Text_m (s_0 : T_deliberationkeep_Src) (l_1 : (List ByteArray)) : Option (ByteArray × T_deliberationkeep_Src) :=
  Option.bind (keep_Src_N_m s_0 (l_1.length : Int)) fun t1 =>
  Option.bind (idxM l_1 t1.1) fun t2 =>
  some (t2, t1.2)

theorem keep_Src_Text_ok {s_0 : T_deliberationkeep_Src} {l_1 : (List ByteArray)} {b_0 : Nat} {r : ByteArray × T_deliberationkeep_Src} (hm : keep_Src_Text_m s_0 l_1 = some r) :
    FnOk prog 16 [pv (ptr b_0 0), slv rS l_1] [oc b_0 [slv (rI .i64) s_0.L, iv .i64 s_0.At]] (fun (x : Unit) => [sv r.1]) (fun (x : Unit) => [oc b_0 [slv (rI .i64) r.2.L, iv .i64 r.2.At]]) := by
  refine fn_ok (fn := Tryd.f16) (N := 12) (res := fun r x => [sv r.1]) (Ω1 := fun r x => [oc b_0 [slv (rI .i64) r.2.L, iv .i64 r.2.At]]) Tryd.func16 rfl rfl hm rfl (fun E hM => ?_)
  unfold keep_Src_Text_m
  refine ref_seq (ref_region ?_)
  refine as1 rfl rfl ?_
  refine l_nil (n_then (ref_seq (ref_region ?_)))
  refine mv1 rfl rfl ?_
  refine mv1 rfl rfl ?_
  refine mv1 rfl rfl ?_
  refine s_rd (r_len Tryd.underlying25 rfl) rfl ?_
  refine pull fun t1 h_t1 => ?_
  refine s_st (s_callC [0] [true] (fun (_ : Unit) => [oc b_0 [slv (rI .i64) t1.2.L, iv .i64 t1.2.At]]) (fun (_ : Unit) => []) (fun (_ : Unit) => iv .i64 t1.1) (args := [.tmp 6, .tmp 8]) (caps := []) Tryd.call24 rfl (keep_Src_N_ok h_t1) ⟨rfl, rfl, trivial⟩ (fun _ => rfl) (fun _ => trivial) (fun _ => rfl) ⟨arg rfl, arg rfl, trivial⟩ (fun _ _ _ _ h => h)) rfl (fun _ => ?_)
  refine pull fun t2 h_t2 => ?_
  refine s_rd (r_index h_t2 Tryd.underlying25 el_9 rfl rfl) rfl ?_
  refine s_rd (r_load el_9 rfl) rfl ?_
  refine as1 rfl rfl ?_
  refine l_nil (n_then (ref_ret ?_))
  exact fin1 (.inl rfl) () [0] rfl ⟨rfl, trivial⟩ rfl (rv_tmp rfl)

/-! deliberation/deliberationlaw38.PrecedentMore -/
noncomputable def law38_PrecedentMore_l1 (f5 : List ByteArray × T_deliberationkeep_Src) (extra7 : ByteArray × T_deliberationkeep_Src) (s30 : Int × (List ByteArray)) : Option (Sum ((List ByteArray)) (Int × (List ByteArray))) :=
  bif decide (s30.1 < ([(ByteArray.mk #[97]), (ByteArray.mk #[98]), (ByteArray.mk #[99]), (ByteArray.mk #[120]), (ByteArray.mk #[121]), (ByteArray.mk #[122])].length : Int)) then
    Option.bind (idxM [(ByteArray.mk #[97]), (ByteArray.mk #[98]), (ByteArray.mk #[99]), (ByteArray.mk #[120]), (ByteArray.mk #[121]), (ByteArray.mk #[122])] s30.1) fun x33 =>
    joinM (fun j35 : Bool =>
        bif j35 then
          Option.bind (appM 16 s30.2 [x33]) fun more39 =>
          some (Sum.inr (iadd .i64 s30.1 1, more39))
        else
          some (Sum.inr (iadd .i64 s30.1 1, s30.2))) fun k37 =>
    bif x33.toList == extra7.1.toList then
      k37 true
    else
      Option.bind (ref38_In_m f5.1 x33) fun t34 =>
      k37 t34
  else
    some (Sum.inl s30.2)

noncomputable def law38_PrecedentMore_m (l_0 : (List Int)) : Option (Bool) :=
  Option.bind (keep_New_m l_0) fun s1 =>
  Option.bind (law38_library_m s1 5) fun t3 =>
  Option.bind (law38_facts_m t3.2) fun f5 =>
  Option.bind (keep_Src_Text_m f5.2 [(ByteArray.mk #[97]), (ByteArray.mk #[98]), (ByteArray.mk #[99]), (ByteArray.mk #[120]), (ByteArray.mk #[121]), (ByteArray.mk #[122])]) fun extra7 =>
  Option.bind (loopC (law38_PrecedentMore_l1 f5 extra7) (0, [])) fun q41 : (List ByteArray) =>
  Option.bind (precedent_Reasons_m t3.1 f5.1) fun t43 =>
  Option.bind (precedent_Reasons_m t3.1 q41) fun t45 =>
  Option.bind (precedent_Strong_m t3.1 f5.1) fun t47 =>
  Option.bind (precedent_Strong_m t3.1 q41) fun t49 =>
  bif t43.2 != 0 then
    some false
  else
    bif t45.2 != 0 then
      some false
    else
      bif t47.2 != 0 then
        some false
      else
        bif t49.2 != 0 then
          some false
        else
          Option.bind (law38_sides_m ) fun t52 =>
          Option.bind (idxM [t52.i0, t52.i1] 0) fun t53 =>
          Option.bind (ref38_In_m t53 extra7.1) fun t54 =>
          bif t54 then
            Option.bind (keep_Inside_m t43.1.For t45.1.For) fun t56 =>
            bif t56 then
              Option.bind (keep_Inside_m t45.1.Against t43.1.Against) fun t57 =>
              bif t57 then
                Option.bind (keep_Inside_m t47.1.For t49.1.For) fun t58 =>
                bif t58 then
                  Option.bind (keep_Inside_m t49.1.Against t47.1.Against) fun t59 =>
                  bif t59 then
                    Option.bind (law38_awake_m ) fun t60 =>
                    some t60
                  else
                    some false
                else
                  some false
              else
                some false
            else
              some false
          else
            Option.bind (keep_Inside_m t43.1.Against t45.1.Against) fun t61 =>
            bif t61 then
              Option.bind (keep_Inside_m t45.1.For t43.1.For) fun t62 =>
              bif t62 then
                Option.bind (keep_Inside_m t47.1.Against t49.1.Against) fun t63 =>
                bif t63 then
                  Option.bind (keep_Inside_m t49.1.For t47.1.For) fun t64 =>
                  bif t64 then
                    Option.bind (law38_awake_m ) fun t65 =>
                    some t65
                  else
                    some false
                else
                  some false
              else
                some false
            else
              some false

theorem law38_PrecedentMore_ok {l_0 : (List Int)} {r : Bool} (hm : law38_PrecedentMore_m l_0 = some r) :
    FnOk prog 4 [slv (rI .i64) l_0] [tbO (rI .u8) 0 tab_0] (fun (x : Unit) => [bv r]) (fun (x : Unit) => [tbO (rI .u8) 0 tab_0]) := by
  refine fn_ok (fn := Tryd.f4) (N := 146) (res := fun r x => [bv r]) (Ω1 := fun r x => [tbO (rI .u8) 0 tab_0]) Tryd.func4 rfl rfl hm rfl (fun E hM => ?_)
  unfold law38_PrecedentMore_m
  refine ref_seq (ref_region ?_)
  refine as1 rfl rfl ?_
  refine l_nil (n_then (ref_seq (ref_region ?_)))
  refine mv1 rfl rfl ?_
  refine pull fun s1 h_s1 => ?_
  refine s_st (s_call (ψ := fun (x2 : Nat) => pv (ptr x2 0)) (args := [.tmp 18]) Tryd.call7 rfl (keep_New_ok h_s1) ⟨arg rfl, trivial⟩ (fun _ _ _ _ h => h)) rfl (fun x2 => ?_)
  refine as1 rfl rfl ?_
  refine l_nil (n_then (ref_seq (ref_region ?_)))
  refine mv1 rfl rfl ?_
  refine pull fun t3 h_t3 => ?_
  refine s_st (s_callC [1] [true] (fun (_ : Unit) => [oc x2 [slv (rI .i64) t3.2.L, iv .i64 t3.2.At]]) (fun (_ : Unit) => []) (fun (_ : Unit) => ag [slv rS t3.1.Sides.i0, slv rS t3.1.Sides.i1, slv rT_api_Case t3.1.Cases]) (args := [.tmp 20, .const (.int .i64 (5))]) (caps := []) Tryd.call8 rfl (law38_library_ok h_t3) ⟨rfl, rfl, trivial⟩ (fun _ => rfl) (fun _ => trivial) (fun _ => rfl) ⟨arg rfl, arg rfl, trivial⟩ (fun _ _ _ _ h => h)) rfl (fun _ => ?_)
  refine s_st (s_alloc zt_29) rfl (fun b4 => ?_)
  refine s_st0 (s_cstore (out := [slv rS t3.1.Sides.i0, slv rS t3.1.Sides.i1, slv rT_api_Case t3.1.Cases]) Tryd.sizeOf29 rfl (j := 2) rfl (part_agO (ψs := [slv rS t3.1.Sides.i0, slv rS t3.1.Sides.i1, slv rT_api_Case t3.1.Cases]) rfl ⟨.inl slv_at, .inl slv_at, .inl slv_at, trivial⟩) rfl rfl rfl) (fun _ => ?_)
  refine l_nil ?_
  refine b_of (nrm [tbO (rI .u8) 0 tab_0, oc x2 [slv (rI .i64) t3.2.L, iv .i64 t3.2.At], oc b4 [slv rS t3.1.Sides.i0, slv rS t3.1.Sides.i1, slv rT_api_Case t3.1.Cases]] rfl) ?_
  refine n_then (ref_seq (ref_region ?_))
  refine mv1 rfl rfl ?_
  refine pull fun f5 h_f5 => ?_
  refine s_st (s_callC [1] [true] (fun (x6 : (Value × List Nat)) => [oc x2 [slv (rI .i64) f5.2.L, iv .i64 f5.2.At]]) (fun (x6 : (Value × List Nat)) => [oa rS x6.1 x6.2 f5.1]) (fun (x6 : (Value × List Nat)) => pv x6.1) (args := [.tmp 22]) (caps := []) Tryd.call9 rfl (law38_facts_ok h_f5) ⟨rfl, rfl, trivial⟩ (fun _ => rfl) (fun _ => trivial) (fun _ => rfl) ⟨arg rfl, trivial⟩ (fun _ _ _ _ h => h)) rfl (fun x6 => ?_)
  refine as1 rfl rfl ?_
  refine l_nil (n_then (ref_seq (ref_region ?_)))
  refine mv1 rfl rfl ?_
  refine s_st (s_bslice (xs := [.const (.string (ByteArray.mk #[97])), .const (.string (ByteArray.mk #[98])), .const (.string (ByteArray.mk #[99])), .const (.string (ByteArray.mk #[120])), .const (.string (ByteArray.mk #[121])), .const (.string (ByteArray.mk #[122]))]) (ds := [(ByteArray.mk #[97]), (ByteArray.mk #[98]), (ByteArray.mk #[99]), (ByteArray.mk #[120]), (ByteArray.mk #[121]), (ByteArray.mk #[122])]) Tryd.underlying25 el_9 rfl (Nat.le_of_ble_eq_true rfl) ⟨(part_at rfl sv_at), ⟨(part_at rfl sv_at), ⟨(part_at rfl sv_at), ⟨(part_at rfl sv_at), ⟨(part_at rfl sv_at), ⟨(part_at rfl sv_at), trivial⟩⟩⟩⟩⟩⟩) rfl (fun _ => ?_)
  refine pull fun extra7 h_extra7 => ?_
  refine s_st (s_callC [1] [true] (fun (_ : Unit) => [oc x2 [slv (rI .i64) extra7.2.L, iv .i64 extra7.2.At]]) (fun (_ : Unit) => []) (fun (_ : Unit) => sv extra7.1) (args := [.tmp 24, .tmp 25]) (caps := []) Tryd.call16 rfl (keep_Src_Text_ok h_extra7) ⟨rfl, rfl, trivial⟩ (fun _ => rfl) (fun _ => trivial) (fun _ => rfl) ⟨arg rfl, arg rfl, trivial⟩ (fun _ _ _ _ h => h)) rfl (fun _ => ?_)
  refine as1 rfl rfl ?_
  refine l_nil (n_then (ref_seq (ref_region ?_)))
  refine as1 rfl rfl ?_
  refine l_nil (n_then (ref_seq (ref_seq (ref_region ?_))))
  refine s_st (s_bslice (xs := [.const (.string (ByteArray.mk #[97])), .const (.string (ByteArray.mk #[98])), .const (.string (ByteArray.mk #[99])), .const (.string (ByteArray.mk #[120])), .const (.string (ByteArray.mk #[121])), .const (.string (ByteArray.mk #[122]))]) (ds := [(ByteArray.mk #[97]), (ByteArray.mk #[98]), (ByteArray.mk #[99]), (ByteArray.mk #[120]), (ByteArray.mk #[121]), (ByteArray.mk #[122])]) Tryd.underlying25 el_9 rfl (Nat.le_of_ble_eq_true rfl) ⟨(part_at rfl sv_at), ⟨(part_at rfl sv_at), ⟨(part_at rfl sv_at), ⟨(part_at rfl sv_at), ⟨(part_at rfl sv_at), ⟨(part_at rfl sv_at), trivial⟩⟩⟩⟩⟩⟩) rfl (fun _ => ?_)
  refine s_rd (r_len Tryd.underlying25 rfl) rfl ?_
  refine mv1 rfl rfl ?_
  refine l_nil ?_
  refine b_of (nrm [tbO (rI .u8) 0 tab_0, oc x2 [slv (rI .i64) extra7.2.L, iv .i64 extra7.2.At], oc b4 [slv rS t3.1.Sides.i0, slv rS t3.1.Sides.i1, slv rT_api_Case t3.1.Cases], oa rS x6.1 x6.2 f5.1] rfl) ?_
  refine n_then ?_
  refine b_of (own_nil rS) ?_
  refine ref_loopB (f := (law38_PrecedentMore_l1 f5 extra7)) (Γl := (fun (s30 : Int × (List ByteArray)) (x31 : (Value × List Nat)) => [(4, pv (ptr b4 0)), (5, pv x6.1), (6, sv extra7.1), (7, pv x31.1), (27, slv rS [(ByteArray.mk #[97]), (ByteArray.mk #[98]), (ByteArray.mk #[99]), (ByteArray.mk #[120]), (ByteArray.mk #[121]), (ByteArray.mk #[122])]), (28, iv .i64 ([(ByteArray.mk #[97]), (ByteArray.mk #[98]), (ByteArray.mk #[99]), (ByteArray.mk #[120]), (ByteArray.mk #[121]), (ByteArray.mk #[122])].length : Int)), (29, iv .i64 s30.1)])) (Ωl := (fun (s30 : Int × (List ByteArray)) (x31 : (Value × List Nat)) => [tbO (rI .u8) 0 tab_0, oc b4 [slv rS t3.1.Sides.i0, slv rS t3.1.Sides.i1, slv rT_api_Case t3.1.Cases], oa rS x6.1 x6.2 f5.1, oa rS x31.1 x31.2 s30.2])) (Γb := (fun (q41 : (List ByteArray)) (y42 : (Value × List Nat)) => [(4, pv (ptr b4 0)), (5, pv x6.1), (6, sv extra7.1), (7, pv y42.1)])) (Ωb := (fun (q41 : (List ByteArray)) (y42 : (Value × List Nat)) => [oc b4 [slv rS t3.1.Sides.i0, slv rS t3.1.Sides.i1, slv rT_api_Case t3.1.Cases], oa rS x6.1 x6.2 f5.1, oa rS y42.1 y42.2 q41, tbO (rI .u8) 0 tab_0])) (0, []) ((.slice none 0 0), []) (weak [0, 2, 3, 4] ⟨rfl, rfl, rfl, rfl, rfl, rfl, rfl, trivial⟩ ⟨rfl, rfl, rfl, rfl, trivial⟩) (fun s30 x31 => ?_) (fun q41 y42 => ?_)
  · unfold law38_PrecedentMore_l1
    refine ref_seq (ref_region ?_)
    refine s_rd (r_lss rfl rfl) rfl ?_
    refine l_nil (n_then (ref_seq ?_))
    refine ref_cond rfl (fun hb32 => ?_) (fun hb32 => ?_)
    · refine ref_skip (n_then (ref_seq (ref_block (ref_seq (ref_region ?_)))))
      refine pull fun x33 h_x33 => ?_
      refine s_rd (r_index h_x33 Tryd.underlying25 el_9 rfl rfl) rfl ?_
      refine s_rd (r_load el_9 rfl) rfl ?_
      refine as1 rfl rfl ?_
      refine l_nil (n_then (ref_seq ?_))
      refine ref_join (fun (j35 : Bool) (x36 : Unit) => [(4, pv (ptr b4 0)), (5, pv x6.1), (6, sv extra7.1), (7, pv x31.1), (9, sv x33), (27, slv rS [(ByteArray.mk #[97]), (ByteArray.mk #[98]), (ByteArray.mk #[99]), (ByteArray.mk #[120]), (ByteArray.mk #[121]), (ByteArray.mk #[122])]), (28, iv .i64 ([(ByteArray.mk #[97]), (ByteArray.mk #[98]), (ByteArray.mk #[99]), (ByteArray.mk #[120]), (ByteArray.mk #[121]), (ByteArray.mk #[122])].length : Int)), (29, iv .i64 s30.1), (40, bv j35)]) (fun (j35 : Bool) (x36 : Unit) => [oc b4 [slv rS t3.1.Sides.i0, slv rS t3.1.Sides.i1, slv rT_api_Case t3.1.Cases], oa rS x6.1 x6.2 f5.1, oa rS x31.1 x31.2 s30.2, tbO (rI .u8) 0 tab_0]) (fun k37 hk37 => ?_) (fun j35 x36 => ?_)
      · refine ref_region ?_
        refine mv1 rfl rfl ?_
        refine mv1 rfl rfl ?_
        refine s_rd (r_seql rfl rfl) rfl ?_
        refine mv1 rfl rfl ?_
        refine b_split (t := 36) rfl (fun _ => ?_) (fun _ => ?_)
        · refine s_off rfl rfl rfl rfl rfl ?_
          refine s_off rfl rfl rfl rfl rfl ?_
          refine s_off rfl rfl rfl rfl rfl ?_
          refine s_rd (r_pickT rfl rfl) rfl ?_
          refine l_nil ?_
          exact b_to (hk37 true ()) (weak [1, 2, 3, 0] ⟨rfl, rfl, rfl, rfl, rfl, rfl, rfl, rfl, rfl, trivial⟩ ⟨rfl, rfl, rfl, rfl, trivial⟩)
        refine s_on rfl rfl rfl ?_
        refine mv1 rfl rfl ?_
        refine s_on rfl rfl rfl ?_
        refine mv1 rfl rfl ?_
        refine s_on rfl rfl rfl ?_
        refine pull fun t34 h_t34 => ?_
        refine s_st (s_callB (ψ := fun (_ : Unit) => bv t34) (args := [.tmp 37, .tmp 38]) Tryd.call17 rfl (ref38_In_ok h_t34) ⟨argO rfl (j := 2) rfl, argB rfl, trivial⟩ (fun _ _ _ _ _ h => h)) rfl (fun _ => ?_)
        refine s_rd (r_pickF rfl rfl) rfl ?_
        refine l_nil ?_
        exact b_to (hk37 t34 ()) (weak [1, 2, 3, 0] ⟨rfl, rfl, rfl, rfl, rfl, rfl, rfl, rfl, rfl, trivial⟩ ⟨rfl, rfl, rfl, rfl, trivial⟩)
      refine n_then ?_
      refine ref_cond rfl (fun hb38 => ?_) (fun hb38 => ?_)
      · refine ref_region ?_
        refine mv1 rfl rfl ?_
        refine mv1 rfl rfl ?_
        refine s_st (s_bslice (xs := [.tmp 42]) (ds := [x33]) Tryd.underlying25 el_9 rfl (Nat.le_of_ble_eq_true rfl) ⟨(part_at rfl sv_at), trivial⟩) rfl (fun _ => ?_)
        refine pull fun more39 h_more39 => ?_
        refine s_st (s_append h_more39 Tryd.underlying25 el_9 rfl (j := 2) rfl rfl) rfl (fun o40 => ?_)
        refine as1 rfl rfl ?_
        refine l_nil (n_block (n_then (ref_region ?_)))
        refine s_rd (r_add rfl rfl) rfl ?_
        refine mv1 rfl rfl ?_
        refine l_nil ?_
        exact goB o40 (weak [3, 0, 1, 2] ⟨rfl, rfl, rfl, rfl, rfl, rfl, rfl, trivial⟩ ⟨rfl, rfl, rfl, rfl, trivial⟩)
      refine ref_skip (n_block (n_then (ref_region ?_)))
      refine s_rd (r_add rfl rfl) rfl ?_
      refine mv1 rfl rfl ?_
      refine l_nil ?_
      exact goB x31 (weak [3, 0, 1, 2] ⟨rfl, rfl, rfl, rfl, rfl, rfl, rfl, trivial⟩ ⟨rfl, rfl, rfl, rfl, trivial⟩)
    refine ref_exit (x_then ?_)
    exact brkB x31 (weak [1, 2, 3, 0] ⟨rfl, rfl, rfl, rfl, trivial⟩ ⟨rfl, rfl, rfl, rfl, trivial⟩)
  refine n_then (ref_seq (ref_region ?_))
  refine s_rd (r_cloadS Tryd.isAgg29 Tryd.sizeOf29 rfl (j := 0) rfl rfl rfl) rfl ?_
  refine mv1 rfl rfl ?_
  refine b_of (frzL [5, 48] (j := 1) rfl ⟨rfl, rfl, trivial⟩) ?_
  refine pull fun t43 h_t43 => ?_
  refine s_st (s_call (ψ := fun (_ : Unit) => tup [ag [slv (rI .i64) t43.1.For, slv (rI .i64) t43.1.Against], iv .i64 t43.2]) (args := [.tmp 47, .tmp 48]) Tryd.call11 rfl (precedent_Reasons_ok h_t43) ⟨arg rfl, arg rfl, trivial⟩ (fun _ _ _ _ h => h)) rfl (fun _ => ?_)
  refine mv1 rfl rfl ?_
  refine s_rd (r_extract rfl rfl) rfl ?_
  refine s_rd (r_extract rfl rfl) rfl ?_
  refine s_st (s_alloc zt_33) rfl (fun b44 => ?_)
  refine s_st0 (s_cstore (out := [slv (rI .i64) t43.1.For, slv (rI .i64) t43.1.Against]) Tryd.sizeOf33 rfl (j := 4) rfl (part_agO (ψs := [slv (rI .i64) t43.1.For, slv (rI .i64) t43.1.Against]) rfl ⟨.inl slv_at, .inl slv_at, trivial⟩) rfl rfl rfl) (fun _ => ?_)
  refine as1 rfl rfl ?_
  refine l_nil (n_then (ref_seq (ref_region ?_)))
  refine s_rd (r_cloadS Tryd.isAgg29 Tryd.sizeOf29 rfl (j := 0) rfl rfl rfl) rfl ?_
  refine mv1 rfl rfl ?_
  refine b_of (frzL [7, 54] (j := 2) rfl ⟨rfl, rfl, trivial⟩) ?_
  refine pull fun t45 h_t45 => ?_
  refine s_st (s_call (ψ := fun (_ : Unit) => tup [ag [slv (rI .i64) t45.1.For, slv (rI .i64) t45.1.Against], iv .i64 t45.2]) (args := [.tmp 53, .tmp 54]) Tryd.call11 rfl (precedent_Reasons_ok h_t45) ⟨arg rfl, arg rfl, trivial⟩ (fun _ _ _ _ h => h)) rfl (fun _ => ?_)
  refine mv1 rfl rfl ?_
  refine s_rd (r_extract rfl rfl) rfl ?_
  refine s_rd (r_extract rfl rfl) rfl ?_
  refine s_st (s_alloc zt_33) rfl (fun b46 => ?_)
  refine s_st0 (s_cstore (out := [slv (rI .i64) t45.1.For, slv (rI .i64) t45.1.Against]) Tryd.sizeOf33 rfl (j := 5) rfl (part_agO (ψs := [slv (rI .i64) t45.1.For, slv (rI .i64) t45.1.Against]) rfl ⟨.inl slv_at, .inl slv_at, trivial⟩) rfl rfl rfl) (fun _ => ?_)
  refine as1 rfl rfl ?_
  refine l_nil ?_
  refine b_of (nrm [oc b4 [slv rS t3.1.Sides.i0, slv rS t3.1.Sides.i1, slv rT_api_Case t3.1.Cases], dead, dead, tbO (rI .u8) 0 tab_0, oc b44 [slv (rI .i64) t43.1.For, slv (rI .i64) t43.1.Against], oc b46 [slv (rI .i64) t45.1.For, slv (rI .i64) t45.1.Against]] rfl) ?_
  refine n_then (ref_seq (ref_region ?_))
  refine s_rd (r_cloadS Tryd.isAgg29 Tryd.sizeOf29 rfl (j := 0) rfl rfl rfl) rfl ?_
  refine mv1 rfl rfl ?_
  refine pull fun t47 h_t47 => ?_
  refine s_st (s_call (ψ := fun (_ : Unit) => tup [ag [slv (rI .i64) t47.1.For, slv (rI .i64) t47.1.Against], iv .i64 t47.2]) (args := [.tmp 59, .tmp 60]) Tryd.call10 rfl (precedent_Strong_ok h_t47) ⟨arg rfl, arg rfl, trivial⟩ (fun _ _ _ _ h => h)) rfl (fun _ => ?_)
  refine mv1 rfl rfl ?_
  refine s_rd (r_extract rfl rfl) rfl ?_
  refine s_rd (r_extract rfl rfl) rfl ?_
  refine s_st (s_alloc zt_33) rfl (fun b48 => ?_)
  refine s_st0 (s_cstore (out := [slv (rI .i64) t47.1.For, slv (rI .i64) t47.1.Against]) Tryd.sizeOf33 rfl (j := 6) rfl (part_agO (ψs := [slv (rI .i64) t47.1.For, slv (rI .i64) t47.1.Against]) rfl ⟨.inl slv_at, .inl slv_at, trivial⟩) rfl rfl rfl) (fun _ => ?_)
  refine as1 rfl rfl ?_
  refine l_nil (n_then (ref_seq (ref_region ?_)))
  refine s_rd (r_cloadS Tryd.isAgg29 Tryd.sizeOf29 rfl (j := 0) rfl rfl rfl) rfl ?_
  refine mv1 rfl rfl ?_
  refine pull fun t49 h_t49 => ?_
  refine s_st (s_call (ψ := fun (_ : Unit) => tup [ag [slv (rI .i64) t49.1.For, slv (rI .i64) t49.1.Against], iv .i64 t49.2]) (args := [.tmp 65, .tmp 66]) Tryd.call10 rfl (precedent_Strong_ok h_t49) ⟨arg rfl, arg rfl, trivial⟩ (fun _ _ _ _ h => h)) rfl (fun _ => ?_)
  refine mv1 rfl rfl ?_
  refine s_rd (r_extract rfl rfl) rfl ?_
  refine s_rd (r_extract rfl rfl) rfl ?_
  refine s_st (s_alloc zt_33) rfl (fun b50 => ?_)
  refine s_st0 (s_cstore (out := [slv (rI .i64) t49.1.For, slv (rI .i64) t49.1.Against]) Tryd.sizeOf33 rfl (j := 7) rfl (part_agO (ψs := [slv (rI .i64) t49.1.For, slv (rI .i64) t49.1.Against]) rfl ⟨.inl slv_at, .inl slv_at, trivial⟩) rfl rfl rfl) (fun _ => ?_)
  refine as1 rfl rfl ?_
  refine l_nil ?_
  refine b_of (nrm [oc b4 [slv rS t3.1.Sides.i0, slv rS t3.1.Sides.i1, slv rT_api_Case t3.1.Cases], dead, dead, tbO (rI .u8) 0 tab_0, oc b44 [slv (rI .i64) t43.1.For, slv (rI .i64) t43.1.Against], oc b46 [slv (rI .i64) t45.1.For, slv (rI .i64) t45.1.Against], oc b48 [slv (rI .i64) t47.1.For, slv (rI .i64) t47.1.Against], oc b50 [slv (rI .i64) t49.1.For, slv (rI .i64) t49.1.Against]] rfl) ?_
  refine n_then (ref_seq (ref_seq (ref_region ?_)))
  refine mv1 rfl rfl ?_
  refine s_rd (r_neq rfl rfl) rfl ?_
  refine mv1 rfl rfl ?_
  refine b_split (t := 72) rfl (fun _ => ?_) (fun _ => ?_)
  · refine s_off rfl rfl rfl rfl rfl ?_
    refine s_off rfl rfl rfl rfl rfl ?_
    refine s_rd (r_pickT rfl rfl) rfl ?_
    refine mv1 rfl rfl ?_
    refine s_off rfl rfl rfl rfl rfl ?_
    refine s_off rfl rfl rfl rfl rfl ?_
    refine s_rd (r_pickT rfl rfl) rfl ?_
    refine mv1 rfl rfl ?_
    refine s_off rfl rfl rfl rfl rfl ?_
    refine s_off rfl rfl rfl rfl rfl ?_
    refine s_rd (r_pickT rfl rfl) rfl ?_
    refine l_nil (n_then ?_)
    refine ref_condT rfl rfl ?_
    refine ref_seq (ref_region ?_)
    refine as1 rfl rfl ?_
    refine l_nil (n_then (ref_ret (r_then ?_)))
    exact fin1 (.inl rfl) () [3] rfl ⟨rfl, trivial⟩ rfl (rv_tmp rfl)
  refine s_on rfl rfl rfl ?_
  refine mv1 rfl rfl ?_
  refine s_on rfl rfl rfl ?_
  refine s_rd (r_neq rfl rfl) rfl ?_
  refine s_rd (r_pickF rfl rfl) rfl ?_
  refine mv1 rfl rfl ?_
  refine b_split (t := 76) rfl (fun _ => ?_) (fun _ => ?_)
  · refine s_off rfl rfl rfl rfl rfl ?_
    refine s_off rfl rfl rfl rfl rfl ?_
    refine s_rd (r_pickT rfl rfl) rfl ?_
    refine mv1 rfl rfl ?_
    refine s_off rfl rfl rfl rfl rfl ?_
    refine s_off rfl rfl rfl rfl rfl ?_
    refine s_rd (r_pickT rfl rfl) rfl ?_
    refine l_nil (n_then ?_)
    refine ref_condT rfl rfl ?_
    refine ref_seq (ref_region ?_)
    refine as1 rfl rfl ?_
    refine l_nil (n_then (ref_ret (r_then ?_)))
    exact fin1 (.inl rfl) () [3] rfl ⟨rfl, trivial⟩ rfl (rv_tmp rfl)
  refine s_on rfl rfl rfl ?_
  refine mv1 rfl rfl ?_
  refine s_on rfl rfl rfl ?_
  refine s_rd (r_neq rfl rfl) rfl ?_
  refine s_rd (r_pickF rfl rfl) rfl ?_
  refine mv1 rfl rfl ?_
  refine b_split (t := 80) rfl (fun _ => ?_) (fun _ => ?_)
  · refine s_off rfl rfl rfl rfl rfl ?_
    refine s_off rfl rfl rfl rfl rfl ?_
    refine s_rd (r_pickT rfl rfl) rfl ?_
    refine l_nil (n_then ?_)
    refine ref_condT rfl rfl ?_
    refine ref_seq (ref_region ?_)
    refine as1 rfl rfl ?_
    refine l_nil (n_then (ref_ret (r_then ?_)))
    exact fin1 (.inl rfl) () [3] rfl ⟨rfl, trivial⟩ rfl (rv_tmp rfl)
  refine s_on rfl rfl rfl ?_
  refine mv1 rfl rfl ?_
  refine s_on rfl rfl rfl ?_
  refine s_rd (r_neq rfl rfl) rfl ?_
  refine s_rd (r_pickF rfl rfl) rfl ?_
  refine l_nil (n_then ?_)
  refine ref_cond rfl (fun hb51 => ?_) (fun hb51 => ?_)
  · refine ref_seq (ref_region ?_)
    refine as1 rfl rfl ?_
    refine l_nil (n_then (ref_ret (r_then ?_)))
    exact fin1 (.inl rfl) () [3] rfl ⟨rfl, trivial⟩ rfl (rv_tmp rfl)
  refine ref_skip (n_then (ref_seq (ref_seq (ref_region ?_))))
  refine pull fun t52 h_t52 => ?_
  refine s_st (s_call (ψ := fun (_ : Unit) => ag [slv rS t52.i0, slv rS t52.i1]) (args := []) Tryd.call18 rfl (law38_sides_ok h_t52) trivial (fun _ _ _ _ h => h)) rfl (fun _ => ?_)
  refine pull fun t53 h_t53 => ?_
  refine s_rd (r_aindex1 (ρ := (rSl rS)) h_t53 Tryd.underlying26 el_25 rfl rfl rfl rfl rfl) rfl ?_
  refine mv1 rfl rfl ?_
  refine pull fun t54 h_t54 => ?_
  refine s_st (s_call (ψ := fun (_ : Unit) => bv t54) (args := [.tmp 85, .tmp 86]) Tryd.call17 rfl (ref38_In_ok h_t54) ⟨arg rfl, arg rfl, trivial⟩ (fun _ _ _ _ h => h)) rfl (fun _ => ?_)
  refine l_nil (n_then ?_)
  refine ref_cond rfl (fun hb55 => ?_) (fun hb55 => ?_)
  · refine ref_seq (ref_region ?_)
    refine s_rd (r_faddr (fo := 0) Tryd.underlying33 rfl rfl Tryd.sizeOf22 rfl) rfl ?_
    refine s_rd (r_cload Tryd.isAgg22 rfl (j := 4) rfl rfl) rfl ?_
    refine s_rd (r_faddr (fo := 0) Tryd.underlying33 rfl rfl Tryd.sizeOf22 rfl) rfl ?_
    refine s_rd (r_cload Tryd.isAgg22 rfl (j := 5) rfl rfl) rfl ?_
    refine pull fun t56 h_t56 => ?_
    refine s_st (s_call (ψ := fun (_ : Unit) => bv t56) (args := [.tmp 89, .tmp 91]) Tryd.call12 rfl (keep_Inside_ok h_t56) ⟨arg rfl, arg rfl, trivial⟩ (fun _ _ _ _ h => h)) rfl (fun _ => ?_)
    refine mv1 rfl rfl ?_
    refine b_split (t := 93) rfl (fun _ => ?_) (fun _ => ?_)
    · refine s_on rfl rfl rfl ?_
      refine s_rd (r_faddr (fo := 1) Tryd.underlying33 rfl rfl Tryd.sizeOf22 rfl) rfl ?_
      refine s_on rfl rfl rfl ?_
      refine s_rd (r_cload Tryd.isAgg22 rfl (j := 5) rfl rfl) rfl ?_
      refine s_on rfl rfl rfl ?_
      refine s_rd (r_faddr (fo := 1) Tryd.underlying33 rfl rfl Tryd.sizeOf22 rfl) rfl ?_
      refine s_on rfl rfl rfl ?_
      refine s_rd (r_cload Tryd.isAgg22 rfl (j := 4) rfl rfl) rfl ?_
      refine s_on rfl rfl rfl ?_
      refine pull fun t57 h_t57 => ?_
      refine s_st (s_call (ψ := fun (_ : Unit) => bv t57) (args := [.tmp 95, .tmp 97]) Tryd.call12 rfl (keep_Inside_ok h_t57) ⟨arg rfl, arg rfl, trivial⟩ (fun _ _ _ _ h => h)) rfl (fun _ => ?_)
      refine s_rd (r_pickT rfl rfl) rfl ?_
      refine mv1 rfl rfl ?_
      refine b_split (t := 100) rfl (fun _ => ?_) (fun _ => ?_)
      · refine s_on rfl rfl rfl ?_
        refine s_rd (r_faddr (fo := 0) Tryd.underlying33 rfl rfl Tryd.sizeOf22 rfl) rfl ?_
        refine s_on rfl rfl rfl ?_
        refine s_rd (r_cload Tryd.isAgg22 rfl (j := 6) rfl rfl) rfl ?_
        refine s_on rfl rfl rfl ?_
        refine s_rd (r_faddr (fo := 0) Tryd.underlying33 rfl rfl Tryd.sizeOf22 rfl) rfl ?_
        refine s_on rfl rfl rfl ?_
        refine s_rd (r_cload Tryd.isAgg22 rfl (j := 7) rfl rfl) rfl ?_
        refine s_on rfl rfl rfl ?_
        refine pull fun t58 h_t58 => ?_
        refine s_st (s_call (ψ := fun (_ : Unit) => bv t58) (args := [.tmp 102, .tmp 104]) Tryd.call12 rfl (keep_Inside_ok h_t58) ⟨arg rfl, arg rfl, trivial⟩ (fun _ _ _ _ h => h)) rfl (fun _ => ?_)
        refine s_rd (r_pickT rfl rfl) rfl ?_
        refine mv1 rfl rfl ?_
        refine b_split (t := 107) rfl (fun _ => ?_) (fun _ => ?_)
        · refine s_on rfl rfl rfl ?_
          refine s_rd (r_faddr (fo := 1) Tryd.underlying33 rfl rfl Tryd.sizeOf22 rfl) rfl ?_
          refine s_on rfl rfl rfl ?_
          refine s_rd (r_cload Tryd.isAgg22 rfl (j := 7) rfl rfl) rfl ?_
          refine s_on rfl rfl rfl ?_
          refine s_rd (r_faddr (fo := 1) Tryd.underlying33 rfl rfl Tryd.sizeOf22 rfl) rfl ?_
          refine s_on rfl rfl rfl ?_
          refine s_rd (r_cload Tryd.isAgg22 rfl (j := 6) rfl rfl) rfl ?_
          refine s_on rfl rfl rfl ?_
          refine pull fun t59 h_t59 => ?_
          refine s_st (s_call (ψ := fun (_ : Unit) => bv t59) (args := [.tmp 109, .tmp 111]) Tryd.call12 rfl (keep_Inside_ok h_t59) ⟨arg rfl, arg rfl, trivial⟩ (fun _ _ _ _ h => h)) rfl (fun _ => ?_)
          refine s_rd (r_pickT rfl rfl) rfl ?_
          refine mv1 rfl rfl ?_
          refine b_split (t := 114) rfl (fun _ => ?_) (fun _ => ?_)
          · refine s_on rfl rfl rfl ?_
            refine pull fun t60 h_t60 => ?_
            refine s_st (s_callC [3] [true] (fun (_ : Unit) => [tbO (rI .u8) 0 tab_0]) (fun (_ : Unit) => []) (fun (_ : Unit) => bv t60) (args := []) (caps := []) Tryd.call15 rfl (law38_awake_ok h_t60) ⟨rfl, rfl, trivial⟩ (fun _ => rfl) (fun _ => trivial) (fun _ => rfl) trivial (fun _ _ _ _ h => h)) rfl (fun _ => ?_)
            refine s_rd (r_pickT rfl rfl) rfl ?_
            refine as1 rfl rfl ?_
            refine l_nil ?_
            refine b_of (nrm [oc b4 [slv rS t3.1.Sides.i0, slv rS t3.1.Sides.i1, slv rT_api_Case t3.1.Cases], dead, dead, tbO (rI .u8) 0 tab_0, oc b44 [slv (rI .i64) t43.1.For, slv (rI .i64) t43.1.Against], oc b46 [slv (rI .i64) t45.1.For, slv (rI .i64) t45.1.Against], oc b48 [slv (rI .i64) t47.1.For, slv (rI .i64) t47.1.Against], oc b50 [slv (rI .i64) t49.1.For, slv (rI .i64) t49.1.Against]] rfl) ?_
            refine n_then (ref_ret (r_then ?_))
            exact fin1 (.inl rfl) () [3] rfl ⟨rfl, trivial⟩ rfl (rv_tmp rfl)
          refine s_off rfl rfl rfl rfl rfl ?_
          refine s_rd (r_pickF rfl rfl) rfl ?_
          refine as1 rfl rfl ?_
          refine l_nil ?_
          refine b_of (nrm [oc b4 [slv rS t3.1.Sides.i0, slv rS t3.1.Sides.i1, slv rT_api_Case t3.1.Cases], dead, dead, tbO (rI .u8) 0 tab_0, oc b44 [slv (rI .i64) t43.1.For, slv (rI .i64) t43.1.Against], oc b46 [slv (rI .i64) t45.1.For, slv (rI .i64) t45.1.Against], oc b48 [slv (rI .i64) t47.1.For, slv (rI .i64) t47.1.Against], oc b50 [slv (rI .i64) t49.1.For, slv (rI .i64) t49.1.Against]] rfl) ?_
          refine n_then (ref_ret (r_then ?_))
          exact fin1 (.inl rfl) () [3] rfl ⟨rfl, trivial⟩ rfl (rv_tmp rfl)
        refine s_off rfl rfl rfl rfl rfl ?_
        refine s_off rfl rfl rfl rfl rfl ?_
        refine s_off rfl rfl rfl rfl rfl ?_
        refine s_off rfl rfl rfl rfl rfl ?_
        refine s_off rfl rfl rfl rfl rfl ?_
        refine s_rd (r_pickF rfl rfl) rfl ?_
        refine mv1 rfl rfl ?_
        refine s_off rfl rfl rfl rfl rfl ?_
        refine s_rd (r_pickF rfl rfl) rfl ?_
        refine as1 rfl rfl ?_
        refine l_nil ?_
        refine b_of (nrm [oc b4 [slv rS t3.1.Sides.i0, slv rS t3.1.Sides.i1, slv rT_api_Case t3.1.Cases], dead, dead, tbO (rI .u8) 0 tab_0, oc b44 [slv (rI .i64) t43.1.For, slv (rI .i64) t43.1.Against], oc b46 [slv (rI .i64) t45.1.For, slv (rI .i64) t45.1.Against], oc b48 [slv (rI .i64) t47.1.For, slv (rI .i64) t47.1.Against], oc b50 [slv (rI .i64) t49.1.For, slv (rI .i64) t49.1.Against]] rfl) ?_
        refine n_then (ref_ret (r_then ?_))
        exact fin1 (.inl rfl) () [3] rfl ⟨rfl, trivial⟩ rfl (rv_tmp rfl)
      refine s_off rfl rfl rfl rfl rfl ?_
      refine s_off rfl rfl rfl rfl rfl ?_
      refine s_off rfl rfl rfl rfl rfl ?_
      refine s_off rfl rfl rfl rfl rfl ?_
      refine s_off rfl rfl rfl rfl rfl ?_
      refine s_rd (r_pickF rfl rfl) rfl ?_
      refine mv1 rfl rfl ?_
      refine s_off rfl rfl rfl rfl rfl ?_
      refine s_off rfl rfl rfl rfl rfl ?_
      refine s_off rfl rfl rfl rfl rfl ?_
      refine s_off rfl rfl rfl rfl rfl ?_
      refine s_off rfl rfl rfl rfl rfl ?_
      refine s_rd (r_pickF rfl rfl) rfl ?_
      refine mv1 rfl rfl ?_
      refine s_off rfl rfl rfl rfl rfl ?_
      refine s_rd (r_pickF rfl rfl) rfl ?_
      refine as1 rfl rfl ?_
      refine l_nil ?_
      refine b_of (nrm [oc b4 [slv rS t3.1.Sides.i0, slv rS t3.1.Sides.i1, slv rT_api_Case t3.1.Cases], dead, dead, tbO (rI .u8) 0 tab_0, oc b44 [slv (rI .i64) t43.1.For, slv (rI .i64) t43.1.Against], oc b46 [slv (rI .i64) t45.1.For, slv (rI .i64) t45.1.Against], oc b48 [slv (rI .i64) t47.1.For, slv (rI .i64) t47.1.Against], oc b50 [slv (rI .i64) t49.1.For, slv (rI .i64) t49.1.Against]] rfl) ?_
      refine n_then (ref_ret (r_then ?_))
      exact fin1 (.inl rfl) () [3] rfl ⟨rfl, trivial⟩ rfl (rv_tmp rfl)
    refine s_off rfl rfl rfl rfl rfl ?_
    refine s_off rfl rfl rfl rfl rfl ?_
    refine s_off rfl rfl rfl rfl rfl ?_
    refine s_off rfl rfl rfl rfl rfl ?_
    refine s_off rfl rfl rfl rfl rfl ?_
    refine s_rd (r_pickF rfl rfl) rfl ?_
    refine mv1 rfl rfl ?_
    refine s_off rfl rfl rfl rfl rfl ?_
    refine s_off rfl rfl rfl rfl rfl ?_
    refine s_off rfl rfl rfl rfl rfl ?_
    refine s_off rfl rfl rfl rfl rfl ?_
    refine s_off rfl rfl rfl rfl rfl ?_
    refine s_rd (r_pickF rfl rfl) rfl ?_
    refine mv1 rfl rfl ?_
    refine s_off rfl rfl rfl rfl rfl ?_
    refine s_off rfl rfl rfl rfl rfl ?_
    refine s_off rfl rfl rfl rfl rfl ?_
    refine s_off rfl rfl rfl rfl rfl ?_
    refine s_off rfl rfl rfl rfl rfl ?_
    refine s_rd (r_pickF rfl rfl) rfl ?_
    refine mv1 rfl rfl ?_
    refine s_off rfl rfl rfl rfl rfl ?_
    refine s_rd (r_pickF rfl rfl) rfl ?_
    refine as1 rfl rfl ?_
    refine l_nil (n_then (ref_ret (r_then ?_)))
    exact fin1 (.inl rfl) () [3] rfl ⟨rfl, trivial⟩ rfl (rv_tmp rfl)
  refine ref_skip (n_then (ref_seq (ref_region ?_)))
  refine s_rd (r_faddr (fo := 1) Tryd.underlying33 rfl rfl Tryd.sizeOf22 rfl) rfl ?_
  refine s_rd (r_cload Tryd.isAgg22 rfl (j := 4) rfl rfl) rfl ?_
  refine s_rd (r_faddr (fo := 1) Tryd.underlying33 rfl rfl Tryd.sizeOf22 rfl) rfl ?_
  refine s_rd (r_cload Tryd.isAgg22 rfl (j := 5) rfl rfl) rfl ?_
  refine pull fun t61 h_t61 => ?_
  refine s_st (s_call (ψ := fun (_ : Unit) => bv t61) (args := [.tmp 118, .tmp 120]) Tryd.call12 rfl (keep_Inside_ok h_t61) ⟨arg rfl, arg rfl, trivial⟩ (fun _ _ _ _ h => h)) rfl (fun _ => ?_)
  refine mv1 rfl rfl ?_
  refine b_split (t := 122) rfl (fun _ => ?_) (fun _ => ?_)
  · refine s_on rfl rfl rfl ?_
    refine s_rd (r_faddr (fo := 0) Tryd.underlying33 rfl rfl Tryd.sizeOf22 rfl) rfl ?_
    refine s_on rfl rfl rfl ?_
    refine s_rd (r_cload Tryd.isAgg22 rfl (j := 5) rfl rfl) rfl ?_
    refine s_on rfl rfl rfl ?_
    refine s_rd (r_faddr (fo := 0) Tryd.underlying33 rfl rfl Tryd.sizeOf22 rfl) rfl ?_
    refine s_on rfl rfl rfl ?_
    refine s_rd (r_cload Tryd.isAgg22 rfl (j := 4) rfl rfl) rfl ?_
    refine s_on rfl rfl rfl ?_
    refine pull fun t62 h_t62 => ?_
    refine s_st (s_call (ψ := fun (_ : Unit) => bv t62) (args := [.tmp 124, .tmp 126]) Tryd.call12 rfl (keep_Inside_ok h_t62) ⟨arg rfl, arg rfl, trivial⟩ (fun _ _ _ _ h => h)) rfl (fun _ => ?_)
    refine s_rd (r_pickT rfl rfl) rfl ?_
    refine mv1 rfl rfl ?_
    refine b_split (t := 129) rfl (fun _ => ?_) (fun _ => ?_)
    · refine s_on rfl rfl rfl ?_
      refine s_rd (r_faddr (fo := 1) Tryd.underlying33 rfl rfl Tryd.sizeOf22 rfl) rfl ?_
      refine s_on rfl rfl rfl ?_
      refine s_rd (r_cload Tryd.isAgg22 rfl (j := 6) rfl rfl) rfl ?_
      refine s_on rfl rfl rfl ?_
      refine s_rd (r_faddr (fo := 1) Tryd.underlying33 rfl rfl Tryd.sizeOf22 rfl) rfl ?_
      refine s_on rfl rfl rfl ?_
      refine s_rd (r_cload Tryd.isAgg22 rfl (j := 7) rfl rfl) rfl ?_
      refine s_on rfl rfl rfl ?_
      refine pull fun t63 h_t63 => ?_
      refine s_st (s_call (ψ := fun (_ : Unit) => bv t63) (args := [.tmp 131, .tmp 133]) Tryd.call12 rfl (keep_Inside_ok h_t63) ⟨arg rfl, arg rfl, trivial⟩ (fun _ _ _ _ h => h)) rfl (fun _ => ?_)
      refine s_rd (r_pickT rfl rfl) rfl ?_
      refine mv1 rfl rfl ?_
      refine b_split (t := 136) rfl (fun _ => ?_) (fun _ => ?_)
      · refine s_on rfl rfl rfl ?_
        refine s_rd (r_faddr (fo := 0) Tryd.underlying33 rfl rfl Tryd.sizeOf22 rfl) rfl ?_
        refine s_on rfl rfl rfl ?_
        refine s_rd (r_cload Tryd.isAgg22 rfl (j := 7) rfl rfl) rfl ?_
        refine s_on rfl rfl rfl ?_
        refine s_rd (r_faddr (fo := 0) Tryd.underlying33 rfl rfl Tryd.sizeOf22 rfl) rfl ?_
        refine s_on rfl rfl rfl ?_
        refine s_rd (r_cload Tryd.isAgg22 rfl (j := 6) rfl rfl) rfl ?_
        refine s_on rfl rfl rfl ?_
        refine pull fun t64 h_t64 => ?_
        refine s_st (s_call (ψ := fun (_ : Unit) => bv t64) (args := [.tmp 138, .tmp 140]) Tryd.call12 rfl (keep_Inside_ok h_t64) ⟨arg rfl, arg rfl, trivial⟩ (fun _ _ _ _ h => h)) rfl (fun _ => ?_)
        refine s_rd (r_pickT rfl rfl) rfl ?_
        refine mv1 rfl rfl ?_
        refine b_split (t := 143) rfl (fun _ => ?_) (fun _ => ?_)
        · refine s_on rfl rfl rfl ?_
          refine pull fun t65 h_t65 => ?_
          refine s_st (s_callC [3] [true] (fun (_ : Unit) => [tbO (rI .u8) 0 tab_0]) (fun (_ : Unit) => []) (fun (_ : Unit) => bv t65) (args := []) (caps := []) Tryd.call15 rfl (law38_awake_ok h_t65) ⟨rfl, rfl, trivial⟩ (fun _ => rfl) (fun _ => trivial) (fun _ => rfl) trivial (fun _ _ _ _ h => h)) rfl (fun _ => ?_)
          refine s_rd (r_pickT rfl rfl) rfl ?_
          refine as1 rfl rfl ?_
          refine l_nil ?_
          refine b_of (nrm [oc b4 [slv rS t3.1.Sides.i0, slv rS t3.1.Sides.i1, slv rT_api_Case t3.1.Cases], dead, dead, tbO (rI .u8) 0 tab_0, oc b44 [slv (rI .i64) t43.1.For, slv (rI .i64) t43.1.Against], oc b46 [slv (rI .i64) t45.1.For, slv (rI .i64) t45.1.Against], oc b48 [slv (rI .i64) t47.1.For, slv (rI .i64) t47.1.Against], oc b50 [slv (rI .i64) t49.1.For, slv (rI .i64) t49.1.Against]] rfl) ?_
          refine n_then (ref_ret ?_)
          exact fin1 (.inl rfl) () [3] rfl ⟨rfl, trivial⟩ rfl (rv_tmp rfl)
        refine s_off rfl rfl rfl rfl rfl ?_
        refine s_rd (r_pickF rfl rfl) rfl ?_
        refine as1 rfl rfl ?_
        refine l_nil ?_
        refine b_of (nrm [oc b4 [slv rS t3.1.Sides.i0, slv rS t3.1.Sides.i1, slv rT_api_Case t3.1.Cases], dead, dead, tbO (rI .u8) 0 tab_0, oc b44 [slv (rI .i64) t43.1.For, slv (rI .i64) t43.1.Against], oc b46 [slv (rI .i64) t45.1.For, slv (rI .i64) t45.1.Against], oc b48 [slv (rI .i64) t47.1.For, slv (rI .i64) t47.1.Against], oc b50 [slv (rI .i64) t49.1.For, slv (rI .i64) t49.1.Against]] rfl) ?_
        refine n_then (ref_ret ?_)
        exact fin1 (.inl rfl) () [3] rfl ⟨rfl, trivial⟩ rfl (rv_tmp rfl)
      refine s_off rfl rfl rfl rfl rfl ?_
      refine s_off rfl rfl rfl rfl rfl ?_
      refine s_off rfl rfl rfl rfl rfl ?_
      refine s_off rfl rfl rfl rfl rfl ?_
      refine s_off rfl rfl rfl rfl rfl ?_
      refine s_rd (r_pickF rfl rfl) rfl ?_
      refine mv1 rfl rfl ?_
      refine s_off rfl rfl rfl rfl rfl ?_
      refine s_rd (r_pickF rfl rfl) rfl ?_
      refine as1 rfl rfl ?_
      refine l_nil ?_
      refine b_of (nrm [oc b4 [slv rS t3.1.Sides.i0, slv rS t3.1.Sides.i1, slv rT_api_Case t3.1.Cases], dead, dead, tbO (rI .u8) 0 tab_0, oc b44 [slv (rI .i64) t43.1.For, slv (rI .i64) t43.1.Against], oc b46 [slv (rI .i64) t45.1.For, slv (rI .i64) t45.1.Against], oc b48 [slv (rI .i64) t47.1.For, slv (rI .i64) t47.1.Against], oc b50 [slv (rI .i64) t49.1.For, slv (rI .i64) t49.1.Against]] rfl) ?_
      refine n_then (ref_ret ?_)
      exact fin1 (.inl rfl) () [3] rfl ⟨rfl, trivial⟩ rfl (rv_tmp rfl)
    refine s_off rfl rfl rfl rfl rfl ?_
    refine s_off rfl rfl rfl rfl rfl ?_
    refine s_off rfl rfl rfl rfl rfl ?_
    refine s_off rfl rfl rfl rfl rfl ?_
    refine s_off rfl rfl rfl rfl rfl ?_
    refine s_rd (r_pickF rfl rfl) rfl ?_
    refine mv1 rfl rfl ?_
    refine s_off rfl rfl rfl rfl rfl ?_
    refine s_off rfl rfl rfl rfl rfl ?_
    refine s_off rfl rfl rfl rfl rfl ?_
    refine s_off rfl rfl rfl rfl rfl ?_
    refine s_off rfl rfl rfl rfl rfl ?_
    refine s_rd (r_pickF rfl rfl) rfl ?_
    refine mv1 rfl rfl ?_
    refine s_off rfl rfl rfl rfl rfl ?_
    refine s_rd (r_pickF rfl rfl) rfl ?_
    refine as1 rfl rfl ?_
    refine l_nil ?_
    refine b_of (nrm [oc b4 [slv rS t3.1.Sides.i0, slv rS t3.1.Sides.i1, slv rT_api_Case t3.1.Cases], dead, dead, tbO (rI .u8) 0 tab_0, oc b44 [slv (rI .i64) t43.1.For, slv (rI .i64) t43.1.Against], oc b46 [slv (rI .i64) t45.1.For, slv (rI .i64) t45.1.Against], oc b48 [slv (rI .i64) t47.1.For, slv (rI .i64) t47.1.Against], oc b50 [slv (rI .i64) t49.1.For, slv (rI .i64) t49.1.Against]] rfl) ?_
    refine n_then (ref_ret ?_)
    exact fin1 (.inl rfl) () [3] rfl ⟨rfl, trivial⟩ rfl (rv_tmp rfl)
  refine s_off rfl rfl rfl rfl rfl ?_
  refine s_off rfl rfl rfl rfl rfl ?_
  refine s_off rfl rfl rfl rfl rfl ?_
  refine s_off rfl rfl rfl rfl rfl ?_
  refine s_off rfl rfl rfl rfl rfl ?_
  refine s_rd (r_pickF rfl rfl) rfl ?_
  refine mv1 rfl rfl ?_
  refine s_off rfl rfl rfl rfl rfl ?_
  refine s_off rfl rfl rfl rfl rfl ?_
  refine s_off rfl rfl rfl rfl rfl ?_
  refine s_off rfl rfl rfl rfl rfl ?_
  refine s_off rfl rfl rfl rfl rfl ?_
  refine s_rd (r_pickF rfl rfl) rfl ?_
  refine mv1 rfl rfl ?_
  refine s_off rfl rfl rfl rfl rfl ?_
  refine s_off rfl rfl rfl rfl rfl ?_
  refine s_off rfl rfl rfl rfl rfl ?_
  refine s_off rfl rfl rfl rfl rfl ?_
  refine s_off rfl rfl rfl rfl rfl ?_
  refine s_rd (r_pickF rfl rfl) rfl ?_
  refine mv1 rfl rfl ?_
  refine s_off rfl rfl rfl rfl rfl ?_
  refine s_rd (r_pickF rfl rfl) rfl ?_
  refine as1 rfl rfl ?_
  refine l_nil (n_then (ref_ret ?_))
  exact fin1 (.inl rfl) () [3] rfl ⟨rfl, trivial⟩ rfl (rv_tmp rfl)

/-! deliberation/deliberationnet.Set -/
noncomputable def net_Set_l1 (g_0 : T_api_Graph) (s_1 : (List Int)) (s10 : Int) : Option (Sum ((Sum (Bool) (Unit))) (Int)) :=
  bif decide (s10 < (s_1.length : Int)) then
    Option.bind (idxM s_1 s10) fun t13 =>
    bif decide (t13 < 0) then
      some (Sum.inl (Sum.inl false))
    else
      Option.bind (idxM s_1 s10) fun t14 =>
      bif decide (t14 ≥ g_0.N) then
        some (Sum.inl (Sum.inl false))
      else
        bif decide (s10 > 0) then
          Option.bind (idxM s_1 s10) fun t15 =>
          Option.bind (idxM s_1 (isub .i64 s10 1)) fun t16 =>
          bif decide (t15 ≤ t16) then
            some (Sum.inl (Sum.inl false))
          else
            letM (iadd .i64 s10 1) fun i18 =>
            some (Sum.inr i18)
        else
          letM (iadd .i64 s10 1) fun i19 =>
          some (Sum.inr i19)
  else
    some (Sum.inl (Sum.inr ()))

noncomputable def net_Set_m (g_0 : T_api_Graph) (s_1 : (List Int)) : Option (Bool) :=
  Option.bind (loopC (net_Set_l1 g_0 s_1) 0) (sumK (fun a : Bool => some a) fun q20 : Unit =>
    some true)

theorem net_Set_ok {g_0 : T_api_Graph} {s_1 : (List Int)} {r : Bool} (hm : net_Set_m g_0 s_1 = some r) :
    FnOk prog 21 [ag [iv .i64 g_0.N, slv rT_api_Pair g_0.L], slv (rI .i64) s_1] [] (fun (x : Unit) => [bv r]) (fun (x : Unit) => []) := by
  refine fn_ok (fn := Tryd.f21) (N := 42) (res := fun r x => [bv r]) (Ω1 := fun r x => []) Tryd.func21 rfl rfl hm rfl (fun E hM => ?_)
  unfold net_Set_m
  refine ref_seq (ref_region ?_)
  refine s_st (s_box (part_agO (ψs := [iv .i64 g_0.N, slv rT_api_Pair g_0.L]) rfl ⟨.inl iv_at, .inl slv_at, trivial⟩)) rfl (fun b1 => ?_)
  refine as1 rfl rfl ?_
  refine l_nil (n_then (ref_seq (ref_seq (ref_region ?_))))
  refine as1 rfl rfl ?_
  refine l_nil (n_then ?_)
  refine ref_loopX (f := (net_Set_l1 g_0 s_1)) (Γl := (fun (s10 : Int) (x11 : Unit) => [(1, slv (rI .i64) s_1), (2, pv (ptr b1 0)), (5, iv .i64 s10)])) (Ωl := (fun (s10 : Int) (x11 : Unit) => [oc b1 [iv .i64 g_0.N, slv rT_api_Pair g_0.L]])) (Γb := (fun (q20 : Unit) (y21 : Unit) => [])) (Ωb := (fun (q20 : Unit) (y21 : Unit) => [])) (kr := (fun a : Bool => some a)) 0 () (weak [0] ⟨rfl, rfl, rfl, trivial⟩ ⟨rfl, trivial⟩) (fun s10 x11 => ?_) (fun q20 y21 => ?_)
  · unfold net_Set_l1
    refine ref_seq (ref_seq (ref_region ?_))
    refine mv1 rfl rfl ?_
    refine mv1 rfl rfl ?_
    refine s_rd (r_len Tryd.underlying22 rfl) rfl ?_
    refine s_rd (r_lss rfl rfl) rfl ?_
    refine l_nil (n_then ?_)
    refine ref_cond rfl (fun hb12 => ?_) (fun hb12 => ?_)
    · refine ref_skip (n_then (ref_seq (ref_block (ref_seq ?_))))
      refine ref_draw [0, 1, 2, 3, 4, 5, 6, 7, 8, 9, 10, 11, 12, 13, 14, 15, 16, 17, 18, 19, 20, 21, 22, 23, 24, 25, 26, 27, 28, 29] rfl (by kernel_rfl) (fun hok => ?_)
      refine a_rd (i := 0) hok rfl (by kernel_rfl) rfl (r_move rfl) rfl ?_
      refine a_rd (i := 1) hok rfl (by kernel_rfl) rfl (r_move rfl) rfl ?_
      refine pull fun t13 h_t13 => ?_
      refine a_rd (i := 2) hok rfl (by kernel_rfl) rfl (r_index h_t13 Tryd.underlying22 el_3 rfl rfl) rfl ?_
      refine a_rd (i := 3) hok rfl (by kernel_rfl) rfl (r_load el_3 rfl) rfl ?_
      refine a_rd (i := 4) hok rfl (by kernel_rfl) rfl (r_lss rfl rfl) rfl ?_
      refine a_rd (i := 5) hok rfl (by kernel_rfl) rfl (r_move rfl) rfl ?_
      refine b_split (t := 17) rfl (fun _ => ?_) (fun _ => ?_)
      · refine a_off (i := 6) hok rfl rfl rfl rfl rfl (by kernel_rfl) rfl rfl ?_
        refine a_off (i := 7) hok rfl rfl rfl rfl rfl (by kernel_rfl) rfl rfl ?_
        refine a_off (i := 8) hok rfl rfl rfl rfl rfl (by kernel_rfl) rfl rfl ?_
        refine a_off (i := 9) hok rfl rfl rfl rfl rfl (by kernel_rfl) rfl rfl ?_
        refine a_off (i := 10) hok rfl rfl rfl rfl rfl (by kernel_rfl) rfl rfl ?_
        refine a_off (i := 11) hok rfl rfl rfl rfl rfl (by kernel_rfl) rfl rfl ?_
        refine a_off (i := 12) hok rfl rfl rfl rfl rfl (by kernel_rfl) rfl rfl ?_
        refine a_rd (i := 13) hok rfl (by kernel_rfl) rfl (r_pickT rfl rfl) rfl ?_
        refine a_rd (i := 14) hok rfl (by kernel_rfl) rfl (r_move rfl) rfl ?_
        refine a_off (i := 15) hok rfl rfl rfl rfl rfl (by kernel_rfl) rfl rfl ?_
        refine a_off (i := 16) hok rfl rfl rfl rfl rfl (by kernel_rfl) rfl rfl ?_
        refine a_off (i := 17) hok rfl rfl rfl rfl rfl (by kernel_rfl) rfl rfl ?_
        refine a_offU (i := 18) hok rfl rfl rfl (by kernel_rfl) rfl rfl ?_
        refine a_offU (i := 19) hok rfl rfl rfl (by kernel_rfl) rfl rfl ?_
        refine a_offU (i := 20) hok rfl rfl rfl (by kernel_rfl) rfl rfl ?_
        refine a_offU (i := 21) hok rfl rfl rfl (by kernel_rfl) rfl rfl ?_
        refine a_offU (i := 22) hok rfl rfl rfl (by kernel_rfl) rfl rfl ?_
        refine a_offU (i := 23) hok rfl rfl rfl (by kernel_rfl) rfl rfl ?_
        refine a_offU (i := 24) hok rfl rfl rfl (by kernel_rfl) rfl rfl ?_
        refine a_offU (i := 25) hok rfl rfl rfl (by kernel_rfl) rfl rfl ?_
        refine a_offU (i := 26) hok rfl rfl rfl (by kernel_rfl) rfl rfl ?_
        refine a_offU (i := 27) hok rfl rfl rfl (by kernel_rfl) rfl rfl ?_
        refine a_off (i := 28) hok rfl rfl rfl rfl rfl (by kernel_rfl) rfl rfl ?_
        refine a_rd (i := 29) hok rfl (by kernel_rfl) rfl (r_pickT rfl rfl) rfl ?_
        refine a_fin hok (by kernel_rfl) ?_
        refine n_then ?_
        refine ref_condT rfl rfl ?_
        refine ref_seq (ref_region ?_)
        refine as1 rfl rfl ?_
        refine l_nil (n_then (ref_ret (r_block (r_then ?_))))
        refine retX ?_
        refine r_block (r_then ?_)
        exact fin1 (.inl rfl) () [] rfl trivial rfl (rv_tmp rfl)
      refine a_rdOn (i := 6) hok rfl rfl rfl rfl (by kernel_rfl) rfl (r_move rfl) rfl ?_
      refine a_rdOn (i := 7) hok rfl rfl rfl rfl (by kernel_rfl) rfl (r_move rfl) rfl ?_
      refine pull fun t14 h_t14 => ?_
      refine a_rdOn (i := 8) hok rfl rfl rfl rfl (by kernel_rfl) rfl (r_index h_t14 Tryd.underlying22 el_3 rfl rfl) rfl ?_
      refine a_rdOn (i := 9) hok rfl rfl rfl rfl (by kernel_rfl) rfl (r_load el_3 rfl) rfl ?_
      refine a_rdOn (i := 10) hok rfl rfl rfl rfl (by kernel_rfl) rfl (r_faddr (fo := 0) Tryd.underlying50 rfl rfl Tryd.sizeOf3 rfl) rfl ?_
      refine a_rdOn (i := 11) hok rfl rfl rfl rfl (by kernel_rfl) rfl (r_cload Tryd.isAgg3 rfl (j := 0) rfl rfl) rfl ?_
      refine a_rdOn (i := 12) hok rfl rfl rfl rfl (by kernel_rfl) rfl (r_geq rfl rfl) rfl ?_
      refine a_rd (i := 13) hok rfl (by kernel_rfl) rfl (r_pickF rfl rfl) rfl ?_
      refine a_rd (i := 14) hok rfl (by kernel_rfl) rfl (r_move rfl) rfl ?_
      refine b_split (t := 26) rfl (fun _ => ?_) (fun _ => ?_)
      · refine a_off (i := 15) hok rfl rfl rfl rfl rfl (by kernel_rfl) rfl rfl ?_
        refine a_off (i := 16) hok rfl rfl rfl rfl rfl (by kernel_rfl) rfl rfl ?_
        refine a_off (i := 17) hok rfl rfl rfl rfl rfl (by kernel_rfl) rfl rfl ?_
        refine a_offU (i := 18) hok rfl rfl rfl (by kernel_rfl) rfl rfl ?_
        refine a_offU (i := 19) hok rfl rfl rfl (by kernel_rfl) rfl rfl ?_
        refine a_offU (i := 20) hok rfl rfl rfl (by kernel_rfl) rfl rfl ?_
        refine a_offU (i := 21) hok rfl rfl rfl (by kernel_rfl) rfl rfl ?_
        refine a_offU (i := 22) hok rfl rfl rfl (by kernel_rfl) rfl rfl ?_
        refine a_offU (i := 23) hok rfl rfl rfl (by kernel_rfl) rfl rfl ?_
        refine a_offU (i := 24) hok rfl rfl rfl (by kernel_rfl) rfl rfl ?_
        refine a_offU (i := 25) hok rfl rfl rfl (by kernel_rfl) rfl rfl ?_
        refine a_offU (i := 26) hok rfl rfl rfl (by kernel_rfl) rfl rfl ?_
        refine a_offU (i := 27) hok rfl rfl rfl (by kernel_rfl) rfl rfl ?_
        refine a_off (i := 28) hok rfl rfl rfl rfl rfl (by kernel_rfl) rfl rfl ?_
        refine a_rd (i := 29) hok rfl (by kernel_rfl) rfl (r_pickT rfl rfl) rfl ?_
        refine a_fin hok (by kernel_rfl) ?_
        refine n_then ?_
        refine ref_condT rfl rfl ?_
        refine ref_seq (ref_region ?_)
        refine as1 rfl rfl ?_
        refine l_nil (n_then (ref_ret (r_block (r_then ?_))))
        refine retX ?_
        refine r_block (r_then ?_)
        exact fin1 (.inl rfl) () [] rfl trivial rfl (rv_tmp rfl)
      refine a_rdOn (i := 15) hok rfl rfl rfl rfl (by kernel_rfl) rfl (r_move rfl) rfl ?_
      refine a_rdOn (i := 16) hok rfl rfl rfl rfl (by kernel_rfl) rfl (r_gtr rfl rfl) rfl ?_
      refine a_rdOn (i := 17) hok rfl rfl rfl rfl (by kernel_rfl) rfl (r_move rfl) rfl ?_
      refine b_split (t := 29) rfl (fun _ => ?_) (fun _ => ?_)
      · refine a_rdOn (i := 18) hok rfl rfl rfl rfl (by kernel_rfl) rfl (r_move rfl) rfl ?_
        refine a_rdOn (i := 19) hok rfl rfl rfl rfl (by kernel_rfl) rfl (r_move rfl) rfl ?_
        refine pull fun t15 h_t15 => ?_
        refine a_rdOn (i := 20) hok rfl rfl rfl rfl (by kernel_rfl) rfl (r_index h_t15 Tryd.underlying22 el_3 rfl rfl) rfl ?_
        refine a_rdOn (i := 21) hok rfl rfl rfl rfl (by kernel_rfl) rfl (r_load el_3 rfl) rfl ?_
        refine a_rdOn (i := 22) hok rfl rfl rfl rfl (by kernel_rfl) rfl (r_move rfl) rfl ?_
        refine a_rdOn (i := 23) hok rfl rfl rfl rfl (by kernel_rfl) rfl (r_move rfl) rfl ?_
        refine a_rdOn (i := 24) hok rfl rfl rfl rfl (by kernel_rfl) rfl (r_sub rfl rfl) rfl ?_
        refine pull fun t16 h_t16 => ?_
        refine a_rdOn (i := 25) hok rfl rfl rfl rfl (by kernel_rfl) rfl (r_index h_t16 Tryd.underlying22 el_3 rfl rfl) rfl ?_
        refine a_rdOn (i := 26) hok rfl rfl rfl rfl (by kernel_rfl) rfl (r_load el_3 rfl) rfl ?_
        refine a_rdOn (i := 27) hok rfl rfl rfl rfl (by kernel_rfl) rfl (r_leq rfl rfl) rfl ?_
        refine a_rdOn (i := 28) hok rfl rfl rfl rfl (by kernel_rfl) rfl (r_pickT rfl rfl) rfl ?_
        refine a_rd (i := 29) hok rfl (by kernel_rfl) rfl (r_pickF rfl rfl) rfl ?_
        refine a_fin hok (by kernel_rfl) ?_
        refine n_then ?_
        refine ref_cond rfl (fun hb17 => ?_) (fun hb17 => ?_)
        · refine ref_seq (ref_region ?_)
          refine as1 rfl rfl ?_
          refine l_nil (n_then (ref_ret (r_block (r_then ?_))))
          refine retX ?_
          refine r_block (r_then ?_)
          exact fin1 (.inl rfl) () [] rfl trivial rfl (rv_tmp rfl)
        refine ref_skip (n_block (n_then (ref_region ?_)))
        refine mv1 rfl rfl ?_
        refine s_rd (r_add rfl rfl) rfl ?_
        refine as1 rfl rfl ?_
        refine b_let (f := iv .i64) (t := 5) rfl fun i18 => ?_
        refine l_nil ?_
        exact goX () (weak [0] ⟨rfl, rfl, rfl, trivial⟩ ⟨rfl, trivial⟩)
      refine a_off (i := 18) hok rfl rfl rfl rfl rfl (by kernel_rfl) rfl rfl ?_
      refine a_off (i := 19) hok rfl rfl rfl rfl rfl (by kernel_rfl) rfl rfl ?_
      refine a_off (i := 20) hok rfl rfl rfl rfl rfl (by kernel_rfl) rfl rfl ?_
      refine a_off (i := 21) hok rfl rfl rfl rfl rfl (by kernel_rfl) rfl rfl ?_
      refine a_off (i := 22) hok rfl rfl rfl rfl rfl (by kernel_rfl) rfl rfl ?_
      refine a_off (i := 23) hok rfl rfl rfl rfl rfl (by kernel_rfl) rfl rfl ?_
      refine a_off (i := 24) hok rfl rfl rfl rfl rfl (by kernel_rfl) rfl rfl ?_
      refine a_off (i := 25) hok rfl rfl rfl rfl rfl (by kernel_rfl) rfl rfl ?_
      refine a_off (i := 26) hok rfl rfl rfl rfl rfl (by kernel_rfl) rfl rfl ?_
      refine a_off (i := 27) hok rfl rfl rfl rfl rfl (by kernel_rfl) rfl rfl ?_
      refine a_rdOn (i := 28) hok rfl rfl rfl rfl (by kernel_rfl) rfl (r_pickF rfl rfl) rfl ?_
      refine a_rd (i := 29) hok rfl (by kernel_rfl) rfl (r_pickF rfl rfl) rfl ?_
      refine a_fin hok (by kernel_rfl) ?_
      refine n_then ?_
      refine ref_condF rfl rfl ?_
      refine ref_skip (n_block (n_then (ref_region ?_)))
      refine mv1 rfl rfl ?_
      refine s_rd (r_add rfl rfl) rfl ?_
      refine as1 rfl rfl ?_
      refine b_let (f := iv .i64) (t := 5) rfl fun i19 => ?_
      refine l_nil ?_
      exact goX () (weak [0] ⟨rfl, rfl, rfl, trivial⟩ ⟨rfl, trivial⟩)
    refine ref_exit (x_then ?_)
    exact brkX () (weak [] trivial trivial)
  refine n_then (ref_seq (ref_region ?_))
  refine as1 rfl rfl ?_
  refine l_nil (n_then (ref_ret ?_))
  exact fin1 (.inl rfl) () [] rfl trivial rfl (rv_tmp rfl)

/-! deliberation/deliberationnet.Has -/
noncomputable def net_Has_l1 (g_0 : T_api_Graph) (from__1 : Int) (to__2 : Int) (s8 : Int) : Option (Sum ((Sum (Bool) (Unit))) (Int)) :=
  bif decide (s8 < (g_0.L.length : Int)) then
    Option.bind (idxM g_0.L s8) fun t11 =>
    bif t11.From == from__1 then
      Option.bind (idxM g_0.L s8) fun t12 =>
      bif t12.To == to__2 then
        some (Sum.inl (Sum.inl true))
      else
        some (Sum.inr (iadd .i64 s8 1))
    else
      some (Sum.inr (iadd .i64 s8 1))
  else
    some (Sum.inl (Sum.inr ()))

noncomputable def net_Has_m (g_0 : T_api_Graph) (from__1 : Int) (to__2 : Int) : Option (Bool) :=
  Option.bind (loopC (net_Has_l1 g_0 from__1 to__2) 0) (sumK (fun a : Bool => some a) fun q14 : Unit =>
    some false)

theorem net_Has_ok {g_0 : T_api_Graph} {from__1 : Int} {to__2 : Int} {r : Bool} (hm : net_Has_m g_0 from__1 to__2 = some r) :
    FnOk prog 44 [ag [iv .i64 g_0.N, slv rT_api_Pair g_0.L], iv .i64 from__1, iv .i64 to__2] [] (fun (x : Unit) => [bv r]) (fun (x : Unit) => []) := by
  refine fn_ok (fn := Tryd.f44) (N := 33) (res := fun r x => [bv r]) (Ω1 := fun r x => []) Tryd.func44 rfl rfl hm rfl (fun E hM => ?_)
  unfold net_Has_m
  refine ref_seq (ref_region ?_)
  refine s_st (s_box (part_agO (ψs := [iv .i64 g_0.N, slv rT_api_Pair g_0.L]) rfl ⟨.inl iv_at, .inl slv_at, trivial⟩)) rfl (fun b1 => ?_)
  refine as1 rfl rfl ?_
  refine l_nil (n_then (ref_seq (ref_seq (ref_region ?_))))
  refine as1 rfl rfl ?_
  refine l_nil (n_then ?_)
  refine ref_loopX (f := (net_Has_l1 g_0 from__1 to__2)) (Γl := (fun (s8 : Int) (x9 : Unit) => [(1, iv .i64 from__1), (2, iv .i64 to__2), (3, pv (ptr b1 0)), (7, iv .i64 s8)])) (Ωl := (fun (s8 : Int) (x9 : Unit) => [oc b1 [iv .i64 g_0.N, slv rT_api_Pair g_0.L]])) (Γb := (fun (q14 : Unit) (y15 : Unit) => [])) (Ωb := (fun (q14 : Unit) (y15 : Unit) => [])) (kr := (fun a : Bool => some a)) 0 () (weak [0] ⟨rfl, rfl, rfl, rfl, trivial⟩ ⟨rfl, trivial⟩) (fun s8 x9 => ?_) (fun q14 y15 => ?_)
  · unfold net_Has_l1
    refine ref_seq (ref_seq (ref_region ?_))
    refine mv1 rfl rfl ?_
    refine s_rd (r_faddr (fo := 1) Tryd.underlying50 rfl rfl Tryd.sizeOf48 rfl) rfl ?_
    refine s_rd (r_cload Tryd.isAgg48 rfl (j := 0) rfl rfl) rfl ?_
    refine s_rd (r_len Tryd.underlying48 rfl) rfl ?_
    refine s_rd (r_lss rfl rfl) rfl ?_
    refine l_nil (n_then ?_)
    refine ref_cond rfl (fun hb10 => ?_) (fun hb10 => ?_)
    · refine ref_skip (n_then (ref_seq (ref_block (ref_seq (ref_region ?_)))))
      refine s_rd (r_faddr (fo := 1) Tryd.underlying50 rfl rfl Tryd.sizeOf48 rfl) rfl ?_
      refine s_rd (r_cload Tryd.isAgg48 rfl (j := 0) rfl rfl) rfl ?_
      refine mv1 rfl rfl ?_
      refine pull fun t11 h_t11 => ?_
      refine s_rd (r_index h_t11 Tryd.underlying48 el_57 rfl rfl) rfl ?_
      refine s_rd (r_fea (fo := 0) (ρ := rT_api_Pair) (y := t11) (ρ' := (rI .i64)) (z := t11.From) Tryd.underlying57 rfl rfl Tryd.sizeOf3 rfl rfl rfl) rfl ?_
      refine s_rd (r_load el_3 rfl) rfl ?_
      refine mv1 rfl rfl ?_
      refine s_rd (r_eql rfl rfl) rfl ?_
      refine mv1 rfl rfl ?_
      refine b_split (t := 23) rfl (fun _ => ?_) (fun _ => ?_)
      · refine s_on rfl rfl rfl ?_
        refine s_rd (r_faddr (fo := 1) Tryd.underlying50 rfl rfl Tryd.sizeOf48 rfl) rfl ?_
        refine s_on rfl rfl rfl ?_
        refine s_rd (r_cload Tryd.isAgg48 rfl (j := 0) rfl rfl) rfl ?_
        refine s_on rfl rfl rfl ?_
        refine mv1 rfl rfl ?_
        refine s_on rfl rfl rfl ?_
        refine pull fun t12 h_t12 => ?_
        refine s_rd (r_index h_t12 Tryd.underlying48 el_57 rfl rfl) rfl ?_
        refine s_on rfl rfl rfl ?_
        refine s_rd (r_fea (fo := 1) (ρ := rT_api_Pair) (y := t12) (ρ' := (rI .i64)) (z := t12.To) Tryd.underlying57 rfl rfl Tryd.sizeOf3 rfl rfl rfl) rfl ?_
        refine s_on rfl rfl rfl ?_
        refine s_rd (r_load el_3 rfl) rfl ?_
        refine s_on rfl rfl rfl ?_
        refine mv1 rfl rfl ?_
        refine s_on rfl rfl rfl ?_
        refine s_rd (r_eql rfl rfl) rfl ?_
        refine s_rd (r_pickT rfl rfl) rfl ?_
        refine l_nil (n_then ?_)
        refine ref_cond rfl (fun hb13 => ?_) (fun hb13 => ?_)
        · refine ref_seq (ref_region ?_)
          refine as1 rfl rfl ?_
          refine l_nil (n_then (ref_ret (r_block (r_then ?_))))
          refine retX ?_
          refine r_block (r_then ?_)
          exact fin1 (.inl rfl) () [] rfl trivial rfl (rv_tmp rfl)
        refine ref_skip (n_block (n_then (ref_region ?_)))
        refine mv1 rfl rfl ?_
        refine s_rd (r_add rfl rfl) rfl ?_
        refine as1 rfl rfl ?_
        refine l_nil ?_
        exact goX () (weak [0] ⟨rfl, rfl, rfl, rfl, trivial⟩ ⟨rfl, trivial⟩)
      refine s_off rfl rfl rfl rfl rfl ?_
      refine s_off rfl rfl rfl rfl rfl ?_
      refine s_off rfl rfl rfl rfl rfl ?_
      refine s_off rfl rfl rfl rfl rfl ?_
      refine s_off rfl rfl rfl rfl rfl ?_
      refine s_off rfl rfl rfl rfl rfl ?_
      refine s_off rfl rfl rfl rfl rfl ?_
      refine s_off rfl rfl rfl rfl rfl ?_
      refine s_rd (r_pickF rfl rfl) rfl ?_
      refine l_nil (n_then ?_)
      refine ref_condF rfl rfl ?_
      refine ref_skip (n_block (n_then (ref_region ?_)))
      refine mv1 rfl rfl ?_
      refine s_rd (r_add rfl rfl) rfl ?_
      refine as1 rfl rfl ?_
      refine l_nil ?_
      exact goX () (weak [0] ⟨rfl, rfl, rfl, rfl, trivial⟩ ⟨rfl, trivial⟩)
    refine ref_exit (x_then ?_)
    exact brkX () (weak [] trivial trivial)
  refine n_then (ref_seq (ref_region ?_))
  refine as1 rfl rfl ?_
  refine l_nil (n_then (ref_ret ?_))
  exact fin1 (.inl rfl) () [] rfl trivial rfl (rv_tmp rfl)

/-! deliberation/deliberationnet.Attacked -/
noncomputable def net_Attacked_l1 (g_0 : T_api_Graph) (s_1 : (List Int)) (a__2 : Int) (s8 : Int) : Option (Sum ((Sum (Bool) (Unit))) (Int)) :=
  bif decide (s8 < (s_1.length : Int)) then
    Option.bind (idxM s_1 s8) fun t11 =>
    Option.bind (net_Has_m g_0 t11 a__2) fun t12 =>
    bif t12 then
      some (Sum.inl (Sum.inl true))
    else
      some (Sum.inr (iadd .i64 s8 1))
  else
    some (Sum.inl (Sum.inr ()))

noncomputable def net_Attacked_m (g_0 : T_api_Graph) (s_1 : (List Int)) (a__2 : Int) : Option (Bool) :=
  Option.bind (loopC (net_Attacked_l1 g_0 s_1 a__2) 0) (sumK (fun a : Bool => some a) fun q14 : Unit =>
    some false)

theorem net_Attacked_ok {g_0 : T_api_Graph} {s_1 : (List Int)} {a__2 : Int} {r : Bool} (hm : net_Attacked_m g_0 s_1 a__2 = some r) :
    FnOk prog 45 [ag [iv .i64 g_0.N, slv rT_api_Pair g_0.L], slv (rI .i64) s_1, iv .i64 a__2] [] (fun (x : Unit) => [bv r]) (fun (x : Unit) => []) := by
  refine fn_ok (fn := Tryd.f45) (N := 21) (res := fun r x => [bv r]) (Ω1 := fun r x => []) Tryd.func45 rfl rfl hm rfl (fun E hM => ?_)
  unfold net_Attacked_m
  refine ref_seq (ref_region ?_)
  refine s_st (s_box (part_agO (ψs := [iv .i64 g_0.N, slv rT_api_Pair g_0.L]) rfl ⟨.inl iv_at, .inl slv_at, trivial⟩)) rfl (fun b1 => ?_)
  refine as1 rfl rfl ?_
  refine l_nil (n_then (ref_seq (ref_seq (ref_region ?_))))
  refine as1 rfl rfl ?_
  refine l_nil (n_then ?_)
  refine ref_loopX (f := (net_Attacked_l1 g_0 s_1 a__2)) (Γl := (fun (s8 : Int) (x9 : Unit) => [(1, slv (rI .i64) s_1), (2, iv .i64 a__2), (3, pv (ptr b1 0)), (7, iv .i64 s8)])) (Ωl := (fun (s8 : Int) (x9 : Unit) => [oc b1 [iv .i64 g_0.N, slv rT_api_Pair g_0.L]])) (Γb := (fun (q14 : Unit) (y15 : Unit) => [])) (Ωb := (fun (q14 : Unit) (y15 : Unit) => [])) (kr := (fun a : Bool => some a)) 0 () (weak [0] ⟨rfl, rfl, rfl, rfl, trivial⟩ ⟨rfl, trivial⟩) (fun s8 x9 => ?_) (fun q14 y15 => ?_)
  · unfold net_Attacked_l1
    refine ref_seq (ref_seq (ref_region ?_))
    refine mv1 rfl rfl ?_
    refine mv1 rfl rfl ?_
    refine s_rd (r_len Tryd.underlying22 rfl) rfl ?_
    refine s_rd (r_lss rfl rfl) rfl ?_
    refine l_nil (n_then ?_)
    refine ref_cond rfl (fun hb10 => ?_) (fun hb10 => ?_)
    · refine ref_skip (n_then (ref_seq (ref_block (ref_seq ?_))))
      refine ref_draw [0, 1, 2, 3, 4, 5] rfl (by kernel_rfl) (fun hok => ?_)
      refine a_rd (i := 0) hok rfl (by kernel_rfl) rfl (r_cloadS Tryd.isAgg50 Tryd.sizeOf50 rfl (j := 0) rfl rfl rfl) rfl ?_
      refine a_rd (i := 1) hok rfl (by kernel_rfl) rfl (r_move rfl) rfl ?_
      refine a_rd (i := 2) hok rfl (by kernel_rfl) rfl (r_move rfl) rfl ?_
      refine pull fun t11 h_t11 => ?_
      refine a_rd (i := 3) hok rfl (by kernel_rfl) rfl (r_index h_t11 Tryd.underlying22 el_3 rfl rfl) rfl ?_
      refine a_rd (i := 4) hok rfl (by kernel_rfl) rfl (r_load el_3 rfl) rfl ?_
      refine a_rd (i := 5) hok rfl (by kernel_rfl) rfl (r_move rfl) rfl ?_
      refine pull fun t12 h_t12 => ?_
      refine a_next hok 6 [] (by kernel_rfl) ?_ trivial
      refine a_st (i := 6) hok rfl rfl (s_call (ψ := fun (_ : Unit) => bv t12) (args := [.tmp 14, .tmp 18, .tmp 19]) Tryd.call44 rfl (net_Has_ok h_t12) ⟨arg rfl, arg rfl, arg rfl, trivial⟩ (fun _ _ _ _ h => h)) (by intro _ h; cases h; rfl) (fun _ => ⟨trivial, ⟨trivial, ⟨trivial, ⟨trivial, ⟨trivial, ⟨trivial, trivial⟩⟩⟩⟩⟩⟩) (fun _ => ?_)
      refine a_fin hok (by kernel_rfl) ?_
      refine n_then ?_
      refine ref_cond rfl (fun hb13 => ?_) (fun hb13 => ?_)
      · refine ref_seq (ref_region ?_)
        refine as1 rfl rfl ?_
        refine l_nil (n_then (ref_ret (r_block (r_then ?_))))
        refine retX ?_
        refine r_block (r_then ?_)
        exact fin1 (.inl rfl) () [] rfl trivial rfl (rv_tmp rfl)
      refine ref_skip (n_block (n_then (ref_region ?_)))
      refine mv1 rfl rfl ?_
      refine s_rd (r_add rfl rfl) rfl ?_
      refine as1 rfl rfl ?_
      refine l_nil ?_
      exact goX () (weak [0] ⟨rfl, rfl, rfl, rfl, trivial⟩ ⟨rfl, trivial⟩)
    refine ref_exit (x_then ?_)
    exact brkX () (weak [] trivial trivial)
  refine n_then (ref_seq (ref_region ?_))
  refine as1 rfl rfl ?_
  refine l_nil (n_then (ref_ret ?_))
  exact fin1 (.inl rfl) () [] rfl trivial rfl (rv_tmp rfl)

/-! deliberation/deliberationnet.Grounded -/
noncomputable def net_Grounded_l1 (g_0 : T_api_Graph) (s16 : Int × (List Int)) : Option (Sum ((List Int)) (Int × (List Int))) :=
  bif decide (s16.1 < g_0.N) then
    Option.bind (idxM s16.2 s16.1) fun t19 =>
    letM (iadd .i64 s16.1 1) fun i20 =>
    some (Sum.inr (i20, s16.2.set (Int.toNat s16.1) 3))
  else
    some (Sum.inl s16.2)

noncomputable def net_Grounded_l4 (g_0 : T_api_Graph) (s292 : Int × (List Int) × (List Int)) (s341 : Int × (List Int)) (s350 : Bool × Int) : Option (Sum (Bool) (Bool × Int)) :=
  bif decide (s350.2 < g_0.N) then
    bif s350.1 then
      Option.bind (net_Has_m g_0 s350.2 s341.1) fun t353 =>
      bif !t353 then
        letM (iadd .i64 s350.2 1) fun b355 =>
        some (Sum.inr (true, b355))
      else
        Option.bind (idxM s292.2.1 s350.2) fun t354 =>
        letM (iadd .i64 s350.2 1) fun b356 =>
        some (Sum.inr (t354 == 2, b356))
    else
      letM (iadd .i64 s350.2 1) fun b357 =>
      some (Sum.inr (false, b357))
  else
    some (Sum.inl s350.1)

noncomputable def net_Grounded_l3 (g_0 : T_api_Graph) (s292 : Int × (List Int) × (List Int)) (s341 : Int × (List Int)) : Option (Sum ((List Int)) (Int × (List Int))) :=
  bif decide (s341.1 < g_0.N) then
    Option.bind (idxM s292.2.1 s341.1) fun t344 =>
    Option.bind (loopC (net_Grounded_l4 g_0 s292 s341) (t344 == 3, 0)) fun q358 : Bool =>
    bif q358 then
      Option.bind (appM 8 s341.2 [s341.1]) fun now361 =>
      letM (iadd .i64 s341.1 1) fun a_363 =>
      some (Sum.inr (a_363, now361))
    else
      letM (iadd .i64 s341.1 1) fun a_364 =>
      some (Sum.inr (a_364, s341.2))
  else
    some (Sum.inl s341.2)

noncomputable def net_Grounded_l5 (s292 : Int × (List Int) × (List Int)) (q365 : (List Int)) (s379 : Int × (List Int) × (List Int)) : Option (Sum ((List Int) × (List Int)) (Int × (List Int) × (List Int))) :=
  bif decide (s379.1 < (q365.length : Int)) then
    Option.bind (idxM q365 s379.1) fun a_382 =>
    Option.bind (idxM s379.2.1 a_382) fun t383 =>
    Option.bind (idxM s379.2.2 a_382) fun t384 =>
    some (Sum.inr (iadd .i64 s379.1 1, s379.2.1.set (Int.toNat a_382) 1, s379.2.2.set (Int.toNat a_382) s292.1))
  else
    some (Sum.inl (s379.2.1, s379.2.2))

noncomputable def net_Grounded_l6 (g_0 : T_api_Graph) (s292 : Int × (List Int) × (List Int)) (q365 : (List Int)) (s411 : Int × (List Int) × (List Int)) : Option (Sum ((List Int) × (List Int)) (Int × (List Int) × (List Int))) :=
  bif decide (s411.1 < g_0.N) then
    joinM (fun j416 : Bool =>
        bif j416 then
          Option.bind (idxM s411.2.1 s411.1) fun t420 =>
          Option.bind (idxM s411.2.2 s411.1) fun t421 =>
          letM (iadd .i64 s411.1 1) fun b422 =>
          some (Sum.inr (b422, s411.2.1.set (Int.toNat s411.1) 2, s411.2.2.set (Int.toNat s411.1) s292.1))
        else
          letM (iadd .i64 s411.1 1) fun b423 =>
          some (Sum.inr (b423, s411.2.1, s411.2.2))) fun k418 =>
    Option.bind (idxM s411.2.1 s411.1) fun t414 =>
    bif t414 == 3 then
      Option.bind (net_Attacked_m g_0 q365 s411.1) fun t415 =>
      k418 t415
    else
      k418 false
  else
    some (Sum.inl (s411.2.1, s411.2.2))

noncomputable def net_Grounded_l2 (g_0 : T_api_Graph) (s292 : Int × (List Int) × (List Int)) : Option (Sum ((List Int) × (List Int)) (Int × (List Int) × (List Int))) :=
  bif decide (s292.1 ≤ (iadd .i64 g_0.N 1)) then
    Option.bind (loopC (net_Grounded_l3 g_0 s292) (0, [])) fun q365 : (List Int) =>
    Option.bind (loopC (net_Grounded_l5 s292 q365) (0, s292.2.1, s292.2.2)) fun q385 : (List Int) × (List Int) =>
    Option.bind (loopC (net_Grounded_l6 g_0 s292 q365) (0, q385.1, q385.2)) fun q424 : (List Int) × (List Int) =>
    letM (iadd .i64 s292.1 1) fun round426 =>
    some (Sum.inr (round426, q424.1, q424.2))
  else
    some (Sum.inl (s292.2.1, s292.2.2))

noncomputable def net_Grounded_m (g_0 : T_api_Graph) : Option (List Int × List Int) :=
  Option.bind (mkM 8 0 g_0.N) fun labels3 =>
  Option.bind (mkM 8 0 g_0.N) fun ranks5 =>
  Option.bind (loopC (net_Grounded_l1 g_0) (0, labels3)) fun q21 : (List Int) =>
  Option.bind (loopC (net_Grounded_l2 g_0) (1, q21, ranks5)) fun q427 : (List Int) × (List Int) =>
  some (q427.1, q427.2)

theorem net_Grounded_ok {g_0 : T_api_Graph} {r : List Int × List Int} (hm : net_Grounded_m g_0 = some r) :
    FnOk prog 22 [ag [iv .i64 g_0.N, slv rT_api_Pair g_0.L]] [] (fun (x : (Value × List Nat) × (Value × List Nat)) => [pv x.1.1, pv x.2.1]) (fun (x : (Value × List Nat) × (Value × List Nat)) => [oa (rI .i64) x.1.1 x.1.2 r.1, oa (rI .i64) x.2.1 x.2.2 r.2]) := by
  refine fn_ok (X := (Value × List Nat) × (Value × List Nat)) (fn := Tryd.f22) (N := 114) (res := fun r x => [pv x.1.1, pv x.2.1]) (Ω1 := fun r x => [oa (rI .i64) x.1.1 x.1.2 r.1, oa (rI .i64) x.2.1 x.2.2 r.2]) Tryd.func22 rfl rfl hm rfl (fun E hM => ?_)
  unfold net_Grounded_m
  refine ref_seq (ref_region ?_)
  refine s_st (s_box (part_agO (ψs := [iv .i64 g_0.N, slv rT_api_Pair g_0.L]) rfl ⟨.inl iv_at, .inl slv_at, trivial⟩)) rfl (fun b1 => ?_)
  refine as1 rfl rfl ?_
  refine as1 rfl rfl ?_
  refine l_nil (n_then (ref_seq ?_))
  refine pull fun labels3 h_labels3 => ?_
  refine pull fun ranks5 h_ranks5 => ?_
  refine ref_drawI 2 [⟨[], [], [], [], [], fun us u => pv (ptr b1 0), fun us u => []⟩, ⟨[0], [], [], [0], [], fun us u => iv .i64 g_0.N, fun us u => []⟩, ⟨[0, 1], [], [1], [1], [], fun us u => pv u.V.1, fun us u => [oa (rI .i64) u.V.1 u.V.2 labels3]⟩, ⟨[], [], [], [], [], fun us u => pv (ptr b1 0), fun us u => []⟩, ⟨[3], [], [], [0], [], fun us u => iv .i64 g_0.N, fun us u => []⟩, ⟨[3, 4], [], [2], [2], [], fun us u => pv u.V.1, fun us u => [oa (rI .i64) u.V.1 u.V.2 ranks5]⟩, ⟨[0, 1, 2], [2], [], [], [], fun us u => pv (us.getD 0 .none).V.1, fun us u => []⟩, ⟨[0, 1, 2, 3, 4, 5, 6], [5], [], [], [], fun us u => pv (us.getD 0 .none).V.1, fun us u => []⟩] (fun χ2 => [(1, pv (ptr b1 0)), (4, pv (χ2 2).V.1), (5, pv (χ2 5).V.1)]) (fun χ2 => [oc b1 [iv .i64 g_0.N, slv rT_api_Pair g_0.L], oa (rI .i64) (χ2 2).V.1 (χ2 2).V.2 labels3, oa (rI .i64) (χ2 5).V.1 (χ2 5).V.2 ranks5]) rfl (by kernel_rfl) ⟨fun χ2 Ω _ => St.toR (r_faddr (fo := 0) Tryd.underlying50 rfl rfl Tryd.sizeOf3 rfl) (fun _ => rfl) (fun _ => rfl), (by intro _ h; cases h; rfl), ⟨fun χ2 Ω ⟨h0, _⟩ => St.toR (r_cload Tryd.isAgg3 rfl (j := 0) h0 rfl) (fun _ => rfl) (fun _ => rfl), (by intro _ h; cases h; rfl), ⟨fun χ2 Ω ⟨h1, _⟩ => St.to XU.V XU.hV (St.placeL (os := fun _ => [_]) [1] (s_make h_labels3 Tryd.underlying22 el_3 ze_3 rfl rfl) (fun _ => rfl) (fun _ => ⟨h1, rfl, trivial⟩)) (fun _ => rfl) (fun _ => rfl), (by intro _ h; cases h; rfl), ⟨fun χ2 Ω _ => St.toR (r_faddr (fo := 0) Tryd.underlying50 rfl rfl Tryd.sizeOf3 rfl) (fun _ => rfl) (fun _ => rfl), (by intro _ h; cases h; rfl), ⟨fun χ2 Ω ⟨h0, _⟩ => St.toR (r_cload Tryd.isAgg3 rfl (j := 0) h0 rfl) (fun _ => rfl) (fun _ => rfl), (by intro _ h; cases h; rfl), ⟨fun χ2 Ω ⟨h2, _⟩ => St.to XU.V XU.hV (St.placeL (os := fun _ => [_]) [2] (s_make h_ranks5 Tryd.underlying22 el_3 ze_3 rfl rfl) (fun _ => rfl) (fun _ => ⟨h2, rfl, trivial⟩)) (fun _ => rfl) (fun _ => rfl), (by intro _ h; cases h; rfl), ⟨fun χ2 Ω _ => St.toR (r_assign rfl) (fun _ => rfl) (fun _ => rfl), (by intro _ h; cases h; rfl), ⟨fun χ2 Ω _ => St.toR (r_assign rfl) (fun _ => rfl) (fun _ => rfl), (by intro _ h; cases h; rfl), trivial⟩⟩⟩⟩⟩⟩⟩⟩ (fun _ => ⟨rfl, rfl, rfl, trivial⟩) (fun _ => rfl) (fun χ2 => ?_)
  refine n_then (ref_seq (ref_seq (ref_region ?_)))
  refine as1 rfl rfl ?_
  refine l_nil (n_then ?_)
  refine ref_loopB (f := (net_Grounded_l1 g_0)) (Γl := (fun (s16 : Int × (List Int)) (x17 : Unit) => [(1, pv (ptr b1 0)), (4, pv (χ2 2).V.1), (5, pv (χ2 5).V.1), (6, iv .i64 s16.1)])) (Ωl := (fun (s16 : Int × (List Int)) (x17 : Unit) => [oc b1 [iv .i64 g_0.N, slv rT_api_Pair g_0.L], oa (rI .i64) (χ2 2).V.1 (χ2 2).V.2 s16.2, oa (rI .i64) (χ2 5).V.1 (χ2 5).V.2 ranks5])) (Γb := (fun (q21 : (List Int)) (y22 : Unit) => [(1, pv (ptr b1 0)), (4, pv (χ2 2).V.1), (5, pv (χ2 5).V.1)])) (Ωb := (fun (q21 : (List Int)) (y22 : Unit) => [oc b1 [iv .i64 g_0.N, slv rT_api_Pair g_0.L], oa (rI .i64) (χ2 2).V.1 (χ2 2).V.2 q21, oa (rI .i64) (χ2 5).V.1 (χ2 5).V.2 ranks5])) (0, labels3) () (weak [0, 1, 2] ⟨rfl, rfl, rfl, rfl, trivial⟩ ⟨rfl, rfl, rfl, trivial⟩) (fun s16 x17 => ?_) (fun q21 y22 => ?_)
  · unfold net_Grounded_l1
    refine ref_seq (ref_seq (ref_region ?_))
    refine mv1 rfl rfl ?_
    refine s_rd (r_faddr (fo := 0) Tryd.underlying50 rfl rfl Tryd.sizeOf3 rfl) rfl ?_
    refine s_rd (r_cload Tryd.isAgg3 rfl (j := 0) rfl rfl) rfl ?_
    refine s_rd (r_lss rfl rfl) rfl ?_
    refine l_nil (n_then ?_)
    refine ref_cond rfl (fun hb18 => ?_) (fun hb18 => ?_)
    · refine ref_skip (n_then (ref_seq (ref_block (ref_region ?_))))
      refine mv1 rfl rfl ?_
      refine mv1 rfl rfl ?_
      refine pull fun t19 h_t19 => ?_
      refine s_rd (r_oindex h_t19 Tryd.underlying22 el_3 rfl (j := 1) rfl rfl) rfl ?_
      refine s_st0 (s_ostore (u := 3) h_t19 el_3 rfl (j := 1) rfl (part_at rfl iv_at)) (fun _ => ?_)
      refine l_nil (n_block (n_then (ref_region ?_)))
      refine mv1 rfl rfl ?_
      refine s_rd (r_add rfl rfl) rfl ?_
      refine as1 rfl rfl ?_
      refine b_let (f := iv .i64) (t := 6) rfl fun i20 => ?_
      refine l_nil ?_
      exact goB () (weak [0, 1, 2] ⟨rfl, rfl, rfl, rfl, trivial⟩ ⟨rfl, rfl, rfl, trivial⟩)
    refine ref_exit (x_then ?_)
    exact brkB () (weak [0, 1, 2] ⟨rfl, rfl, rfl, trivial⟩ ⟨rfl, rfl, rfl, trivial⟩)
  refine n_then (ref_seq (ref_seq (ref_region ?_)))
  refine as1 rfl rfl ?_
  refine l_nil (n_then ?_)
  refine ref_loopB (f := (net_Grounded_l2 g_0)) (Γl := (fun (s292 : Int × (List Int) × (List Int)) (x293 : Unit) => [(1, pv (ptr b1 0)), (4, pv (χ2 2).V.1), (5, pv (χ2 5).V.1), (7, iv .i64 s292.1)])) (Ωl := (fun (s292 : Int × (List Int) × (List Int)) (x293 : Unit) => [oc b1 [iv .i64 g_0.N, slv rT_api_Pair g_0.L], oa (rI .i64) (χ2 2).V.1 (χ2 2).V.2 s292.2.1, oa (rI .i64) (χ2 5).V.1 (χ2 5).V.2 s292.2.2])) (Γb := (fun (q427 : (List Int) × (List Int)) (y428 : Unit) => [(4, pv (χ2 2).V.1), (5, pv (χ2 5).V.1)])) (Ωb := (fun (q427 : (List Int) × (List Int)) (y428 : Unit) => [oa (rI .i64) (χ2 2).V.1 (χ2 2).V.2 q427.1, oa (rI .i64) (χ2 5).V.1 (χ2 5).V.2 q427.2])) (1, q21, ranks5) () (weak [0, 1, 2] ⟨rfl, rfl, rfl, rfl, trivial⟩ ⟨rfl, rfl, rfl, trivial⟩) (fun s292 x293 => ?_) (fun q427 y428 => ?_)
  · unfold net_Grounded_l2
    refine ref_seq (ref_seq (ref_region ?_))
    refine mv1 rfl rfl ?_
    refine s_rd (r_faddr (fo := 0) Tryd.underlying50 rfl rfl Tryd.sizeOf3 rfl) rfl ?_
    refine s_rd (r_cload Tryd.isAgg3 rfl (j := 0) rfl rfl) rfl ?_
    refine s_rd (r_add rfl rfl) rfl ?_
    refine s_rd (r_leq rfl rfl) rfl ?_
    refine l_nil (n_then ?_)
    refine ref_cond rfl (fun hb294 => ?_) (fun hb294 => ?_)
    · refine ref_skip (n_then (ref_seq (ref_block (ref_seq (ref_region ?_)))))
      refine as1 rfl rfl ?_
      refine l_nil (n_then (ref_seq (ref_seq (ref_region ?_))))
      refine as1 rfl rfl ?_
      refine l_nil (n_then ?_)
      refine b_of (own_nil (rI .i64)) ?_
      refine ref_loopB (f := (net_Grounded_l3 g_0 s292)) (Γl := (fun (s341 : Int × (List Int)) (x342 : (Value × List Nat)) => [(1, pv (ptr b1 0)), (4, pv (χ2 2).V.1), (5, pv (χ2 5).V.1), (7, iv .i64 s292.1), (8, pv x342.1), (9, iv .i64 s341.1)])) (Ωl := (fun (s341 : Int × (List Int)) (x342 : (Value × List Nat)) => [oc b1 [iv .i64 g_0.N, slv rT_api_Pair g_0.L], oa (rI .i64) (χ2 2).V.1 (χ2 2).V.2 s292.2.1, oa (rI .i64) (χ2 5).V.1 (χ2 5).V.2 s292.2.2, oa (rI .i64) x342.1 x342.2 s341.2])) (Γb := (fun (q365 : (List Int)) (y366 : (Value × List Nat)) => [(1, pv (ptr b1 0)), (4, pv (χ2 2).V.1), (5, pv (χ2 5).V.1), (7, iv .i64 s292.1), (8, pv y366.1)])) (Ωb := (fun (q365 : (List Int)) (y366 : (Value × List Nat)) => [oc b1 [iv .i64 g_0.N, slv rT_api_Pair g_0.L], oa (rI .i64) (χ2 2).V.1 (χ2 2).V.2 s292.2.1, oa (rI .i64) (χ2 5).V.1 (χ2 5).V.2 s292.2.2, oa (rI .i64) y366.1 y366.2 q365])) (0, []) ((.slice none 0 0), []) (weak [0, 1, 2, 3] ⟨rfl, rfl, rfl, rfl, rfl, rfl, trivial⟩ ⟨rfl, rfl, rfl, rfl, trivial⟩) (fun s341 x342 => ?_) (fun q365 y366 => ?_)
      · unfold net_Grounded_l3
        refine ref_seq (ref_seq (ref_region ?_))
        refine mv1 rfl rfl ?_
        refine s_rd (r_faddr (fo := 0) Tryd.underlying50 rfl rfl Tryd.sizeOf3 rfl) rfl ?_
        refine s_rd (r_cload Tryd.isAgg3 rfl (j := 0) rfl rfl) rfl ?_
        refine s_rd (r_lss rfl rfl) rfl ?_
        refine l_nil (n_then ?_)
        refine ref_cond rfl (fun hb343 => ?_) (fun hb343 => ?_)
        · refine ref_skip (n_then (ref_seq (ref_block (ref_seq (ref_region ?_)))))
          refine mv1 rfl rfl ?_
          refine mv1 rfl rfl ?_
          refine pull fun t344 h_t344 => ?_
          refine s_rd (r_oindex h_t344 Tryd.underlying22 el_3 rfl (j := 1) rfl rfl) rfl ?_
          refine s_rd (r_oload h_t344 el_3 rfl (j := 1) rfl) rfl ?_
          refine s_rd (r_eql rfl rfl) rfl ?_
          refine as1 rfl rfl ?_
          refine l_nil (n_then (ref_seq (ref_seq (ref_region ?_))))
          refine as1 rfl rfl ?_
          refine l_nil (n_then ?_)
          refine ref_loopB (f := (net_Grounded_l4 g_0 s292 s341)) (Γl := (fun (s350 : Bool × Int) (x351 : Unit) => [(1, pv (ptr b1 0)), (4, pv (χ2 2).V.1), (5, pv (χ2 5).V.1), (7, iv .i64 s292.1), (8, pv x342.1), (9, iv .i64 s341.1), (10, bv s350.1), (11, iv .i64 s350.2)])) (Ωl := (fun (s350 : Bool × Int) (x351 : Unit) => [oc b1 [iv .i64 g_0.N, slv rT_api_Pair g_0.L], oa (rI .i64) (χ2 2).V.1 (χ2 2).V.2 s292.2.1, oa (rI .i64) (χ2 5).V.1 (χ2 5).V.2 s292.2.2, oa (rI .i64) x342.1 x342.2 s341.2])) (Γb := (fun (q358 : Bool) (y359 : Unit) => [(1, pv (ptr b1 0)), (4, pv (χ2 2).V.1), (5, pv (χ2 5).V.1), (7, iv .i64 s292.1), (8, pv x342.1), (9, iv .i64 s341.1), (10, bv q358)])) (Ωb := (fun (q358 : Bool) (y359 : Unit) => [oc b1 [iv .i64 g_0.N, slv rT_api_Pair g_0.L], oa (rI .i64) (χ2 2).V.1 (χ2 2).V.2 s292.2.1, oa (rI .i64) (χ2 5).V.1 (χ2 5).V.2 s292.2.2, oa (rI .i64) x342.1 x342.2 s341.2])) (t344 == 3, 0) () (weak [0, 1, 2, 3] ⟨rfl, rfl, rfl, rfl, rfl, rfl, rfl, rfl, trivial⟩ ⟨rfl, rfl, rfl, rfl, trivial⟩) (fun s350 x351 => ?_) (fun q358 y359 => ?_)
          · unfold net_Grounded_l4
            refine ref_seq (ref_seq (ref_region ?_))
            refine mv1 rfl rfl ?_
            refine s_rd (r_faddr (fo := 0) Tryd.underlying50 rfl rfl Tryd.sizeOf3 rfl) rfl ?_
            refine s_rd (r_cload Tryd.isAgg3 rfl (j := 0) rfl rfl) rfl ?_
            refine s_rd (r_lss rfl rfl) rfl ?_
            refine l_nil (n_then ?_)
            refine ref_cond rfl (fun hb352 => ?_) (fun hb352 => ?_)
            · refine ref_skip (n_then (ref_seq (ref_block (ref_region ?_))))
              refine mv1 rfl rfl ?_
              refine mv1 rfl rfl ?_
              refine b_split (t := 55) rfl (fun _ => ?_) (fun _ => ?_)
              · refine s_on rfl rfl rfl ?_
                refine s_rd (r_cloadS Tryd.isAgg50 Tryd.sizeOf50 rfl (j := 0) rfl rfl rfl) rfl ?_
                refine s_on rfl rfl rfl ?_
                refine mv1 rfl rfl ?_
                refine s_on rfl rfl rfl ?_
                refine mv1 rfl rfl ?_
                refine s_on rfl rfl rfl ?_
                refine pull fun t353 h_t353 => ?_
                refine s_st (s_call (ψ := fun (_ : Unit) => bv t353) (args := [.tmp 56, .tmp 57, .tmp 58]) Tryd.call44 rfl (net_Has_ok h_t353) ⟨arg rfl, arg rfl, arg rfl, trivial⟩ (fun _ _ _ _ h => h)) rfl (fun _ => ?_)
                refine s_on rfl rfl rfl ?_
                refine s_rd (r_not rfl) rfl ?_
                refine s_on rfl rfl rfl ?_
                refine mv1 rfl rfl ?_
                refine b_split (t := 61) rfl (fun _ => ?_) (fun _ => ?_)
                · refine s_off rfl rfl rfl rfl rfl ?_
                  refine s_off rfl rfl rfl rfl rfl ?_
                  refine s_off rfl rfl rfl rfl rfl ?_
                  refine s_off rfl rfl rfl rfl rfl ?_
                  refine s_off rfl rfl rfl rfl rfl ?_
                  refine s_on rfl rfl rfl ?_
                  refine s_rd (r_pickT rfl rfl) rfl ?_
                  refine s_rd (r_pickT rfl rfl) rfl ?_
                  refine as1 rfl rfl ?_
                  refine l_nil (n_block (n_then (ref_region ?_)))
                  refine mv1 rfl rfl ?_
                  refine s_rd (r_add rfl rfl) rfl ?_
                  refine as1 rfl rfl ?_
                  refine b_let (f := iv .i64) (t := 11) rfl fun b355 => ?_
                  refine l_nil ?_
                  exact goB () (weak [0, 1, 2, 3] ⟨rfl, rfl, rfl, rfl, rfl, rfl, rfl, rfl, trivial⟩ ⟨rfl, rfl, rfl, rfl, trivial⟩)
                refine s_on rfl rfl rfl ?_
                refine mv1 rfl rfl ?_
                refine s_on rfl rfl rfl ?_
                refine mv1 rfl rfl ?_
                refine s_on rfl rfl rfl ?_
                refine pull fun t354 h_t354 => ?_
                refine s_rd (r_oindex h_t354 Tryd.underlying22 el_3 rfl (j := 1) rfl rfl) rfl ?_
                refine s_on rfl rfl rfl ?_
                refine s_rd (r_oload h_t354 el_3 rfl (j := 1) rfl) rfl ?_
                refine s_on rfl rfl rfl ?_
                refine s_rd (r_eql rfl rfl) rfl ?_
                refine s_on rfl rfl rfl ?_
                refine s_rd (r_pickF rfl rfl) rfl ?_
                refine s_rd (r_pickT rfl rfl) rfl ?_
                refine as1 rfl rfl ?_
                refine l_nil (n_block (n_then (ref_region ?_)))
                refine mv1 rfl rfl ?_
                refine s_rd (r_add rfl rfl) rfl ?_
                refine as1 rfl rfl ?_
                refine b_let (f := iv .i64) (t := 11) rfl fun b356 => ?_
                refine l_nil ?_
                exact goB () (weak [0, 1, 2, 3] ⟨rfl, rfl, rfl, rfl, rfl, rfl, rfl, rfl, trivial⟩ ⟨rfl, rfl, rfl, rfl, trivial⟩)
              refine s_off rfl rfl rfl rfl rfl ?_
              refine s_off rfl rfl rfl rfl rfl ?_
              refine s_off rfl rfl rfl rfl rfl ?_
              refine s_off rfl rfl rfl rfl rfl ?_
              refine s_off rfl rfl rfl rfl rfl ?_
              refine s_off rfl rfl rfl rfl rfl ?_
              refine s_offU rfl rfl rfl ?_
              refine s_offU rfl rfl rfl ?_
              refine s_offU rfl rfl rfl ?_
              refine s_offU rfl rfl rfl ?_
              refine s_offU rfl rfl rfl ?_
              refine s_off rfl rfl rfl rfl rfl ?_
              refine s_rd (r_pickF rfl rfl) rfl ?_
              refine as1 rfl rfl ?_
              refine l_nil (n_block (n_then (ref_region ?_)))
              refine mv1 rfl rfl ?_
              refine s_rd (r_add rfl rfl) rfl ?_
              refine as1 rfl rfl ?_
              refine b_let (f := iv .i64) (t := 11) rfl fun b357 => ?_
              refine l_nil ?_
              exact goB () (weak [0, 1, 2, 3] ⟨rfl, rfl, rfl, rfl, rfl, rfl, rfl, rfl, trivial⟩ ⟨rfl, rfl, rfl, rfl, trivial⟩)
            refine ref_exit (x_then ?_)
            exact brkB () (weak [0, 1, 2, 3] ⟨rfl, rfl, rfl, rfl, rfl, rfl, rfl, trivial⟩ ⟨rfl, rfl, rfl, rfl, trivial⟩)
          refine n_then (ref_seq (ref_region ?_))
          refine mv1 rfl rfl ?_
          refine l_nil (n_then ?_)
          refine ref_cond rfl (fun hb360 => ?_) (fun hb360 => ?_)
          · refine ref_region ?_
            refine mv1 rfl rfl ?_
            refine mv1 rfl rfl ?_
            refine s_st (s_bslice (xs := [.tmp 71]) (ds := [s341.1]) Tryd.underlying22 el_3 rfl (Nat.le_of_ble_eq_true rfl) ⟨(part_at rfl iv_at), trivial⟩) rfl (fun _ => ?_)
            refine pull fun now361 h_now361 => ?_
            refine s_st (s_append h_now361 Tryd.underlying22 el_3 rfl (j := 3) rfl rfl) rfl (fun o362 => ?_)
            refine as1 rfl rfl ?_
            refine l_nil (n_block (n_then (ref_region ?_)))
            refine mv1 rfl rfl ?_
            refine s_rd (r_add rfl rfl) rfl ?_
            refine as1 rfl rfl ?_
            refine b_let (f := iv .i64) (t := 9) rfl fun a_363 => ?_
            refine l_nil ?_
            exact goB o362 (weak [0, 1, 2, 3] ⟨rfl, rfl, rfl, rfl, rfl, rfl, trivial⟩ ⟨rfl, rfl, rfl, rfl, trivial⟩)
          refine ref_skip (n_block (n_then (ref_region ?_)))
          refine mv1 rfl rfl ?_
          refine s_rd (r_add rfl rfl) rfl ?_
          refine as1 rfl rfl ?_
          refine b_let (f := iv .i64) (t := 9) rfl fun a_364 => ?_
          refine l_nil ?_
          exact goB x342 (weak [0, 1, 2, 3] ⟨rfl, rfl, rfl, rfl, rfl, rfl, trivial⟩ ⟨rfl, rfl, rfl, rfl, trivial⟩)
        refine ref_exit (x_then ?_)
        exact brkB x342 (weak [0, 1, 2, 3] ⟨rfl, rfl, rfl, rfl, rfl, trivial⟩ ⟨rfl, rfl, rfl, rfl, trivial⟩)
      refine n_then (ref_seq (ref_seq (ref_region ?_)))
      refine mv1 rfl rfl ?_
      refine s_rd (r_olen Tryd.underlying22 rfl (j := 3) rfl) rfl ?_
      refine mv1 rfl rfl ?_
      refine l_nil (n_then ?_)
      refine ref_loopB (f := (net_Grounded_l5 s292 q365)) (Γl := (fun (s379 : Int × (List Int) × (List Int)) (x380 : Unit) => [(1, pv (ptr b1 0)), (4, pv (χ2 2).V.1), (5, pv (χ2 5).V.1), (7, iv .i64 s292.1), (8, pv y366.1), (74, pv y366.1), (75, iv .i64 (q365.length : Int)), (76, iv .i64 s379.1)])) (Ωl := (fun (s379 : Int × (List Int) × (List Int)) (x380 : Unit) => [oc b1 [iv .i64 g_0.N, slv rT_api_Pair g_0.L], oa (rI .i64) (χ2 2).V.1 (χ2 2).V.2 s379.2.1, oa (rI .i64) (χ2 5).V.1 (χ2 5).V.2 s379.2.2, oa (rI .i64) y366.1 y366.2 q365])) (Γb := (fun (q385 : (List Int) × (List Int)) (y386 : Unit) => [(1, pv (ptr b1 0)), (4, pv (χ2 2).V.1), (5, pv (χ2 5).V.1), (7, iv .i64 s292.1), (8, pv y366.1)])) (Ωb := (fun (q385 : (List Int) × (List Int)) (y386 : Unit) => [oc b1 [iv .i64 g_0.N, slv rT_api_Pair g_0.L], oa (rI .i64) (χ2 2).V.1 (χ2 2).V.2 q385.1, oa (rI .i64) (χ2 5).V.1 (χ2 5).V.2 q385.2, oa (rI .i64) y366.1 y366.2 q365])) (0, s292.2.1, s292.2.2) () (weak [0, 1, 2, 3] ⟨rfl, rfl, rfl, rfl, rfl, rfl, rfl, rfl, trivial⟩ ⟨rfl, rfl, rfl, rfl, trivial⟩) (fun s379 x380 => ?_) (fun q385 y386 => ?_)
      · unfold net_Grounded_l5
        refine ref_seq (ref_region ?_)
        refine s_rd (r_lss rfl rfl) rfl ?_
        refine l_nil (n_then (ref_seq ?_))
        refine ref_cond rfl (fun hb381 => ?_) (fun hb381 => ?_)
        · refine ref_skip (n_then (ref_seq (ref_block (ref_seq (ref_region ?_)))))
          refine pull fun a_382 h_a_382 => ?_
          refine s_rd (r_oindex h_a_382 Tryd.underlying22 el_3 rfl (j := 3) rfl rfl) rfl ?_
          refine s_rd (r_oload h_a_382 el_3 rfl (j := 3) rfl) rfl ?_
          refine as1 rfl rfl ?_
          refine l_nil (n_then (ref_region ?_))
          refine mv1 rfl rfl ?_
          refine mv1 rfl rfl ?_
          refine mv1 rfl rfl ?_
          refine mv1 rfl rfl ?_
          refine mv1 rfl rfl ?_
          refine pull fun t383 h_t383 => ?_
          refine s_rd (r_oindex h_t383 Tryd.underlying22 el_3 rfl (j := 1) rfl rfl) rfl ?_
          refine s_st0 (s_ostore (u := 1) h_t383 el_3 rfl (j := 1) rfl (part_at rfl iv_at)) (fun _ => ?_)
          refine pull fun t384 h_t384 => ?_
          refine s_rd (r_oindex h_t384 Tryd.underlying22 el_3 rfl (j := 2) rfl rfl) rfl ?_
          refine s_st0 (s_ostore (u := s292.1) h_t384 el_3 rfl (j := 2) rfl (part_at rfl iv_at)) (fun _ => ?_)
          refine l_nil (n_block (n_then (ref_region ?_)))
          refine s_rd (r_add rfl rfl) rfl ?_
          refine mv1 rfl rfl ?_
          refine l_nil ?_
          exact goB () (weak [0, 1, 2, 3] ⟨rfl, rfl, rfl, rfl, rfl, rfl, rfl, rfl, trivial⟩ ⟨rfl, rfl, rfl, rfl, trivial⟩)
        refine ref_exit (x_then ?_)
        exact brkB () (weak [0, 1, 2, 3] ⟨rfl, rfl, rfl, rfl, rfl, trivial⟩ ⟨rfl, rfl, rfl, rfl, trivial⟩)
      refine n_then (ref_seq (ref_region ?_))
      refine as1 rfl rfl ?_
      refine l_nil (n_then ?_)
      refine ref_loopB (f := (net_Grounded_l6 g_0 s292 q365)) (Γl := (fun (s411 : Int × (List Int) × (List Int)) (x412 : Unit) => [(1, pv (ptr b1 0)), (4, pv (χ2 2).V.1), (5, pv (χ2 5).V.1), (7, iv .i64 s292.1), (8, pv y366.1), (14, iv .i64 s411.1)])) (Ωl := (fun (s411 : Int × (List Int) × (List Int)) (x412 : Unit) => [oc b1 [iv .i64 g_0.N, slv rT_api_Pair g_0.L], oa (rI .i64) (χ2 2).V.1 (χ2 2).V.2 s411.2.1, oa (rI .i64) (χ2 5).V.1 (χ2 5).V.2 s411.2.2, oa (rI .i64) y366.1 y366.2 q365])) (Γb := (fun (q424 : (List Int) × (List Int)) (y425 : Unit) => [(1, pv (ptr b1 0)), (4, pv (χ2 2).V.1), (5, pv (χ2 5).V.1), (7, iv .i64 s292.1)])) (Ωb := (fun (q424 : (List Int) × (List Int)) (y425 : Unit) => [oc b1 [iv .i64 g_0.N, slv rT_api_Pair g_0.L], oa (rI .i64) (χ2 2).V.1 (χ2 2).V.2 q424.1, oa (rI .i64) (χ2 5).V.1 (χ2 5).V.2 q424.2])) (0, q385.1, q385.2) () (weak [0, 1, 2, 3] ⟨rfl, rfl, rfl, rfl, rfl, rfl, trivial⟩ ⟨rfl, rfl, rfl, rfl, trivial⟩) (fun s411 x412 => ?_) (fun q424 y425 => ?_)
      · unfold net_Grounded_l6
        refine ref_seq (ref_seq (ref_region ?_))
        refine mv1 rfl rfl ?_
        refine s_rd (r_faddr (fo := 0) Tryd.underlying50 rfl rfl Tryd.sizeOf3 rfl) rfl ?_
        refine s_rd (r_cload Tryd.isAgg3 rfl (j := 0) rfl rfl) rfl ?_
        refine s_rd (r_lss rfl rfl) rfl ?_
        refine l_nil (n_then ?_)
        refine ref_cond rfl (fun hb413 => ?_) (fun hb413 => ?_)
        · refine ref_skip (n_then (ref_seq (ref_block (ref_seq ?_))))
          refine ref_join (fun (j416 : Bool) (x417 : Unit) => [(1, pv (ptr b1 0)), (4, pv (χ2 2).V.1), (5, pv (χ2 5).V.1), (7, iv .i64 s292.1), (8, pv y366.1), (14, iv .i64 s411.1), (104, bv j416)]) (fun (j416 : Bool) (x417 : Unit) => [oc b1 [iv .i64 g_0.N, slv rT_api_Pair g_0.L], oa (rI .i64) (χ2 2).V.1 (χ2 2).V.2 s411.2.1, oa (rI .i64) (χ2 5).V.1 (χ2 5).V.2 s411.2.2, oa (rI .i64) y366.1 y366.2 q365]) (fun k418 hk418 => ?_) (fun j416 x417 => ?_)
          · refine ref_region ?_
            refine mv1 rfl rfl ?_
            refine mv1 rfl rfl ?_
            refine pull fun t414 h_t414 => ?_
            refine s_rd (r_oindex h_t414 Tryd.underlying22 el_3 rfl (j := 1) rfl rfl) rfl ?_
            refine s_rd (r_oload h_t414 el_3 rfl (j := 1) rfl) rfl ?_
            refine s_rd (r_eql rfl rfl) rfl ?_
            refine mv1 rfl rfl ?_
            refine b_split (t := 99) rfl (fun _ => ?_) (fun _ => ?_)
            · refine s_on rfl rfl rfl ?_
              refine s_rd (r_cloadS Tryd.isAgg50 Tryd.sizeOf50 rfl (j := 0) rfl rfl rfl) rfl ?_
              refine s_on rfl rfl rfl ?_
              refine mv1 rfl rfl ?_
              refine s_on rfl rfl rfl ?_
              refine mv1 rfl rfl ?_
              refine s_on rfl rfl rfl ?_
              refine pull fun t415 h_t415 => ?_
              refine s_st (s_callB (ψ := fun (_ : Unit) => bv t415) (args := [.tmp 100, .tmp 101, .tmp 102]) Tryd.call45 rfl (net_Attacked_ok h_t415) ⟨argB rfl, argO rfl (j := 3) rfl, argB rfl, trivial⟩ (fun _ _ _ _ _ h => h)) rfl (fun _ => ?_)
              refine s_rd (r_pickT rfl rfl) rfl ?_
              refine l_nil ?_
              exact b_to (hk418 t415 ()) (weak [0, 1, 2, 3] ⟨rfl, rfl, rfl, rfl, rfl, rfl, rfl, trivial⟩ ⟨rfl, rfl, rfl, rfl, trivial⟩)
            refine s_off rfl rfl rfl rfl rfl ?_
            refine s_off rfl rfl rfl rfl rfl ?_
            refine s_off rfl rfl rfl rfl rfl ?_
            refine s_off rfl rfl rfl rfl rfl ?_
            refine s_rd (r_pickF rfl rfl) rfl ?_
            refine l_nil ?_
            exact b_to (hk418 false ()) (weak [0, 1, 2, 3] ⟨rfl, rfl, rfl, rfl, rfl, rfl, rfl, trivial⟩ ⟨rfl, rfl, rfl, rfl, trivial⟩)
          refine n_then ?_
          refine ref_cond rfl (fun hb419 => ?_) (fun hb419 => ?_)
          · refine ref_region ?_
            refine mv1 rfl rfl ?_
            refine mv1 rfl rfl ?_
            refine mv1 rfl rfl ?_
            refine mv1 rfl rfl ?_
            refine mv1 rfl rfl ?_
            refine pull fun t420 h_t420 => ?_
            refine s_rd (r_oindex h_t420 Tryd.underlying22 el_3 rfl (j := 1) rfl rfl) rfl ?_
            refine s_st0 (s_ostore (u := 2) h_t420 el_3 rfl (j := 1) rfl (part_at rfl iv_at)) (fun _ => ?_)
            refine pull fun t421 h_t421 => ?_
            refine s_rd (r_oindex h_t421 Tryd.underlying22 el_3 rfl (j := 2) rfl rfl) rfl ?_
            refine s_st0 (s_ostore (u := s292.1) h_t421 el_3 rfl (j := 2) rfl (part_at rfl iv_at)) (fun _ => ?_)
            refine l_nil (n_block (n_then (ref_region ?_)))
            refine mv1 rfl rfl ?_
            refine s_rd (r_add rfl rfl) rfl ?_
            refine as1 rfl rfl ?_
            refine b_let (f := iv .i64) (t := 14) rfl fun b422 => ?_
            refine l_nil ?_
            exact goB () (weak [0, 1, 2, 3] ⟨rfl, rfl, rfl, rfl, rfl, rfl, trivial⟩ ⟨rfl, rfl, rfl, rfl, trivial⟩)
          refine ref_skip (n_block (n_then (ref_region ?_)))
          refine mv1 rfl rfl ?_
          refine s_rd (r_add rfl rfl) rfl ?_
          refine as1 rfl rfl ?_
          refine b_let (f := iv .i64) (t := 14) rfl fun b423 => ?_
          refine l_nil ?_
          exact goB () (weak [0, 1, 2, 3] ⟨rfl, rfl, rfl, rfl, rfl, rfl, trivial⟩ ⟨rfl, rfl, rfl, rfl, trivial⟩)
        refine ref_exit (x_then ?_)
        exact brkB () (weak [0, 1, 2] ⟨rfl, rfl, rfl, rfl, trivial⟩ ⟨rfl, rfl, rfl, trivial⟩)
      refine n_block (n_then (ref_region ?_))
      refine mv1 rfl rfl ?_
      refine s_rd (r_add rfl rfl) rfl ?_
      refine as1 rfl rfl ?_
      refine b_let (f := iv .i64) (t := 7) rfl fun round426 => ?_
      refine l_nil ?_
      exact goB () (weak [0, 1, 2] ⟨rfl, rfl, rfl, rfl, trivial⟩ ⟨rfl, rfl, rfl, trivial⟩)
    refine ref_exit (x_then ?_)
    exact brkB () (weak [1, 2] ⟨rfl, rfl, trivial⟩ ⟨rfl, rfl, trivial⟩)
  refine n_then (ref_seq (ref_region ?_))
  refine mv1 rfl rfl ?_
  refine mv1 rfl rfl ?_
  refine as1 rfl rfl ?_
  refine as1 rfl rfl ?_
  refine l_nil (n_then (ref_ret ?_))
  exact fin2 (.inl rfl) ((χ2 2).V, (χ2 5).V) [0, 1] rfl ⟨rfl, rfl, trivial⟩ rfl (rv_tmp rfl) (rv_tmp rfl)

/-! deliberation/deliberationlaw38.PrecedentStands -/
noncomputable def law38_PrecedentStands_l1 (t3 : T_api_Library × T_deliberationkeep_Src) (t7 : List Int × T_api_Graph × Int) (s23 : Int) : Option (Sum ((Sum (Bool) (Unit))) (Int)) :=
  bif decide (s23 < (t7.2.1.L.length : Int)) then
    Option.bind (idxM t7.2.1.L s23) fun t26 =>
    bif decide (t26.From < 0) then
      some (Sum.inl (Sum.inl false))
    else
      bif decide (t26.From ≥ t7.2.1.N) then
        some (Sum.inl (Sum.inl false))
      else
        bif decide (t26.To < 0) then
          some (Sum.inl (Sum.inl false))
        else
          bif decide (t26.To ≥ t7.2.1.N) then
            some (Sum.inl (Sum.inl false))
          else
            Option.bind (idxM t7.1 t26.From) fun t28 =>
            Option.bind (idxM t3.1.Cases t28) fun t29 =>
            Option.bind (idxM t7.1 t26.To) fun t30 =>
            Option.bind (idxM t3.1.Cases t30) fun t31 =>
            bif t29.Winner == t31.Winner then
              some (Sum.inl (Sum.inl false))
            else
              letM (iadd .i64 s23 1) fun i33 =>
              some (Sum.inr i33)
  else
    some (Sum.inl (Sum.inr ()))

noncomputable def law38_PrecedentStands_l2 (t3 : T_api_Library × T_deliberationkeep_Src) (t7 : List Int × T_api_Graph × Int) (t36 : List Int × List Int) (s51 : Int × Int × Int) : Option (Sum ((Sum (Bool) (Int × Int))) (Int × Int × Int)) :=
  bif decide (s51.2.2 < t7.2.1.N) then
    Option.bind (idxM t36.1 s51.2.2) fun t54 =>
    bif t54 != 1 then
      letM (iadd .i64 s51.2.2 1) fun i64x =>
      some (Sum.inr (s51.1, s51.2.1, i64x))
    else
      Option.bind (idxM t7.1 s51.2.2) fun t56 =>
      Option.bind (idxM t3.1.Cases t56) fun t57 =>
      joinM (fun j59 : Unit =>
          bif s51.1 == 0 then
            Option.bind (idxM t7.1 s51.2.2) fun first63 =>
            letM (iadd .i64 s51.2.2 1) fun i65 =>
            some (Sum.inr (t57.Winner, first63, i65))
          else
            letM (iadd .i64 s51.2.2 1) fun i66 =>
            some (Sum.inr (s51.1, s51.2.1, i66))) fun k61 =>
      bif s51.1 != 0 then
        bif t57.Winner != s51.1 then
          some (Sum.inl (Sum.inl false))
        else
          k61 ()
      else
        k61 ()
  else
    some (Sum.inl (Sum.inr (s51.1, s51.2.1)))

noncomputable def law38_PrecedentStands_m (l_0 : (List Int)) : Option (Bool) :=
  Option.bind (keep_New_m l_0) fun s1 =>
  Option.bind (law38_library_m s1 6) fun t3 =>
  Option.bind (law38_facts_m t3.2) fun f5 =>
  Option.bind (precedent_Citable_m t3.1 f5.1) fun t7 =>
  Option.bind (precedent_Decide_m t3.1 f5.1) fun t10 =>
  bif t7.2.2 != 0 then
    some false
  else
    bif t10.2.2 != 0 then
      some false
    else
      bif t7.2.1.N != (t7.1.length : Int) then
        some false
      else
        Option.bind (net_Set_m (T_api_Graph.mk (t3.1.Cases.length : Int) []) t7.1) fun t11 =>
        bif !t11 then
          some false
        else
          Option.bind (loopC (law38_PrecedentStands_l1 t3 t7) 0) (sumK (fun a : Bool => some a) fun q34 : Unit =>
            Option.bind (net_Grounded_m t7.2.1) fun t36 =>
            Option.bind (loopC (law38_PrecedentStands_l2 t3 t7 t36) (0, (-1), 0)) (sumK (fun a : Bool => some a) fun q67 : Int × Int =>
              bif t10.1 == q67.1 then
                bif t10.2.1 == q67.2 then
                  Option.bind (law38_awake_m ) fun t69 =>
                  some t69
                else
                  some false
              else
                some false))

theorem law38_PrecedentStands_ok {l_0 : (List Int)} {r : Bool} (hm : law38_PrecedentStands_m l_0 = some r) :
    FnOk prog 5 [slv (rI .i64) l_0] [tbO (rI .u8) 0 tab_0] (fun (x : Unit) => [bv r]) (fun (x : Unit) => [tbO (rI .u8) 0 tab_0]) := by
  refine fn_ok (fn := Tryd.f5) (N := 169) (res := fun r x => [bv r]) (Ω1 := fun r x => [tbO (rI .u8) 0 tab_0]) Tryd.func5 rfl rfl hm rfl (fun E hM => ?_)
  unfold law38_PrecedentStands_m
  refine ref_seq (ref_region ?_)
  refine as1 rfl rfl ?_
  refine l_nil (n_then (ref_seq (ref_region ?_)))
  refine mv1 rfl rfl ?_
  refine pull fun s1 h_s1 => ?_
  refine s_st (s_call (ψ := fun (x2 : Nat) => pv (ptr x2 0)) (args := [.tmp 20]) Tryd.call7 rfl (keep_New_ok h_s1) ⟨arg rfl, trivial⟩ (fun _ _ _ _ h => h)) rfl (fun x2 => ?_)
  refine as1 rfl rfl ?_
  refine l_nil (n_then (ref_seq (ref_region ?_)))
  refine mv1 rfl rfl ?_
  refine pull fun t3 h_t3 => ?_
  refine s_st (s_callC [1] [true] (fun (_ : Unit) => [oc x2 [slv (rI .i64) t3.2.L, iv .i64 t3.2.At]]) (fun (_ : Unit) => []) (fun (_ : Unit) => ag [slv rS t3.1.Sides.i0, slv rS t3.1.Sides.i1, slv rT_api_Case t3.1.Cases]) (args := [.tmp 22, .const (.int .i64 (6))]) (caps := []) Tryd.call8 rfl (law38_library_ok h_t3) ⟨rfl, rfl, trivial⟩ (fun _ => rfl) (fun _ => trivial) (fun _ => rfl) ⟨arg rfl, arg rfl, trivial⟩ (fun _ _ _ _ h => h)) rfl (fun _ => ?_)
  refine s_st (s_alloc zt_29) rfl (fun b4 => ?_)
  refine s_st0 (s_cstore (out := [slv rS t3.1.Sides.i0, slv rS t3.1.Sides.i1, slv rT_api_Case t3.1.Cases]) Tryd.sizeOf29 rfl (j := 2) rfl (part_agO (ψs := [slv rS t3.1.Sides.i0, slv rS t3.1.Sides.i1, slv rT_api_Case t3.1.Cases]) rfl ⟨.inl slv_at, .inl slv_at, .inl slv_at, trivial⟩) rfl rfl rfl) (fun _ => ?_)
  refine l_nil ?_
  refine b_of (nrm [tbO (rI .u8) 0 tab_0, oc x2 [slv (rI .i64) t3.2.L, iv .i64 t3.2.At], oc b4 [slv rS t3.1.Sides.i0, slv rS t3.1.Sides.i1, slv rT_api_Case t3.1.Cases]] rfl) ?_
  refine n_then (ref_seq (ref_region ?_))
  refine mv1 rfl rfl ?_
  refine pull fun f5 h_f5 => ?_
  refine s_st (s_callC [1] [true] (fun (x6 : (Value × List Nat)) => [oc x2 [slv (rI .i64) f5.2.L, iv .i64 f5.2.At]]) (fun (x6 : (Value × List Nat)) => [oa rS x6.1 x6.2 f5.1]) (fun (x6 : (Value × List Nat)) => pv x6.1) (args := [.tmp 24]) (caps := []) Tryd.call9 rfl (law38_facts_ok h_f5) ⟨rfl, rfl, trivial⟩ (fun _ => rfl) (fun _ => trivial) (fun _ => rfl) ⟨arg rfl, trivial⟩ (fun _ _ _ _ h => h)) rfl (fun x6 => ?_)
  refine as1 rfl rfl ?_
  refine l_nil (n_then (ref_seq (ref_region ?_)))
  refine s_rd (r_cloadS Tryd.isAgg29 Tryd.sizeOf29 rfl (j := 2) rfl rfl rfl) rfl ?_
  refine mv1 rfl rfl ?_
  refine b_of (frzL [25, 5, 28] (j := 3) rfl ⟨rfl, rfl, rfl, trivial⟩) ?_
  refine pull fun t7 h_t7 => ?_
  refine s_st (s_call (ψ := fun (x8 : (Value × List Nat)) => tup [pv x8.1, ag [iv .i64 t7.2.1.N, slv rT_api_Pair t7.2.1.L], iv .i64 t7.2.2]) (args := [.tmp 27, .tmp 28]) Tryd.call19 rfl (precedent_Citable_ok h_t7) ⟨arg rfl, arg rfl, trivial⟩ (fun _ _ _ _ h => h)) rfl (fun x8 => ?_)
  refine mv1 rfl rfl ?_
  refine s_rd (r_extract rfl rfl) rfl ?_
  refine s_rd (r_extract rfl rfl) rfl ?_
  refine s_rd (r_extract rfl rfl) rfl ?_
  refine s_st (s_alloc zt_50) rfl (fun b9 => ?_)
  refine as1 rfl rfl ?_
  refine s_st0 (s_cstore (out := [iv .i64 t7.2.1.N, slv rT_api_Pair t7.2.1.L]) Tryd.sizeOf50 rfl (j := 5) rfl (part_agO (ψs := [iv .i64 t7.2.1.N, slv rT_api_Pair t7.2.1.L]) rfl ⟨.inl iv_at, .inl slv_at, trivial⟩) rfl rfl rfl) (fun _ => ?_)
  refine as1 rfl rfl ?_
  refine l_nil ?_
  refine b_of (nrm [tbO (rI .u8) 0 tab_0, oc x2 [slv (rI .i64) f5.2.L, iv .i64 f5.2.At], oc b4 [slv rS t3.1.Sides.i0, slv rS t3.1.Sides.i1, slv rT_api_Case t3.1.Cases], dead, oa (rI .i64) x8.1 x8.2 t7.1, oc b9 [iv .i64 t7.2.1.N, slv rT_api_Pair t7.2.1.L]] rfl) ?_
  refine n_then (ref_seq (ref_region ?_))
  refine s_rd (r_cloadS Tryd.isAgg29 Tryd.sizeOf29 rfl (j := 2) rfl rfl rfl) rfl ?_
  refine mv1 rfl rfl ?_
  refine pull fun t10 h_t10 => ?_
  refine s_st (s_callC [0] [true] (fun (_ : Unit) => [tbO (rI .u8) 0 tab_0]) (fun (_ : Unit) => []) (fun (_ : Unit) => tup [iv .i64 t10.1, iv .i64 t10.2.1, iv .i64 t10.2.2]) (args := [.tmp 34, .tmp 35]) (caps := []) Tryd.call20 rfl (precedent_Decide_ok h_t10) ⟨rfl, rfl, trivial⟩ (fun _ => rfl) (fun _ => trivial) (fun _ => rfl) ⟨arg rfl, arg rfl, trivial⟩ (fun _ _ _ _ h => h)) rfl (fun _ => ?_)
  refine mv1 rfl rfl ?_
  refine s_rd (r_extract rfl rfl) rfl ?_
  refine s_rd (r_extract rfl rfl) rfl ?_
  refine s_rd (r_extract rfl rfl) rfl ?_
  refine as1 rfl rfl ?_
  refine as1 rfl rfl ?_
  refine as1 rfl rfl ?_
  refine l_nil (n_then (ref_seq (ref_seq (ref_region ?_))))
  refine mv1 rfl rfl ?_
  refine s_rd (r_neq rfl rfl) rfl ?_
  refine mv1 rfl rfl ?_
  refine b_split (t := 42) rfl (fun _ => ?_) (fun _ => ?_)
  · refine s_off rfl rfl rfl rfl rfl ?_
    refine s_off rfl rfl rfl rfl rfl ?_
    refine s_rd (r_pickT rfl rfl) rfl ?_
    refine mv1 rfl rfl ?_
    refine s_off rfl rfl rfl rfl rfl ?_
    refine s_off rfl rfl rfl rfl rfl ?_
    refine s_off rfl rfl rfl rfl rfl ?_
    refine s_off rfl rfl rfl rfl rfl ?_
    refine s_off rfl rfl rfl rfl rfl ?_
    refine s_rd (r_pickT rfl rfl) rfl ?_
    refine mv1 rfl rfl ?_
    refine s_off rfl rfl rfl rfl rfl ?_
    refine s_off rfl rfl rfl rfl rfl ?_
    refine s_off rfl rfl rfl rfl rfl ?_
    refine s_off rfl rfl rfl rfl rfl ?_
    refine s_off rfl rfl rfl rfl rfl ?_
    refine s_off rfl rfl rfl rfl rfl ?_
    refine s_off rfl rfl rfl rfl rfl ?_
    refine s_rd (r_pickT rfl rfl) rfl ?_
    refine l_nil (n_then ?_)
    refine ref_condT rfl rfl ?_
    refine ref_seq (ref_region ?_)
    refine as1 rfl rfl ?_
    refine l_nil (n_then (ref_ret (r_then ?_)))
    exact fin1 (.inl rfl) () [0] rfl ⟨rfl, trivial⟩ rfl (rv_tmp rfl)
  refine s_on rfl rfl rfl ?_
  refine mv1 rfl rfl ?_
  refine s_on rfl rfl rfl ?_
  refine s_rd (r_neq rfl rfl) rfl ?_
  refine s_rd (r_pickF rfl rfl) rfl ?_
  refine mv1 rfl rfl ?_
  refine b_split (t := 46) rfl (fun _ => ?_) (fun _ => ?_)
  · refine s_off rfl rfl rfl rfl rfl ?_
    refine s_off rfl rfl rfl rfl rfl ?_
    refine s_off rfl rfl rfl rfl rfl ?_
    refine s_off rfl rfl rfl rfl rfl ?_
    refine s_off rfl rfl rfl rfl rfl ?_
    refine s_rd (r_pickT rfl rfl) rfl ?_
    refine mv1 rfl rfl ?_
    refine s_off rfl rfl rfl rfl rfl ?_
    refine s_off rfl rfl rfl rfl rfl ?_
    refine s_off rfl rfl rfl rfl rfl ?_
    refine s_off rfl rfl rfl rfl rfl ?_
    refine s_off rfl rfl rfl rfl rfl ?_
    refine s_off rfl rfl rfl rfl rfl ?_
    refine s_off rfl rfl rfl rfl rfl ?_
    refine s_rd (r_pickT rfl rfl) rfl ?_
    refine l_nil (n_then ?_)
    refine ref_condT rfl rfl ?_
    refine ref_seq (ref_region ?_)
    refine as1 rfl rfl ?_
    refine l_nil (n_then (ref_ret (r_then ?_)))
    exact fin1 (.inl rfl) () [0] rfl ⟨rfl, trivial⟩ rfl (rv_tmp rfl)
  refine s_on rfl rfl rfl ?_
  refine s_rd (r_faddr (fo := 0) Tryd.underlying50 rfl rfl Tryd.sizeOf3 rfl) rfl ?_
  refine s_on rfl rfl rfl ?_
  refine s_rd (r_cload Tryd.isAgg3 rfl (j := 5) rfl rfl) rfl ?_
  refine s_on rfl rfl rfl ?_
  refine mv1 rfl rfl ?_
  refine s_on rfl rfl rfl ?_
  refine s_rd (r_olen Tryd.underlying22 rfl (j := 4) rfl) rfl ?_
  refine s_on rfl rfl rfl ?_
  refine s_rd (r_neq rfl rfl) rfl ?_
  refine s_rd (r_pickF rfl rfl) rfl ?_
  refine mv1 rfl rfl ?_
  refine b_split (t := 53) rfl (fun _ => ?_) (fun _ => ?_)
  · refine s_off rfl rfl rfl rfl rfl ?_
    refine s_off rfl rfl rfl rfl rfl ?_
    refine s_off rfl rfl rfl rfl rfl ?_
    refine s_off rfl rfl rfl rfl rfl ?_
    refine s_off rfl rfl rfl rfl rfl ?_
    refine s_off rfl rfl rfl rfl rfl ?_
    refine s_off rfl rfl rfl rfl rfl ?_
    refine s_rd (r_pickT rfl rfl) rfl ?_
    refine l_nil (n_then ?_)
    refine ref_condT rfl rfl ?_
    refine ref_seq (ref_region ?_)
    refine as1 rfl rfl ?_
    refine l_nil (n_then (ref_ret (r_then ?_)))
    exact fin1 (.inl rfl) () [0] rfl ⟨rfl, trivial⟩ rfl (rv_tmp rfl)
  refine s_on rfl rfl rfl ?_
  refine s_rd (r_faddr (fo := 2) Tryd.underlying29 rfl rfl Tryd.sizeOf27 rfl) rfl ?_
  refine s_on rfl rfl rfl ?_
  refine s_rd (r_cload Tryd.isAgg27 rfl (j := 2) rfl rfl) rfl ?_
  refine s_on rfl rfl rfl ?_
  refine s_rd (r_len Tryd.underlying27 rfl) rfl ?_
  refine s_on rfl rfl rfl ?_
  refine s_rd (r_build (ps := [(0, .tmp 56)]) (rs := [(0, [iv .i64 (t3.1.Cases.length : Int)])]) st_50 zs_50 ⟨rfl, (part_at rfl iv_at), trivial⟩ rfl rfl) rfl ?_
  refine s_on rfl rfl rfl ?_
  refine mv1 rfl rfl ?_
  refine s_on rfl rfl rfl ?_
  refine b_of (nilG rT_api_Pair [(57, ag [iv .i64 (t3.1.Cases.length : Int), slv rT_api_Pair []])] [] ⟨⟨_, rfl, .inr ⟨_, _, rfl, rfl, ⟨.inl rfl, .inr ⟨rfl, rfl⟩, trivial⟩⟩⟩, trivial⟩ trivial) ?_
  refine pull fun t11 h_t11 => ?_
  refine s_st (s_callB (ψ := fun (_ : Unit) => bv t11) (args := [.tmp 57, .tmp 58]) Tryd.call21 rfl (net_Set_ok h_t11) ⟨argB rfl, argO rfl (j := 4) rfl, trivial⟩ (fun _ _ _ _ _ h => h)) rfl (fun _ => ?_)
  refine s_on rfl rfl rfl ?_
  refine s_rd (r_not rfl) rfl ?_
  refine s_rd (r_pickF rfl rfl) rfl ?_
  refine l_nil (n_then ?_)
  refine ref_cond rfl (fun hb12 => ?_) (fun hb12 => ?_)
  · refine ref_seq (ref_region ?_)
    refine as1 rfl rfl ?_
    refine l_nil (n_then (ref_ret (r_then ?_)))
    exact fin1 (.inl rfl) () [0] rfl ⟨rfl, trivial⟩ rfl (rv_tmp rfl)
  refine ref_skip (n_then (ref_seq (ref_seq (ref_region ?_))))
  refine as1 rfl rfl ?_
  refine l_nil (n_then ?_)
  refine ref_loopX (f := (law38_PrecedentStands_l1 t3 t7)) (Γl := (fun (s23 : Int) (x24 : Unit) => [(4, pv (ptr b4 0)), (6, pv x8.1), (7, pv (ptr b9 0)), (9, iv .i64 t10.1), (10, iv .i64 t10.2.1), (12, iv .i64 s23)])) (Ωl := (fun (s23 : Int) (x24 : Unit) => [tbO (rI .u8) 0 tab_0, oc b4 [slv rS t3.1.Sides.i0, slv rS t3.1.Sides.i1, slv rT_api_Case t3.1.Cases], oa (rI .i64) x8.1 x8.2 t7.1, oc b9 [iv .i64 t7.2.1.N, slv rT_api_Pair t7.2.1.L]])) (Γb := (fun (q34 : Unit) (y35 : Unit) => [(4, pv (ptr b4 0)), (6, pv x8.1), (7, pv (ptr b9 0)), (9, iv .i64 t10.1), (10, iv .i64 t10.2.1)])) (Ωb := (fun (q34 : Unit) (y35 : Unit) => [oc b4 [slv rS t3.1.Sides.i0, slv rS t3.1.Sides.i1, slv rT_api_Case t3.1.Cases], oa (rI .i64) x8.1 x8.2 t7.1, oc b9 [iv .i64 t7.2.1.N, slv rT_api_Pair t7.2.1.L], tbO (rI .u8) 0 tab_0])) (kr := (fun a : Bool => some a)) 0 () (weak [0, 2, 4, 5] ⟨rfl, rfl, rfl, rfl, rfl, rfl, trivial⟩ ⟨rfl, rfl, rfl, rfl, trivial⟩) (fun s23 x24 => ?_) (fun q34 y35 => ?_)
  · unfold law38_PrecedentStands_l1
    refine ref_seq (ref_seq (ref_region ?_))
    refine mv1 rfl rfl ?_
    refine s_rd (r_faddr (fo := 1) Tryd.underlying50 rfl rfl Tryd.sizeOf48 rfl) rfl ?_
    refine s_rd (r_cload Tryd.isAgg48 rfl (j := 3) rfl rfl) rfl ?_
    refine s_rd (r_len Tryd.underlying48 rfl) rfl ?_
    refine s_rd (r_lss rfl rfl) rfl ?_
    refine l_nil (n_then ?_)
    refine ref_cond rfl (fun hb25 => ?_) (fun hb25 => ?_)
    · refine ref_skip (n_then (ref_seq (ref_block (ref_seq (ref_region ?_)))))
      refine s_rd (r_faddr (fo := 1) Tryd.underlying50 rfl rfl Tryd.sizeOf48 rfl) rfl ?_
      refine s_rd (r_cload Tryd.isAgg48 rfl (j := 3) rfl rfl) rfl ?_
      refine mv1 rfl rfl ?_
      refine pull fun t26 h_t26 => ?_
      refine s_rd (r_index h_t26 Tryd.underlying48 el_57 rfl rfl) rfl ?_
      refine s_rd (r_load el_57 rfl) rfl ?_
      refine s_st (s_alloc zt_57) rfl (fun b27 => ?_)
      refine s_st0 (s_cstore (out := [iv .i64 t26.From, iv .i64 t26.To]) Tryd.sizeOf57 rfl (j := 4) rfl (part_agO (ψs := [iv .i64 t26.From, iv .i64 t26.To]) rfl ⟨.inl iv_at, .inl iv_at, trivial⟩) rfl rfl rfl) (fun _ => ?_)
      refine l_nil ?_
      refine b_of (nrm [tbO (rI .u8) 0 tab_0, oc b4 [slv rS t3.1.Sides.i0, slv rS t3.1.Sides.i1, slv rT_api_Case t3.1.Cases], oa (rI .i64) x8.1 x8.2 t7.1, oc b9 [iv .i64 t7.2.1.N, slv rT_api_Pair t7.2.1.L], oc b27 [iv .i64 t26.From, iv .i64 t26.To]] rfl) ?_
      refine n_then (ref_seq ?_)
      refine ref_draw [0, 1, 2, 3, 4, 5, 6, 7, 8, 9, 10, 11, 12, 13, 14, 15, 16, 17, 18, 19, 20, 21, 22, 23, 24, 25, 26, 27, 28, 29, 30, 31, 32, 33, 34, 35, 36, 37, 38, 39, 40, 41, 42, 43, 44] rfl (by kernel_rfl) (fun hok => ?_)
      refine a_rd (i := 0) hok rfl (by kernel_rfl) rfl (r_faddr (fo := 0) Tryd.underlying57 rfl rfl Tryd.sizeOf3 rfl) rfl ?_
      refine a_rd (i := 1) hok rfl (by kernel_rfl) rfl (r_cload Tryd.isAgg3 rfl (j := 4) rfl rfl) rfl ?_
      refine a_rd (i := 2) hok rfl (by kernel_rfl) rfl (r_lss rfl rfl) rfl ?_
      refine a_rd (i := 3) hok rfl (by kernel_rfl) rfl (r_move rfl) rfl ?_
      refine b_split (t := 77) rfl (fun _ => ?_) (fun _ => ?_)
      · refine a_off (i := 4) hok rfl rfl rfl rfl rfl (by kernel_rfl) rfl rfl ?_
        refine a_off (i := 5) hok rfl rfl rfl rfl rfl (by kernel_rfl) rfl rfl ?_
        refine a_off (i := 6) hok rfl rfl rfl rfl rfl (by kernel_rfl) rfl rfl ?_
        refine a_off (i := 7) hok rfl rfl rfl rfl rfl (by kernel_rfl) rfl rfl ?_
        refine a_off (i := 8) hok rfl rfl rfl rfl rfl (by kernel_rfl) rfl rfl ?_
        refine a_rd (i := 9) hok rfl (by kernel_rfl) rfl (r_pickT rfl rfl) rfl ?_
        refine a_rd (i := 10) hok rfl (by kernel_rfl) rfl (r_move rfl) rfl ?_
        refine a_off (i := 11) hok rfl rfl rfl rfl rfl (by kernel_rfl) rfl rfl ?_
        refine a_off (i := 12) hok rfl rfl rfl rfl rfl (by kernel_rfl) rfl rfl ?_
        refine a_off (i := 13) hok rfl rfl rfl rfl rfl (by kernel_rfl) rfl rfl ?_
        refine a_rd (i := 14) hok rfl (by kernel_rfl) rfl (r_pickT rfl rfl) rfl ?_
        refine a_rd (i := 15) hok rfl (by kernel_rfl) rfl (r_move rfl) rfl ?_
        refine a_off (i := 16) hok rfl rfl rfl rfl rfl (by kernel_rfl) rfl rfl ?_
        refine a_off (i := 17) hok rfl rfl rfl rfl rfl (by kernel_rfl) rfl rfl ?_
        refine a_off (i := 18) hok rfl rfl rfl rfl rfl (by kernel_rfl) rfl rfl ?_
        refine a_off (i := 19) hok rfl rfl rfl rfl rfl (by kernel_rfl) rfl rfl ?_
        refine a_off (i := 20) hok rfl rfl rfl rfl rfl (by kernel_rfl) rfl rfl ?_
        refine a_rd (i := 21) hok rfl (by kernel_rfl) rfl (r_pickT rfl rfl) rfl ?_
        refine a_rd (i := 22) hok rfl (by kernel_rfl) rfl (r_move rfl) rfl ?_
        refine a_off (i := 23) hok rfl rfl rfl rfl rfl (by kernel_rfl) rfl rfl ?_
        refine a_off (i := 24) hok rfl rfl rfl rfl rfl (by kernel_rfl) rfl rfl ?_
        refine a_off (i := 25) hok rfl rfl rfl rfl rfl (by kernel_rfl) rfl rfl ?_
        refine a_off (i := 26) hok rfl rfl rfl rfl rfl (by kernel_rfl) rfl rfl ?_
        refine a_off (i := 27) hok rfl rfl rfl rfl rfl (by kernel_rfl) rfl rfl ?_
        refine a_off (i := 28) hok rfl rfl rfl rfl rfl (by kernel_rfl) rfl rfl ?_
        refine a_off (i := 29) hok rfl rfl rfl rfl rfl (by kernel_rfl) rfl rfl ?_
        refine a_off (i := 30) hok rfl rfl rfl rfl rfl (by kernel_rfl) rfl rfl ?_
        refine a_off (i := 31) hok rfl rfl rfl rfl rfl (by kernel_rfl) rfl rfl ?_
        refine a_off (i := 32) hok rfl rfl rfl rfl rfl (by kernel_rfl) rfl rfl ?_
        refine a_off (i := 33) hok rfl rfl rfl rfl rfl (by kernel_rfl) rfl rfl ?_
        refine a_off (i := 34) hok rfl rfl rfl rfl rfl (by kernel_rfl) rfl rfl ?_
        refine a_off (i := 35) hok rfl rfl rfl rfl rfl (by kernel_rfl) rfl rfl ?_
        refine a_off (i := 36) hok rfl rfl rfl rfl rfl (by kernel_rfl) rfl rfl ?_
        refine a_off (i := 37) hok rfl rfl rfl rfl rfl (by kernel_rfl) rfl rfl ?_
        refine a_off (i := 38) hok rfl rfl rfl rfl rfl (by kernel_rfl) rfl rfl ?_
        refine a_off (i := 39) hok rfl rfl rfl rfl rfl (by kernel_rfl) rfl rfl ?_
        refine a_off (i := 40) hok rfl rfl rfl rfl rfl (by kernel_rfl) rfl rfl ?_
        refine a_off (i := 41) hok rfl rfl rfl rfl rfl (by kernel_rfl) rfl rfl ?_
        refine a_off (i := 42) hok rfl rfl rfl rfl rfl (by kernel_rfl) rfl rfl ?_
        refine a_off (i := 43) hok rfl rfl rfl rfl rfl (by kernel_rfl) rfl rfl ?_
        refine a_rd (i := 44) hok rfl (by kernel_rfl) rfl (r_pickT rfl rfl) rfl ?_
        refine a_fin hok (by kernel_rfl) ?_
        refine n_then ?_
        refine ref_condT rfl rfl ?_
        refine ref_seq (ref_region ?_)
        refine as1 rfl rfl ?_
        refine l_nil (n_then (ref_ret (r_block (r_then ?_))))
        refine retX ?_
        refine r_block (r_then ?_)
        exact fin1 (.inl rfl) () [0] rfl ⟨rfl, trivial⟩ rfl (rv_tmp rfl)
      refine a_rdOn (i := 4) hok rfl rfl rfl rfl (by kernel_rfl) rfl (r_faddr (fo := 0) Tryd.underlying57 rfl rfl Tryd.sizeOf3 rfl) rfl ?_
      refine a_rdOn (i := 5) hok rfl rfl rfl rfl (by kernel_rfl) rfl (r_cload Tryd.isAgg3 rfl (j := 4) rfl rfl) rfl ?_
      refine a_rdOn (i := 6) hok rfl rfl rfl rfl (by kernel_rfl) rfl (r_faddr (fo := 0) Tryd.underlying50 rfl rfl Tryd.sizeOf3 rfl) rfl ?_
      refine a_rdOn (i := 7) hok rfl rfl rfl rfl (by kernel_rfl) rfl (r_cload Tryd.isAgg3 rfl (j := 3) rfl rfl) rfl ?_
      refine a_rdOn (i := 8) hok rfl rfl rfl rfl (by kernel_rfl) rfl (r_geq rfl rfl) rfl ?_
      refine a_rd (i := 9) hok rfl (by kernel_rfl) rfl (r_pickF rfl rfl) rfl ?_
      refine a_rd (i := 10) hok rfl (by kernel_rfl) rfl (r_move rfl) rfl ?_
      refine b_split (t := 84) rfl (fun _ => ?_) (fun _ => ?_)
      · refine a_off (i := 11) hok rfl rfl rfl rfl rfl (by kernel_rfl) rfl rfl ?_
        refine a_off (i := 12) hok rfl rfl rfl rfl rfl (by kernel_rfl) rfl rfl ?_
        refine a_off (i := 13) hok rfl rfl rfl rfl rfl (by kernel_rfl) rfl rfl ?_
        refine a_rd (i := 14) hok rfl (by kernel_rfl) rfl (r_pickT rfl rfl) rfl ?_
        refine a_rd (i := 15) hok rfl (by kernel_rfl) rfl (r_move rfl) rfl ?_
        refine a_off (i := 16) hok rfl rfl rfl rfl rfl (by kernel_rfl) rfl rfl ?_
        refine a_off (i := 17) hok rfl rfl rfl rfl rfl (by kernel_rfl) rfl rfl ?_
        refine a_off (i := 18) hok rfl rfl rfl rfl rfl (by kernel_rfl) rfl rfl ?_
        refine a_off (i := 19) hok rfl rfl rfl rfl rfl (by kernel_rfl) rfl rfl ?_
        refine a_off (i := 20) hok rfl rfl rfl rfl rfl (by kernel_rfl) rfl rfl ?_
        refine a_rd (i := 21) hok rfl (by kernel_rfl) rfl (r_pickT rfl rfl) rfl ?_
        refine a_rd (i := 22) hok rfl (by kernel_rfl) rfl (r_move rfl) rfl ?_
        refine a_off (i := 23) hok rfl rfl rfl rfl rfl (by kernel_rfl) rfl rfl ?_
        refine a_off (i := 24) hok rfl rfl rfl rfl rfl (by kernel_rfl) rfl rfl ?_
        refine a_off (i := 25) hok rfl rfl rfl rfl rfl (by kernel_rfl) rfl rfl ?_
        refine a_off (i := 26) hok rfl rfl rfl rfl rfl (by kernel_rfl) rfl rfl ?_
        refine a_off (i := 27) hok rfl rfl rfl rfl rfl (by kernel_rfl) rfl rfl ?_
        refine a_off (i := 28) hok rfl rfl rfl rfl rfl (by kernel_rfl) rfl rfl ?_
        refine a_off (i := 29) hok rfl rfl rfl rfl rfl (by kernel_rfl) rfl rfl ?_
        refine a_off (i := 30) hok rfl rfl rfl rfl rfl (by kernel_rfl) rfl rfl ?_
        refine a_off (i := 31) hok rfl rfl rfl rfl rfl (by kernel_rfl) rfl rfl ?_
        refine a_off (i := 32) hok rfl rfl rfl rfl rfl (by kernel_rfl) rfl rfl ?_
        refine a_off (i := 33) hok rfl rfl rfl rfl rfl (by kernel_rfl) rfl rfl ?_
        refine a_off (i := 34) hok rfl rfl rfl rfl rfl (by kernel_rfl) rfl rfl ?_
        refine a_off (i := 35) hok rfl rfl rfl rfl rfl (by kernel_rfl) rfl rfl ?_
        refine a_off (i := 36) hok rfl rfl rfl rfl rfl (by kernel_rfl) rfl rfl ?_
        refine a_off (i := 37) hok rfl rfl rfl rfl rfl (by kernel_rfl) rfl rfl ?_
        refine a_off (i := 38) hok rfl rfl rfl rfl rfl (by kernel_rfl) rfl rfl ?_
        refine a_off (i := 39) hok rfl rfl rfl rfl rfl (by kernel_rfl) rfl rfl ?_
        refine a_off (i := 40) hok rfl rfl rfl rfl rfl (by kernel_rfl) rfl rfl ?_
        refine a_off (i := 41) hok rfl rfl rfl rfl rfl (by kernel_rfl) rfl rfl ?_
        refine a_off (i := 42) hok rfl rfl rfl rfl rfl (by kernel_rfl) rfl rfl ?_
        refine a_off (i := 43) hok rfl rfl rfl rfl rfl (by kernel_rfl) rfl rfl ?_
        refine a_rd (i := 44) hok rfl (by kernel_rfl) rfl (r_pickT rfl rfl) rfl ?_
        refine a_fin hok (by kernel_rfl) ?_
        refine n_then ?_
        refine ref_condT rfl rfl ?_
        refine ref_seq (ref_region ?_)
        refine as1 rfl rfl ?_
        refine l_nil (n_then (ref_ret (r_block (r_then ?_))))
        refine retX ?_
        refine r_block (r_then ?_)
        exact fin1 (.inl rfl) () [0] rfl ⟨rfl, trivial⟩ rfl (rv_tmp rfl)
      refine a_rdOn (i := 11) hok rfl rfl rfl rfl (by kernel_rfl) rfl (r_faddr (fo := 1) Tryd.underlying57 rfl rfl Tryd.sizeOf3 rfl) rfl ?_
      refine a_rdOn (i := 12) hok rfl rfl rfl rfl (by kernel_rfl) rfl (r_cload Tryd.isAgg3 rfl (j := 4) rfl rfl) rfl ?_
      refine a_rdOn (i := 13) hok rfl rfl rfl rfl (by kernel_rfl) rfl (r_lss rfl rfl) rfl ?_
      refine a_rd (i := 14) hok rfl (by kernel_rfl) rfl (r_pickF rfl rfl) rfl ?_
      refine a_rd (i := 15) hok rfl (by kernel_rfl) rfl (r_move rfl) rfl ?_
      refine b_split (t := 89) rfl (fun _ => ?_) (fun _ => ?_)
      · refine a_off (i := 16) hok rfl rfl rfl rfl rfl (by kernel_rfl) rfl rfl ?_
        refine a_off (i := 17) hok rfl rfl rfl rfl rfl (by kernel_rfl) rfl rfl ?_
        refine a_off (i := 18) hok rfl rfl rfl rfl rfl (by kernel_rfl) rfl rfl ?_
        refine a_off (i := 19) hok rfl rfl rfl rfl rfl (by kernel_rfl) rfl rfl ?_
        refine a_off (i := 20) hok rfl rfl rfl rfl rfl (by kernel_rfl) rfl rfl ?_
        refine a_rd (i := 21) hok rfl (by kernel_rfl) rfl (r_pickT rfl rfl) rfl ?_
        refine a_rd (i := 22) hok rfl (by kernel_rfl) rfl (r_move rfl) rfl ?_
        refine a_off (i := 23) hok rfl rfl rfl rfl rfl (by kernel_rfl) rfl rfl ?_
        refine a_off (i := 24) hok rfl rfl rfl rfl rfl (by kernel_rfl) rfl rfl ?_
        refine a_off (i := 25) hok rfl rfl rfl rfl rfl (by kernel_rfl) rfl rfl ?_
        refine a_off (i := 26) hok rfl rfl rfl rfl rfl (by kernel_rfl) rfl rfl ?_
        refine a_off (i := 27) hok rfl rfl rfl rfl rfl (by kernel_rfl) rfl rfl ?_
        refine a_off (i := 28) hok rfl rfl rfl rfl rfl (by kernel_rfl) rfl rfl ?_
        refine a_off (i := 29) hok rfl rfl rfl rfl rfl (by kernel_rfl) rfl rfl ?_
        refine a_off (i := 30) hok rfl rfl rfl rfl rfl (by kernel_rfl) rfl rfl ?_
        refine a_off (i := 31) hok rfl rfl rfl rfl rfl (by kernel_rfl) rfl rfl ?_
        refine a_off (i := 32) hok rfl rfl rfl rfl rfl (by kernel_rfl) rfl rfl ?_
        refine a_off (i := 33) hok rfl rfl rfl rfl rfl (by kernel_rfl) rfl rfl ?_
        refine a_off (i := 34) hok rfl rfl rfl rfl rfl (by kernel_rfl) rfl rfl ?_
        refine a_off (i := 35) hok rfl rfl rfl rfl rfl (by kernel_rfl) rfl rfl ?_
        refine a_off (i := 36) hok rfl rfl rfl rfl rfl (by kernel_rfl) rfl rfl ?_
        refine a_off (i := 37) hok rfl rfl rfl rfl rfl (by kernel_rfl) rfl rfl ?_
        refine a_off (i := 38) hok rfl rfl rfl rfl rfl (by kernel_rfl) rfl rfl ?_
        refine a_off (i := 39) hok rfl rfl rfl rfl rfl (by kernel_rfl) rfl rfl ?_
        refine a_off (i := 40) hok rfl rfl rfl rfl rfl (by kernel_rfl) rfl rfl ?_
        refine a_off (i := 41) hok rfl rfl rfl rfl rfl (by kernel_rfl) rfl rfl ?_
        refine a_off (i := 42) hok rfl rfl rfl rfl rfl (by kernel_rfl) rfl rfl ?_
        refine a_off (i := 43) hok rfl rfl rfl rfl rfl (by kernel_rfl) rfl rfl ?_
        refine a_rd (i := 44) hok rfl (by kernel_rfl) rfl (r_pickT rfl rfl) rfl ?_
        refine a_fin hok (by kernel_rfl) ?_
        refine n_then ?_
        refine ref_condT rfl rfl ?_
        refine ref_seq (ref_region ?_)
        refine as1 rfl rfl ?_
        refine l_nil (n_then (ref_ret (r_block (r_then ?_))))
        refine retX ?_
        refine r_block (r_then ?_)
        exact fin1 (.inl rfl) () [0] rfl ⟨rfl, trivial⟩ rfl (rv_tmp rfl)
      refine a_rdOn (i := 16) hok rfl rfl rfl rfl (by kernel_rfl) rfl (r_faddr (fo := 1) Tryd.underlying57 rfl rfl Tryd.sizeOf3 rfl) rfl ?_
      refine a_rdOn (i := 17) hok rfl rfl rfl rfl (by kernel_rfl) rfl (r_cload Tryd.isAgg3 rfl (j := 4) rfl rfl) rfl ?_
      refine a_rdOn (i := 18) hok rfl rfl rfl rfl (by kernel_rfl) rfl (r_faddr (fo := 0) Tryd.underlying50 rfl rfl Tryd.sizeOf3 rfl) rfl ?_
      refine a_rdOn (i := 19) hok rfl rfl rfl rfl (by kernel_rfl) rfl (r_cload Tryd.isAgg3 rfl (j := 3) rfl rfl) rfl ?_
      refine a_rdOn (i := 20) hok rfl rfl rfl rfl (by kernel_rfl) rfl (r_geq rfl rfl) rfl ?_
      refine a_rd (i := 21) hok rfl (by kernel_rfl) rfl (r_pickF rfl rfl) rfl ?_
      refine a_rd (i := 22) hok rfl (by kernel_rfl) rfl (r_move rfl) rfl ?_
      refine b_split (t := 96) rfl (fun _ => ?_) (fun _ => ?_)
      · refine a_off (i := 23) hok rfl rfl rfl rfl rfl (by kernel_rfl) rfl rfl ?_
        refine a_off (i := 24) hok rfl rfl rfl rfl rfl (by kernel_rfl) rfl rfl ?_
        refine a_off (i := 25) hok rfl rfl rfl rfl rfl (by kernel_rfl) rfl rfl ?_
        refine a_off (i := 26) hok rfl rfl rfl rfl rfl (by kernel_rfl) rfl rfl ?_
        refine a_off (i := 27) hok rfl rfl rfl rfl rfl (by kernel_rfl) rfl rfl ?_
        refine a_off (i := 28) hok rfl rfl rfl rfl rfl (by kernel_rfl) rfl rfl ?_
        refine a_off (i := 29) hok rfl rfl rfl rfl rfl (by kernel_rfl) rfl rfl ?_
        refine a_off (i := 30) hok rfl rfl rfl rfl rfl (by kernel_rfl) rfl rfl ?_
        refine a_off (i := 31) hok rfl rfl rfl rfl rfl (by kernel_rfl) rfl rfl ?_
        refine a_off (i := 32) hok rfl rfl rfl rfl rfl (by kernel_rfl) rfl rfl ?_
        refine a_off (i := 33) hok rfl rfl rfl rfl rfl (by kernel_rfl) rfl rfl ?_
        refine a_off (i := 34) hok rfl rfl rfl rfl rfl (by kernel_rfl) rfl rfl ?_
        refine a_off (i := 35) hok rfl rfl rfl rfl rfl (by kernel_rfl) rfl rfl ?_
        refine a_off (i := 36) hok rfl rfl rfl rfl rfl (by kernel_rfl) rfl rfl ?_
        refine a_off (i := 37) hok rfl rfl rfl rfl rfl (by kernel_rfl) rfl rfl ?_
        refine a_off (i := 38) hok rfl rfl rfl rfl rfl (by kernel_rfl) rfl rfl ?_
        refine a_off (i := 39) hok rfl rfl rfl rfl rfl (by kernel_rfl) rfl rfl ?_
        refine a_off (i := 40) hok rfl rfl rfl rfl rfl (by kernel_rfl) rfl rfl ?_
        refine a_off (i := 41) hok rfl rfl rfl rfl rfl (by kernel_rfl) rfl rfl ?_
        refine a_off (i := 42) hok rfl rfl rfl rfl rfl (by kernel_rfl) rfl rfl ?_
        refine a_off (i := 43) hok rfl rfl rfl rfl rfl (by kernel_rfl) rfl rfl ?_
        refine a_rd (i := 44) hok rfl (by kernel_rfl) rfl (r_pickT rfl rfl) rfl ?_
        refine a_fin hok (by kernel_rfl) ?_
        refine n_then ?_
        refine ref_condT rfl rfl ?_
        refine ref_seq (ref_region ?_)
        refine as1 rfl rfl ?_
        refine l_nil (n_then (ref_ret (r_block (r_then ?_))))
        refine retX ?_
        refine r_block (r_then ?_)
        exact fin1 (.inl rfl) () [0] rfl ⟨rfl, trivial⟩ rfl (rv_tmp rfl)
      refine a_rdOn (i := 23) hok rfl rfl rfl rfl (by kernel_rfl) rfl (r_faddr (fo := 2) Tryd.underlying29 rfl rfl Tryd.sizeOf27 rfl) rfl ?_
      refine a_rdOn (i := 24) hok rfl rfl rfl rfl (by kernel_rfl) rfl (r_cload Tryd.isAgg27 rfl (j := 1) rfl rfl) rfl ?_
      refine a_rdOn (i := 25) hok rfl rfl rfl rfl (by kernel_rfl) rfl (r_move rfl) rfl ?_
      refine a_rdOn (i := 26) hok rfl rfl rfl rfl (by kernel_rfl) rfl (r_faddr (fo := 0) Tryd.underlying57 rfl rfl Tryd.sizeOf3 rfl) rfl ?_
      refine a_rdOn (i := 27) hok rfl rfl rfl rfl (by kernel_rfl) rfl (r_cload Tryd.isAgg3 rfl (j := 4) rfl rfl) rfl ?_
      refine pull fun t28 h_t28 => ?_
      refine a_rdOn (i := 28) hok rfl rfl rfl rfl (by kernel_rfl) rfl (r_oindex h_t28 Tryd.underlying22 el_3 rfl (j := 2) rfl rfl) rfl ?_
      refine a_rdOn (i := 29) hok rfl rfl rfl rfl (by kernel_rfl) rfl (r_oload h_t28 el_3 rfl (j := 2) rfl) rfl ?_
      refine pull fun t29 h_t29 => ?_
      refine a_rdOn (i := 30) hok rfl rfl rfl rfl (by kernel_rfl) rfl (r_index h_t29 Tryd.underlying27 el_39 rfl rfl) rfl ?_
      refine a_rdOn (i := 31) hok rfl rfl rfl rfl (by kernel_rfl) rfl (r_fea (fo := 2) (ρ := rT_api_Case) (y := t29) (ρ' := (rI .i64)) (z := t29.Winner) Tryd.underlying39 rfl rfl Tryd.sizeOf3 rfl rfl rfl) rfl ?_
      refine a_rdOn (i := 32) hok rfl rfl rfl rfl (by kernel_rfl) rfl (r_load el_3 rfl) rfl ?_
      refine a_rdOn (i := 33) hok rfl rfl rfl rfl (by kernel_rfl) rfl (r_faddr (fo := 2) Tryd.underlying29 rfl rfl Tryd.sizeOf27 rfl) rfl ?_
      refine a_rdOn (i := 34) hok rfl rfl rfl rfl (by kernel_rfl) rfl (r_cload Tryd.isAgg27 rfl (j := 1) rfl rfl) rfl ?_
      refine a_rdOn (i := 35) hok rfl rfl rfl rfl (by kernel_rfl) rfl (r_move rfl) rfl ?_
      refine a_rdOn (i := 36) hok rfl rfl rfl rfl (by kernel_rfl) rfl (r_faddr (fo := 1) Tryd.underlying57 rfl rfl Tryd.sizeOf3 rfl) rfl ?_
      refine a_rdOn (i := 37) hok rfl rfl rfl rfl (by kernel_rfl) rfl (r_cload Tryd.isAgg3 rfl (j := 4) rfl rfl) rfl ?_
      refine pull fun t30 h_t30 => ?_
      refine a_rdOn (i := 38) hok rfl rfl rfl rfl (by kernel_rfl) rfl (r_oindex h_t30 Tryd.underlying22 el_3 rfl (j := 2) rfl rfl) rfl ?_
      refine a_rdOn (i := 39) hok rfl rfl rfl rfl (by kernel_rfl) rfl (r_oload h_t30 el_3 rfl (j := 2) rfl) rfl ?_
      refine pull fun t31 h_t31 => ?_
      refine a_rdOn (i := 40) hok rfl rfl rfl rfl (by kernel_rfl) rfl (r_index h_t31 Tryd.underlying27 el_39 rfl rfl) rfl ?_
      refine a_rdOn (i := 41) hok rfl rfl rfl rfl (by kernel_rfl) rfl (r_fea (fo := 2) (ρ := rT_api_Case) (y := t31) (ρ' := (rI .i64)) (z := t31.Winner) Tryd.underlying39 rfl rfl Tryd.sizeOf3 rfl rfl rfl) rfl ?_
      refine a_rdOn (i := 42) hok rfl rfl rfl rfl (by kernel_rfl) rfl (r_load el_3 rfl) rfl ?_
      refine a_rdOn (i := 43) hok rfl rfl rfl rfl (by kernel_rfl) rfl (r_eql rfl rfl) rfl ?_
      refine a_rd (i := 44) hok rfl (by kernel_rfl) rfl (r_pickF rfl rfl) rfl ?_
      refine a_fin hok (by kernel_rfl) ?_
      refine n_then ?_
      refine ref_cond rfl (fun hb32 => ?_) (fun hb32 => ?_)
      · refine ref_seq (ref_region ?_)
        refine as1 rfl rfl ?_
        refine l_nil (n_then (ref_ret (r_block (r_then ?_))))
        refine retX ?_
        refine r_block (r_then ?_)
        exact fin1 (.inl rfl) () [0] rfl ⟨rfl, trivial⟩ rfl (rv_tmp rfl)
      refine ref_skip (n_block (n_then (ref_region ?_)))
      refine mv1 rfl rfl ?_
      refine s_rd (r_add rfl rfl) rfl ?_
      refine as1 rfl rfl ?_
      refine b_let (f := iv .i64) (t := 12) rfl fun i33 => ?_
      refine l_nil ?_
      exact goX () (weak [0, 1, 2, 3] ⟨rfl, rfl, rfl, rfl, rfl, rfl, trivial⟩ ⟨rfl, rfl, rfl, rfl, trivial⟩)
    refine ref_exit (x_then ?_)
    exact brkX () (weak [1, 2, 3, 0] ⟨rfl, rfl, rfl, rfl, rfl, trivial⟩ ⟨rfl, rfl, rfl, rfl, trivial⟩)
  refine n_then (ref_seq (ref_region ?_))
  refine s_rd (r_cloadS Tryd.isAgg50 Tryd.sizeOf50 rfl (j := 2) rfl rfl rfl) rfl ?_
  refine pull fun t36 h_t36 => ?_
  refine s_st (s_call (ψ := fun (x37 : (Value × List Nat) × (Value × List Nat)) => tup [pv x37.1.1, pv x37.2.1]) (args := [.tmp 120]) Tryd.call22 rfl (net_Grounded_ok h_t36) ⟨arg rfl, trivial⟩ (fun _ _ _ _ h => h)) rfl (fun x37 => ?_)
  refine mv1 rfl rfl ?_
  refine s_rd (r_extract rfl rfl) rfl ?_
  refine s_rd (r_extract rfl rfl) rfl ?_
  refine as1 rfl rfl ?_
  refine as1 rfl rfl ?_
  refine l_nil (n_then (ref_seq (ref_region ?_)))
  refine as1 rfl rfl ?_
  refine as1 rfl rfl ?_
  refine l_nil (n_then (ref_seq (ref_seq (ref_region ?_))))
  refine as1 rfl rfl ?_
  refine l_nil (n_then ?_)
  refine ref_loopX (f := (law38_PrecedentStands_l2 t3 t7 t36)) (Γl := (fun (s51 : Int × Int × Int) (x52 : Unit) => [(4, pv (ptr b4 0)), (6, pv x8.1), (7, pv (ptr b9 0)), (9, iv .i64 t10.1), (10, iv .i64 t10.2.1), (14, pv x37.1.1), (16, iv .i64 s51.1), (17, iv .i64 s51.2.1), (18, iv .i64 s51.2.2)])) (Ωl := (fun (s51 : Int × Int × Int) (x52 : Unit) => [tbO (rI .u8) 0 tab_0, oc b4 [slv rS t3.1.Sides.i0, slv rS t3.1.Sides.i1, slv rT_api_Case t3.1.Cases], oa (rI .i64) x8.1 x8.2 t7.1, oc b9 [iv .i64 t7.2.1.N, slv rT_api_Pair t7.2.1.L], oa (rI .i64) x37.1.1 x37.1.2 t36.1])) (Γb := (fun (q67 : Int × Int) (y68 : Unit) => [(9, iv .i64 t10.1), (10, iv .i64 t10.2.1), (16, iv .i64 q67.1), (17, iv .i64 q67.2)])) (Ωb := (fun (q67 : Int × Int) (y68 : Unit) => [tbO (rI .u8) 0 tab_0])) (kr := (fun a : Bool => some a)) (0, (-1), 0) () (weak [3, 0, 1, 2, 4] ⟨rfl, rfl, rfl, rfl, rfl, rfl, rfl, rfl, rfl, trivial⟩ ⟨rfl, rfl, rfl, rfl, rfl, trivial⟩) (fun s51 x52 => ?_) (fun q67 y68 => ?_)
  · unfold law38_PrecedentStands_l2
    refine ref_seq (ref_seq (ref_region ?_))
    refine mv1 rfl rfl ?_
    refine s_rd (r_faddr (fo := 0) Tryd.underlying50 rfl rfl Tryd.sizeOf3 rfl) rfl ?_
    refine s_rd (r_cload Tryd.isAgg3 rfl (j := 3) rfl rfl) rfl ?_
    refine s_rd (r_lss rfl rfl) rfl ?_
    refine l_nil (n_then ?_)
    refine ref_cond rfl (fun hb53 => ?_) (fun hb53 => ?_)
    · refine ref_skip (n_then (ref_seq (ref_block (ref_seq (ref_seq (ref_region ?_))))))
      refine mv1 rfl rfl ?_
      refine mv1 rfl rfl ?_
      refine pull fun t54 h_t54 => ?_
      refine s_rd (r_oindex h_t54 Tryd.underlying22 el_3 rfl (j := 4) rfl rfl) rfl ?_
      refine s_rd (r_oload h_t54 el_3 rfl (j := 4) rfl) rfl ?_
      refine s_rd (r_neq rfl rfl) rfl ?_
      refine l_nil (n_then ?_)
      refine ref_cond rfl (fun hb55 => ?_) (fun hb55 => ?_)
      · refine ref_exit (x_then (x_eq (n_then (ref_region ?_))))
        refine mv1 rfl rfl ?_
        refine s_rd (r_add rfl rfl) rfl ?_
        refine as1 rfl rfl ?_
        refine b_let (f := iv .i64) (t := 18) rfl fun i64x => ?_
        refine l_nil ?_
        exact goX () (weak [0, 1, 2, 3, 4] ⟨rfl, rfl, rfl, rfl, rfl, rfl, rfl, rfl, rfl, trivial⟩ ⟨rfl, rfl, rfl, rfl, rfl, trivial⟩)
      refine ref_skip (n_then (ref_seq ?_))
      refine ref_draw [0, 1, 2, 3, 4, 5, 6, 7, 8] rfl (by kernel_rfl) (fun hok => ?_)
      refine a_rd (i := 0) hok rfl (by kernel_rfl) rfl (r_faddr (fo := 2) Tryd.underlying29 rfl rfl Tryd.sizeOf27 rfl) rfl ?_
      refine a_rd (i := 1) hok rfl (by kernel_rfl) rfl (r_cload Tryd.isAgg27 rfl (j := 1) rfl rfl) rfl ?_
      refine a_rd (i := 2) hok rfl (by kernel_rfl) rfl (r_move rfl) rfl ?_
      refine a_rd (i := 3) hok rfl (by kernel_rfl) rfl (r_move rfl) rfl ?_
      refine pull fun t56 h_t56 => ?_
      refine a_rd (i := 4) hok rfl (by kernel_rfl) rfl (r_oindex h_t56 Tryd.underlying22 el_3 rfl (j := 2) rfl rfl) rfl ?_
      refine a_rd (i := 5) hok rfl (by kernel_rfl) rfl (r_oload h_t56 el_3 rfl (j := 2) rfl) rfl ?_
      refine pull fun t57 h_t57 => ?_
      refine a_rd (i := 6) hok rfl (by kernel_rfl) rfl (r_index h_t57 Tryd.underlying27 el_39 rfl rfl) rfl ?_
      refine a_rd (i := 7) hok rfl (by kernel_rfl) rfl (r_fea (fo := 2) (ρ := rT_api_Case) (y := t57) (ρ' := (rI .i64)) (z := t57.Winner) Tryd.underlying39 rfl rfl Tryd.sizeOf3 rfl rfl rfl) rfl ?_
      refine a_rd (i := 8) hok rfl (by kernel_rfl) rfl (r_load el_3 rfl) rfl ?_
      refine a_next hok 9 [] (by kernel_rfl) ?_ trivial
      refine a_st (i := 9) hok rfl rfl (St.ofRd (r_assign rfl)) (by intro _ h; cases h; rfl) (fun _ => ⟨trivial, ⟨trivial, ⟨trivial, ⟨trivial, ⟨trivial, ⟨trivial, ⟨trivial, ⟨trivial, ⟨trivial, trivial⟩⟩⟩⟩⟩⟩⟩⟩⟩) (fun _ => ?_)
      refine a_fin hok (by kernel_rfl) ?_
      refine n_then (ref_seq ?_)
      refine ref_join (fun (j59 : Unit) (x60 : Unit) => [(4, pv (ptr b4 0)), (6, pv x8.1), (7, pv (ptr b9 0)), (9, iv .i64 t10.1), (10, iv .i64 t10.2.1), (14, pv x37.1.1), (16, iv .i64 s51.1), (17, iv .i64 s51.2.1), (18, iv .i64 s51.2.2), (19, iv .i64 t57.Winner)]) (fun (j59 : Unit) (x60 : Unit) => [oc b4 [slv rS t3.1.Sides.i0, slv rS t3.1.Sides.i1, slv rT_api_Case t3.1.Cases], oa (rI .i64) x8.1 x8.2 t7.1, oc b9 [iv .i64 t7.2.1.N, slv rT_api_Pair t7.2.1.L], oa (rI .i64) x37.1.1 x37.1.2 t36.1, tbO (rI .u8) 0 tab_0]) (fun k61 hk61 => ?_) (fun j59 x60 => ?_)
      · refine ref_seq (ref_region ?_)
        refine mv1 rfl rfl ?_
        refine s_rd (r_neq rfl rfl) rfl ?_
        refine mv1 rfl rfl ?_
        refine b_split (t := 146) rfl (fun _ => ?_) (fun _ => ?_)
        · refine s_on rfl rfl rfl ?_
          refine mv1 rfl rfl ?_
          refine s_on rfl rfl rfl ?_
          refine mv1 rfl rfl ?_
          refine s_on rfl rfl rfl ?_
          refine s_rd (r_neq rfl rfl) rfl ?_
          refine s_rd (r_pickT rfl rfl) rfl ?_
          refine l_nil (n_then ?_)
          refine ref_cond rfl (fun hb58 => ?_) (fun hb58 => ?_)
          · refine ref_seq (ref_region ?_)
            refine as1 rfl rfl ?_
            refine l_nil (n_then (ref_ret (r_then (r_block (r_then ?_)))))
            refine retX ?_
            refine r_block (r_then ?_)
            exact fin1 (.inl rfl) () [0] rfl ⟨rfl, trivial⟩ rfl (rv_tmp rfl)
          refine ref_skip ?_
          exact b_to (hk61 () ()) (weak [1, 2, 3, 4, 0] ⟨rfl, rfl, rfl, rfl, rfl, rfl, rfl, rfl, rfl, rfl, trivial⟩ ⟨rfl, rfl, rfl, rfl, rfl, trivial⟩)
        refine s_off rfl rfl rfl rfl rfl ?_
        refine s_off rfl rfl rfl rfl rfl ?_
        refine s_off rfl rfl rfl rfl rfl ?_
        refine s_rd (r_pickF rfl rfl) rfl ?_
        refine l_nil (n_then ?_)
        refine ref_condF rfl rfl ?_
        refine ref_skip ?_
        exact b_to (hk61 () ()) (weak [1, 2, 3, 4, 0] ⟨rfl, rfl, rfl, rfl, rfl, rfl, rfl, rfl, rfl, rfl, trivial⟩ ⟨rfl, rfl, rfl, rfl, rfl, trivial⟩)
      refine n_then (ref_seq (ref_region ?_))
      refine mv1 rfl rfl ?_
      refine s_rd (r_eql rfl rfl) rfl ?_
      refine l_nil (n_then ?_)
      refine ref_cond rfl (fun hb62 => ?_) (fun hb62 => ?_)
      · refine ref_draw [0, 1, 2, 3, 4] rfl (by kernel_rfl) (fun hok => ?_)
        refine a_rd (i := 0) hok rfl (by kernel_rfl) rfl (r_move rfl) rfl ?_
        refine a_rd (i := 1) hok rfl (by kernel_rfl) rfl (r_move rfl) rfl ?_
        refine a_rd (i := 2) hok rfl (by kernel_rfl) rfl (r_move rfl) rfl ?_
        refine pull fun first63 h_first63 => ?_
        refine a_rd (i := 3) hok rfl (by kernel_rfl) rfl (r_oindex h_first63 Tryd.underlying22 el_3 rfl (j := 1) rfl rfl) rfl ?_
        refine a_rd (i := 4) hok rfl (by kernel_rfl) rfl (r_oload h_first63 el_3 rfl (j := 1) rfl) rfl ?_
        refine a_next hok 5 [] (by kernel_rfl) ?_ trivial
        refine a_st (i := 5) hok rfl rfl (St.ofRd (r_assign rfl)) (by intro _ h; cases h; rfl) (fun _ => ⟨⟨⟨rfl, rfl⟩, trivial⟩, ⟨trivial, ⟨trivial, ⟨trivial, ⟨trivial, trivial⟩⟩⟩⟩⟩) (fun _ => ?_)
        refine a_next hok 6 [] (by kernel_rfl) ?_ trivial
        refine a_st (i := 6) hok rfl rfl (St.ofRd (r_assign rfl)) (by intro _ h; cases h; rfl) (fun _ => ⟨trivial, ⟨trivial, ⟨trivial, ⟨trivial, ⟨trivial, trivial⟩⟩⟩⟩⟩) (fun _ => ?_)
        refine a_fin hok (by kernel_rfl) ?_
        refine n_block (n_then (ref_region ?_))
        refine mv1 rfl rfl ?_
        refine s_rd (r_add rfl rfl) rfl ?_
        refine as1 rfl rfl ?_
        refine b_let (f := iv .i64) (t := 18) rfl fun i65 => ?_
        refine l_nil ?_
        exact goX () (weak [4, 0, 1, 2, 3] ⟨rfl, rfl, rfl, rfl, rfl, rfl, rfl, rfl, rfl, trivial⟩ ⟨rfl, rfl, rfl, rfl, rfl, trivial⟩)
      refine ref_skip (n_block (n_then (ref_region ?_)))
      refine mv1 rfl rfl ?_
      refine s_rd (r_add rfl rfl) rfl ?_
      refine as1 rfl rfl ?_
      refine b_let (f := iv .i64) (t := 18) rfl fun i66 => ?_
      refine l_nil ?_
      exact goX () (weak [4, 0, 1, 2, 3] ⟨rfl, rfl, rfl, rfl, rfl, rfl, rfl, rfl, rfl, trivial⟩ ⟨rfl, rfl, rfl, rfl, rfl, trivial⟩)
    refine ref_exit (x_then ?_)
    exact brkX () (weak [0] ⟨rfl, rfl, rfl, rfl, trivial⟩ ⟨rfl, trivial⟩)
  refine n_then (ref_seq (ref_region ?_))
  refine mv1 rfl rfl ?_
  refine mv1 rfl rfl ?_
  refine s_rd (r_eql rfl rfl) rfl ?_
  refine mv1 rfl rfl ?_
  refine b_split (t := 161) rfl (fun _ => ?_) (fun _ => ?_)
  · refine s_on rfl rfl rfl ?_
    refine mv1 rfl rfl ?_
    refine s_on rfl rfl rfl ?_
    refine mv1 rfl rfl ?_
    refine s_on rfl rfl rfl ?_
    refine s_rd (r_eql rfl rfl) rfl ?_
    refine s_rd (r_pickT rfl rfl) rfl ?_
    refine mv1 rfl rfl ?_
    refine b_split (t := 166) rfl (fun _ => ?_) (fun _ => ?_)
    · refine s_on rfl rfl rfl ?_
      refine pull fun t69 h_t69 => ?_
      refine s_st (s_callC [0] [true] (fun (_ : Unit) => [tbO (rI .u8) 0 tab_0]) (fun (_ : Unit) => []) (fun (_ : Unit) => bv t69) (args := []) (caps := []) Tryd.call15 rfl (law38_awake_ok h_t69) ⟨rfl, rfl, trivial⟩ (fun _ => rfl) (fun _ => trivial) (fun _ => rfl) trivial (fun _ _ _ _ h => h)) rfl (fun _ => ?_)
      refine s_rd (r_pickT rfl rfl) rfl ?_
      refine as1 rfl rfl ?_
      refine l_nil (n_then (ref_ret ?_))
      exact fin1 (.inl rfl) () [0] rfl ⟨rfl, trivial⟩ rfl (rv_tmp rfl)
    refine s_off rfl rfl rfl rfl rfl ?_
    refine s_rd (r_pickF rfl rfl) rfl ?_
    refine as1 rfl rfl ?_
    refine l_nil (n_then (ref_ret ?_))
    exact fin1 (.inl rfl) () [0] rfl ⟨rfl, trivial⟩ rfl (rv_tmp rfl)
  refine s_off rfl rfl rfl rfl rfl ?_
  refine s_off rfl rfl rfl rfl rfl ?_
  refine s_off rfl rfl rfl rfl rfl ?_
  refine s_rd (r_pickF rfl rfl) rfl ?_
  refine mv1 rfl rfl ?_
  refine s_off rfl rfl rfl rfl rfl ?_
  refine s_rd (r_pickF rfl rfl) rfl ?_
  refine as1 rfl rfl ?_
  refine l_nil (n_then (ref_ret ?_))
  exact fin1 (.inl rfl) () [0] rfl ⟨rfl, trivial⟩ rfl (rv_tmp rfl)

/-! deliberation/precedent.Conflict -/
noncomputable def precedent_Conflict_l2 (l_0 : T_api_Library) (s33 : Int) (t36 : T_api_Case) (s49 : Int) : Option (Sum ((Sum (Int × Int × Bool) (Unit))) (Int)) :=
  bif decide (s49 < (l_0.Cases.length : Int)) then
    Option.bind (idxM l_0.Cases s49) fun t52 =>
    joinM (fun j56 : Bool =>
        bif j56 then
          some (Sum.inl (Sum.inl (s33, s49, true)))
        else
          some (Sum.inr (iadd .i64 s49 1))) fun k58 =>
    bif t36.Winner == 1 then
      bif t52.Winner == 2 then
        Option.bind (precedent_within_m t36.Reason t52.Facts) fun t54 =>
        bif t54 then
          Option.bind (precedent_within_m t52.Reason t36.Facts) fun t55 =>
          k58 t55
        else
          k58 false
      else
        k58 false
    else
      k58 false
  else
    some (Sum.inl (Sum.inr ()))

noncomputable def precedent_Conflict_l1 (l_0 : T_api_Library) (s33 : Int) : Option (Sum ((Sum (Int × Int × Bool) (Unit))) (Int)) :=
  bif decide (s33 < (l_0.Cases.length : Int)) then
    Option.bind (idxM l_0.Cases s33) fun t36 =>
    Option.bind (loopC (precedent_Conflict_l2 l_0 s33 t36) 0) (sumK (fun a : Int × Int × Bool => some (Sum.inl (Sum.inl a))) fun q60 : Unit =>
      some (Sum.inr (iadd .i64 s33 1)))
  else
    some (Sum.inl (Sum.inr ()))

noncomputable def precedent_Conflict_m (l_0 : T_api_Library) : Option (Int × Int × Bool) :=
  Option.bind (precedent_Validate_m l_0) fun t2 =>
  bif t2 != 0 then
    some (0, 0, false)
  else
    Option.bind (loopC (precedent_Conflict_l1 l_0) 0) (sumK (fun a : Int × Int × Bool => some a) fun q62 : Unit =>
      some (0, 0, false))

theorem precedent_Conflict_ok {l_0 : T_api_Library} {r : Int × Int × Bool} (hm : precedent_Conflict_m l_0 = some r) :
    FnOk prog 23 [ag [slv rS l_0.Sides.i0, slv rS l_0.Sides.i1, slv rT_api_Case l_0.Cases]] [] (fun (x : Unit) => [iv .i64 r.1, iv .i64 r.2.1, bv r.2.2]) (fun (x : Unit) => []) := by
  refine fn_ok (fn := Tryd.f23) (N := 54) (res := fun r x => [iv .i64 r.1, iv .i64 r.2.1, bv r.2.2]) (Ω1 := fun r x => []) Tryd.func23 rfl rfl hm rfl (fun E hM => ?_)
  unfold precedent_Conflict_m
  refine ref_seq (ref_region ?_)
  refine s_st (s_box (part_agO (ψs := [slv rS l_0.Sides.i0, slv rS l_0.Sides.i1, slv rT_api_Case l_0.Cases]) rfl ⟨.inl slv_at, .inl slv_at, .inl slv_at, trivial⟩)) rfl (fun b1 => ?_)
  refine as1 rfl rfl ?_
  refine as1 rfl rfl ?_
  refine as1 rfl rfl ?_
  refine l_nil (n_then (ref_seq (ref_seq (ref_region ?_))))
  refine s_rd (r_cloadS Tryd.isAgg29 Tryd.sizeOf29 rfl (j := 0) rfl rfl rfl) rfl ?_
  refine pull fun t2 h_t2 => ?_
  refine s_st (s_call (ψ := fun (_ : Unit) => iv .i64 t2) (args := [.tmp 9]) Tryd.call31 rfl (precedent_Validate_ok h_t2) ⟨arg rfl, trivial⟩ (fun _ _ _ _ h => h)) rfl (fun _ => ?_)
  refine s_rd (r_neq rfl rfl) rfl ?_
  refine l_nil (n_then ?_)
  refine ref_cond rfl (fun hb3 => ?_) (fun hb3 => ?_)
  · refine ref_seq (ref_region ?_)
    refine as1 rfl rfl ?_
    refine as1 rfl rfl ?_
    refine as1 rfl rfl ?_
    refine l_nil (n_then (ref_ret (r_then ?_)))
    exact fin3 (.inl rfl) () [] rfl trivial rfl (rv_tmp rfl) (rv_tmp rfl) (rv_tmp rfl)
  refine ref_skip (n_then (ref_seq (ref_seq (ref_region ?_))))
  refine s_rd (r_faddr (fo := 2) Tryd.underlying29 rfl rfl Tryd.sizeOf27 rfl) rfl ?_
  refine s_rd (r_cload Tryd.isAgg27 rfl (j := 0) rfl rfl) rfl ?_
  refine s_rd (r_len Tryd.underlying27 rfl) rfl ?_
  refine mv1 rfl rfl ?_
  refine l_nil (n_then ?_)
  refine ref_loopX (f := (precedent_Conflict_l1 l_0)) (Γl := (fun (s33 : Int) (x34 : Unit) => [(1, pv (ptr b1 0)), (13, slv rT_api_Case l_0.Cases), (14, iv .i64 (l_0.Cases.length : Int)), (15, iv .i64 s33)])) (Ωl := (fun (s33 : Int) (x34 : Unit) => [oc b1 [slv rS l_0.Sides.i0, slv rS l_0.Sides.i1, slv rT_api_Case l_0.Cases]])) (Γb := (fun (q62 : Unit) (y63 : Unit) => [])) (Ωb := (fun (q62 : Unit) (y63 : Unit) => [])) (kr := (fun a : Int × Int × Bool => some a)) 0 () (weak [0] ⟨rfl, rfl, rfl, rfl, trivial⟩ ⟨rfl, trivial⟩) (fun s33 x34 => ?_) (fun q62 y63 => ?_)
  · unfold precedent_Conflict_l1
    refine ref_seq (ref_region ?_)
    refine s_rd (r_lss rfl rfl) rfl ?_
    refine l_nil (n_then (ref_seq ?_))
    refine ref_cond rfl (fun hb35 => ?_) (fun hb35 => ?_)
    · refine ref_skip (n_then (ref_seq (ref_block (ref_seq (ref_region ?_)))))
      refine mv1 rfl rfl ?_
      refine pull fun t36 h_t36 => ?_
      refine s_rd (r_index h_t36 Tryd.underlying27 el_39 rfl rfl) rfl ?_
      refine s_rd (r_load el_39 rfl) rfl ?_
      refine s_st (s_alloc zt_39) rfl (fun b37 => ?_)
      refine as1 rfl rfl ?_
      refine s_st0 (s_cstore (out := [sv t36.Name, slv rS t36.Facts, iv .i64 t36.Winner, slv rS t36.Reason]) Tryd.sizeOf39 rfl (j := 1) rfl (part_agO (ψs := [sv t36.Name, slv rS t36.Facts, iv .i64 t36.Winner, slv rS t36.Reason]) rfl ⟨.inl sv_at, .inl slv_at, .inl iv_at, .inl slv_at, trivial⟩) rfl rfl rfl) (fun _ => ?_)
      refine l_nil ?_
      refine b_of (nrm [oc b1 [slv rS l_0.Sides.i0, slv rS l_0.Sides.i1, slv rT_api_Case l_0.Cases], oc b37 [sv t36.Name, slv rS t36.Facts, iv .i64 t36.Winner, slv rS t36.Reason]] rfl) ?_
      refine n_then (ref_seq (ref_region ?_))
      refine s_rd (r_faddr (fo := 2) Tryd.underlying29 rfl rfl Tryd.sizeOf27 rfl) rfl ?_
      refine s_rd (r_cload Tryd.isAgg27 rfl (j := 0) rfl rfl) rfl ?_
      refine s_rd (r_len Tryd.underlying27 rfl) rfl ?_
      refine mv1 rfl rfl ?_
      refine l_nil (n_then ?_)
      refine ref_loopX (f := (precedent_Conflict_l2 l_0 s33 t36)) (Γl := (fun (s49 : Int) (x50 : Unit) => [(1, pv (ptr b1 0)), (5, iv .i64 s33), (6, pv (ptr b37 0)), (13, slv rT_api_Case l_0.Cases), (14, iv .i64 (l_0.Cases.length : Int)), (15, iv .i64 s33), (21, slv rT_api_Case l_0.Cases), (22, iv .i64 (l_0.Cases.length : Int)), (23, iv .i64 s49)])) (Ωl := (fun (s49 : Int) (x50 : Unit) => [oc b1 [slv rS l_0.Sides.i0, slv rS l_0.Sides.i1, slv rT_api_Case l_0.Cases], oc b37 [sv t36.Name, slv rS t36.Facts, iv .i64 t36.Winner, slv rS t36.Reason]])) (Γb := (fun (q60 : Unit) (y61 : Unit) => [(1, pv (ptr b1 0)), (13, slv rT_api_Case l_0.Cases), (14, iv .i64 (l_0.Cases.length : Int)), (15, iv .i64 s33)])) (Ωb := (fun (q60 : Unit) (y61 : Unit) => [oc b1 [slv rS l_0.Sides.i0, slv rS l_0.Sides.i1, slv rT_api_Case l_0.Cases]])) (kr := (fun a : Int × Int × Bool => some (Sum.inl (Sum.inl a)))) 0 () (weak [0, 1] ⟨rfl, rfl, rfl, rfl, rfl, rfl, rfl, rfl, rfl, trivial⟩ ⟨rfl, rfl, trivial⟩) (fun s49 x50 => ?_) (fun q60 y61 => ?_)
      · unfold precedent_Conflict_l2
        refine ref_seq (ref_region ?_)
        refine s_rd (r_lss rfl rfl) rfl ?_
        refine l_nil (n_then (ref_seq ?_))
        refine ref_cond rfl (fun hb51 => ?_) (fun hb51 => ?_)
        · refine ref_skip (n_then (ref_seq (ref_block (ref_seq (ref_region ?_)))))
          refine mv1 rfl rfl ?_
          refine pull fun t52 h_t52 => ?_
          refine s_rd (r_index h_t52 Tryd.underlying27 el_39 rfl rfl) rfl ?_
          refine s_rd (r_load el_39 rfl) rfl ?_
          refine s_st (s_alloc zt_39) rfl (fun b53 => ?_)
          refine as1 rfl rfl ?_
          refine s_st0 (s_cstore (out := [sv t52.Name, slv rS t52.Facts, iv .i64 t52.Winner, slv rS t52.Reason]) Tryd.sizeOf39 rfl (j := 2) rfl (part_agO (ψs := [sv t52.Name, slv rS t52.Facts, iv .i64 t52.Winner, slv rS t52.Reason]) rfl ⟨.inl sv_at, .inl slv_at, .inl iv_at, .inl slv_at, trivial⟩) rfl rfl rfl) (fun _ => ?_)
          refine l_nil (n_then (ref_seq ?_))
          refine ref_join (fun (j56 : Bool) (x57 : Unit) => [(1, pv (ptr b1 0)), (5, iv .i64 s33), (6, pv (ptr b37 0)), (7, iv .i64 s49), (13, slv rT_api_Case l_0.Cases), (14, iv .i64 (l_0.Cases.length : Int)), (15, iv .i64 s33), (21, slv rT_api_Case l_0.Cases), (22, iv .i64 (l_0.Cases.length : Int)), (23, iv .i64 s49), (49, bv j56)]) (fun (j56 : Bool) (x57 : Unit) => [oc b1 [slv rS l_0.Sides.i0, slv rS l_0.Sides.i1, slv rT_api_Case l_0.Cases], oc b37 [sv t36.Name, slv rS t36.Facts, iv .i64 t36.Winner, slv rS t36.Reason]]) (fun k58 hk58 => ?_) (fun j56 x57 => ?_)
          · refine ref_region ?_
            refine s_rd (r_faddr (fo := 2) Tryd.underlying39 rfl rfl Tryd.sizeOf3 rfl) rfl ?_
            refine s_rd (r_cload Tryd.isAgg3 rfl (j := 1) rfl rfl) rfl ?_
            refine s_rd (r_eql rfl rfl) rfl ?_
            refine mv1 rfl rfl ?_
            refine b_split (t := 31) rfl (fun _ => ?_) (fun _ => ?_)
            · refine s_on rfl rfl rfl ?_
              refine s_rd (r_faddr (fo := 2) Tryd.underlying39 rfl rfl Tryd.sizeOf3 rfl) rfl ?_
              refine s_on rfl rfl rfl ?_
              refine s_rd (r_cload Tryd.isAgg3 rfl (j := 2) rfl rfl) rfl ?_
              refine s_on rfl rfl rfl ?_
              refine s_rd (r_eql rfl rfl) rfl ?_
              refine s_rd (r_pickT rfl rfl) rfl ?_
              refine mv1 rfl rfl ?_
              refine b_split (t := 36) rfl (fun _ => ?_) (fun _ => ?_)
              · refine s_on rfl rfl rfl ?_
                refine s_rd (r_faddr (fo := 3) Tryd.underlying39 rfl rfl Tryd.sizeOf25 rfl) rfl ?_
                refine s_on rfl rfl rfl ?_
                refine s_rd (r_cload Tryd.isAgg25 rfl (j := 1) rfl rfl) rfl ?_
                refine s_on rfl rfl rfl ?_
                refine s_rd (r_faddr (fo := 1) Tryd.underlying39 rfl rfl Tryd.sizeOf25 rfl) rfl ?_
                refine s_on rfl rfl rfl ?_
                refine s_rd (r_cload Tryd.isAgg25 rfl (j := 2) rfl rfl) rfl ?_
                refine s_on rfl rfl rfl ?_
                refine pull fun t54 h_t54 => ?_
                refine s_st (s_call (ψ := fun (_ : Unit) => bv t54) (args := [.tmp 38, .tmp 40]) Tryd.call42 rfl (precedent_within_ok h_t54) ⟨arg rfl, arg rfl, trivial⟩ (fun _ _ _ _ h => h)) rfl (fun _ => ?_)
                refine s_rd (r_pickT rfl rfl) rfl ?_
                refine mv1 rfl rfl ?_
                refine b_split (t := 43) rfl (fun _ => ?_) (fun _ => ?_)
                · refine s_on rfl rfl rfl ?_
                  refine s_rd (r_faddr (fo := 3) Tryd.underlying39 rfl rfl Tryd.sizeOf25 rfl) rfl ?_
                  refine s_on rfl rfl rfl ?_
                  refine s_rd (r_cload Tryd.isAgg25 rfl (j := 2) rfl rfl) rfl ?_
                  refine s_on rfl rfl rfl ?_
                  refine s_rd (r_faddr (fo := 1) Tryd.underlying39 rfl rfl Tryd.sizeOf25 rfl) rfl ?_
                  refine s_on rfl rfl rfl ?_
                  refine s_rd (r_cload Tryd.isAgg25 rfl (j := 1) rfl rfl) rfl ?_
                  refine s_on rfl rfl rfl ?_
                  refine pull fun t55 h_t55 => ?_
                  refine s_st (s_call (ψ := fun (_ : Unit) => bv t55) (args := [.tmp 45, .tmp 47]) Tryd.call42 rfl (precedent_within_ok h_t55) ⟨arg rfl, arg rfl, trivial⟩ (fun _ _ _ _ h => h)) rfl (fun _ => ?_)
                  refine s_rd (r_pickT rfl rfl) rfl ?_
                  refine l_nil ?_
                  refine b_of (nrm [oc b1 [slv rS l_0.Sides.i0, slv rS l_0.Sides.i1, slv rT_api_Case l_0.Cases], oc b37 [sv t36.Name, slv rS t36.Facts, iv .i64 t36.Winner, slv rS t36.Reason], oc b53 [sv t52.Name, slv rS t52.Facts, iv .i64 t52.Winner, slv rS t52.Reason]] rfl) ?_
                  exact b_to (hk58 t55 ()) (weak [0, 1] ⟨rfl, rfl, rfl, rfl, rfl, rfl, rfl, rfl, rfl, rfl, rfl, trivial⟩ ⟨rfl, rfl, trivial⟩)
                refine s_off rfl rfl rfl rfl rfl ?_
                refine s_off rfl rfl rfl rfl rfl ?_
                refine s_off rfl rfl rfl rfl rfl ?_
                refine s_off rfl rfl rfl rfl rfl ?_
                refine s_off rfl rfl rfl rfl rfl ?_
                refine s_rd (r_pickF rfl rfl) rfl ?_
                refine l_nil ?_
                exact b_to (hk58 false ()) (weak [0, 1] ⟨rfl, rfl, rfl, rfl, rfl, rfl, rfl, rfl, rfl, rfl, rfl, trivial⟩ ⟨rfl, rfl, trivial⟩)
              refine s_off rfl rfl rfl rfl rfl ?_
              refine s_off rfl rfl rfl rfl rfl ?_
              refine s_off rfl rfl rfl rfl rfl ?_
              refine s_off rfl rfl rfl rfl rfl ?_
              refine s_off rfl rfl rfl rfl rfl ?_
              refine s_rd (r_pickF rfl rfl) rfl ?_
              refine mv1 rfl rfl ?_
              refine s_off rfl rfl rfl rfl rfl ?_
              refine s_off rfl rfl rfl rfl rfl ?_
              refine s_off rfl rfl rfl rfl rfl ?_
              refine s_off rfl rfl rfl rfl rfl ?_
              refine s_off rfl rfl rfl rfl rfl ?_
              refine s_rd (r_pickF rfl rfl) rfl ?_
              refine l_nil ?_
              exact b_to (hk58 false ()) (weak [0, 1] ⟨rfl, rfl, rfl, rfl, rfl, rfl, rfl, rfl, rfl, rfl, rfl, trivial⟩ ⟨rfl, rfl, trivial⟩)
            refine s_off rfl rfl rfl rfl rfl ?_
            refine s_off rfl rfl rfl rfl rfl ?_
            refine s_off rfl rfl rfl rfl rfl ?_
            refine s_rd (r_pickF rfl rfl) rfl ?_
            refine mv1 rfl rfl ?_
            refine s_off rfl rfl rfl rfl rfl ?_
            refine s_off rfl rfl rfl rfl rfl ?_
            refine s_off rfl rfl rfl rfl rfl ?_
            refine s_off rfl rfl rfl rfl rfl ?_
            refine s_off rfl rfl rfl rfl rfl ?_
            refine s_rd (r_pickF rfl rfl) rfl ?_
            refine mv1 rfl rfl ?_
            refine s_off rfl rfl rfl rfl rfl ?_
            refine s_off rfl rfl rfl rfl rfl ?_
            refine s_off rfl rfl rfl rfl rfl ?_
            refine s_off rfl rfl rfl rfl rfl ?_
            refine s_off rfl rfl rfl rfl rfl ?_
            refine s_rd (r_pickF rfl rfl) rfl ?_
            refine l_nil ?_
            exact b_to (hk58 false ()) (weak [0, 1] ⟨rfl, rfl, rfl, rfl, rfl, rfl, rfl, rfl, rfl, rfl, rfl, trivial⟩ ⟨rfl, rfl, trivial⟩)
          refine n_then ?_
          refine ref_cond rfl (fun hb59 => ?_) (fun hb59 => ?_)
          · refine ref_seq (ref_region ?_)
            refine mv1 rfl rfl ?_
            refine mv1 rfl rfl ?_
            refine as1 rfl rfl ?_
            refine as1 rfl rfl ?_
            refine as1 rfl rfl ?_
            refine l_nil (n_then (ref_ret (r_block (r_then ?_))))
            refine retX ?_
            refine r_block (r_block (r_then ?_))
            refine retX ?_
            refine r_block (r_then ?_)
            exact fin3 (.inl rfl) () [] rfl trivial rfl (rv_tmp rfl) (rv_tmp rfl) (rv_tmp rfl)
          refine ref_skip (n_block (n_then (ref_region ?_)))
          refine s_rd (r_add rfl rfl) rfl ?_
          refine mv1 rfl rfl ?_
          refine l_nil ?_
          exact goX () (weak [0, 1] ⟨rfl, rfl, rfl, rfl, rfl, rfl, rfl, rfl, rfl, trivial⟩ ⟨rfl, rfl, trivial⟩)
        refine ref_exit (x_then ?_)
        exact brkX () (weak [0] ⟨rfl, rfl, rfl, rfl, trivial⟩ ⟨rfl, trivial⟩)
      refine n_block (n_then (ref_region ?_))
      refine s_rd (r_add rfl rfl) rfl ?_
      refine mv1 rfl rfl ?_
      refine l_nil ?_
      exact goX () (weak [0] ⟨rfl, rfl, rfl, rfl, trivial⟩ ⟨rfl, trivial⟩)
    refine ref_exit (x_then ?_)
    exact brkX () (weak [] trivial trivial)
  refine n_then (ref_seq (ref_region ?_))
  refine as1 rfl rfl ?_
  refine as1 rfl rfl ?_
  refine as1 rfl rfl ?_
  refine l_nil (n_then (ref_ret ?_))
  exact fin3 (.inl rfl) () [] rfl trivial rfl (rv_tmp rfl) (rv_tmp rfl) (rv_tmp rfl)

/-! deliberation/deliberationlaw38.PrecedentConsistent -/
noncomputable def law38_PrecedentConsistent_l2 (s39 : Bool × Int) (s58 : Int × (List ByteArray)) : Option (Sum ((List ByteArray)) (Int × (List ByteArray))) :=
  bif decide (s58.1 < ([(ByteArray.mk #[97]), (ByteArray.mk #[98]), (ByteArray.mk #[99]), (ByteArray.mk #[120]), (ByteArray.mk #[121]), (ByteArray.mk #[122])].length : Int)) then
    Option.bind (idxM [(ByteArray.mk #[97]), (ByteArray.mk #[98]), (ByteArray.mk #[99]), (ByteArray.mk #[120]), (ByteArray.mk #[121]), (ByteArray.mk #[122])] s58.1) fun x61 =>
    Option.bind (ishrM .i64 s39.2 (IntKind.wrap .u64 s58.1)) fun t62 =>
    bif (iand .i64 t62 1) == 1 then
      Option.bind (appM 16 s58.2 [x61]) fun f64 =>
      some (Sum.inr (iadd .i64 s58.1 1, f64))
    else
      some (Sum.inr (iadd .i64 s58.1 1, s58.2))
  else
    some (Sum.inl s58.2)

noncomputable def law38_PrecedentConsistent_l1 (t3 : T_api_Library × T_deliberationkeep_Src) (s39 : Bool × Int) : Option (Sum ((Sum (Bool) (Bool))) (Bool × Int)) :=
  bif decide (s39.2 < 64) then
    Option.bind (loopC (law38_PrecedentConsistent_l2 s39) (0, [])) fun q66 : (List ByteArray) =>
    Option.bind (precedent_Reasons_m t3.1 q66) fun t68 =>
    bif t68.2 != 0 then
      some (Sum.inl (Sum.inl false))
    else
      bif s39.1 then
        letM (iadd .i64 s39.2 1) fun bits72 =>
        some (Sum.inr (true, bits72))
      else
        bif decide ((t68.1.For.length : Int) > 0) then
          letM (decide ((t68.1.Against.length : Int) > 0)) fun both71 =>
          letM (iadd .i64 s39.2 1) fun bits73 =>
          some (Sum.inr (both71, bits73))
        else
          letM (iadd .i64 s39.2 1) fun bits74 =>
          some (Sum.inr (false, bits74))
  else
    some (Sum.inl (Sum.inr s39.1))

noncomputable def law38_PrecedentConsistent_m (l_0 : (List Int)) : Option (Bool) :=
  Option.bind (keep_New_m l_0) fun s1 =>
  Option.bind (law38_library_m s1 4) fun t3 =>
  Option.bind (precedent_Conflict_m t3.1) fun t5 =>
  Option.bind (loopC (law38_PrecedentConsistent_l1 t3) (false, 0)) (sumK (fun a : Bool => some a) fun q75 : Bool =>
    bif q75 == t5.2.2 then
      Option.bind (law38_awake_m ) fun t77 =>
      some t77
    else
      some false)

theorem law38_PrecedentConsistent_ok {l_0 : (List Int)} {r : Bool} (hm : law38_PrecedentConsistent_m l_0 = some r) :
    FnOk prog 6 [slv (rI .i64) l_0] [tbO (rI .u8) 0 tab_0] (fun (x : Unit) => [bv r]) (fun (x : Unit) => [tbO (rI .u8) 0 tab_0]) := by
  refine fn_ok (fn := Tryd.f6) (N := 74) (res := fun r x => [bv r]) (Ω1 := fun r x => [tbO (rI .u8) 0 tab_0]) Tryd.func6 rfl rfl hm rfl (fun E hM => ?_)
  unfold law38_PrecedentConsistent_m
  refine ref_seq (ref_region ?_)
  refine as1 rfl rfl ?_
  refine l_nil (n_then (ref_seq (ref_region ?_)))
  refine mv1 rfl rfl ?_
  refine pull fun s1 h_s1 => ?_
  refine s_st (s_call (ψ := fun (x2 : Nat) => pv (ptr x2 0)) (args := [.tmp 15]) Tryd.call7 rfl (keep_New_ok h_s1) ⟨arg rfl, trivial⟩ (fun _ _ _ _ h => h)) rfl (fun x2 => ?_)
  refine as1 rfl rfl ?_
  refine l_nil (n_then (ref_seq (ref_region ?_)))
  refine mv1 rfl rfl ?_
  refine pull fun t3 h_t3 => ?_
  refine s_st (s_callC [1] [true] (fun (_ : Unit) => [oc x2 [slv (rI .i64) t3.2.L, iv .i64 t3.2.At]]) (fun (_ : Unit) => []) (fun (_ : Unit) => ag [slv rS t3.1.Sides.i0, slv rS t3.1.Sides.i1, slv rT_api_Case t3.1.Cases]) (args := [.tmp 17, .const (.int .i64 (4))]) (caps := []) Tryd.call8 rfl (law38_library_ok h_t3) ⟨rfl, rfl, trivial⟩ (fun _ => rfl) (fun _ => trivial) (fun _ => rfl) ⟨arg rfl, arg rfl, trivial⟩ (fun _ _ _ _ h => h)) rfl (fun _ => ?_)
  refine s_st (s_alloc zt_29) rfl (fun b4 => ?_)
  refine s_st0 (s_cstore (out := [slv rS t3.1.Sides.i0, slv rS t3.1.Sides.i1, slv rT_api_Case t3.1.Cases]) Tryd.sizeOf29 rfl (j := 2) rfl (part_agO (ψs := [slv rS t3.1.Sides.i0, slv rS t3.1.Sides.i1, slv rT_api_Case t3.1.Cases]) rfl ⟨.inl slv_at, .inl slv_at, .inl slv_at, trivial⟩) rfl rfl rfl) (fun _ => ?_)
  refine l_nil ?_
  refine b_of (nrm [tbO (rI .u8) 0 tab_0, oc x2 [slv (rI .i64) t3.2.L, iv .i64 t3.2.At], oc b4 [slv rS t3.1.Sides.i0, slv rS t3.1.Sides.i1, slv rT_api_Case t3.1.Cases]] rfl) ?_
  refine n_then (ref_seq (ref_region ?_))
  refine s_rd (r_cloadS Tryd.isAgg29 Tryd.sizeOf29 rfl (j := 2) rfl rfl rfl) rfl ?_
  refine pull fun t5 h_t5 => ?_
  refine s_st (s_call (ψ := fun (_ : Unit) => tup [iv .i64 t5.1, iv .i64 t5.2.1, bv t5.2.2]) (args := [.tmp 20]) Tryd.call23 rfl (precedent_Conflict_ok h_t5) ⟨arg rfl, trivial⟩ (fun _ _ _ _ h => h)) rfl (fun _ => ?_)
  refine mv1 rfl rfl ?_
  refine s_rd (r_extract rfl rfl) rfl ?_
  refine s_rd (r_extract rfl rfl) rfl ?_
  refine s_rd (r_extract rfl rfl) rfl ?_
  refine as1 rfl rfl ?_
  refine as1 rfl rfl ?_
  refine as1 rfl rfl ?_
  refine l_nil (n_then (ref_seq (ref_region ?_)))
  refine as1 rfl rfl ?_
  refine l_nil (n_then (ref_seq (ref_seq (ref_region ?_))))
  refine as1 rfl rfl ?_
  refine l_nil (n_then ?_)
  refine ref_loopX (f := (law38_PrecedentConsistent_l1 t3)) (Γl := (fun (s39 : Bool × Int) (x40 : Unit) => [(4, pv (ptr b4 0)), (7, bv t5.2.2), (8, bv s39.1), (9, iv .i64 s39.2)])) (Ωl := (fun (s39 : Bool × Int) (x40 : Unit) => [tbO (rI .u8) 0 tab_0, oc b4 [slv rS t3.1.Sides.i0, slv rS t3.1.Sides.i1, slv rT_api_Case t3.1.Cases]])) (Γb := (fun (q75 : Bool) (y76 : Unit) => [(7, bv t5.2.2), (8, bv q75)])) (Ωb := (fun (q75 : Bool) (y76 : Unit) => [tbO (rI .u8) 0 tab_0])) (kr := (fun a : Bool => some a)) (false, 0) () (weak [0, 2] ⟨rfl, rfl, rfl, rfl, trivial⟩ ⟨rfl, rfl, trivial⟩) (fun s39 x40 => ?_) (fun q75 y76 => ?_)
  · unfold law38_PrecedentConsistent_l1
    refine ref_seq (ref_seq (ref_region ?_))
    refine mv1 rfl rfl ?_
    refine s_rd (r_lss rfl rfl) rfl ?_
    refine l_nil (n_then ?_)
    refine ref_cond rfl (fun hb41 => ?_) (fun hb41 => ?_)
    · refine ref_skip (n_then (ref_seq (ref_block (ref_seq (ref_region ?_)))))
      refine as1 rfl rfl ?_
      refine l_nil (n_then (ref_seq (ref_seq (ref_region ?_))))
      refine s_st (s_bslice (xs := [.const (.string (ByteArray.mk #[97])), .const (.string (ByteArray.mk #[98])), .const (.string (ByteArray.mk #[99])), .const (.string (ByteArray.mk #[120])), .const (.string (ByteArray.mk #[121])), .const (.string (ByteArray.mk #[122]))]) (ds := [(ByteArray.mk #[97]), (ByteArray.mk #[98]), (ByteArray.mk #[99]), (ByteArray.mk #[120]), (ByteArray.mk #[121]), (ByteArray.mk #[122])]) Tryd.underlying25 el_9 rfl (Nat.le_of_ble_eq_true rfl) ⟨(part_at rfl sv_at), ⟨(part_at rfl sv_at), ⟨(part_at rfl sv_at), ⟨(part_at rfl sv_at), ⟨(part_at rfl sv_at), ⟨(part_at rfl sv_at), trivial⟩⟩⟩⟩⟩⟩) rfl (fun _ => ?_)
      refine s_rd (r_len Tryd.underlying25 rfl) rfl ?_
      refine mv1 rfl rfl ?_
      refine l_nil (n_then ?_)
      refine b_of (own_nil rS) ?_
      refine ref_loopB (f := (law38_PrecedentConsistent_l2 s39)) (Γl := (fun (s58 : Int × (List ByteArray)) (x59 : (Value × List Nat)) => [(4, pv (ptr b4 0)), (7, bv t5.2.2), (8, bv s39.1), (9, iv .i64 s39.2), (10, pv x59.1), (29, slv rS [(ByteArray.mk #[97]), (ByteArray.mk #[98]), (ByteArray.mk #[99]), (ByteArray.mk #[120]), (ByteArray.mk #[121]), (ByteArray.mk #[122])]), (30, iv .i64 ([(ByteArray.mk #[97]), (ByteArray.mk #[98]), (ByteArray.mk #[99]), (ByteArray.mk #[120]), (ByteArray.mk #[121]), (ByteArray.mk #[122])].length : Int)), (31, iv .i64 s58.1)])) (Ωl := (fun (s58 : Int × (List ByteArray)) (x59 : (Value × List Nat)) => [tbO (rI .u8) 0 tab_0, oc b4 [slv rS t3.1.Sides.i0, slv rS t3.1.Sides.i1, slv rT_api_Case t3.1.Cases], oa rS x59.1 x59.2 s58.2])) (Γb := (fun (q66 : (List ByteArray)) (y67 : (Value × List Nat)) => [(4, pv (ptr b4 0)), (7, bv t5.2.2), (8, bv s39.1), (9, iv .i64 s39.2), (10, pv y67.1)])) (Ωb := (fun (q66 : (List ByteArray)) (y67 : (Value × List Nat)) => [oc b4 [slv rS t3.1.Sides.i0, slv rS t3.1.Sides.i1, slv rT_api_Case t3.1.Cases], oa rS y67.1 y67.2 q66, tbO (rI .u8) 0 tab_0])) (0, []) ((.slice none 0 0), []) (weak [0, 1, 2] ⟨rfl, rfl, rfl, rfl, rfl, rfl, rfl, rfl, trivial⟩ ⟨rfl, rfl, rfl, trivial⟩) (fun s58 x59 => ?_) (fun q66 y67 => ?_)
      · unfold law38_PrecedentConsistent_l2
        refine ref_seq (ref_region ?_)
        refine s_rd (r_lss rfl rfl) rfl ?_
        refine l_nil (n_then (ref_seq ?_))
        refine ref_cond rfl (fun hb60 => ?_) (fun hb60 => ?_)
        · refine ref_skip (n_then (ref_seq (ref_block (ref_seq (ref_region ?_)))))
          refine mv1 rfl rfl ?_
          refine pull fun x61 h_x61 => ?_
          refine s_rd (r_index h_x61 Tryd.underlying25 el_9 rfl rfl) rfl ?_
          refine s_rd (r_load el_9 rfl) rfl ?_
          refine as1 rfl rfl ?_
          refine as1 rfl rfl ?_
          refine l_nil (n_then (ref_seq (ref_region ?_)))
          refine mv1 rfl rfl ?_
          refine mv1 rfl rfl ?_
          refine s_rd (r_conv (k' := .u64) rfl rfl rfl) rfl ?_
          refine pull fun t62 h_t62 => ?_
          refine s_rd (r_shrM h_t62 rfl rfl) rfl ?_
          refine s_rd (r_and rfl rfl) rfl ?_
          refine s_rd (r_eql rfl rfl) rfl ?_
          refine l_nil (n_then ?_)
          refine ref_cond rfl (fun hb63 => ?_) (fun hb63 => ?_)
          · refine ref_region ?_
            refine mv1 rfl rfl ?_
            refine mv1 rfl rfl ?_
            refine s_st (s_bslice (xs := [.tmp 43]) (ds := [x61]) Tryd.underlying25 el_9 rfl (Nat.le_of_ble_eq_true rfl) ⟨(part_at rfl sv_at), trivial⟩) rfl (fun _ => ?_)
            refine pull fun f64 h_f64 => ?_
            refine s_st (s_append h_f64 Tryd.underlying25 el_9 rfl (j := 2) rfl rfl) rfl (fun o65 => ?_)
            refine as1 rfl rfl ?_
            refine l_nil ?_
            refine b_of (nrm [tbO (rI .u8) 0 tab_0, oc b4 [slv rS t3.1.Sides.i0, slv rS t3.1.Sides.i1, slv rT_api_Case t3.1.Cases], oa rS o65.1 o65.2 f64] rfl) ?_
            refine n_block (n_then (ref_region ?_))
            refine s_rd (r_add rfl rfl) rfl ?_
            refine mv1 rfl rfl ?_
            refine l_nil ?_
            exact goB o65 (weak [0, 1, 2] ⟨rfl, rfl, rfl, rfl, rfl, rfl, rfl, rfl, trivial⟩ ⟨rfl, rfl, rfl, trivial⟩)
          refine ref_skip (n_block (n_then (ref_region ?_)))
          refine s_rd (r_add rfl rfl) rfl ?_
          refine mv1 rfl rfl ?_
          refine l_nil ?_
          exact goB x59 (weak [0, 1, 2] ⟨rfl, rfl, rfl, rfl, rfl, rfl, rfl, rfl, trivial⟩ ⟨rfl, rfl, rfl, trivial⟩)
        refine ref_exit (x_then ?_)
        exact brkB x59 (weak [1, 2, 0] ⟨rfl, rfl, rfl, rfl, rfl, trivial⟩ ⟨rfl, rfl, rfl, trivial⟩)
      refine n_then (ref_seq (ref_region ?_))
      refine s_rd (r_cloadS Tryd.isAgg29 Tryd.sizeOf29 rfl (j := 0) rfl rfl rfl) rfl ?_
      refine mv1 rfl rfl ?_
      refine b_of (frzL [10, 49] (j := 1) rfl ⟨rfl, rfl, trivial⟩) ?_
      refine pull fun t68 h_t68 => ?_
      refine s_st (s_call (ψ := fun (_ : Unit) => tup [ag [slv (rI .i64) t68.1.For, slv (rI .i64) t68.1.Against], iv .i64 t68.2]) (args := [.tmp 48, .tmp 49]) Tryd.call11 rfl (precedent_Reasons_ok h_t68) ⟨arg rfl, arg rfl, trivial⟩ (fun _ _ _ _ h => h)) rfl (fun _ => ?_)
      refine mv1 rfl rfl ?_
      refine s_rd (r_extract rfl rfl) rfl ?_
      refine s_rd (r_extract rfl rfl) rfl ?_
      refine s_st (s_alloc zt_33) rfl (fun b69 => ?_)
      refine s_st0 (s_cstore (out := [slv (rI .i64) t68.1.For, slv (rI .i64) t68.1.Against]) Tryd.sizeOf33 rfl (j := 3) rfl (part_agO (ψs := [slv (rI .i64) t68.1.For, slv (rI .i64) t68.1.Against]) rfl ⟨.inl slv_at, .inl slv_at, trivial⟩) rfl rfl rfl) (fun _ => ?_)
      refine as1 rfl rfl ?_
      refine l_nil (n_then (ref_seq (ref_seq (ref_region ?_))))
      refine mv1 rfl rfl ?_
      refine s_rd (r_neq rfl rfl) rfl ?_
      refine l_nil (n_then ?_)
      refine ref_cond rfl (fun hb70 => ?_) (fun hb70 => ?_)
      · refine ref_seq (ref_region ?_)
        refine as1 rfl rfl ?_
        refine l_nil (n_then (ref_ret (r_then (r_block (r_then ?_)))))
        refine retX ?_
        refine r_block (r_then ?_)
        exact fin1 (.inl rfl) () [2] rfl ⟨rfl, trivial⟩ rfl (rv_tmp rfl)
      refine ref_skip (n_then (ref_region ?_))
      refine mv1 rfl rfl ?_
      refine mv1 rfl rfl ?_
      refine b_split (t := 56) rfl (fun _ => ?_) (fun _ => ?_)
      · refine s_off rfl rfl rfl rfl rfl ?_
        refine s_off rfl rfl rfl rfl rfl ?_
        refine s_off rfl rfl rfl rfl rfl ?_
        refine s_off rfl rfl rfl rfl rfl ?_
        refine s_off rfl rfl rfl rfl rfl ?_
        refine s_offU rfl rfl rfl ?_
        refine s_offU rfl rfl rfl ?_
        refine s_offU rfl rfl rfl ?_
        refine s_offU rfl rfl rfl ?_
        refine s_off rfl rfl rfl rfl rfl ?_
        refine s_rd (r_pickT rfl rfl) rfl ?_
        refine as1 rfl rfl ?_
        refine l_nil (n_block (n_then (ref_region ?_)))
        refine mv1 rfl rfl ?_
        refine s_rd (r_add rfl rfl) rfl ?_
        refine as1 rfl rfl ?_
        refine b_let (f := iv .i64) (t := 9) rfl fun bits72 => ?_
        refine l_nil ?_
        exact goX () (weak [2, 0] ⟨rfl, rfl, rfl, rfl, trivial⟩ ⟨rfl, rfl, trivial⟩)
      refine s_on rfl rfl rfl ?_
      refine s_rd (r_faddr (fo := 0) Tryd.underlying33 rfl rfl Tryd.sizeOf22 rfl) rfl ?_
      refine s_on rfl rfl rfl ?_
      refine s_rd (r_cload Tryd.isAgg22 rfl (j := 3) rfl rfl) rfl ?_
      refine s_on rfl rfl rfl ?_
      refine s_rd (r_len Tryd.underlying22 rfl) rfl ?_
      refine s_on rfl rfl rfl ?_
      refine s_rd (r_gtr rfl rfl) rfl ?_
      refine s_on rfl rfl rfl ?_
      refine mv1 rfl rfl ?_
      refine b_split (t := 61) rfl (fun _ => ?_) (fun _ => ?_)
      · refine s_on rfl rfl rfl ?_
        refine s_rd (r_faddr (fo := 1) Tryd.underlying33 rfl rfl Tryd.sizeOf22 rfl) rfl ?_
        refine s_on rfl rfl rfl ?_
        refine s_rd (r_cload Tryd.isAgg22 rfl (j := 3) rfl rfl) rfl ?_
        refine s_on rfl rfl rfl ?_
        refine s_rd (r_len Tryd.underlying22 rfl) rfl ?_
        refine s_on rfl rfl rfl ?_
        refine s_rd (r_gtr rfl rfl) rfl ?_
        refine s_on rfl rfl rfl ?_
        refine s_rd (r_pickT rfl rfl) rfl ?_
        refine s_rd (r_pickF rfl rfl) rfl ?_
        refine as1 rfl rfl ?_
        refine b_let (f := bv) (t := 8) rfl fun both71 => ?_
        refine l_nil (n_block (n_then (ref_region ?_)))
        refine mv1 rfl rfl ?_
        refine s_rd (r_add rfl rfl) rfl ?_
        refine as1 rfl rfl ?_
        refine b_let (f := iv .i64) (t := 9) rfl fun bits73 => ?_
        refine l_nil ?_
        exact goX () (weak [2, 0] ⟨rfl, rfl, rfl, rfl, trivial⟩ ⟨rfl, rfl, trivial⟩)
      refine s_off rfl rfl rfl rfl rfl ?_
      refine s_off rfl rfl rfl rfl rfl ?_
      refine s_off rfl rfl rfl rfl rfl ?_
      refine s_off rfl rfl rfl rfl rfl ?_
      refine s_on rfl rfl rfl ?_
      refine s_rd (r_pickF rfl rfl) rfl ?_
      refine s_rd (r_pickF rfl rfl) rfl ?_
      refine as1 rfl rfl ?_
      refine l_nil (n_block (n_then (ref_region ?_)))
      refine mv1 rfl rfl ?_
      refine s_rd (r_add rfl rfl) rfl ?_
      refine as1 rfl rfl ?_
      refine b_let (f := iv .i64) (t := 9) rfl fun bits74 => ?_
      refine l_nil ?_
      exact goX () (weak [2, 0] ⟨rfl, rfl, rfl, rfl, trivial⟩ ⟨rfl, rfl, trivial⟩)
    refine ref_exit (x_then ?_)
    exact brkX () (weak [0] ⟨rfl, rfl, trivial⟩ ⟨rfl, trivial⟩)
  refine n_then (ref_seq (ref_region ?_))
  refine mv1 rfl rfl ?_
  refine mv1 rfl rfl ?_
  refine s_rd (r_beql Tryd.underlying4 rfl rfl) rfl ?_
  refine mv1 rfl rfl ?_
  refine b_split (t := 71) rfl (fun _ => ?_) (fun _ => ?_)
  · refine s_on rfl rfl rfl ?_
    refine pull fun t77 h_t77 => ?_
    refine s_st (s_callC [0] [true] (fun (_ : Unit) => [tbO (rI .u8) 0 tab_0]) (fun (_ : Unit) => []) (fun (_ : Unit) => bv t77) (args := []) (caps := []) Tryd.call15 rfl (law38_awake_ok h_t77) ⟨rfl, rfl, trivial⟩ (fun _ => rfl) (fun _ => trivial) (fun _ => rfl) trivial (fun _ _ _ _ h => h)) rfl (fun _ => ?_)
    refine s_rd (r_pickT rfl rfl) rfl ?_
    refine as1 rfl rfl ?_
    refine l_nil (n_then (ref_ret ?_))
    exact fin1 (.inl rfl) () [0] rfl ⟨rfl, trivial⟩ rfl (rv_tmp rfl)
  refine s_off rfl rfl rfl rfl rfl ?_
  refine s_rd (r_pickF rfl rfl) rfl ?_
  refine as1 rfl rfl ?_
  refine l_nil (n_then (ref_ret ?_))
  exact fin1 (.inl rfl) () [0] rfl ⟨rfl, trivial⟩ rfl (rv_tmp rfl)

end Go.Dc
