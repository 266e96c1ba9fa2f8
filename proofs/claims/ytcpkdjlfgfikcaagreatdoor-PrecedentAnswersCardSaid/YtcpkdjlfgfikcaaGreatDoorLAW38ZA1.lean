/- Part LAW38Z.A1 of a proof: lemmas. -/
import Derived.Test.YtcpkdjlfgfikcaaGreatDoorLAW38ZA0
import Derived.Test.YtcpkdjlfgfikcaaGreatDoorProg
set_option linter.unusedVariables false
set_option maxRecDepth 100000
set_option maxHeartbeats 4000000
namespace Go.Dc
open Go.Proofs
open Go.Proofs.Tryz (prog)

/-! slices.IndexFunc[[]string,string] -/
noncomputable def sIF_S_5_l1 (s_0 : (List ByteArray)) (e_1 : (List ByteArray)) (s7 : Int) : Option (Sum ((Sum (Int) (Unit))) (Int)) :=
 bif decide (s7 < (s_0.length : Int)) then
  Option.bind (idxM s_0 s7) fun t10 =>
  Option.bind (pc_shared_1_m t10 e_1) fun t11 =>
  bif t11 then
   some (Sum.inl (Sum.inl s7))
  else
   some (Sum.inr (iadd .i64 s7 1))
 else
  some (Sum.inl (Sum.inr ()))

noncomputable def sIF_S_5_m (s_0 : (List ByteArray)) (e_1 : (List ByteArray)) : Option (Int) :=
 Option.bind (loopC (sIF_S_5_l1 s_0 e_1) 0) (sumK (fun a : Int => some a) fun q13 : Unit =>
  some (-1))

theorem sIF_S_5_ok {s_0 : (List ByteArray)} {e_1 : (List ByteArray)} {h_0 : Value × List Nat} {be_1 : Nat} {r : Int} (hm : sIF_S_5_m s_0 e_1 = some r) :
  FnOk prog 70 [pv h_0.1, pv (.func (.func 81) #[] #[(ptr be_1 0)])] [oa rS h_0.1 h_0.2 s_0, oc be_1 [slv rS e_1]] (fun (x : Unit) => [iv .i64 r]) (fun (x : Unit) => [oa rS h_0.1 h_0.2 s_0, oc be_1 [slv rS e_1]]) := by
 refine fn_ok (fn := Tryz.f70) (N := 19) (res := fun r x => [iv .i64 r]) (Ω1 := fun r x => [oa rS h_0.1 h_0.2 s_0, oc be_1 [slv rS e_1]]) Tryz.func70 rfl rfl hm rfl (fun E hM => ?_)
 unfold sIF_S_5_m
 refine ref_seq (ref_region (as1 rfl rfl (l_nil (n_then (ref_seq (ref_seq (ref_region (mv1 rfl rfl (s_rd (r_olen Tryz.underlying22 rfl (j := 0) rfl) rfl (mv1 rfl rfl (l_nil (n_then ?_))))))))))))
 refine ref_loopX (f := (sIF_S_5_l1 s_0 e_1)) (Γl := (fun (s7 : Int) (x8 : Unit) => [(0, pv h_0.1), (1, pv (.func (.func 81) #[] #[(ptr be_1 0)])), (7, iv .i64 (s_0.length : Int)), (8, iv .i64 s7)])) (Ωl := (fun (s7 : Int) (x8 : Unit) => [oa rS h_0.1 h_0.2 s_0, oc be_1 [slv rS e_1]])) (Γb := (fun (q13 : Unit) (y14 : Unit) => [(0, pv h_0.1), (1, pv (.func (.func 81) #[] #[(ptr be_1 0)]))])) (Ωb := (fun (q13 : Unit) (y14 : Unit) => [oa rS h_0.1 h_0.2 s_0, oc be_1 [slv rS e_1]])) (kr := (fun a : Int => some a)) 0 () (weak [0, 1] ⟨rfl, rfl, rfl, rfl, trivial⟩ ⟨rfl, rfl, trivial⟩) (fun s7 x8 => ?_) (fun q13 y14 => ?_)
 ·unfold sIF_S_5_l1
  refine ref_seq (ref_region (s_rd (r_lss rfl rfl) rfl (l_nil (n_then (ref_seq ?_)))))
  refine ref_cond rfl (fun hb9 => ?_) (fun hb9 => ?_)
  ·refine ref_skip (n_then (ref_seq (ref_block (ref_seq (ref_region (mv1 rfl rfl (as1 rfl rfl (l_nil (n_then (ref_seq (ref_region (mv1 rfl rfl (mv1 rfl rfl (mv1 rfl rfl (pull fun t10 h_t10 => s_rd (r_oindex h_t10 Tryz.underlying22 el_9 rfl (j := 0) rfl rfl) rfl (s_rd (r_oload h_t10 el_9 rfl (j := 0) rfl) rfl (pull fun t11 h_t11 => s_st (s_callC [1] [true] (fun (_ : Unit) => [oc be_1 [slv rS e_1]]) (fun (_ : Unit) => []) (fun (_ : Unit) => bv t11) (args := [.tmp 15]) (caps := [(ptr be_1 0)]) Tryz.call81 rfl (pc_shared_1_ok h_t11) ⟨rfl, rfl, trivial⟩ (fun _ => rfl) (fun _ => trivial) (fun _ => rfl) ⟨arg rfl, arg rfl, trivial⟩ (fun _ _ _ _ h => h)) rfl (fun _ => l_nil (n_then ?_)))))))))))))))))))
   refine ref_cond rfl (fun hb12 => ?_) (fun hb12 => ?_)
   ·refine ref_seq (ref_region (mv1 rfl rfl (as1 rfl rfl (l_nil (n_then (ref_ret (r_block (r_then ?_))))))))
    refine retX ?_
    refine r_block (r_then ?_)
    exact fin1 (.inl rfl) () [0, 1] rfl ⟨rfl, rfl, trivial⟩ rfl (rv_tmp rfl)
   refine ref_skip (n_block (n_then (ref_region (s_rd (r_add rfl rfl) rfl (mv1 rfl rfl (l_nil ?_))))))
   exact goX () (weak [0, 1] ⟨rfl, rfl, rfl, rfl, trivial⟩ ⟨rfl, rfl, trivial⟩)
  refine ref_exit (x_then ?_)
  exact brkX () (weak [0, 1] ⟨rfl, rfl, trivial⟩ ⟨rfl, rfl, trivial⟩)
 refine n_then (ref_seq (ref_region (as1 rfl rfl (l_nil (n_then (ref_ret ?_))))))
 exact fin1 (.inl rfl) () [0, 1] rfl ⟨rfl, rfl, trivial⟩ rfl (rv_tmp rfl)

/-! slices.DeleteFunc[[]string,string] -/
noncomputable def sDF_S_2_l1 (e_1 : (List ByteArray)) (s22 : Int × Int × (List ByteArray)) : Option (Sum ((List ByteArray) × Int) (Int × Int × (List ByteArray))) :=
 bif decide (s22.2.1 < (s22.2.2.length : Int)) then
  Option.bind (idxM s22.2.2 s22.2.1) fun v25 =>
  Option.bind (pc_shared_1_m v25 e_1) fun t26 =>
  bif !t26 then
   Option.bind (idxM s22.2.2 s22.1) fun t28 =>
   letM (iadd .i64 s22.1 1) fun i29 =>
   letM (iadd .i64 s22.2.1 1) fun j30 =>
   some (Sum.inr (i29, j30, s22.2.2.set (Int.toNat s22.1) v25))
  else
   letM (iadd .i64 s22.2.1 1) fun j31 =>
   some (Sum.inr (s22.1, j31, s22.2.2))
 else
  some (Sum.inl (s22.2.2, s22.1))

noncomputable def sDF_S_2_m (s_0 : (List ByteArray)) (e_1 : (List ByteArray)) : Option (List ByteArray) :=
 Option.bind (sIF_S_5_m s_0 e_1) fun i1 =>
 bif i1 == (-1) then
  some s_0
 else
  Option.bind (loopC (sDF_S_2_l1 e_1) (i1, iadd .i64 i1 1, s_0)) fun q32 : (List ByteArray) × Int =>
  Option.bind (slM q32.1 q32.2 (q32.1.length : Int)) fun t34 =>
  Option.bind (slM (q32.1.take (Int.toNat q32.2) ++ List.replicate (Int.toNat (q32.1.length : Int) - Int.toNat q32.2) ByteArray.empty ++ q32.1.drop (Int.toNat (q32.1.length : Int))) 0 q32.2) fun t35 =>
  some t35

theorem sDF_S_2_ok {s_0 : (List ByteArray)} {e_1 : (List ByteArray)} {h_0 : Value × List Nat} {be_1 : Nat} {r : List ByteArray} (hm : sDF_S_2_m s_0 e_1 = some r) :
  FnOk prog 57 [pv h_0.1, pv (.func (.func 81) #[] #[(ptr be_1 0)])] [oa rS h_0.1 h_0.2 s_0, oc be_1 [slv rS e_1]] (fun (x : (Value × List Nat)) => [pv x.1]) (fun (x : (Value × List Nat)) => [oc be_1 [slv rS e_1], oa rS x.1 x.2 r]) := by
 refine fn_ok (X := (Value × List Nat)) (fn := Tryz.f57) (N := 42) (res := fun r x => [pv x.1]) (Ω1 := fun r x => [oc be_1 [slv rS e_1], oa rS x.1 x.2 r]) Tryz.func57 rfl rfl hm rfl (fun E hM => ?_)
 unfold sDF_S_2_m
 refine ref_seq (ref_region (as1 rfl rfl (l_nil (n_then (ref_seq (ref_region (mv1 rfl rfl (mv1 rfl rfl (pull fun i1 h_i1 => s_st (s_callC [0, 1] [true, true] (fun (_ : Unit) => [oa rS h_0.1 h_0.2 s_0, oc be_1 [slv rS e_1]]) (fun (_ : Unit) => []) (fun (_ : Unit) => iv .i64 i1) (args := [.tmp 8, .tmp 9]) (caps := []) Tryz.call70 rfl (sIF_S_5_ok h_i1) ⟨rfl, rfl, ⟨rfl, rfl, trivial⟩⟩ (fun _ => rfl) (fun _ => trivial) (fun _ => rfl) ⟨arg rfl, arg rfl, trivial⟩ (fun _ _ _ _ h => h)) rfl (fun _ => as1 rfl rfl (l_nil (n_then (ref_seq (ref_seq (ref_region (mv1 rfl rfl (s_rd (r_eql rfl rfl) rfl (l_nil (n_then ?_)))))))))))))))))))
 refine ref_cond rfl (fun hb2 => ?_) (fun hb2 => ?_)
 ·refine ref_seq (ref_region (mv1 rfl rfl (as1 rfl rfl (l_nil (n_then (ref_ret (r_then ?_)))))))
  exact fin1 (.inl rfl) h_0 [1, 0] rfl ⟨rfl, rfl, trivial⟩ rfl (rv_tmp rfl)
 refine ref_skip (n_then (ref_seq (ref_seq (ref_region (mv1 rfl rfl (s_rd (r_add rfl rfl) rfl (as1 rfl rfl (l_nil (n_then ?_)))))))))
 refine ref_loopB (f := (sDF_S_2_l1 e_1)) (Γl := (fun (s22 : Int × Int × (List ByteArray)) (x23 : Unit) => [(0, pv h_0.1), (1, pv (.func (.func 81) #[] #[(ptr be_1 0)])), (5, iv .i64 s22.1), (6, iv .i64 s22.2.1)])) (Ωl := (fun (s22 : Int × Int × (List ByteArray)) (x23 : Unit) => [oa rS h_0.1 h_0.2 s22.2.2, oc be_1 [slv rS e_1]])) (Γb := (fun (q32 : (List ByteArray) × Int) (y33 : Unit) => [(0, pv h_0.1), (1, pv (.func (.func 81) #[] #[(ptr be_1 0)])), (5, iv .i64 q32.2)])) (Ωb := (fun (q32 : (List ByteArray) × Int) (y33 : Unit) => [oa rS h_0.1 h_0.2 q32.1, oc be_1 [slv rS e_1]])) (i1, iadd .i64 i1 1, s_0) () (weak [0, 1] ⟨rfl, rfl, rfl, rfl, trivial⟩ ⟨rfl, rfl, trivial⟩) (fun s22 x23 => ?_) (fun q32 y33 => ?_)
 ·unfold sDF_S_2_l1
  refine ref_seq (ref_seq (ref_region (mv1 rfl rfl (mv1 rfl rfl (s_rd (r_olen Tryz.underlying22 rfl (j := 0) rfl) rfl (s_rd (r_lss rfl rfl) rfl (l_nil (n_then ?_))))))))
  refine ref_cond rfl (fun hb24 => ?_) (fun hb24 => ?_)
  ·refine ref_skip (n_then (ref_seq (ref_block (ref_seq (ref_region (mv1 rfl rfl (mv1 rfl rfl (pull fun v25 h_v25 => s_rd (r_oindex h_v25 Tryz.underlying22 el_9 rfl (j := 0) rfl rfl) rfl (s_rd (r_oload h_v25 el_9 rfl (j := 0) rfl) rfl (as1 rfl rfl (l_nil (n_then (ref_seq (ref_region (mv1 rfl rfl (mv1 rfl rfl (pull fun t26 h_t26 => s_st (s_callC [1] [true] (fun (_ : Unit) => [oc be_1 [slv rS e_1]]) (fun (_ : Unit) => []) (fun (_ : Unit) => bv t26) (args := [.tmp 27]) (caps := [(ptr be_1 0)]) Tryz.call81 rfl (pc_shared_1_ok h_t26) ⟨rfl, rfl, trivial⟩ (fun _ => rfl) (fun _ => trivial) (fun _ => rfl) ⟨arg rfl, arg rfl, trivial⟩ (fun _ _ _ _ h => h)) rfl (fun _ => s_rd (r_not rfl) rfl (l_nil (n_then ?_))))))))))))))))))))
   refine ref_cond rfl (fun hb27 => ?_) (fun hb27 => ?_)
   ·refine ref_seq (ref_region (mv1 rfl rfl (mv1 rfl rfl (mv1 rfl rfl (pull fun t28 h_t28 => s_rd (r_oindex h_t28 Tryz.underlying22 el_9 rfl (j := 0) rfl rfl) rfl (s_st0 (s_ostore (u := v25) h_t28 el_9 rfl (j := 0) rfl (part_at rfl sv_at)) (fun _ => l_nil (n_then (ref_region (mv1 rfl rfl (s_rd (r_add rfl rfl) rfl (as1 rfl rfl (b_let (f := iv .i64) (t := 5) rfl fun i29 => l_nil (n_block (n_then (ref_region (mv1 rfl rfl (s_rd (r_add rfl rfl) rfl (as1 rfl rfl (b_let (f := iv .i64) (t := 6) rfl fun j30 => l_nil ?_))))))))))))))))))))
    exact goB () (weak [0, 1] ⟨rfl, rfl, rfl, rfl, trivial⟩ ⟨rfl, rfl, trivial⟩)
   refine ref_skip (n_block (n_then (ref_region (mv1 rfl rfl (s_rd (r_add rfl rfl) rfl (as1 rfl rfl (b_let (f := iv .i64) (t := 6) rfl fun j31 => l_nil ?_)))))))
   exact goB () (weak [0, 1] ⟨rfl, rfl, rfl, rfl, trivial⟩ ⟨rfl, rfl, trivial⟩)
  refine ref_exit (x_then ?_)
  exact brkB () (weak [0, 1] ⟨rfl, rfl, rfl, trivial⟩ ⟨rfl, rfl, trivial⟩)
 refine n_then (ref_seq (ref_region (mv1 rfl rfl (mv1 rfl rfl (pull fun t34 h_t34 => s_rd (r_osub h_t34 Tryz.underlying22 el_9 rfl (j := 0) rfl (.of rfl) .dft) rfl (s_st0 (s_clear h_t34 Tryz.underlying22 el_9 ze_9 rfl (j := 0) rfl) (fun _ => l_nil (n_then (ref_seq (ref_region (mv1 rfl rfl (mv1 rfl rfl (pull fun t35 h_t35 => s_st (s_oslice h_t35 Tryz.underlying22 el_9 rfl (j := 0) rfl .dft (.of rfl)) rfl (fun o36 => as1 rfl rfl (l_nil (n_then (ref_ret ?_)))))))))))))))))
 exact fin1 (.inl rfl) o36 [1, 0] rfl ⟨rfl, rfl, trivial⟩ rfl (rv_tmp rfl)

/-! deliberation/precedent.shared -/
noncomputable def pc_shared_m (a__0 : (List ByteArray)) (b_1 : (List ByteArray)) : Option (List ByteArray) :=
 Option.bind (slices_Clone_S_m a__0) fun t2 =>
 Option.bind (sDF_S_2_m t2 b_1) fun t4 =>
 some t4

theorem pc_shared_ok {a__0 : (List ByteArray)} {b_1 : (List ByteArray)} {r : List ByteArray} (hm : pc_shared_m a__0 b_1 = some r) :
  FnOk prog 63 [slv rS a__0, slv rS b_1] [] (fun (x : (Value × List Nat)) => [pv x.1]) (fun (x : (Value × List Nat)) => [oa rS x.1 x.2 r]) := by
 refine fn_ok (X := (Value × List Nat)) (fn := Tryz.f63) (N := 9) (res := fun r x => [pv x.1]) (Ω1 := fun r x => [oa rS x.1 x.2 r]) Tryz.func63 rfl rfl hm rfl (fun E hM => ?_)
 unfold pc_shared_m
 refine ref_seq (ref_region (s_st (s_box (part_at rfl slv_at)) rfl (fun b1 => as1 rfl rfl (l_nil (n_then (ref_seq (ref_region (mv1 rfl rfl (pull fun t2 h_t2 => s_st (s_call (ψ := fun (x3 : (Value × List Nat)) => pv x3.1) (args := [.tmp 5]) Tryz.call74 rfl (slices_Clone_S_ok h_t2) ⟨arg rfl, trivial⟩ (fun _ _ _ _ h => h)) rfl (fun x3 => s_rd (r_mkfn (xs := [.tmp 3]) (vs := [(ptr b1 0)]) ⟨rfl, trivial⟩) rfl (pull fun t4 h_t4 => s_st (s_callC [1, 0] [false, true] (fun (x5 : (Value × List Nat)) => [dead, oc b1 [slv rS b_1]]) (fun (x5 : (Value × List Nat)) => [oa rS x5.1 x5.2 t4]) (fun (x5 : (Value × List Nat)) => pv x5.1) (args := [.tmp 6, .tmp 7]) (caps := []) Tryz.call57 rfl (sDF_S_2_ok h_t4) ⟨rfl, rfl, ⟨rfl, rfl, trivial⟩⟩ (fun _ => rfl) (fun _ => ⟨rfl, trivial⟩) (fun _ => rfl) ⟨arg rfl, arg rfl, trivial⟩ (fun _ _ _ _ h => h)) rfl (fun x5 => as1 rfl rfl (l_nil (n_then (ref_ret ?_)))))))))))))))
 exact fin1 (.inl rfl) x5 [2] rfl ⟨rfl, trivial⟩ rfl (rv_tmp rfl)

/-! deliberation/precedent.Citable -/
noncomputable def pc_Citable_l1 (l_0 : T_Lib) (facts_1 : (List ByteArray)) (s29 : Int × (List Int)) : Option (Sum ((List Int)) (Int × (List Int))) :=
 bif decide (s29.1 < (l_0.Cases.length : Int)) then
  Option.bind (idxM l_0.Cases s29.1) fun t32 =>
  Option.bind (pc_own_m l_0 t32.Facts t32.Winner) fun t34 =>
  Option.bind (pc_shared_m t34 facts_1) fun t36 =>
  bif decide ((t36.length : Int) > 0) then
   Option.bind (appM 8 s29.2 [s29.1]) fun out39 =>
   some (Sum.inr (iadd .i64 s29.1 1, out39))
  else
   some (Sum.inr (iadd .i64 s29.1 1, s29.2))
 else
  some (Sum.inl s29.2)

noncomputable def pc_Citable_l3 (l_0 : T_Lib) (facts_1 : (List ByteArray)) (q41 : (List Int)) (s282 : Int × (List T_Pai)) (a_285 : Int) (s326 : Int × (List T_Pai)) : Option (Sum ((List T_Pai)) (Int × (List T_Pai))) :=
 bif decide (s326.1 < (q41.length : Int)) then
  Option.bind (idxM q41 s326.1) fun b329 =>
  Option.bind (idxM l_0.Cases a_285) fun t331 =>
  Option.bind (idxM l_0.Cases b329) fun t332 =>
  Option.bind (pc_shared_m t331.Facts facts_1) fun s335 =>
  Option.bind (pc_shared_m t332.Facts facts_1) fun r_337 =>
  joinM (fun j340 : Bool =>
    bif j340 then
     Option.bind (appM 16 s326.2 [(T_Pai.mk s282.1 s326.1)]) fun t344 =>
     some (Sum.inr (iadd .i64 s326.1 1, t344))
    else
     some (Sum.inr (iadd .i64 s326.1 1, s326.2))) fun k342 =>
  bif t331.Winner != t332.Winner then
   Option.bind (pc_within_m s335 r_337) fun t339 =>
   bif t339 then
    k342 (!(decide ((s335.length : Int) < (r_337.length : Int))))
   else
    k342 (!false)
  else
   k342 false
 else
  some (Sum.inl s326.2)

noncomputable def pc_Citable_l2 (l_0 : T_Lib) (facts_1 : (List ByteArray)) (q41 : (List Int)) (s282 : Int × (List T_Pai)) : Option (Sum ((List T_Pai)) (Int × (List T_Pai))) :=
 bif decide (s282.1 < (q41.length : Int)) then
  Option.bind (idxM q41 s282.1) fun a_285 =>
  Option.bind (loopC (pc_Citable_l3 l_0 facts_1 q41 s282 a_285) (0, s282.2)) fun q346 : (List T_Pai) =>
  some (Sum.inr (iadd .i64 s282.1 1, q346))
 else
  some (Sum.inl s282.2)

noncomputable def pc_Citable_m (l_0 : T_Lib) (facts_1 : (List ByteArray)) : Option (List Int × T_Gra × Int) :=
 Option.bind (pc_situation_m l_0 facts_1) fun e3 =>
 bif e3 != 0 then
  some ([], (T_Gra.mk 0 []), e3)
 else
  Option.bind (loopC (pc_Citable_l1 l_0 facts_1) (0, [])) fun q41 : (List Int) =>
  Option.bind (loopC (pc_Citable_l2 l_0 facts_1 q41) (0, [])) fun q348 : (List T_Pai) =>
  some (q41, (T_Gra.mk (q41.length : Int) q348), 0)

theorem pc_Citable_ok {l_0 : T_Lib} {facts_1 : (List ByteArray)} {r : List Int × T_Gra × Int} (hm : pc_Citable_m l_0 facts_1 = some r) :
  FnOk prog 23 [ag [slv rS l_0.Sides.i0, slv rS l_0.Sides.i1, slv rT_Cas l_0.Cases], slv rS facts_1] [] (fun (x : (Value × List Nat)) => [pv x.1, ag [iv .i64 r.2.1.N, slv rT_Pai r.2.1.L], iv .i64 r.2.2]) (fun (x : (Value × List Nat)) => [oa (rI .i64) x.1 x.2 r.1]) := by
 refine fn_ok (X := (Value × List Nat)) (fn := Tryz.f23) (N := 115) (res := fun r x => [pv x.1, ag [iv .i64 r.2.1.N, slv rT_Pai r.2.1.L], iv .i64 r.2.2]) (Ω1 := fun r x => [oa (rI .i64) x.1 x.2 r.1]) Tryz.func23 rfl rfl hm rfl (fun E hM => ?_)
 unfold pc_Citable_m
 refine ref_seq (ref_region (s_st (s_box (part_agO (ψs := [slv rS l_0.Sides.i0, slv rS l_0.Sides.i1, slv rT_Cas l_0.Cases]) rfl ⟨.inl slv_at, .inl slv_at, .inl slv_at, trivial⟩)) rfl (fun b1 => as1 rfl rfl (s_st (s_alloc zt_52) rfl (fun b2 => as1 rfl rfl (l_nil (n_then (ref_seq (ref_seq (ref_region (s_rd (r_cloadS Tryz.isAgg26 Tryz.sizeOf26 rfl (j := 0) rfl rfl rfl) rfl (mv1 rfl rfl (pull fun e3 h_e3 => s_st (s_call (ψ := fun (_ : Unit) => iv .i64 e3) (args := [.tmp 20, .tmp 21]) Tryz.call62 rfl (pc_situation_ok h_e3) ⟨arg rfl, arg rfl, trivial⟩ (fun _ _ _ _ h => h)) rfl (fun _ => as1 rfl rfl (l_nil (n_then (ref_seq (ref_region (mv1 rfl rfl (s_rd (r_neq rfl rfl) rfl (l_nil (n_then ?_))))))))))))))))))))))
 refine ref_cond rfl (fun hb4 => ?_) (fun hb4 => ?_)
 ·refine ref_seq (ref_region (s_rd (r_build (ps := []) (rs := []) st_52 zs_52 trivial rfl rfl) rfl (mv1 rfl rfl (as1 rfl rfl (s_st0 (s_cstore (out := [iv .i64 0, pv (.slice none 0 0)]) Tryz.sizeOf52 rfl (j := 1) rfl (part_agO (ψs := [iv .i64 0, pv (.slice none 0 0)]) rfl ⟨.inl iv_at, .inl (pv_at rfl), trivial⟩) rfl rfl rfl) (fun _ => as1 rfl rfl (l_nil (b_of (nrm [oc b1 [slv rS l_0.Sides.i0, slv rS l_0.Sides.i1, slv rT_Cas l_0.Cases], oc b2 [iv .i64 0, pv (.slice none 0 0)]] rfl) (n_then (ref_ret (r_then (b_of (own_nil (rI .i64)) (b_of (ocW 1 [iv .i64 0, slv rT_Pai []] rfl ⟨imp_rfl, nil_sl, trivial⟩) ?_)))))))))))))
  exact fin3 (.inl rfl) ((.slice none 0 0), []) [2] rfl ⟨rfl, trivial⟩ rfl (rv_tmp rfl) (rv_cell rfl (j := 1) rfl Tryz.isAgg52 Tryz.sizeOf52 rfl rfl) (rv_tmp rfl)
 refine ref_skip (n_then (ref_seq (ref_region (as1 rfl rfl (l_nil (n_then (ref_seq (ref_seq (ref_region (s_rd (r_faddr (fo := 2) Tryz.underlying26 rfl rfl Tryz.sizeOf24 rfl) rfl (s_rd (r_cload Tryz.isAgg24 rfl (j := 0) rfl rfl) rfl (s_rd (r_len Tryz.underlying24 rfl) rfl (mv1 rfl rfl (l_nil (n_then (b_of (own_nil (rI .i64)) ?_))))))))))))))))
 refine ref_loopB (f := (pc_Citable_l1 l_0 facts_1)) (Γl := (fun (s29 : Int × (List Int)) (x30 : (Value × List Nat)) => [(1, slv rS facts_1), (2, pv (ptr b1 0)), (5, pv (ptr b2 0)), (8, pv x30.1), (28, slv rT_Cas l_0.Cases), (29, iv .i64 (l_0.Cases.length : Int)), (30, iv .i64 s29.1)])) (Ωl := (fun (s29 : Int × (List Int)) (x30 : (Value × List Nat)) => [oc b1 [slv rS l_0.Sides.i0, slv rS l_0.Sides.i1, slv rT_Cas l_0.Cases], oc b2 [iv .i64 0, pv (.slice none 0 0)], oa (rI .i64) x30.1 x30.2 s29.2])) (Γb := (fun (q41 : (List Int)) (y42 : (Value × List Nat)) => [(1, slv rS facts_1), (2, pv (ptr b1 0)), (5, pv (ptr b2 0)), (8, pv y42.1)])) (Ωb := (fun (q41 : (List Int)) (y42 : (Value × List Nat)) => [oc b1 [slv rS l_0.Sides.i0, slv rS l_0.Sides.i1, slv rT_Cas l_0.Cases], oc b2 [iv .i64 0, pv (.slice none 0 0)], oa (rI .i64) y42.1 y42.2 q41])) (0, []) ((.slice none 0 0), []) (weak [0, 1, 2] ⟨rfl, rfl, rfl, rfl, rfl, rfl, rfl, trivial⟩ ⟨rfl, rfl, rfl, trivial⟩) (fun s29 x30 => ?_) (fun q41 y42 => ?_)
 ·unfold pc_Citable_l1
  refine ref_seq (ref_region (s_rd (r_lss rfl rfl) rfl (l_nil (n_then (ref_seq ?_)))))
  refine ref_cond rfl (fun hb31 => ?_) (fun hb31 => ?_)
  ·refine ref_skip (n_then (ref_seq (ref_block (ref_seq (ref_region (mv1 rfl rfl (pull fun t32 h_t32 => s_rd (r_index h_t32 Tryz.underlying24 el_60 rfl rfl) rfl (s_rd (r_load el_60 rfl) rfl (s_st (s_alloc zt_60) rfl (fun b33 => as1 rfl rfl (s_st0 (s_cstore (out := [sv t32.Name, slv rS t32.Facts, iv .i64 t32.Winner, slv rS t32.Reason]) Tryz.sizeOf60 rfl (j := 3) rfl (part_agO (ψs := [sv t32.Name, slv rS t32.Facts, iv .i64 t32.Winner, slv rS t32.Reason]) rfl ⟨.inl sv_at, .inl slv_at, .inl iv_at, .inl slv_at, trivial⟩) rfl rfl rfl) (fun _ => l_nil (b_of (nrm [oc b1 [slv rS l_0.Sides.i0, slv rS l_0.Sides.i1, slv rT_Cas l_0.Cases], oc b2 [iv .i64 0, pv (.slice none 0 0)], oa (rI .i64) x30.1 x30.2 s29.2, oc b33 [sv t32.Name, slv rS t32.Facts, iv .i64 t32.Winner, slv rS t32.Reason]] rfl) (n_then (ref_seq (ref_region (s_rd (r_cloadS Tryz.isAgg26 Tryz.sizeOf26 rfl (j := 0) rfl rfl rfl) rfl (s_rd (r_faddr (fo := 1) Tryz.underlying60 rfl rfl Tryz.sizeOf22 rfl) rfl (s_rd (r_cload Tryz.isAgg22 rfl (j := 3) rfl rfl) rfl (s_rd (r_faddr (fo := 2) Tryz.underlying60 rfl rfl Tryz.sizeOf3 rfl) rfl (s_rd (r_cload Tryz.isAgg3 rfl (j := 3) rfl rfl) rfl (pull fun t34 h_t34 => s_st (s_call (ψ := fun (x35 : (Value × List Nat)) => pv x35.1) (args := [.tmp 35, .tmp 37, .tmp 39]) Tryz.call45 rfl (pc_own_ok h_t34) ⟨arg rfl, arg rfl, arg rfl, trivial⟩ (fun _ _ _ _ h => h)) rfl (fun x35 => mv1 rfl rfl (pull fun t36 h_t36 => s_st (s_callBO (ψ := fun (x37 : (Value × List Nat)) => pv x37.1) (args := [.tmp 40, .tmp 41]) Tryz.call63 rfl (pc_shared_ok h_t36) (fun _ => ⟨oa_free free_S, trivial⟩) ⟨argO rfl (j := 4) rfl, argB rfl, trivial⟩ (fun _ _ _ _ _ h => h)) rfl (fun x37 => s_rd (r_olen Tryz.underlying22 rfl (j := 5) rfl) rfl (s_rd (r_gtr rfl rfl) rfl (l_nil (n_then ?_))))))))))))))))))))))))))))
   refine ref_cond rfl (fun hb38 => ?_) (fun hb38 => ?_)
   ·refine ref_region (mv1 rfl rfl (mv1 rfl rfl (s_st (s_bslice (xs := [.tmp 46]) (ds := [s29.1]) Tryz.underlying27 el_3 rfl (Nat.le_of_ble_eq_true rfl) ⟨(part_at rfl iv_at), trivial⟩) rfl (fun _ => pull fun out39 h_out39 => s_st (s_append h_out39 Tryz.underlying27 el_3 rfl (j := 2) rfl rfl) rfl (fun o40 => as1 rfl rfl (l_nil (b_of (nrm [oc b1 [slv rS l_0.Sides.i0, slv rS l_0.Sides.i1, slv rT_Cas l_0.Cases], oc b2 [iv .i64 0, pv (.slice none 0 0)], oa (rI .i64) o40.1 o40.2 out39, oc b33 [sv t32.Name, slv rS t32.Facts, iv .i64 t32.Winner, slv rS t32.Reason], oa rS x35.1 x35.2 t34, oa rS x37.1 x37.2 t36] rfl) (n_block (n_then (ref_region (s_rd (r_add rfl rfl) rfl (mv1 rfl rfl (l_nil ?_)))))))))))))
    exact goB o40 (weak [0, 1, 2] ⟨rfl, rfl, rfl, rfl, rfl, rfl, rfl, trivial⟩ ⟨rfl, rfl, rfl, trivial⟩)
   refine ref_skip (n_block (n_then (ref_region (s_rd (r_add rfl rfl) rfl (mv1 rfl rfl (l_nil ?_))))))
   exact goB x30 (weak [0, 1, 2] ⟨rfl, rfl, rfl, rfl, rfl, rfl, rfl, trivial⟩ ⟨rfl, rfl, rfl, trivial⟩)
  refine ref_exit (x_then ?_)
  exact brkB x30 (weak [0, 1, 2] ⟨rfl, rfl, rfl, rfl, trivial⟩ ⟨rfl, rfl, rfl, trivial⟩)
 refine n_then (ref_seq (ref_region (mv1 rfl rfl (s_rd (r_olen Tryz.underlying27 rfl (j := 2) rfl) rfl (s_rd (r_build (ps := [(0, .tmp 51)]) (rs := [(0, [iv .i64 (q41.length : Int)])]) st_52 zs_52 ⟨rfl, (part_at rfl iv_at), trivial⟩ rfl rfl) rfl (s_st (s_alloc zt_52) rfl (fun b43 => s_st0 (s_cstore (out := [iv .i64 (q41.length : Int), pv (.slice none 0 0)]) Tryz.sizeOf52 rfl (j := 3) rfl (part_agO (ψs := [iv .i64 (q41.length : Int), pv (.slice none 0 0)]) rfl ⟨.inl iv_at, .inl (pv_at rfl), trivial⟩) rfl rfl rfl) (fun _ => l_nil (n_then (ref_seq (ref_seq (ref_region (mv1 rfl rfl (s_rd (r_olen Tryz.underlying27 rfl (j := 2) rfl) rfl (mv1 rfl rfl (l_nil (n_then (b_of (own_nil rT_Pai) ?_))))))))))))))))))
 refine ref_loopB (f := (pc_Citable_l2 l_0 facts_1 q41)) (Γl := (fun (s282 : Int × (List T_Pai)) (x283 : (Value × List Nat)) => [(1, slv rS facts_1), (2, pv (ptr b1 0)), (5, pv (ptr b2 0)), (8, pv y42.1), (11, pv (ptr b43 0)), (53, pv y42.1), (54, iv .i64 (q41.length : Int)), (55, iv .i64 s282.1)])) (Ωl := (fun (s282 : Int × (List T_Pai)) (x283 : (Value × List Nat)) => [oc b1 [slv rS l_0.Sides.i0, slv rS l_0.Sides.i1, slv rT_Cas l_0.Cases], oc b2 [iv .i64 0, pv (.slice none 0 0)], oa (rI .i64) y42.1 y42.2 q41, oc b43 [iv .i64 (q41.length : Int), pv x283.1], oa rT_Pai x283.1 x283.2 s282.2])) (Γb := (fun (q348 : (List T_Pai)) (y349 : (Value × List Nat)) => [(5, pv (ptr b2 0)), (8, pv y42.1), (11, pv (ptr b43 0))])) (Ωb := (fun (q348 : (List T_Pai)) (y349 : (Value × List Nat)) => [oc b2 [iv .i64 0, pv (.slice none 0 0)], oa (rI .i64) y42.1 y42.2 q41, oc b43 [iv .i64 (q41.length : Int), pv y349.1], oa rT_Pai y349.1 y349.2 q348])) (0, []) ((.slice none 0 0), []) (weak [0, 1, 2, 3, 4] ⟨rfl, rfl, rfl, rfl, rfl, rfl, rfl, rfl, trivial⟩ ⟨rfl, rfl, rfl, rfl, rfl, trivial⟩) (fun s282 x283 => ?_) (fun q348 y349 => ?_)
 ·unfold pc_Citable_l2
  refine ref_seq (ref_region (s_rd (r_lss rfl rfl) rfl (l_nil (n_then (ref_seq ?_)))))
  refine ref_cond rfl (fun hb284 => ?_) (fun hb284 => ?_)
  ·refine ref_skip (n_then (ref_seq (ref_block (ref_seq (ref_region (mv1 rfl rfl (pull fun a_285 h_a_285 => s_rd (r_oindex h_a_285 Tryz.underlying27 el_3 rfl (j := 2) rfl rfl) rfl (s_rd (r_oload h_a_285 el_3 rfl (j := 2) rfl) rfl (as1 rfl rfl (as1 rfl rfl (l_nil (n_then (ref_seq (ref_region (mv1 rfl rfl (s_rd (r_olen Tryz.underlying27 rfl (j := 2) rfl) rfl (mv1 rfl rfl (l_nil (n_then ?_)))))))))))))))))))
   refine ref_loopB (f := (pc_Citable_l3 l_0 facts_1 q41 s282 a_285)) (Γl := (fun (s326 : Int × (List T_Pai)) (x327 : (Value × List Nat)) => [(1, slv rS facts_1), (2, pv (ptr b1 0)), (5, pv (ptr b2 0)), (8, pv y42.1), (11, pv (ptr b43 0)), (12, iv .i64 s282.1), (13, iv .i64 a_285), (53, pv y42.1), (54, iv .i64 (q41.length : Int)), (55, iv .i64 s282.1), (60, pv y42.1), (61, iv .i64 (q41.length : Int)), (62, iv .i64 s326.1)])) (Ωl := (fun (s326 : Int × (List T_Pai)) (x327 : (Value × List Nat)) => [oc b1 [slv rS l_0.Sides.i0, slv rS l_0.Sides.i1, slv rT_Cas l_0.Cases], oc b2 [iv .i64 0, pv (.slice none 0 0)], oa (rI .i64) y42.1 y42.2 q41, oc b43 [iv .i64 (q41.length : Int), pv x327.1], oa rT_Pai x327.1 x327.2 s326.2])) (Γb := (fun (q346 : (List T_Pai)) (y347 : (Value × List Nat)) => [(1, slv rS facts_1), (2, pv (ptr b1 0)), (5, pv (ptr b2 0)), (8, pv y42.1), (11, pv (ptr b43 0)), (53, pv y42.1), (54, iv .i64 (q41.length : Int)), (55, iv .i64 s282.1)])) (Ωb := (fun (q346 : (List T_Pai)) (y347 : (Value × List Nat)) => [oc b1 [slv rS l_0.Sides.i0, slv rS l_0.Sides.i1, slv rT_Cas l_0.Cases], oc b2 [iv .i64 0, pv (.slice none 0 0)], oa (rI .i64) y42.1 y42.2 q41, oc b43 [iv .i64 (q41.length : Int), pv y347.1], oa rT_Pai y347.1 y347.2 q346])) (0, s282.2) x283 (weak [0, 1, 2, 3, 4] ⟨rfl, rfl, rfl, rfl, rfl, rfl, rfl, rfl, rfl, rfl, rfl, rfl, rfl, trivial⟩ ⟨rfl, rfl, rfl, rfl, rfl, trivial⟩) (fun s326 x327 => ?_) (fun q346 y347 => ?_)
   ·unfold pc_Citable_l3
    refine ref_seq (ref_region (s_rd (r_lss rfl rfl) rfl (l_nil (n_then (ref_seq ?_)))))
    refine ref_cond rfl (fun hb328 => ?_) (fun hb328 => ?_)
    ·refine ref_skip (n_then (ref_seq (ref_block (ref_seq (ref_region (mv1 rfl rfl (pull fun b329 h_b329 => s_rd (r_oindex h_b329 Tryz.underlying27 el_3 rfl (j := 2) rfl rfl) rfl (s_rd (r_oload h_b329 el_3 rfl (j := 2) rfl) rfl (as1 rfl rfl (as1 rfl rfl (l_nil (n_then (ref_seq (pull fun t331 h_t331 => pull fun t332 h_t332 => ?_))))))))))))))
     refine ref_drawI 2 [⟨[], [], [], [], [], fun us u => pv (ptr b1 2), fun us u => []⟩, ⟨[0], [], [], [0], [], fun us u => slv rT_Cas l_0.Cases, fun us u => []⟩, ⟨[], [], [], [], [], fun us u => iv .i64 a_285, fun us u => []⟩, ⟨[0, 1, 2], [], [], [], [], fun us u => ea rT_Cas t331, fun us u => []⟩, ⟨[0, 1, 2, 3], [], [], [], [], fun us u => ag [sv t331.Name, slv rS t331.Facts, iv .i64 t331.Winner, slv rS t331.Reason], fun us u => []⟩, ⟨[], [], [], [], [], fun us u => pv (ptr b1 2), fun us u => []⟩, ⟨[5], [], [], [0], [], fun us u => slv rT_Cas l_0.Cases, fun us u => []⟩, ⟨[], [], [], [], [], fun us u => iv .i64 b329, fun us u => []⟩, ⟨[5, 6, 7], [], [], [], [], fun us u => ea rT_Cas t332, fun us u => []⟩, ⟨[5, 6, 7, 8], [], [], [], [], fun us u => ag [sv t332.Name, slv rS t332.Facts, iv .i64 t332.Winner, slv rS t332.Reason], fun us u => []⟩, ⟨[], [], [5], [5], [], fun us u => pv (ptr u.Nn 0), fun us u => [oc u.Nn [sv ByteArray.empty, pv (.slice none 0 0), iv .i64 0, pv (.slice none 0 0)]]⟩, ⟨[], [], [6], [6], [], fun us u => pv (ptr u.Nn 0), fun us u => [oc u.Nn [sv ByteArray.empty, pv (.slice none 0 0), iv .i64 0, pv (.slice none 0 0)]]⟩, ⟨[0, 1, 2, 3, 4, 10, 11], [10], [5], [5], [5], fun us u => pv undef, fun us u => [oc (us.getD 0 .none).Nn [sv t331.Name, slv rS t331.Facts, iv .i64 t331.Winner, slv rS t331.Reason]]⟩, ⟨[0, 1, 2, 3, 4, 5, 6, 7, 8, 9, 10, 11, 12], [11], [6], [6], [6], fun us u => pv undef, fun us u => [oc (us.getD 0 .none).Nn [sv t332.Name, slv rS t332.Facts, iv .i64 t332.Winner, slv rS t332.Reason]]⟩] (fun χ330 => [(1, slv rS facts_1), (2, pv (ptr b1 0)), (5, pv (ptr b2 0)), (8, pv y42.1), (11, pv (ptr b43 0)), (12, iv .i64 s282.1), (13, iv .i64 a_285), (14, iv .i64 s326.1), (16, pv (ptr (χ330 10).Nn 0)), (17, pv (ptr (χ330 11).Nn 0)), (53, pv y42.1), (54, iv .i64 (q41.length : Int)), (55, iv .i64 s282.1), (60, pv y42.1), (61, iv .i64 (q41.length : Int)), (62, iv .i64 s326.1)]) (fun χ330 => [oc b1 [slv rS l_0.Sides.i0, slv rS l_0.Sides.i1, slv rT_Cas l_0.Cases], oc b2 [iv .i64 0, pv (.slice none 0 0)], oa (rI .i64) y42.1 y42.2 q41, oc b43 [iv .i64 (q41.length : Int), pv x327.1], oa rT_Pai x327.1 x327.2 s326.2, oc (χ330 10).Nn [sv t331.Name, slv rS t331.Facts, iv .i64 t331.Winner, slv rS t331.Reason], oc (χ330 11).Nn [sv t332.Name, slv rS t332.Facts, iv .i64 t332.Winner, slv rS t332.Reason]]) rfl (by kernel_rfl) ⟨fun χ330 Ω _ => St.toR (r_faddr (fo := 2) Tryz.underlying26 rfl rfl Tryz.sizeOf24 rfl) (fun _ => rfl) (fun _ => rfl), (by intro _ h; cases h; rfl), ⟨fun χ330 Ω ⟨h0, _⟩ => St.toR (r_cload Tryz.isAgg24 rfl (j := 0) h0 rfl) (fun _ => rfl) (fun _ => rfl), (by intro _ h; cases h; rfl), ⟨fun χ330 Ω _ => St.toR (r_move rfl) (fun _ => rfl) (fun _ => rfl), (by intro _ h; cases h; rfl), ⟨fun χ330 Ω _ => St.toR (r_index h_t331 Tryz.underlying24 el_60 rfl rfl) (fun _ => rfl) (fun _ => rfl), (by intro _ h; cases h; rfl), ⟨fun χ330 Ω _ => St.toR (r_load el_60 rfl) (fun _ => rfl) (fun _ => rfl), (by intro _ h; cases h; rfl), ⟨fun χ330 Ω _ => St.toR (r_faddr (fo := 2) Tryz.underlying26 rfl rfl Tryz.sizeOf24 rfl) (fun _ => rfl) (fun _ => rfl), (by intro _ h; cases h; rfl), ⟨fun χ330 Ω ⟨h0, _⟩ => St.toR (r_cload Tryz.isAgg24 rfl (j := 0) h0 rfl) (fun _ => rfl) (fun _ => rfl), (by intro _ h; cases h; rfl), ⟨fun χ330 Ω _ => St.toR (r_move rfl) (fun _ => rfl) (fun _ => rfl), (by intro _ h; cases h; rfl), ⟨fun χ330 Ω _ => St.toR (r_index h_t332 Tryz.underlying24 el_60 rfl rfl) (fun _ => rfl) (fun _ => rfl), (by intro _ h; cases h; rfl), ⟨fun χ330 Ω _ => St.toR (r_load el_60 rfl) (fun _ => rfl) (fun _ => rfl), (by intro _ h; cases h; rfl), ⟨fun χ330 Ω ⟨h5, _⟩ => St.to XU.Nn XU.hN (St.placeL (os := fun _ => [_]) [5] (s_alloc zt_60) (fun _ => rfl) (fun _ => ⟨h5, rfl, trivial⟩)) (fun _ => rfl) (fun _ => rfl), (by intro _ h; cases h; rfl), ⟨fun χ330 Ω ⟨h6, _⟩ => St.to XU.Nn XU.hN (St.placeL (os := fun _ => [_]) [6] (s_alloc zt_60) (fun _ => rfl) (fun _ => ⟨h6, rfl, trivial⟩)) (fun _ => rfl) (fun _ => rfl), (by intro _ h; cases h; rfl), ⟨fun χ330 Ω ⟨h5, _⟩ => St.to XU.U XU.hU (s_cstore (out := [sv t331.Name, slv rS t331.Facts, iv .i64 t331.Winner, slv rS t331.Reason]) Tryz.sizeOf60 rfl (j := 5) h5 (part_agO (ψs := [sv t331.Name, slv rS t331.Facts, iv .i64 t331.Winner, slv rS t331.Reason]) rfl ⟨.inl sv_at, .inl slv_at, .inl iv_at, .inl slv_at, trivial⟩) rfl rfl rfl) (fun _ => rfl) (fun _ => rfl), (by intro _ h; cases h), ⟨fun χ330 Ω ⟨h6, _⟩ => St.to XU.U XU.hU (s_cstore (out := [sv t332.Name, slv rS t332.Facts, iv .i64 t332.Winner, slv rS t332.Reason]) Tryz.sizeOf60 rfl (j := 6) h6 (part_agO (ψs := [sv t332.Name, slv rS t332.Facts, iv .i64 t332.Winner, slv rS t332.Reason]) rfl ⟨.inl sv_at, .inl slv_at, .inl iv_at, .inl slv_at, trivial⟩) rfl rfl rfl) (fun _ => rfl) (fun _ => rfl), (by intro _ h; cases h), trivial⟩⟩⟩⟩⟩⟩⟩⟩⟩⟩⟩⟩⟩⟩ (fun _ => ⟨rfl, rfl, rfl, rfl, rfl, rfl, rfl, rfl, rfl, rfl, rfl, rfl, rfl, rfl, rfl, rfl, trivial⟩) (fun _ => rfl) (fun χ330 => ?_)
     refine n_then (ref_seq ?_)
     refine ref_draw [0, 1, 2, 4, 5, 6] rfl (by kernel_rfl) (fun hok => ?_)
     refine a_rd (i := 0) hok rfl (by kernel_rfl) rfl (r_faddr (fo := 1) Tryz.underlying60 rfl rfl Tryz.sizeOf22 rfl) rfl ?_
     refine a_rd (i := 1) hok rfl (by kernel_rfl) rfl (r_cload Tryz.isAgg22 rfl (j := 5) rfl rfl) rfl ?_
     refine a_rd (i := 2) hok rfl (by kernel_rfl) rfl (r_move rfl) rfl ?_
     refine a_rd (i := 4) hok rfl (by kernel_rfl) rfl (r_faddr (fo := 1) Tryz.underlying60 rfl rfl Tryz.sizeOf22 rfl) rfl ?_
     refine a_rd (i := 5) hok rfl (by kernel_rfl) rfl (r_cload Tryz.isAgg22 rfl (j := 6) rfl rfl) rfl ?_
     refine a_rd (i := 6) hok rfl (by kernel_rfl) rfl (r_move rfl) rfl ?_
     refine pull fun s335 h_s335 => ?_
     refine a_next hok 3 [] (by kernel_rfl) ?_ trivial
     refine a_st (i := 3) hok rfl rfl (s_call (ψ := fun (x336 : (Value × List Nat)) => pv x336.1) (args := [.tmp 78, .tmp 79]) Tryz.call63 rfl (pc_shared_ok h_s335) ⟨arg rfl, arg rfl, trivial⟩ (fun _ _ _ _ h => h)) (by intro _ h; cases h; rfl) (fun _ => ⟨trivial, ⟨⟨⟨rfl, rfl⟩, trivial⟩, ⟨trivial, ⟨trivial, ⟨trivial, ⟨trivial, trivial⟩⟩⟩⟩⟩⟩) (fun x336 => ?_)
     refine pull fun r_337 h_r_337 => ?_
     refine a_next hok 7 [] (by kernel_rfl) ?_ trivial
     refine a_st (i := 7) hok rfl rfl (s_call (ψ := fun (x338 : (Value × List Nat)) => pv x338.1) (args := [.tmp 82, .tmp 83]) Tryz.call63 rfl (pc_shared_ok h_r_337) ⟨arg rfl, arg rfl, trivial⟩ (fun _ _ _ _ h => h)) (by intro _ h; cases h; rfl) (fun _ => ⟨trivial, ⟨trivial, ⟨trivial, ⟨trivial, ⟨⟨⟨rfl, rfl⟩, trivial⟩, ⟨trivial, trivial⟩⟩⟩⟩⟩⟩) (fun x338 => ?_)
     refine a_next hok 8 [] (by kernel_rfl) ?_ trivial
     refine a_st (i := 8) hok rfl rfl (St.ofRd (r_assign rfl)) (by intro _ h; cases h; rfl) (fun _ => ⟨trivial, ⟨⟨⟨rfl, rfl⟩, trivial⟩, ⟨trivial, ⟨trivial, ⟨trivial, ⟨trivial, trivial⟩⟩⟩⟩⟩⟩) (fun _ => ?_)
     refine a_next hok 9 [] (by kernel_rfl) ?_ trivial
     refine a_st (i := 9) hok rfl rfl (St.ofRd (r_assign rfl)) (by intro _ h; cases h; rfl) (fun _ => ⟨trivial, ⟨trivial, ⟨trivial, ⟨trivial, ⟨trivial, ⟨trivial, trivial⟩⟩⟩⟩⟩⟩) (fun _ => ?_)
     refine a_fin hok (by kernel_rfl) ?_
     refine b_of (nrm [oc b1 [slv rS l_0.Sides.i0, slv rS l_0.Sides.i1, slv rT_Cas l_0.Cases], oc b2 [iv .i64 0, pv (.slice none 0 0)], oa (rI .i64) y42.1 y42.2 q41, oc b43 [iv .i64 (q41.length : Int), pv x327.1], oa rT_Pai x327.1 x327.2 s326.2, oc (χ330 10).Nn [sv t331.Name, slv rS t331.Facts, iv .i64 t331.Winner, slv rS t331.Reason], oc (χ330 11).Nn [sv t332.Name, slv rS t332.Facts, iv .i64 t332.Winner, slv rS t332.Reason], oa rS x336.1 x336.2 s335, oa rS x338.1 x338.2 r_337] rfl) (n_then (ref_seq ?_))
     refine ref_join (fun (j340 : Bool) (x341 : Unit) => [(1, slv rS facts_1), (2, pv (ptr b1 0)), (5, pv (ptr b2 0)), (8, pv y42.1), (11, pv (ptr b43 0)), (12, iv .i64 s282.1), (13, iv .i64 a_285), (14, iv .i64 s326.1), (53, pv y42.1), (54, iv .i64 (q41.length : Int)), (55, iv .i64 s282.1), (60, pv y42.1), (61, iv .i64 (q41.length : Int)), (62, iv .i64 s326.1), (102, bv j340)]) (fun (j340 : Bool) (x341 : Unit) => [oc b1 [slv rS l_0.Sides.i0, slv rS l_0.Sides.i1, slv rT_Cas l_0.Cases], oc b2 [iv .i64 0, pv (.slice none 0 0)], oa (rI .i64) y42.1 y42.2 q41, oc b43 [iv .i64 (q41.length : Int), pv x327.1], oa rT_Pai x327.1 x327.2 s326.2]) (fun k342 hk342 => ?_) (fun j340 x341 => ?_)
     ·refine ref_region (s_rd (r_faddr (fo := 2) Tryz.underlying60 rfl rfl Tryz.sizeOf3 rfl) rfl (s_rd (r_cload Tryz.isAgg3 rfl (j := 5) rfl rfl) rfl (s_rd (r_faddr (fo := 2) Tryz.underlying60 rfl rfl Tryz.sizeOf3 rfl) rfl (s_rd (r_cload Tryz.isAgg3 rfl (j := 6) rfl rfl) rfl (s_rd (r_neq rfl rfl) rfl (mv1 rfl rfl ?_))))))
      refine b_split (t := 90) rfl (fun _ => ?_) (fun _ => ?_)
      ·refine s_on rfl rfl rfl (mv1 rfl rfl (s_on rfl rfl rfl (mv1 rfl rfl (s_on rfl rfl rfl (pull fun t339 h_t339 => s_st (s_callB (ψ := fun (_ : Unit) => bv t339) (args := [.tmp 91, .tmp 92]) Tryz.call43 rfl (pc_within_ok h_t339) ⟨argO rfl (j := 7) rfl, argO rfl (j := 8) rfl, trivial⟩ (fun _ _ _ _ _ h => h)) rfl (fun _ => s_on rfl rfl rfl (mv1 rfl rfl ?_)))))))
       refine b_split (t := 94) rfl (fun _ => ?_) (fun _ => ?_)
       ·refine s_on rfl rfl rfl (mv1 rfl rfl (s_on rfl rfl rfl (s_rd (r_olen Tryz.underlying22 rfl (j := 7) rfl) rfl (s_on rfl rfl rfl (mv1 rfl rfl (s_on rfl rfl rfl (s_rd (r_olen Tryz.underlying22 rfl (j := 8) rfl) rfl (s_on rfl rfl rfl (s_rd (r_lss rfl rfl) rfl (s_on rfl rfl rfl (s_rd (r_pickT rfl rfl) rfl (s_on rfl rfl rfl (s_rd (r_not rfl) rfl (s_rd (r_pickT rfl rfl) rfl (l_nil ?_)))))))))))))))
        exact b_to (hk342 (!(decide ((s335.length : Int) < (r_337.length : Int)))) ()) (weak [0, 1, 2, 3, 4] ⟨rfl, rfl, rfl, rfl, rfl, rfl, rfl, rfl, rfl, rfl, rfl, rfl, rfl, rfl, rfl, trivial⟩ ⟨rfl, rfl, rfl, rfl, rfl, trivial⟩)
       refine s_off rfl rfl rfl rfl rfl (s_off rfl rfl rfl rfl rfl (s_off rfl rfl rfl rfl rfl (s_off rfl rfl rfl rfl rfl (s_off rfl rfl rfl rfl rfl (s_on rfl rfl rfl (s_rd (r_pickF rfl rfl) rfl (s_on rfl rfl rfl (s_rd (r_not rfl) rfl (s_rd (r_pickT rfl rfl) rfl (l_nil ?_))))))))))
       exact b_to (hk342 (!false) ()) (weak [0, 1, 2, 3, 4] ⟨rfl, rfl, rfl, rfl, rfl, rfl, rfl, rfl, rfl, rfl, rfl, rfl, rfl, rfl, rfl, trivial⟩ ⟨rfl, rfl, rfl, rfl, rfl, trivial⟩)
      refine s_off rfl rfl rfl rfl rfl (s_off rfl rfl rfl rfl rfl (s_off rfl rfl rfl rfl rfl (s_off rfl rfl rfl rfl rfl (s_offU rfl rfl rfl (s_offU rfl rfl rfl (s_offU rfl rfl rfl (s_offU rfl rfl rfl (s_offU rfl rfl rfl (s_off rfl rfl rfl rfl rfl (s_off rfl rfl rfl rfl rfl (s_rd (r_pickF rfl rfl) rfl (l_nil ?_))))))))))))
      exact b_to (hk342 false ()) (weak [0, 1, 2, 3, 4] ⟨rfl, rfl, rfl, rfl, rfl, rfl, rfl, rfl, rfl, rfl, rfl, rfl, rfl, rfl, rfl, trivial⟩ ⟨rfl, rfl, rfl, rfl, rfl, trivial⟩)
     refine n_then ?_
     refine ref_cond rfl (fun hb343 => ?_) (fun hb343 => ?_)
     ·refine ref_region (s_rd (r_faddr (fo := 1) Tryz.underlying52 rfl rfl Tryz.sizeOf50 rfl) rfl (s_rd (r_cload Tryz.isAgg50 rfl (j := 3) rfl rfl) rfl (mv1 rfl rfl (mv1 rfl rfl (s_rd (r_build (ps := [(0, .tmp 105), (1, .tmp 106)]) (rs := [(0, [iv .i64 s282.1]), (1, [iv .i64 s326.1])]) st_87 zs_87 ⟨rfl, (part_at rfl iv_at), ⟨rfl, (part_at rfl iv_at), trivial⟩⟩ rfl rfl) rfl (s_st (s_bslice (xs := [.tmp 107]) (ds := [(T_Pai.mk s282.1 s326.1)]) Tryz.underlying50 el_87 rfl (Nat.le_of_ble_eq_true rfl) ⟨(part_agO (ψs := [iv .i64 s282.1, iv .i64 s326.1]) rfl ⟨.inl iv_at, .inl iv_at, trivial⟩), trivial⟩) rfl (fun _ => pull fun t344 h_t344 => s_st (s_append h_t344 Tryz.underlying50 el_87 rfl (j := 4) rfl rfl) rfl (fun o345 => s_rd (r_faddr (fo := 1) Tryz.underlying52 rfl rfl Tryz.sizeOf50 rfl) rfl (s_st0 (s_cstore (out := [iv .i64 (q41.length : Int), pv o345.1]) Tryz.sizeOf50 rfl (j := 3) rfl (part_own rfl (j := 4) rfl) rfl rfl rfl) (fun _ => l_nil (n_block (n_then (ref_region (s_rd (r_add rfl rfl) rfl (mv1 rfl rfl (l_nil ?_))))))))))))))))
      exact goB o345 (weak [0, 1, 2, 3, 4] ⟨rfl, rfl, rfl, rfl, rfl, rfl, rfl, rfl, rfl, rfl, rfl, rfl, rfl, trivial⟩ ⟨rfl, rfl, rfl, rfl, rfl, trivial⟩)
     refine ref_skip (n_block (n_then (ref_region (s_rd (r_add rfl rfl) rfl (mv1 rfl rfl (l_nil ?_))))))
     exact goB x327 (weak [0, 1, 2, 3, 4] ⟨rfl, rfl, rfl, rfl, rfl, rfl, rfl, rfl, rfl, rfl, rfl, rfl, rfl, trivial⟩ ⟨rfl, rfl, rfl, rfl, rfl, trivial⟩)
    refine ref_exit (x_then ?_)
    exact brkB x327 (weak [0, 1, 2, 3, 4] ⟨rfl, rfl, rfl, rfl, rfl, rfl, rfl, rfl, trivial⟩ ⟨rfl, rfl, rfl, rfl, rfl, trivial⟩)
   refine n_block (n_then (ref_region (s_rd (r_add rfl rfl) rfl (mv1 rfl rfl (l_nil ?_)))))
   exact goB y347 (weak [0, 1, 2, 3, 4] ⟨rfl, rfl, rfl, rfl, rfl, rfl, rfl, rfl, trivial⟩ ⟨rfl, rfl, rfl, rfl, rfl, trivial⟩)
  refine ref_exit (x_then ?_)
  exact brkB x283 (weak [1, 2, 3, 4] ⟨rfl, rfl, rfl, trivial⟩ ⟨rfl, rfl, rfl, rfl, trivial⟩)
 refine n_then (ref_seq ?_)
 refine ref_draw [0, 1] rfl (by kernel_rfl) (fun hok => ?_)
 refine a_rd (i := 0) hok rfl (by kernel_rfl) rfl (r_move rfl) rfl ?_
 refine a_rd (i := 1) hok rfl (by kernel_rfl) rfl (r_cloadS Tryz.isAgg52 Tryz.sizeOf52 rfl (j := 2) rfl rfl rfl) rfl ?_
 refine a_next hok 2 [] (by kernel_rfl) ?_ trivial
 refine a_st (i := 2) hok rfl rfl (St.ofRd (r_assign rfl)) (by intro _ h; cases h; rfl) (fun _ => ⟨⟨⟨rfl, rfl⟩, trivial⟩, ⟨trivial, trivial⟩⟩) (fun _ => ?_)
 refine a_next hok 3 [] (by kernel_rfl) ?_ trivial
 refine a_st (i := 3) hok rfl rfl (s_cstore (out := [iv .i64 (q41.length : Int), pv y349.1]) Tryz.sizeOf52 rfl (j := 0) rfl (part_agO (ψs := [iv .i64 (q41.length : Int), pv y349.1]) rfl ⟨.inl iv_at, .inr ⟨_, _, _, _, _, 3, rfl, rfl⟩, trivial⟩) rfl rfl rfl) (by intro _ h; cases h) (fun _ => ⟨trivial, ⟨trivial, trivial⟩⟩) (fun _ => ?_)
 refine a_next hok 4 [] (by kernel_rfl) ?_ trivial
 refine a_st (i := 4) hok rfl rfl (St.ofRd (r_assign rfl)) (by intro _ h; cases h; rfl) (fun _ => ⟨trivial, ⟨trivial, trivial⟩⟩) (fun _ => ?_)
 refine a_fin hok (by kernel_rfl) ?_
 refine n_then (ref_ret (b_of (frzGL [(114, ag [iv .i64 (q41.length : Int), slv rT_Pai q348])] [(0, b2, [iv .i64 (q41.length : Int), slv rT_Pai q348]), (2, b43, [iv .i64 (q41.length : Int), slv rT_Pai q348])] (j := 3) rfl ⟨⟨_, rfl, .inr ⟨_, _, rfl, rfl, ⟨.inl rfl, .inr ⟨rfl, rfl⟩, trivial⟩⟩⟩, trivial⟩ ⟨⟨_, rfl, ⟨.inl rfl, .inr ⟨rfl, rfl⟩, trivial⟩⟩, ⟨_, rfl, ⟨.inl rfl, .inr ⟨rfl, rfl⟩, trivial⟩⟩, trivial⟩) (b_of (nrm [oc b2 [iv .i64 (q41.length : Int), slv rT_Pai q348], oa (rI .i64) y42.1 y42.2 q41, oc b43 [iv .i64 (q41.length : Int), slv rT_Pai q348], dead] rfl) ?_)))
 exact fin3 (.inl rfl) y42 [1] rfl ⟨rfl, trivial⟩ rfl (rv_tmp rfl) (rv_cell rfl (j := 0) rfl Tryz.isAgg52 Tryz.sizeOf52 rfl rfl) (rv_tmp rfl)

/-! math/bits.Mul32 -/
noncomputable def mb_Mul32_m (x_0 : Int) (y_1 : Int) : Option (Int × Int) :=
 letM (imul .u64 (IntKind.wrap .u64 x_0) (IntKind.wrap .u64 y_1)) fun tmp1 =>
 letM (IntKind.wrap .u32 (ishr .u64 tmp1 32)) fun hi2 =>
 letM (IntKind.wrap .u32 tmp1) fun lo3 =>
 some (hi2, lo3)

theorem mb_Mul32_ok {x_0 : Int} {y_1 : Int} {r : Int × Int} (hm : mb_Mul32_m x_0 y_1 = some r) :
  FnOk prog 111 [iv .u32 x_0, iv .u32 y_1] [] (fun (x : Unit) => [iv .u32 r.1, iv .u32 r.2]) (fun (x : Unit) => []) := by
 refine fn_ok (fn := Tryz.f111) (N := 17) (res := fun r x => [iv .u32 r.1, iv .u32 r.2]) (Ω1 := fun r x => []) Tryz.func111 rfl rfl hm rfl (fun E hM => ?_)
 unfold mb_Mul32_m
 refine ref_seq (ref_region (as1 rfl rfl (as1 rfl rfl (l_nil (n_then (ref_seq (ref_region (mv1 rfl rfl (s_rd (r_conv (k' := .u64) rfl rfl rfl) rfl (mv1 rfl rfl (s_rd (r_conv (k' := .u64) rfl rfl rfl) rfl (s_rd (r_mul rfl rfl) rfl (as1 rfl rfl (b_let (f := iv .u64) (t := 6) rfl fun tmp1 => l_nil (n_then (ref_seq (ref_region (mv1 rfl rfl (s_rd (r_shr rfl rfl (by decide)) rfl (s_rd (r_conv (k' := .u32) rfl rfl rfl) rfl (mv1 rfl rfl (s_rd (r_conv (k' := .u32) rfl rfl rfl) rfl (as1 rfl rfl (b_let (f := iv .u32) (t := 4) rfl fun hi2 => as1 rfl rfl (b_let (f := iv .u32) (t := 5) rfl fun lo3 => l_nil (n_then (ref_ret ?_)))))))))))))))))))))))))))
 exact fin2 (.inl rfl) () [] rfl trivial rfl (rv_tmp rfl) (rv_tmp rfl)

/-! math/bits.Mul64 -/
noncomputable def mb_Mul64_m (x_0 : Int) (y_1 : Int) : Option (Int × Int) :=
 letM (iand .u64 x_0 4294967295) fun x01 =>
 letM (ishr .u64 x_0 32) fun x12 =>
 letM (iand .u64 y_1 4294967295) fun y03 =>
 letM (ishr .u64 y_1 32) fun y14 =>
 letM (imul .u64 x01 y03) fun w05 =>
 letM (iadd .u64 (imul .u64 x12 y03) (ishr .u64 w05 32)) fun t6 =>
 letM (iand .u64 t6 4294967295) fun w17 =>
 letM (ishr .u64 t6 32) fun w28 =>
 letM (iadd .u64 w17 (imul .u64 x01 y14)) fun w19 =>
 letM (iadd .u64 (iadd .u64 (imul .u64 x12 y14) w28) (ishr .u64 w19 32)) fun hi10 =>
 letM (imul .u64 x_0 y_1) fun lo11 =>
 some (hi10, lo11)

theorem mb_Mul64_ok {x_0 : Int} {y_1 : Int} {r : Int × Int} (hm : mb_Mul64_m x_0 y_1 = some r) :
  FnOk prog 112 [iv .u64 x_0, iv .u64 y_1] [] (fun (x : Unit) => [iv .u64 r.1, iv .u64 r.2]) (fun (x : Unit) => []) := by
 refine fn_ok (fn := Tryz.f112) (N := 51) (res := fun r x => [iv .u64 r.1, iv .u64 r.2]) (Ω1 := fun r x => []) Tryz.func112 rfl rfl hm rfl (fun E hM => ?_)
 unfold mb_Mul64_m
 refine ref_seq (ref_region (as1 rfl rfl (as1 rfl rfl (l_nil (n_then (ref_seq (ref_region (mv1 rfl rfl (s_rd (r_and rfl rfl) rfl (as1 rfl rfl (b_let (f := iv .u64) (t := 6) rfl fun x01 => l_nil (n_then (ref_seq (ref_region (mv1 rfl rfl (s_rd (r_shr rfl rfl (by decide)) rfl (as1 rfl rfl (b_let (f := iv .u64) (t := 7) rfl fun x12 => l_nil (n_then (ref_seq (ref_region (mv1 rfl rfl (s_rd (r_and rfl rfl) rfl (as1 rfl rfl (b_let (f := iv .u64) (t := 8) rfl fun y03 => l_nil (n_then (ref_seq (ref_region (mv1 rfl rfl (s_rd (r_shr rfl rfl (by decide)) rfl (as1 rfl rfl (b_let (f := iv .u64) (t := 9) rfl fun y14 => l_nil (n_then (ref_seq (ref_region (mv1 rfl rfl (mv1 rfl rfl (s_rd (r_mul rfl rfl) rfl (as1 rfl rfl (b_let (f := iv .u64) (t := 10) rfl fun w05 => l_nil (n_then (ref_seq (ref_region (mv1 rfl rfl ?_))))))))))))))))))))))))))))))))))))))))))))
 refine mv1 rfl rfl (s_rd (r_mul rfl rfl) rfl (mv1 rfl rfl (s_rd (r_shr rfl rfl (by decide)) rfl (s_rd (r_add rfl rfl) rfl (as1 rfl rfl (b_let (f := iv .u64) (t := 11) rfl fun t6 => l_nil (n_then (ref_seq (ref_region (mv1 rfl rfl (s_rd (r_and rfl rfl) rfl (as1 rfl rfl (b_let (f := iv .u64) (t := 12) rfl fun w17 => l_nil (n_then (ref_seq (ref_region (mv1 rfl rfl (s_rd (r_shr rfl rfl (by decide)) rfl (as1 rfl rfl (b_let (f := iv .u64) (t := 13) rfl fun w28 => l_nil (n_then (ref_seq (ref_region (mv1 rfl rfl (mv1 rfl rfl (mv1 rfl rfl (s_rd (r_mul rfl rfl) rfl (s_rd (r_add rfl rfl) rfl (as1 rfl rfl (b_let (f := iv .u64) (t := 12) rfl fun w19 => l_nil (n_then (ref_seq (ref_region (mv1 rfl rfl (mv1 rfl rfl (s_rd (r_mul rfl rfl) rfl (mv1 rfl rfl (s_rd (r_add rfl rfl) rfl ?_))))))))))))))))))))))))))))))))))))))
 refine mv1 rfl rfl (s_rd (r_shr rfl rfl (by decide)) rfl (s_rd (r_add rfl rfl) rfl (as1 rfl rfl (b_let (f := iv .u64) (t := 4) rfl fun hi10 => l_nil (n_then (ref_seq (ref_region (mv1 rfl rfl (mv1 rfl rfl (s_rd (r_mul rfl rfl) rfl (as1 rfl rfl (b_let (f := iv .u64) (t := 5) rfl fun lo11 => l_nil (n_then (ref_ret ?_))))))))))))))
 exact fin2 (.inl rfl) () [] rfl trivial rfl (rv_tmp rfl) (rv_tmp rfl)

/-! math/bits.Mul -/
noncomputable def mb_Mul_m (x_0 : Int) (y_1 : Int) : Option (Int × Int) :=
 Option.bind (mb_Mul64_m x_0 y_1) fun t1 =>
 some (t1.1, t1.2)

theorem mb_Mul_ok {x_0 : Int} {y_1 : Int} {r : Int × Int} (hm : mb_Mul_m x_0 y_1 = some r) :
  FnOk prog 106 [iv .u64 x_0, iv .u64 y_1] [] (fun (x : Unit) => [iv .u64 r.1, iv .u64 r.2]) (fun (x : Unit) => []) := by
 refine fn_ok (fn := Tryz.f106) (N := 30) (res := fun r x => [iv .u64 r.1, iv .u64 r.2]) (Ω1 := fun r x => []) Tryz.func106 rfl rfl hm rfl (fun E hM => ?_)
 unfold mb_Mul_m
 refine ref_seq (ref_region (as1 rfl rfl (as1 rfl rfl (l_nil (n_then (ref_seq (ref_condF rfl rfl (ref_skip (n_then (ref_seq (ref_region (mv1 rfl rfl (mv1 rfl rfl (pull fun t1 h_t1 => s_st (s_call (ψ := fun (_ : Unit) => tup [iv .u64 t1.1, iv .u64 t1.2]) (args := [.tmp 23, .tmp 24]) Tryz.call112 rfl (mb_Mul64_ok h_t1) ⟨arg rfl, arg rfl, trivial⟩ (fun _ _ _ _ h => h)) rfl (fun _ => mv1 rfl rfl (s_rd (r_extract rfl rfl) rfl (s_rd (r_extract rfl rfl) rfl (as1 rfl rfl (as1 rfl rfl (l_nil (n_then (ref_seq (ref_region (mv1 rfl rfl (mv1 rfl rfl (as1 rfl rfl (as1 rfl rfl (l_nil (n_then (ref_ret ?_))))))))))))))))))))))))))))))
 exact fin2 (.inl rfl) () [] rfl trivial rfl (rv_tmp rfl) (rv_tmp rfl)

/-! slices.Repeat[[]int,int] -/
noncomputable def slices_Repeat_int_int_l1  (s17 : Int × (List Int)) : Option (Sum ((List Int)) (Int × (List Int))) :=
 bif decide (s17.1 < (s17.2.length : Int)) then
  Option.bind (slM s17.2 s17.1 (s17.2.length : Int)) fun t20 =>
  Option.bind (slM s17.2 0 s17.1) fun t21 =>
  some (Sum.inr (iadd .i64 s17.1 ((min t21.length t20.length : Nat) : Int), cpO s17.2 s17.1 (s17.2.length : Int) 0 s17.1))
 else
  some (Sum.inl s17.2)

noncomputable def slices_Repeat_int_int_m (x_0 : (List Int)) (count_1 : Int) : Option (List Int) :=
 bif decide (count_1 < 0) then
  none
 else
  Option.bind (mb_Mul_m (IntKind.wrap .u64 (x_0.length : Int)) (IntKind.wrap .u64 count_1)) fun t2 =>
  bif decide (t2.1 > 0) then
   none
  else
   bif decide (t2.2 > 9223372036854775807) then
    none
   else
    Option.bind (mkM 8 0 (IntKind.wrap .i64 t2.2)) fun newslice4 =>
    letM (((min x_0.length newslice4.length : Nat) : Int)) fun n6 =>
    Option.bind (loopC (slices_Repeat_int_int_l1) (n6, cpA newslice4 x_0)) fun q22 : (List Int) =>
    some q22

theorem slices_Repeat_int_int_ok {x_0 : (List Int)} {count_1 : Int} {r : List Int} (hm : slices_Repeat_int_int_m x_0 count_1 = some r) :
  FnOk prog 98 [slv (rI .i64) x_0, iv .i64 count_1] [] (fun (x : (Value × List Nat)) => [pv x.1]) (fun (x : (Value × List Nat)) => [oa (rI .i64) x.1 x.2 r]) := by
 refine fn_ok (X := (Value × List Nat)) (fn := Tryz.f98) (N := 48) (res := fun r x => [pv x.1]) (Ω1 := fun r x => [oa (rI .i64) x.1 x.2 r]) Tryz.func98 rfl rfl hm rfl (fun E hM => ?_)
 unfold slices_Repeat_int_int_m
 refine ref_seq (ref_region (as1 rfl rfl (l_nil (n_then (ref_seq (ref_seq (ref_region (mv1 rfl rfl (s_rd (r_lss rfl rfl) rfl (l_nil (n_then ?_)))))))))))
 refine ref_cond rfl (fun hb1 => ?_) (fun hb1 => ?_)
 ·refine ref_region ?_
  exact pnone
 refine ref_skip (n_then (ref_seq (ref_region (mv1 rfl rfl (s_rd (r_len Tryz.underlying27 rfl) rfl (s_rd (r_conv (k' := .u64) rfl rfl rfl) rfl (mv1 rfl rfl (s_rd (r_conv (k' := .u64) rfl rfl rfl) rfl (pull fun t2 h_t2 => s_st (s_call (ψ := fun (_ : Unit) => tup [iv .u64 t2.1, iv .u64 t2.2]) (args := [.tmp 15, .tmp 17]) Tryz.call106 rfl (mb_Mul_ok h_t2) ⟨arg rfl, arg rfl, trivial⟩ (fun _ _ _ _ h => h)) rfl (fun _ => mv1 rfl rfl (s_rd (r_extract rfl rfl) rfl (s_rd (r_extract rfl rfl) rfl (as1 rfl rfl (as1 rfl rfl (l_nil (n_then (ref_seq (ref_seq (ref_region (mv1 rfl rfl (s_rd (r_gtr rfl rfl) rfl (mv1 rfl rfl ?_))))))))))))))))))))))
 refine b_split (t := 23) rfl (fun _ => ?_) (fun _ => ?_)
 ·refine s_off rfl rfl rfl rfl rfl (s_off rfl rfl rfl rfl rfl (s_rd (r_pickT rfl rfl) rfl (l_nil (n_then (ref_condT rfl rfl (ref_region ?_))))))
  exact pnone
 refine s_on rfl rfl rfl (mv1 rfl rfl (s_on rfl rfl rfl (s_rd (r_gtr rfl rfl) rfl (s_rd (r_pickF rfl rfl) rfl (l_nil (n_then ?_))))))
 refine ref_cond rfl (fun hb3 => ?_) (fun hb3 => ?_)
 ·refine ref_region ?_
  exact pnone
 refine ref_skip (n_then (ref_seq (ref_region (mv1 rfl rfl (s_rd (r_conv (k' := .i64) rfl rfl rfl) rfl (pull fun newslice4 h_newslice4 => s_st (s_make h_newslice4 Tryz.underlying27 el_3 ze_3 rfl rfl) rfl (fun o5 => as1 rfl rfl (l_nil (n_then (ref_seq (ref_region (mv1 rfl rfl (mv1 rfl rfl (s_st (s_copyA Tryz.underlying27 el_3 rfl (j := 0) rfl rfl) rfl (fun _ => as1 rfl rfl (b_let (f := iv .i64) (t := 8) rfl fun n6 => l_nil (n_then (ref_seq ?_))))))))))))))))))
 refine ref_loopB (f := (slices_Repeat_int_int_l1)) (Γl := (fun (s17 : Int × (List Int)) (x18 : Unit) => [(7, pv o5.1), (8, iv .i64 s17.1)])) (Ωl := (fun (s17 : Int × (List Int)) (x18 : Unit) => [oa (rI .i64) o5.1 o5.2 s17.2])) (Γb := (fun (q22 : (List Int)) (y23 : Unit) => [(7, pv o5.1)])) (Ωb := (fun (q22 : (List Int)) (y23 : Unit) => [oa (rI .i64) o5.1 o5.2 q22])) (n6, cpA newslice4 x_0) () (weak [0] ⟨rfl, rfl, trivial⟩ ⟨rfl, trivial⟩) (fun s17 x18 => ?_) (fun q22 y23 => ?_)
 ·unfold slices_Repeat_int_int_l1
  refine ref_seq (ref_seq (ref_region (mv1 rfl rfl (mv1 rfl rfl (s_rd (r_olen Tryz.underlying27 rfl (j := 0) rfl) rfl (s_rd (r_lss rfl rfl) rfl (l_nil (n_then ?_))))))))
  refine ref_cond rfl (fun hb19 => ?_) (fun hb19 => ?_)
  ·refine ref_skip (n_then (ref_block ?_))
   refine ref_draw [0, 1, 2, 3, 4, 5, 6, 8] rfl (by kernel_rfl) (fun hok => ?_)
   refine a_rd (i := 0) hok rfl (by kernel_rfl) rfl (r_move rfl) rfl ?_
   refine a_rd (i := 1) hok rfl (by kernel_rfl) rfl (r_move rfl) rfl ?_
   refine a_rd (i := 2) hok rfl (by kernel_rfl) rfl (r_move rfl) rfl ?_
   refine pull fun t20 h_t20 => ?_
   refine a_rd (i := 3) hok rfl (by kernel_rfl) rfl (r_osub h_t20 Tryz.underlying27 el_3 rfl (j := 0) rfl (.of rfl) .dft) rfl ?_
   refine a_rd (i := 4) hok rfl (by kernel_rfl) rfl (r_move rfl) rfl ?_
   refine a_rd (i := 5) hok rfl (by kernel_rfl) rfl (r_move rfl) rfl ?_
   refine pull fun t21 h_t21 => ?_
   refine a_rd (i := 6) hok rfl (by kernel_rfl) rfl (r_osub h_t21 Tryz.underlying27 el_3 rfl (j := 0) rfl .dft (.of rfl)) rfl ?_
   refine a_next hok 7 [] (by kernel_rfl) ?_ trivial
   refine a_st (i := 7) hok rfl rfl (s_copyW h_t20 h_t21 Tryz.underlying27 el_3 rfl (j := 0) rfl rfl) (by intro _ h; cases h; rfl) (fun _ => ⟨trivial, ⟨trivial, ⟨trivial, ⟨trivial, ⟨trivial, ⟨trivial, ⟨trivial, trivial⟩⟩⟩⟩⟩⟩⟩) (fun _ => ?_)
   refine a_rd (i := 8) hok rfl (by kernel_rfl) rfl (r_add rfl rfl) rfl ?_
   refine a_next hok 9 [] (by kernel_rfl) ?_ trivial
   refine a_st (i := 9) hok rfl rfl (St.ofRd (r_assign rfl)) (by intro _ h; cases h; rfl) (fun _ => ⟨trivial, ⟨trivial, ⟨trivial, ⟨trivial, ⟨trivial, ⟨trivial, ⟨trivial, ⟨trivial, trivial⟩⟩⟩⟩⟩⟩⟩⟩) (fun _ => ?_)
   refine a_fin hok (by kernel_rfl) ?_
   refine b_of (nrm [oa (rI .i64) o5.1 o5.2 (cpO s17.2 s17.1 (s17.2.length : Int) 0 s17.1)] rfl) (n_block ?_)
   exact goB () (weak [0] ⟨rfl, rfl, trivial⟩ ⟨rfl, trivial⟩)
  refine ref_exit (x_then ?_)
  exact brkB () (weak [0] ⟨rfl, trivial⟩ ⟨rfl, trivial⟩)
 refine n_then (ref_seq (ref_region (mv1 rfl rfl (as1 rfl rfl (l_nil (n_then (ref_ret ?_)))))))
 exact fin1 (.inl rfl) o5 [0] rfl ⟨rfl, trivial⟩ rfl (rv_tmp rfl)

/-! cmp.isNaN[int] -/
noncomputable def cmp_isNaN_int_m (x_0 : Int) : Option (Bool) :=
 some (x_0 != x_0)

theorem cmp_isNaN_int_ok {x_0 : Int} {r : Bool} (hm : cmp_isNaN_int_m x_0 = some r) :
  FnOk prog 118 [iv .i64 x_0] [] (fun (x : Unit) => [bv r]) (fun (x : Unit) => []) := by
 refine fn_ok (fn := Tryz.f118) (N := 6) (res := fun r x => [bv r]) (Ω1 := fun r x => []) Tryz.func118 rfl rfl hm rfl (fun E hM => ?_)
 unfold cmp_isNaN_int_m
 refine ref_seq (ref_region (as1 rfl rfl (l_nil (n_then (ref_seq (ref_region (mv1 rfl rfl (mv1 rfl rfl (s_rd (r_neq rfl rfl) rfl (as1 rfl rfl (l_nil (n_then (ref_ret ?_)))))))))))))
 exact fin1 (.inl rfl) () [] rfl trivial rfl (rv_tmp rfl)

/-! cmp.Compare[int] -/
noncomputable def cmp_Compare_int_m (x_0 : Int) (y_1 : Int) : Option (Int) :=
 Option.bind (cmp_isNaN_int_m x_0) fun xNaN1 =>
 Option.bind (cmp_isNaN_int_m y_1) fun yNaN2 =>
 bif xNaN1 then
  bif yNaN2 then
   some 0
  else
   some (-1)
 else
  bif yNaN2 then
   some 1
  else
   bif decide (x_0 < y_1) then
    some (-1)
   else
    bif decide (x_0 > y_1) then
     some 1
    else
     some 0

theorem cmp_Compare_int_ok {x_0 : Int} {y_1 : Int} {r : Int} (hm : cmp_Compare_int_m x_0 y_1 = some r) :
  FnOk prog 117 [iv .i64 x_0, iv .i64 y_1] [] (fun (x : Unit) => [iv .i64 r]) (fun (x : Unit) => []) := by
 refine fn_ok (fn := Tryz.f117) (N := 20) (res := fun r x => [iv .i64 r]) (Ω1 := fun r x => []) Tryz.func117 rfl rfl hm rfl (fun E hM => ?_)
 unfold cmp_Compare_int_m
 refine ref_seq (ref_region (as1 rfl rfl (l_nil (n_then (ref_seq (ref_region (mv1 rfl rfl (pull fun xNaN1 h_xNaN1 => s_st (s_call (ψ := fun (_ : Unit) => bv xNaN1) (args := [.tmp 7]) Tryz.call118 rfl (cmp_isNaN_int_ok h_xNaN1) ⟨arg rfl, trivial⟩ (fun _ _ _ _ h => h)) rfl (fun _ => as1 rfl rfl (l_nil (n_then (ref_seq (ref_region (mv1 rfl rfl (pull fun yNaN2 h_yNaN2 => s_st (s_call (ψ := fun (_ : Unit) => bv yNaN2) (args := [.tmp 9]) Tryz.call118 rfl (cmp_isNaN_int_ok h_yNaN2) ⟨arg rfl, trivial⟩ (fun _ _ _ _ h => h)) rfl (fun _ => as1 rfl rfl (l_nil (n_then (ref_seq (ref_seq (ref_region (mv1 rfl rfl (l_nil (n_then ?_))))))))))))))))))))))))
 refine ref_cond rfl (fun hb3 => ?_) (fun hb3 => ?_)
 ·refine ref_seq (ref_seq (ref_region (mv1 rfl rfl (l_nil (n_then ?_)))))
  refine ref_cond rfl (fun hb4 => ?_) (fun hb4 => ?_)
  ·refine ref_seq (ref_region (as1 rfl rfl (l_nil (n_then (ref_ret (r_then (r_then ?_)))))))
   exact fin1 (.inl rfl) () [] rfl trivial rfl (rv_tmp rfl)
  refine ref_skip (n_then (ref_seq (ref_region (as1 rfl rfl (l_nil (n_then (ref_ret (r_then ?_))))))))
  exact fin1 (.inl rfl) () [] rfl trivial rfl (rv_tmp rfl)
 refine ref_skip (n_then (ref_seq (ref_seq (ref_region (mv1 rfl rfl (l_nil (n_then ?_)))))))
 refine ref_cond rfl (fun hb5 => ?_) (fun hb5 => ?_)
 ·refine ref_seq (ref_region (as1 rfl rfl (l_nil (n_then (ref_ret (r_then ?_))))))
  exact fin1 (.inl rfl) () [] rfl trivial rfl (rv_tmp rfl)
 refine ref_skip (n_then (ref_seq (ref_seq (ref_region (mv1 rfl rfl (mv1 rfl rfl (s_rd (r_lss rfl rfl) rfl (l_nil (n_then ?_)))))))))
 refine ref_cond rfl (fun hb6 => ?_) (fun hb6 => ?_)
 ·refine ref_seq (ref_region (as1 rfl rfl (l_nil (n_then (ref_ret (r_then ?_))))))
  exact fin1 (.inl rfl) () [] rfl trivial rfl (rv_tmp rfl)
 refine ref_skip (n_then (ref_seq (ref_seq (ref_region (mv1 rfl rfl (mv1 rfl rfl (s_rd (r_gtr rfl rfl) rfl (l_nil (n_then ?_)))))))))
 refine ref_cond rfl (fun hb7 => ?_) (fun hb7 => ?_)
 ·refine ref_seq (ref_region (as1 rfl rfl (l_nil (n_then (ref_ret (r_then ?_))))))
  exact fin1 (.inl rfl) () [] rfl trivial rfl (rv_tmp rfl)
 refine ref_skip (n_then (ref_seq (ref_region (as1 rfl rfl (l_nil (n_then (ref_ret ?_)))))))
 exact fin1 (.inl rfl) () [] rfl trivial rfl (rv_tmp rfl)

/-! cmp.Or[int] -/
noncomputable def cmp_Or_int_l1 (vals_0 : (List Int)) (s6 : Int) : Option (Sum ((Sum (Int) (Unit))) (Int)) :=
 bif decide (s6 < (vals_0.length : Int)) then
  Option.bind (idxM vals_0 s6) fun val9 =>
  bif val9 != 0 then
   some (Sum.inl (Sum.inl val9))
  else
   some (Sum.inr (iadd .i64 s6 1))
 else
  some (Sum.inl (Sum.inr ()))

noncomputable def cmp_Or_int_m (vals_0 : (List Int)) : Option (Int) :=
 Option.bind (loopC (cmp_Or_int_l1 vals_0) 0) (sumK (fun a : Int => some a) fun q11 : Unit =>
  some 0)

theorem cmp_Or_int_ok {vals_0 : (List Int)} {r : Int} (hm : cmp_Or_int_m vals_0 = some r) :
  FnOk prog 116 [slv (rI .i64) vals_0] [] (fun (x : Unit) => [iv .i64 r]) (fun (x : Unit) => []) := by
 refine fn_ok (fn := Tryz.f116) (N := 18) (res := fun r x => [iv .i64 r]) (Ω1 := fun r x => []) Tryz.func116 rfl rfl hm rfl (fun E hM => ?_)
 unfold cmp_Or_int_m
 refine ref_seq (ref_region (as1 rfl rfl (l_nil (n_then (ref_seq (ref_region (as1 rfl rfl (l_nil (n_then (ref_seq (ref_seq (ref_region (mv1 rfl rfl (s_rd (r_len Tryz.underlying27 rfl) rfl (mv1 rfl rfl (l_nil (n_then ?_)))))))))))))))))
 refine ref_loopX (f := (cmp_Or_int_l1 vals_0)) (Γl := (fun (s6 : Int) (x7 : Unit) => [(3, iv .i64 0), (6, slv (rI .i64) vals_0), (7, iv .i64 (vals_0.length : Int)), (8, iv .i64 s6)])) (Ωl := (fun (s6 : Int) (x7 : Unit) => [])) (Γb := (fun (q11 : Unit) (y12 : Unit) => [(3, iv .i64 0)])) (Ωb := (fun (q11 : Unit) (y12 : Unit) => [])) (kr := (fun a : Int => some a)) 0 () (weak [] ⟨rfl, rfl, rfl, rfl, trivial⟩ trivial) (fun s6 x7 => ?_) (fun q11 y12 => ?_)
 ·unfold cmp_Or_int_l1
  refine ref_seq (ref_region (s_rd (r_lss rfl rfl) rfl (l_nil (n_then (ref_seq ?_)))))
  refine ref_cond rfl (fun hb8 => ?_) (fun hb8 => ?_)
  ·refine ref_skip (n_then (ref_seq (ref_block (ref_seq (ref_region (pull fun val9 h_val9 => s_rd (r_index h_val9 Tryz.underlying27 el_3 rfl rfl) rfl (s_rd (r_load el_3 rfl) rfl (as1 rfl rfl (l_nil (n_then (ref_seq (ref_region (mv1 rfl rfl (mv1 rfl rfl (s_rd (r_neq rfl rfl) rfl (l_nil (n_then ?_)))))))))))))))))
   refine ref_cond rfl (fun hb10 => ?_) (fun hb10 => ?_)
   ·refine ref_seq (ref_region (mv1 rfl rfl (as1 rfl rfl (l_nil (n_then (ref_ret (r_block (r_then ?_))))))))
    refine retX ?_
    refine r_block (r_then ?_)
    exact fin1 (.inl rfl) () [] rfl trivial rfl (rv_tmp rfl)
   refine ref_skip (n_block (n_then (ref_region (s_rd (r_add rfl rfl) rfl (mv1 rfl rfl (l_nil ?_))))))
   exact goX () (weak [] ⟨rfl, rfl, rfl, rfl, trivial⟩ trivial)
  refine ref_exit (x_then ?_)
  exact brkX () (weak [] ⟨rfl, trivial⟩ trivial)
 refine n_then (ref_seq (ref_region (mv1 rfl rfl (as1 rfl rfl (l_nil (n_then (ref_ret ?_)))))))
 exact fin1 (.inl rfl) () [] rfl trivial rfl (rv_tmp rfl)

/-! deliberation/graph.compare -/
noncomputable def graph_compare_m (a__0 : T_Pai) (b_1 : T_Pai) : Option (Int) :=
 Option.bind (cmp_Compare_int_m a__0.From b_1.From) fun t3 =>
 Option.bind (cmp_Compare_int_m a__0.To b_1.To) fun t4 =>
 Option.bind (cmp_Or_int_m [t3, t4]) fun t5 =>
 some t5

theorem graph_compare_ok {a__0 : T_Pai} {b_1 : T_Pai} {r : Int} (hm : graph_compare_m a__0 b_1 = some r) :
  FnOk prog 115 [ag [iv .i64 a__0.From, iv .i64 a__0.To], ag [iv .i64 b_1.From, iv .i64 b_1.To]] [] (fun (x : Unit) => [iv .i64 r]) (fun (x : Unit) => []) := by
 refine fn_ok (fn := Tryz.f115) (N := 17) (res := fun r x => [iv .i64 r]) (Ω1 := fun r x => []) Tryz.func115 rfl rfl hm rfl (fun E hM => ?_)
 unfold graph_compare_m
 refine ref_seq (ref_region (s_st (s_box (part_agO (ψs := [iv .i64 a__0.From, iv .i64 a__0.To]) rfl ⟨.inl iv_at, .inl iv_at, trivial⟩)) rfl (fun b1 => s_st (s_box (part_agO (ψs := [iv .i64 b_1.From, iv .i64 b_1.To]) rfl ⟨.inl iv_at, .inl iv_at, trivial⟩)) rfl (fun b2 => as1 rfl rfl (l_nil (n_then (ref_seq ?_)))))))
 refine ref_draw [0, 1, 2, 3, 5, 6, 7, 8] rfl (by kernel_rfl) (fun hok => ?_)
 refine a_rd (i := 0) hok rfl (by kernel_rfl) rfl (r_faddr (fo := 0) Tryz.underlying87 rfl rfl Tryz.sizeOf3 rfl) rfl ?_
 refine a_rd (i := 1) hok rfl (by kernel_rfl) rfl (r_cload Tryz.isAgg3 rfl (j := 0) rfl rfl) rfl ?_
 refine a_rd (i := 2) hok rfl (by kernel_rfl) rfl (r_faddr (fo := 0) Tryz.underlying87 rfl rfl Tryz.sizeOf3 rfl) rfl ?_
 refine a_rd (i := 3) hok rfl (by kernel_rfl) rfl (r_cload Tryz.isAgg3 rfl (j := 1) rfl rfl) rfl ?_
 refine a_rd (i := 5) hok rfl (by kernel_rfl) rfl (r_faddr (fo := 1) Tryz.underlying87 rfl rfl Tryz.sizeOf3 rfl) rfl ?_
 refine a_rd (i := 6) hok rfl (by kernel_rfl) rfl (r_cload Tryz.isAgg3 rfl (j := 0) rfl rfl) rfl ?_
 refine a_rd (i := 7) hok rfl (by kernel_rfl) rfl (r_faddr (fo := 1) Tryz.underlying87 rfl rfl Tryz.sizeOf3 rfl) rfl ?_
 refine a_rd (i := 8) hok rfl (by kernel_rfl) rfl (r_cload Tryz.isAgg3 rfl (j := 1) rfl rfl) rfl ?_
 refine pull fun t3 h_t3 => ?_
 refine a_next hok 4 [] (by kernel_rfl) ?_ trivial
 refine a_st (i := 4) hok rfl rfl (s_call (ψ := fun (_ : Unit) => iv .i64 t3) (args := [.tmp 6, .tmp 8]) Tryz.call117 rfl (cmp_Compare_int_ok h_t3) ⟨arg rfl, arg rfl, trivial⟩ (fun _ _ _ _ h => h)) (by intro _ h; cases h; rfl) (fun _ => ⟨⟨⟨rfl, rfl⟩, trivial⟩, ⟨trivial, ⟨⟨⟨rfl, rfl⟩, trivial⟩, ⟨trivial, ⟨trivial, ⟨trivial, ⟨trivial, ⟨trivial, trivial⟩⟩⟩⟩⟩⟩⟩⟩) (fun _ => ?_)
 refine pull fun t4 h_t4 => ?_
 refine a_next hok 9 [] (by kernel_rfl) ?_ trivial
 refine a_st (i := 9) hok rfl rfl (s_call (ψ := fun (_ : Unit) => iv .i64 t4) (args := [.tmp 11, .tmp 13]) Tryz.call117 rfl (cmp_Compare_int_ok h_t4) ⟨arg rfl, arg rfl, trivial⟩ (fun _ _ _ _ h => h)) (by intro _ h; cases h; rfl) (fun _ => ⟨trivial, ⟨trivial, ⟨trivial, ⟨trivial, ⟨⟨⟨rfl, rfl⟩, trivial⟩, ⟨trivial, ⟨⟨⟨rfl, rfl⟩, trivial⟩, ⟨trivial, trivial⟩⟩⟩⟩⟩⟩⟩⟩) (fun _ => ?_)
 refine a_next hok 10 [] (by kernel_rfl) ?_ trivial
 refine a_st (i := 10) hok rfl rfl (s_bslice (xs := [.tmp 9, .tmp 14]) (ds := [t3, t4]) Tryz.underlying27 el_3 rfl (Nat.le_of_ble_eq_true rfl) ⟨(part_at rfl iv_at), ⟨(part_at rfl iv_at), trivial⟩⟩) (by intro _ h; cases h; rfl) (fun _ => ⟨⟨⟨rfl, rfl⟩, trivial⟩, ⟨trivial, ⟨⟨⟨rfl, rfl⟩, trivial⟩, ⟨trivial, ⟨⟨⟨rfl, rfl⟩, trivial⟩, ⟨trivial, ⟨⟨⟨rfl, rfl⟩, trivial⟩, ⟨trivial, trivial⟩⟩⟩⟩⟩⟩⟩⟩) (fun _ => ?_)
 refine pull fun t5 h_t5 => ?_
 refine a_next hok 11 [] (by kernel_rfl) ?_ trivial
 refine a_st (i := 11) hok rfl rfl (s_call (ψ := fun (_ : Unit) => iv .i64 t5) (args := [.tmp 15]) Tryz.call116 rfl (cmp_Or_int_ok h_t5) ⟨arg rfl, trivial⟩ (fun _ _ _ _ h => h)) (by intro _ h; cases h; rfl) (fun _ => ⟨⟨⟨rfl, rfl⟩, trivial⟩, ⟨trivial, ⟨⟨⟨rfl, rfl⟩, trivial⟩, ⟨trivial, ⟨⟨⟨rfl, rfl⟩, trivial⟩, ⟨trivial, ⟨⟨⟨rfl, rfl⟩, trivial⟩, ⟨trivial, trivial⟩⟩⟩⟩⟩⟩⟩⟩) (fun _ => ?_)
 refine a_next hok 12 [] (by kernel_rfl) ?_ trivial
 refine a_st (i := 12) hok rfl rfl (St.ofRd (r_assign rfl)) (by intro _ h; cases h; rfl) (fun _ => ⟨trivial, ⟨trivial, ⟨trivial, ⟨trivial, ⟨trivial, ⟨trivial, ⟨trivial, ⟨trivial, trivial⟩⟩⟩⟩⟩⟩⟩⟩) (fun _ => ?_)
 refine a_fin hok (by kernel_rfl) ?_
 refine b_of (nrm [oc b1 [iv .i64 a__0.From, iv .i64 a__0.To], oc b2 [iv .i64 b_1.From, iv .i64 b_1.To]] rfl) (n_then (ref_ret ?_))
 exact fin1 (.inl rfl) () [] rfl trivial rfl (rv_tmp rfl)

/-! deliberation/graph.Validate -/
noncomputable def graph_Validate_l1 (g_0 : T_Gra) (s12 : Int) : Option (Sum ((Sum (Int) (Unit))) (Int)) :=
 bif decide (s12 < (g_0.L.length : Int)) then
  Option.bind (idxM g_0.L s12) fun t15 =>
  bif decide ((imin t15.From t15.To) < 0) then
   some (Sum.inl (Sum.inl 1))
  else
   bif decide ((imax t15.From t15.To) ≥ g_0.N) then
    some (Sum.inl (Sum.inl 1))
   else
    bif decide (s12 > 0) then
     Option.bind (idxM g_0.L (isub .i64 s12 1)) fun t18 =>
     Option.bind (graph_compare_m t18 t15) fun t19 =>
     bif decide (t19 ≥ 0) then
      some (Sum.inl (Sum.inl 8))
     else
      some (Sum.inr (iadd .i64 s12 1))
    else
     some (Sum.inr (iadd .i64 s12 1))
 else
  some (Sum.inl (Sum.inr ()))

noncomputable def graph_Validate_m (g_0 : T_Gra) : Option (Int) :=
 bif decide (g_0.N < 0) then
  some 1
 else
  bif decide (g_0.N > 40) then
   some 1
  else
   Option.bind (loopC (graph_Validate_l1 g_0) 0) (sumK (fun a : Int => some a) fun q21 : Unit =>
    some 0)

theorem graph_Validate_ok {g_0 : T_Gra} {r : Int} (hm : graph_Validate_m g_0 = some r) :
  FnOk prog 113 [ag [iv .i64 g_0.N, slv rT_Pai g_0.L]] [] (fun (x : Unit) => [iv .i64 r]) (fun (x : Unit) => []) := by
 refine fn_ok (fn := Tryz.f113) (N := 51) (res := fun r x => [iv .i64 r]) (Ω1 := fun r x => []) Tryz.func113 rfl rfl hm rfl (fun E hM => ?_)
 unfold graph_Validate_m
 refine ref_seq (ref_region (s_st (s_box (part_agO (ψs := [iv .i64 g_0.N, slv rT_Pai g_0.L]) rfl ⟨.inl iv_at, .inl slv_at, trivial⟩)) rfl (fun b1 => as1 rfl rfl (l_nil (n_then (ref_seq (ref_seq (ref_region (s_rd (r_faddr (fo := 0) Tryz.underlying52 rfl rfl Tryz.sizeOf3 rfl) rfl (s_rd (r_cload Tryz.isAgg3 rfl (j := 0) rfl rfl) rfl (s_rd (r_lss rfl rfl) rfl (mv1 rfl rfl ?_))))))))))))
 refine b_split (t := 8) rfl (fun _ => ?_) (fun _ => ?_)
 ·refine s_off rfl rfl rfl rfl rfl (s_off rfl rfl rfl rfl rfl (s_off rfl rfl rfl rfl rfl (s_rd (r_pickT rfl rfl) rfl (l_nil (n_then (ref_condT rfl rfl (ref_seq (ref_region (as1 rfl rfl (l_nil (n_then (ref_ret (r_then ?_)))))))))))))
  exact fin1 (.inl rfl) () [] rfl trivial rfl (rv_tmp rfl)
 refine s_on rfl rfl rfl (s_rd (r_faddr (fo := 0) Tryz.underlying52 rfl rfl Tryz.sizeOf3 rfl) rfl (s_on rfl rfl rfl (s_rd (r_cload Tryz.isAgg3 rfl (j := 0) rfl rfl) rfl (s_on rfl rfl rfl (s_rd (r_gtr rfl rfl) rfl (s_rd (r_pickF rfl rfl) rfl (l_nil (n_then ?_))))))))
 refine ref_cond rfl (fun hb2 => ?_) (fun hb2 => ?_)
 ·refine ref_seq (ref_region (as1 rfl rfl (l_nil (n_then (ref_ret (r_then ?_))))))
  exact fin1 (.inl rfl) () [] rfl trivial rfl (rv_tmp rfl)
 refine ref_skip (n_then (ref_seq (ref_seq (ref_region (s_rd (r_faddr (fo := 1) Tryz.underlying52 rfl rfl Tryz.sizeOf50 rfl) rfl (s_rd (r_cload Tryz.isAgg50 rfl (j := 0) rfl rfl) rfl (s_rd (r_len Tryz.underlying50 rfl) rfl (mv1 rfl rfl (l_nil (n_then ?_))))))))))
 refine ref_loopX (f := (graph_Validate_l1 g_0)) (Γl := (fun (s12 : Int) (x13 : Unit) => [(1, pv (ptr b1 0)), (14, slv rT_Pai g_0.L), (15, iv .i64 (g_0.L.length : Int)), (16, iv .i64 s12)])) (Ωl := (fun (s12 : Int) (x13 : Unit) => [oc b1 [iv .i64 g_0.N, slv rT_Pai g_0.L]])) (Γb := (fun (q21 : Unit) (y22 : Unit) => [])) (Ωb := (fun (q21 : Unit) (y22 : Unit) => [])) (kr := (fun a : Int => some a)) 0 () (weak [0] ⟨rfl, rfl, rfl, rfl, trivial⟩ ⟨rfl, trivial⟩) (fun s12 x13 => ?_) (fun q21 y22 => ?_)
 ·unfold graph_Validate_l1
  refine ref_seq (ref_region (s_rd (r_lss rfl rfl) rfl (l_nil (n_then (ref_seq ?_)))))
  refine ref_cond rfl (fun hb14 => ?_) (fun hb14 => ?_)
  ·refine ref_skip (n_then (ref_seq (ref_block (ref_seq (ref_region (mv1 rfl rfl (pull fun t15 h_t15 => s_rd (r_index h_t15 Tryz.underlying50 el_87 rfl rfl) rfl (s_rd (r_load el_87 rfl) rfl (s_st (s_alloc zt_87) rfl (fun b16 => as1 rfl rfl (s_st0 (s_cstore (out := [iv .i64 t15.From, iv .i64 t15.To]) Tryz.sizeOf87 rfl (j := 1) rfl (part_agO (ψs := [iv .i64 t15.From, iv .i64 t15.To]) rfl ⟨.inl iv_at, .inl iv_at, trivial⟩) rfl rfl rfl) (fun _ => l_nil (n_then (ref_seq (ref_seq (ref_region (s_rd (r_faddr (fo := 0) Tryz.underlying87 rfl rfl Tryz.sizeOf3 rfl) rfl (s_rd (r_cload Tryz.isAgg3 rfl (j := 1) rfl rfl) rfl (s_rd (r_faddr (fo := 1) Tryz.underlying87 rfl rfl Tryz.sizeOf3 rfl) rfl (s_rd (r_cload Tryz.isAgg3 rfl (j := 1) rfl rfl) rfl (s_rd (r_min rfl rfl) rfl (s_rd (r_lss rfl rfl) rfl (mv1 rfl rfl ?_)))))))))))))))))))))))
   refine b_split (t := 27) rfl (fun _ => ?_) (fun _ => ?_)
   ·refine s_off rfl rfl rfl rfl rfl (s_off rfl rfl rfl rfl rfl (s_off rfl rfl rfl rfl rfl (s_off rfl rfl rfl rfl rfl (s_off rfl rfl rfl rfl rfl (s_off rfl rfl rfl rfl rfl (s_off rfl rfl rfl rfl rfl (s_off rfl rfl rfl rfl rfl (s_rd (r_pickT rfl rfl) rfl (l_nil (n_then (ref_condT rfl rfl (ref_seq (ref_region (as1 rfl rfl (l_nil (n_then (ref_ret (r_then (r_block (r_then ?_))))))))))))))))))))
    refine retX ?_
    refine r_block (r_then ?_)
    exact fin1 (.inl rfl) () [] rfl trivial rfl (rv_tmp rfl)
   refine s_on rfl rfl rfl (s_rd (r_faddr (fo := 0) Tryz.underlying87 rfl rfl Tryz.sizeOf3 rfl) rfl (s_on rfl rfl rfl (s_rd (r_cload Tryz.isAgg3 rfl (j := 1) rfl rfl) rfl (s_on rfl rfl rfl (s_rd (r_faddr (fo := 1) Tryz.underlying87 rfl rfl Tryz.sizeOf3 rfl) rfl (s_on rfl rfl rfl (s_rd (r_cload Tryz.isAgg3 rfl (j := 1) rfl rfl) rfl (s_on rfl rfl rfl (s_rd (r_max rfl rfl) rfl (s_on rfl rfl rfl (s_rd (r_faddr (fo := 0) Tryz.underlying52 rfl rfl Tryz.sizeOf3 rfl) rfl (s_on rfl rfl rfl (s_rd (r_cload Tryz.isAgg3 rfl (j := 0) rfl rfl) rfl (s_on rfl rfl rfl (s_rd (r_geq rfl rfl) rfl (s_rd (r_pickF rfl rfl) rfl (l_nil (n_then ?_))))))))))))))))))
   refine ref_cond rfl (fun hb17 => ?_) (fun hb17 => ?_)
   ·refine ref_seq (ref_region (as1 rfl rfl (l_nil (n_then (ref_ret (r_then (r_block (r_then ?_))))))))
    refine retX ?_
    refine r_block (r_then ?_)
    exact fin1 (.inl rfl) () [] rfl trivial rfl (rv_tmp rfl)
   refine ref_skip (n_then (ref_seq ?_))
   refine ref_draw [0, 1, 2, 3, 4, 5, 6, 7, 8, 9, 11, 12] rfl (by kernel_rfl) (fun hok => ?_)
   refine a_rd (i := 0) hok rfl (by kernel_rfl) rfl (r_move rfl) rfl ?_
   refine a_rd (i := 1) hok rfl (by kernel_rfl) rfl (r_gtr rfl rfl) rfl ?_
   refine a_rd (i := 2) hok rfl (by kernel_rfl) rfl (r_move rfl) rfl ?_
   refine b_split (t := 39) rfl (fun _ => ?_) (fun _ => ?_)
   ·refine a_rdOn (i := 3) hok rfl rfl rfl rfl (by kernel_rfl) rfl (r_faddr (fo := 1) Tryz.underlying52 rfl rfl Tryz.sizeOf50 rfl) rfl ?_
    refine a_rdOn (i := 4) hok rfl rfl rfl rfl (by kernel_rfl) rfl (r_cload Tryz.isAgg50 rfl (j := 0) rfl rfl) rfl ?_
    refine a_rdOn (i := 5) hok rfl rfl rfl rfl (by kernel_rfl) rfl (r_move rfl) rfl ?_
    refine a_rdOn (i := 6) hok rfl rfl rfl rfl (by kernel_rfl) rfl (r_sub rfl rfl) rfl ?_
    refine pull fun t18 h_t18 => ?_
    refine a_rdOn (i := 7) hok rfl rfl rfl rfl (by kernel_rfl) rfl (r_index h_t18 Tryz.underlying50 el_87 rfl rfl) rfl ?_
    refine a_rdOn (i := 8) hok rfl rfl rfl rfl (by kernel_rfl) rfl (r_load el_87 rfl) rfl ?_
    refine a_rdOn (i := 9) hok rfl rfl rfl rfl (by kernel_rfl) rfl (r_cloadS Tryz.isAgg87 Tryz.sizeOf87 rfl (j := 1) rfl rfl rfl) rfl ?_
    refine pull fun t19 h_t19 => ?_
    refine a_next hok 10 [] (by kernel_rfl) ?_ trivial
    refine a_stOn (i := 10) hok rfl rfl rfl rfl rfl (s_call (ψ := fun (_ : Unit) => iv .i64 t19) (args := [.tmp 45, .tmp 46]) Tryz.call115 rfl (graph_compare_ok h_t19) ⟨arg rfl, arg rfl, trivial⟩ (fun _ _ _ _ h => h)) (by intro _ h; cases h; rfl) (fun _ => ⟨trivial, ⟨trivial, ⟨trivial, ⟨trivial, ⟨trivial, ⟨⟨⟨rfl, rfl⟩, trivial⟩, ⟨trivial, ⟨trivial, ⟨trivial, ⟨trivial, trivial⟩⟩⟩⟩⟩⟩⟩⟩⟩⟩) (fun _ => ?_)
    refine a_rdOn (i := 11) hok rfl rfl rfl rfl (by kernel_rfl) rfl (r_geq rfl rfl) rfl ?_
    refine a_rd (i := 12) hok rfl (by kernel_rfl) rfl (r_pickT rfl rfl) rfl ?_
    refine a_fin hok (by kernel_rfl) ?_
    refine b_of (nrm [oc b1 [iv .i64 g_0.N, slv rT_Pai g_0.L], oc b16 [iv .i64 t15.From, iv .i64 t15.To]] rfl) (n_then ?_)
    refine ref_cond rfl (fun hb20 => ?_) (fun hb20 => ?_)
    ·refine ref_seq (ref_region (as1 rfl rfl (l_nil (n_then (ref_ret (r_block (r_then ?_)))))))
     refine retX ?_
     refine r_block (r_then ?_)
     exact fin1 (.inl rfl) () [] rfl trivial rfl (rv_tmp rfl)
    refine ref_skip (n_block (n_then (ref_region (s_rd (r_add rfl rfl) rfl (mv1 rfl rfl (l_nil ?_))))))
    exact goX () (weak [0] ⟨rfl, rfl, rfl, rfl, trivial⟩ ⟨rfl, trivial⟩)
   refine a_off (i := 3) hok rfl rfl rfl rfl rfl (by kernel_rfl) rfl rfl ?_
   refine a_off (i := 4) hok rfl rfl rfl rfl rfl (by kernel_rfl) rfl rfl ?_
   refine a_off (i := 5) hok rfl rfl rfl rfl rfl (by kernel_rfl) rfl rfl ?_
   refine a_off (i := 6) hok rfl rfl rfl rfl rfl (by kernel_rfl) rfl rfl ?_
   refine a_off (i := 7) hok rfl rfl rfl rfl rfl (by kernel_rfl) rfl rfl ?_
   refine a_off (i := 8) hok rfl rfl rfl rfl rfl (by kernel_rfl) rfl rfl ?_
   refine a_off (i := 9) hok rfl rfl rfl rfl rfl (by kernel_rfl) rfl rfl ?_
   refine a_next hok 10 [] (by kernel_rfl) ?_ trivial
   refine a_stOff (i := 10) hok rfl rfl rfl rfl rfl rfl (by intro _ h; cases h; rfl) ⟨trivial, ⟨trivial, ⟨trivial, ⟨trivial, ⟨trivial, ⟨trivial, ⟨trivial, ⟨trivial, ⟨trivial, ⟨trivial, trivial⟩⟩⟩⟩⟩⟩⟩⟩⟩⟩ ?_
   refine a_off (i := 11) hok rfl rfl rfl rfl rfl (by kernel_rfl) rfl rfl ?_
   refine a_rd (i := 12) hok rfl (by kernel_rfl) rfl (r_pickF rfl rfl) rfl ?_
   refine a_fin hok (by kernel_rfl) ?_
   refine n_then (ref_condF rfl rfl (ref_skip (n_block (n_then (ref_region (s_rd (r_add rfl rfl) rfl (mv1 rfl rfl (l_nil ?_))))))))
   exact goX () (weak [0] ⟨rfl, rfl, rfl, rfl, trivial⟩ ⟨rfl, trivial⟩)
  refine ref_exit (x_then ?_)
  exact brkX () (weak [] trivial trivial)
 refine n_then (ref_seq (ref_region (as1 rfl rfl (l_nil (n_then (ref_ret ?_))))))
 exact fin1 (.inl rfl) () [] rfl trivial rfl (rv_tmp rfl)

/-! deliberation/graph.proper -/
noncomputable def graph_proper_m (g_0 : T_Gra) : Option (T_Gra) :=
 Option.bind (graph_Validate_m g_0) fun t3 =>
 bif t3 != 0 then
  some (T_Gra.mk 0 [])
 else
  some g_0

theorem graph_proper_ok {g_0 : T_Gra} {r : T_Gra} (hm : graph_proper_m g_0 = some r) :
  FnOk prog 107 [ag [iv .i64 g_0.N, slv rT_Pai g_0.L]] [] (fun (x : Unit) => [ag [iv .i64 r.N, slv rT_Pai r.L]]) (fun (x : Unit) => []) := by
 refine fn_ok (fn := Tryz.f107) (N := 8) (res := fun r x => [ag [iv .i64 r.N, slv rT_Pai r.L]]) (Ω1 := fun r x => []) Tryz.func107 rfl rfl hm rfl (fun E hM => ?_)
 unfold graph_proper_m
 refine ref_seq (ref_region (s_st (s_box (part_agO (ψs := [iv .i64 g_0.N, slv rT_Pai g_0.L]) rfl ⟨.inl iv_at, .inl slv_at, trivial⟩)) rfl (fun b1 => s_st (s_alloc zt_52) rfl (fun b2 => l_nil (n_then (ref_seq (ref_seq (ref_region (s_rd (r_cloadS Tryz.isAgg52 Tryz.sizeOf52 rfl (j := 0) rfl rfl rfl) rfl (pull fun t3 h_t3 => s_st (s_call (ψ := fun (_ : Unit) => iv .i64 t3) (args := [.tmp 3]) Tryz.call113 rfl (graph_Validate_ok h_t3) ⟨arg rfl, trivial⟩ (fun _ _ _ _ h => h)) rfl (fun _ => s_rd (r_neq rfl rfl) rfl (l_nil (n_then ?_)))))))))))))
 refine ref_cond rfl (fun hb4 => ?_) (fun hb4 => ?_)
 ·refine ref_seq (ref_region (s_rd (r_build (ps := []) (rs := []) st_52 zs_52 trivial rfl rfl) rfl (s_st0 (s_cstore (out := [iv .i64 0, pv (.slice none 0 0)]) Tryz.sizeOf52 rfl (j := 1) rfl (part_agO (ψs := [iv .i64 0, pv (.slice none 0 0)]) rfl ⟨.inl iv_at, .inl (pv_at rfl), trivial⟩) rfl rfl rfl) (fun _ => l_nil (b_of (nrm [oc b1 [iv .i64 g_0.N, slv rT_Pai g_0.L], oc b2 [iv .i64 0, pv (.slice none 0 0)]] rfl) (n_then (ref_ret (r_then (b_of (ocW 1 [iv .i64 0, slv rT_Pai []] rfl ⟨imp_rfl, nil_sl, trivial⟩) ?_)))))))))
  exact fin1 (.inl rfl) () [] rfl trivial rfl (rv_cell rfl (j := 1) rfl Tryz.isAgg52 Tryz.sizeOf52 rfl rfl)
 refine ref_skip (n_then (ref_seq (ref_region (s_rd (r_cloadS Tryz.isAgg52 Tryz.sizeOf52 rfl (j := 0) rfl rfl rfl) rfl (s_st0 (s_cstore (out := [iv .i64 g_0.N, slv rT_Pai g_0.L]) Tryz.sizeOf52 rfl (j := 1) rfl (part_agO (ψs := [iv .i64 g_0.N, slv rT_Pai g_0.L]) rfl ⟨.inl iv_at, .inl slv_at, trivial⟩) rfl rfl rfl) (fun _ => l_nil (b_of (nrm [oc b1 [iv .i64 g_0.N, slv rT_Pai g_0.L], oc b2 [iv .i64 g_0.N, slv rT_Pai g_0.L]] rfl) (n_then (ref_ret ?_)))))))))
 exact fin1 (.inl rfl) () [] rfl trivial rfl (rv_cell rfl (j := 1) rfl Tryz.isAgg52 Tryz.sizeOf52 rfl rfl)

/-! deliberation/graph.masks -/
noncomputable def graph_masks_l1 (g_0 : T_Gra) (s20 : Int × (List Int)) : Option (Sum ((List Int)) (Int × (List Int))) :=
 bif decide (s20.1 < (g_0.L.length : Int)) then
  Option.bind (idxM g_0.L s20.1) fun t23 =>
  Option.bind (idxM s20.2 t23.From) fun t25 =>
  Option.bind (ishlM .u64 1 t23.To) fun t26 =>
  Option.bind (idxM s20.2 t23.From) fun t27 =>
  some (Sum.inr (iadd .i64 s20.1 1, s20.2.set (Int.toNat t23.From) (ior .u64 t25 t26)))
 else
  some (Sum.inl s20.2)

noncomputable def graph_masks_m (g_0 : T_Gra) : Option (List Int) :=
 Option.bind (mkM 8 0 g_0.N) fun out2 =>
 Option.bind (loopC (graph_masks_l1 g_0) (0, out2)) fun q28 : (List Int) =>
 some q28

theorem graph_masks_ok {g_0 : T_Gra} {r : List Int} (hm : graph_masks_m g_0 = some r) :
  FnOk prog 109 [ag [iv .i64 g_0.N, slv rT_Pai g_0.L]] [] (fun (x : (Value × List Nat)) => [pv x.1]) (fun (x : (Value × List Nat)) => [oa (rI .u64) x.1 x.2 r]) := by
 refine fn_ok (X := (Value × List Nat)) (fn := Tryz.f109) (N := 28) (res := fun r x => [pv x.1]) (Ω1 := fun r x => [oa (rI .u64) x.1 x.2 r]) Tryz.func109 rfl rfl hm rfl (fun E hM => ?_)
 unfold graph_masks_m
 refine ref_seq (ref_region (s_st (s_box (part_agO (ψs := [iv .i64 g_0.N, slv rT_Pai g_0.L]) rfl ⟨.inl iv_at, .inl slv_at, trivial⟩)) rfl (fun b1 => as1 rfl rfl (l_nil (n_then (ref_seq (ref_region (s_rd (r_faddr (fo := 0) Tryz.underlying52 rfl rfl Tryz.sizeOf3 rfl) rfl (s_rd (r_cload Tryz.isAgg3 rfl (j := 0) rfl rfl) rfl (pull fun out2 h_out2 => s_st (s_make h_out2 Tryz.underlying131 el_117 ze_117 rfl rfl) rfl (fun o3 => as1 rfl rfl (l_nil (n_then (ref_seq (ref_seq (ref_region (s_rd (r_faddr (fo := 1) Tryz.underlying52 rfl rfl Tryz.sizeOf50 rfl) rfl (s_rd (r_cload Tryz.isAgg50 rfl (j := 0) rfl rfl) rfl (s_rd (r_len Tryz.underlying50 rfl) rfl (mv1 rfl rfl (l_nil (n_then ?_))))))))))))))))))))))
 refine ref_loopB (f := (graph_masks_l1 g_0)) (Γl := (fun (s20 : Int × (List Int)) (x21 : Unit) => [(3, pv o3.1), (10, slv rT_Pai g_0.L), (11, iv .i64 (g_0.L.length : Int)), (12, iv .i64 s20.1)])) (Ωl := (fun (s20 : Int × (List Int)) (x21 : Unit) => [oa (rI .u64) o3.1 o3.2 s20.2])) (Γb := (fun (q28 : (List Int)) (y29 : Unit) => [(3, pv o3.1)])) (Ωb := (fun (q28 : (List Int)) (y29 : Unit) => [oa (rI .u64) o3.1 o3.2 q28])) (0, out2) () (weak [1] ⟨rfl, rfl, rfl, rfl, trivial⟩ ⟨rfl, trivial⟩) (fun s20 x21 => ?_) (fun q28 y29 => ?_)
 ·unfold graph_masks_l1
  refine ref_seq (ref_region (s_rd (r_lss rfl rfl) rfl (l_nil (n_then (ref_seq ?_)))))
  refine ref_cond rfl (fun hb22 => ?_) (fun hb22 => ?_)
  ·refine ref_skip (n_then (ref_seq (ref_block (ref_seq (ref_region (pull fun t23 h_t23 => s_rd (r_index h_t23 Tryz.underlying50 el_87 rfl rfl) rfl (s_rd (r_load el_87 rfl) rfl (s_st (s_alloc zt_87) rfl (fun b24 => s_st0 (s_cstore (out := [iv .i64 t23.From, iv .i64 t23.To]) Tryz.sizeOf87 rfl (j := 1) rfl (part_agO (ψs := [iv .i64 t23.From, iv .i64 t23.To]) rfl ⟨.inl iv_at, .inl iv_at, trivial⟩) rfl rfl rfl) (fun _ => l_nil (b_of (nrm [oa (rI .u64) o3.1 o3.2 s20.2, oc b24 [iv .i64 t23.From, iv .i64 t23.To]] rfl) (n_then ?_))))))))))))
   refine ref_draw [0, 1, 2, 3, 4, 5, 6, 7, 8, 9] rfl (by kernel_rfl) (fun hok => ?_)
   refine a_rd (i := 0) hok rfl (by kernel_rfl) rfl (r_move rfl) rfl ?_
   refine a_rd (i := 1) hok rfl (by kernel_rfl) rfl (r_faddr (fo := 0) Tryz.underlying87 rfl rfl Tryz.sizeOf3 rfl) rfl ?_
   refine a_rd (i := 2) hok rfl (by kernel_rfl) rfl (r_cload Tryz.isAgg3 rfl (j := 1) rfl rfl) rfl ?_
   refine pull fun t25 h_t25 => ?_
   refine a_rd (i := 3) hok rfl (by kernel_rfl) rfl (r_oindex h_t25 Tryz.underlying131 el_117 rfl (j := 0) rfl rfl) rfl ?_
   refine a_rd (i := 4) hok rfl (by kernel_rfl) rfl (r_oload h_t25 el_117 rfl (j := 0) rfl) rfl ?_
   refine a_rd (i := 5) hok rfl (by kernel_rfl) rfl (r_faddr (fo := 1) Tryz.underlying87 rfl rfl Tryz.sizeOf3 rfl) rfl ?_
   refine a_rd (i := 6) hok rfl (by kernel_rfl) rfl (r_cload Tryz.isAgg3 rfl (j := 1) rfl rfl) rfl ?_
   refine pull fun t26 h_t26 => ?_
   refine a_rd (i := 7) hok rfl (by kernel_rfl) rfl (r_shlM h_t26 rfl rfl) rfl ?_
   refine a_rd (i := 8) hok rfl (by kernel_rfl) rfl (r_or rfl rfl) rfl ?_
   refine pull fun t27 h_t27 => ?_
   refine a_rd (i := 9) hok rfl (by kernel_rfl) rfl (r_oindex h_t27 Tryz.underlying131 el_117 rfl (j := 0) rfl rfl) rfl ?_
   refine a_next hok 10 [] (by kernel_rfl) ?_ trivial
   refine a_st (i := 10) hok rfl rfl (s_ostore (u := ior .u64 t25 t26) h_t27 el_117 rfl (j := 0) rfl (part_at rfl iv_at)) (by intro _ h; cases h) (fun _ => ⟨trivial, ⟨trivial, ⟨trivial, ⟨trivial, ⟨trivial, ⟨trivial, ⟨trivial, ⟨trivial, ⟨trivial, ⟨trivial, trivial⟩⟩⟩⟩⟩⟩⟩⟩⟩⟩) (fun _ => ?_)
   refine a_fin hok (by kernel_rfl) ?_
   refine n_block (n_then (ref_region (s_rd (r_add rfl rfl) rfl (mv1 rfl rfl (l_nil ?_)))))
   exact goB () (weak [0] ⟨rfl, rfl, rfl, rfl, trivial⟩ ⟨rfl, trivial⟩)
  refine ref_exit (x_then ?_)
  exact brkB () (weak [0] ⟨rfl, trivial⟩ ⟨rfl, trivial⟩)
 refine n_then (ref_seq (ref_region (mv1 rfl rfl (as1 rfl rfl (l_nil (n_then (ref_ret ?_)))))))
 exact fin1 (.inl rfl) o3 [0] rfl ⟨rfl, trivial⟩ rfl (rv_tmp rfl)

/-! math/bits.TrailingZeros64 -/
noncomputable def mb_TrailingZeros64_m (x_0 : Int) : Option (Int) :=
 bif x_0 == 0 then
  some 64
 else
  Option.bind (idxM tab_0 (ishr .u64 (imul .u64 (iand .u64 x_0 (ineg .u64 x_0)) 285870213051353865) 58)) fun t2 =>
  letM (IntKind.wrap .i64 t2) fun t3 =>
  some t3

theorem mb_TrailingZeros64_ok {x_0 : Int} {r : Int} (hm : mb_TrailingZeros64_m x_0 = some r) :
  FnOk prog 114 [iv .u64 x_0] [tbO (rI .u8) 0 tab_0] (fun (x : Unit) => [iv .i64 r]) (fun (x : Unit) => [tbO (rI .u8) 0 tab_0]) := by
 refine fn_ok (fn := Tryz.f114) (N := 14) (res := fun r x => [iv .i64 r]) (Ω1 := fun r x => [tbO (rI .u8) 0 tab_0]) Tryz.func114 rfl rfl hm rfl (fun E hM => ?_)
 unfold mb_TrailingZeros64_m
 refine ref_seq (ref_region (as1 rfl rfl (l_nil (n_then (ref_seq (ref_seq (ref_region (mv1 rfl rfl (s_rd (r_eql rfl rfl) rfl (l_nil (n_then ?_)))))))))))
 refine ref_cond rfl (fun hb1 => ?_) (fun hb1 => ?_)
 ·refine ref_seq (ref_region (as1 rfl rfl (l_nil (n_then (ref_ret (r_then ?_))))))
  exact fin1 (.inl rfl) () [0] rfl ⟨rfl, trivial⟩ rfl (rv_tmp rfl)
 refine ref_skip (n_then (ref_seq (ref_region (mv1 rfl rfl (mv1 rfl rfl (s_rd (r_neg rfl) rfl (s_rd (r_and rfl rfl) rfl (s_rd (r_mul rfl rfl) rfl (s_rd (r_shr rfl rfl (by decide)) rfl (pull fun t2 h_t2 => s_rd (r_gindex (ρ := (rI .u8)) (sz := 1) h_t2 rfl rfl Tryz.underlying142 Tryz.sizeOf5 (j := 0) rfl rfl) rfl (s_rd (r_load el_5 rfl) rfl (s_rd (r_conv (k' := .i64) rfl rfl rfl) rfl (as1 rfl rfl (b_let (f := iv .i64) (t := 2) rfl fun t3 => l_nil (n_then (ref_ret ?_))))))))))))))))
 exact fin1 (.inl rfl) () [0] rfl ⟨rfl, trivial⟩ rfl (rv_tmp rfl)

/-! deliberation/graph.list -/
noncomputable def graph_list_l1  (s15 : Int × (List Int)) : Option (Sum ((List Int)) (Int × (List Int))) :=
 bif s15.1 != 0 then
  Option.bind (mb_TrailingZeros64_m s15.1) fun t18 =>
  Option.bind (appM 8 s15.2 [t18]) fun out19 =>
  letM (iand .u64 s15.1 (isub .u64 s15.1 1)) fun set_21 =>
  some (Sum.inr (set_21, out19))
 else
  some (Sum.inl s15.2)

noncomputable def graph_list_m (set__0 : Int) : Option (List Int) :=
 Option.bind (loopC (graph_list_l1) (set__0, [])) fun q22 : (List Int) =>
 some q22

theorem graph_list_ok {set__0 : Int} {r : List Int} (hm : graph_list_m set__0 = some r) :
  FnOk prog 108 [iv .u64 set__0] [tbO (rI .u8) 0 tab_0] (fun (x : (Value × List Nat)) => [pv x.1]) (fun (x : (Value × List Nat)) => [tbO (rI .u8) 0 tab_0, oa (rI .i64) x.1 x.2 r]) := by
 refine fn_ok (X := (Value × List Nat)) (fn := Tryz.f108) (N := 16) (res := fun r x => [pv x.1]) (Ω1 := fun r x => [tbO (rI .u8) 0 tab_0, oa (rI .i64) x.1 x.2 r]) Tryz.func108 rfl rfl hm rfl (fun E hM => ?_)
 unfold graph_list_m
 refine ref_seq (ref_region (as1 rfl rfl (l_nil (n_then (ref_seq (ref_region (as1 rfl rfl (l_nil (n_then (ref_seq (b_of (own_nil (rI .i64)) ?_)))))))))))
 refine ref_loopB (f := (graph_list_l1)) (Γl := (fun (s15 : Int × (List Int)) (x16 : (Value × List Nat)) => [(0, iv .u64 s15.1), (3, pv x16.1)])) (Ωl := (fun (s15 : Int × (List Int)) (x16 : (Value × List Nat)) => [tbO (rI .u8) 0 tab_0, oa (rI .i64) x16.1 x16.2 s15.2])) (Γb := (fun (q22 : (List Int)) (y23 : (Value × List Nat)) => [(3, pv y23.1)])) (Ωb := (fun (q22 : (List Int)) (y23 : (Value × List Nat)) => [oa (rI .i64) y23.1 y23.2 q22, tbO (rI .u8) 0 tab_0])) (set__0, []) ((.slice none 0 0), []) (weak [0, 1] ⟨rfl, rfl, trivial⟩ ⟨rfl, rfl, trivial⟩) (fun s15 x16 => ?_) (fun q22 y23 => ?_)
 ·unfold graph_list_l1
  refine ref_seq (ref_seq (ref_region (mv1 rfl rfl (s_rd (r_neq rfl rfl) rfl (l_nil (n_then ?_))))))
  refine ref_cond rfl (fun hb17 => ?_) (fun hb17 => ?_)
  ·refine ref_skip (n_then (ref_seq (ref_block (ref_region (mv1 rfl rfl (mv1 rfl rfl (pull fun t18 h_t18 => s_st (s_callC [0] [true] (fun (_ : Unit) => [tbO (rI .u8) 0 tab_0]) (fun (_ : Unit) => []) (fun (_ : Unit) => iv .i64 t18) (args := [.tmp 11]) (caps := []) Tryz.call114 rfl (mb_TrailingZeros64_ok h_t18) ⟨rfl, rfl, trivial⟩ (fun _ => rfl) (fun _ => trivial) (fun _ => rfl) ⟨arg rfl, trivial⟩ (fun _ _ _ _ h => h)) rfl (fun _ => s_st (s_bslice (xs := [.tmp 12]) (ds := [t18]) Tryz.underlying27 el_3 rfl (Nat.le_of_ble_eq_true rfl) ⟨(part_at rfl iv_at), trivial⟩) rfl (fun _ => pull fun out19 h_out19 => s_st (s_append h_out19 Tryz.underlying27 el_3 rfl (j := 1) rfl rfl) rfl (fun o20 => as1 rfl rfl (l_nil (n_block (n_then (ref_region (mv1 rfl rfl (mv1 rfl rfl (s_rd (r_sub rfl rfl) rfl (s_rd (r_and rfl rfl) rfl (as1 rfl rfl (b_let (f := iv .u64) (t := 0) rfl fun set_21 => l_nil ?_))))))))))))))))))))
   exact goB o20 (weak [0, 1] ⟨rfl, rfl, trivial⟩ ⟨rfl, rfl, trivial⟩)
  refine ref_exit (x_then ?_)
  exact brkB x16 (weak [1, 0] ⟨rfl, trivial⟩ ⟨rfl, rfl, trivial⟩)
 refine n_then (ref_seq (ref_region (mv1 rfl rfl (as1 rfl rfl (l_nil (n_then (ref_ret ?_)))))))
 exact fin1 (.inl rfl) y23 [1, 0] rfl ⟨rfl, rfl, trivial⟩ rfl (rv_tmp rfl)

/-! deliberation/graph.Attacked -/
noncomputable def graph_Attacked_m (g_0 : T_Gra) (i_1 : Int) : Option (List Int) :=
 Option.bind (graph_proper_m g_0) fun t2 =>
 bif decide (i_1 < 0) then
  some []
 else
  bif decide (i_1 ≥ t2.N) then
   some []
  else
   Option.bind (graph_masks_m t2) fun t4 =>
   Option.bind (idxM t4 i_1) fun t6 =>
   Option.bind (graph_list_m t6) fun t7 =>
   some t7

theorem graph_Attacked_ok {g_0 : T_Gra} {i_1 : Int} {r : List Int} (hm : graph_Attacked_m g_0 i_1 = some r) :
  FnOk prog 99 [ag [iv .i64 g_0.N, slv rT_Pai g_0.L], iv .i64 i_1] [tbO (rI .u8) 0 tab_0] (fun (x : (Value × List Nat)) => [pv x.1]) (fun (x : (Value × List Nat)) => [tbO (rI .u8) 0 tab_0, oa (rI .i64) x.1 x.2 r]) := by
 refine fn_ok (X := (Value × List Nat)) (fn := Tryz.f99) (N := 21) (res := fun r x => [pv x.1]) (Ω1 := fun r x => [tbO (rI .u8) 0 tab_0, oa (rI .i64) x.1 x.2 r]) Tryz.func99 rfl rfl hm rfl (fun E hM => ?_)
 unfold graph_Attacked_m
 refine ref_seq (ref_region (s_st (s_box (part_agO (ψs := [iv .i64 g_0.N, slv rT_Pai g_0.L]) rfl ⟨.inl iv_at, .inl slv_at, trivial⟩)) rfl (fun b1 => as1 rfl rfl (l_nil (n_then (ref_seq (ref_region (s_rd (r_cloadS Tryz.isAgg52 Tryz.sizeOf52 rfl (j := 1) rfl rfl rfl) rfl (pull fun t2 h_t2 => s_st (s_call (ψ := fun (_ : Unit) => ag [iv .i64 t2.N, slv rT_Pai t2.L]) (args := [.tmp 5]) Tryz.call107 rfl (graph_proper_ok h_t2) ⟨arg rfl, trivial⟩ (fun _ _ _ _ h => h)) rfl (fun _ => s_st0 (s_cstore (out := [iv .i64 t2.N, slv rT_Pai t2.L]) Tryz.sizeOf52 rfl (j := 1) rfl (part_agO (ψs := [iv .i64 t2.N, slv rT_Pai t2.L]) rfl ⟨.inl iv_at, .inl slv_at, trivial⟩) rfl rfl rfl) (fun _ => l_nil (n_then (ref_seq (ref_seq (ref_region (mv1 rfl rfl (s_rd (r_lss rfl rfl) rfl (mv1 rfl rfl ?_))))))))))))))))))
 refine b_split (t := 9) rfl (fun _ => ?_) (fun _ => ?_)
 ·refine s_off rfl rfl rfl rfl rfl (s_off rfl rfl rfl rfl rfl (s_off rfl rfl rfl rfl rfl (s_off rfl rfl rfl rfl rfl (s_rd (r_pickT rfl rfl) rfl (l_nil (n_then (ref_condT rfl rfl (ref_seq (ref_region (as1 rfl rfl (l_nil (n_then (ref_ret (r_then (b_of (own_nil (rI .i64)) ?_)))))))))))))))
  exact fin1 (.inl rfl) ((.slice none 0 0), []) [0, 2] rfl ⟨rfl, rfl, trivial⟩ rfl (rv_tmp rfl)
 refine s_on rfl rfl rfl (mv1 rfl rfl (s_on rfl rfl rfl (s_rd (r_faddr (fo := 0) Tryz.underlying52 rfl rfl Tryz.sizeOf3 rfl) rfl (s_on rfl rfl rfl (s_rd (r_cload Tryz.isAgg3 rfl (j := 1) rfl rfl) rfl (s_on rfl rfl rfl (s_rd (r_geq rfl rfl) rfl (s_rd (r_pickF rfl rfl) rfl (l_nil (n_then ?_))))))))))
 refine ref_cond rfl (fun hb3 => ?_) (fun hb3 => ?_)
 ·refine ref_seq (ref_region (as1 rfl rfl (l_nil (n_then (ref_ret (r_then (b_of (own_nil (rI .i64)) ?_)))))))
  exact fin1 (.inl rfl) ((.slice none 0 0), []) [0, 2] rfl ⟨rfl, rfl, trivial⟩ rfl (rv_tmp rfl)
 refine ref_skip (n_then (ref_seq (ref_region (s_rd (r_cloadS Tryz.isAgg52 Tryz.sizeOf52 rfl (j := 1) rfl rfl rfl) rfl (pull fun t4 h_t4 => s_st (s_call (ψ := fun (x5 : (Value × List Nat)) => pv x5.1) (args := [.tmp 15]) Tryz.call109 rfl (graph_masks_ok h_t4) ⟨arg rfl, trivial⟩ (fun _ _ _ _ h => h)) rfl (fun x5 => mv1 rfl rfl (pull fun t6 h_t6 => s_rd (r_oindex h_t6 Tryz.underlying131 el_117 rfl (j := 2) rfl rfl) rfl (s_rd (r_oload h_t6 el_117 rfl (j := 2) rfl) rfl (pull fun t7 h_t7 => s_st (s_callC [0] [true] (fun (x8 : (Value × List Nat)) => [tbO (rI .u8) 0 tab_0]) (fun (x8 : (Value × List Nat)) => [oa (rI .i64) x8.1 x8.2 t7]) (fun (x8 : (Value × List Nat)) => pv x8.1) (args := [.tmp 19]) (caps := []) Tryz.call108 rfl (graph_list_ok h_t7) ⟨rfl, rfl, trivial⟩ (fun _ => rfl) (fun _ => trivial) (fun _ => rfl) ⟨arg rfl, trivial⟩ (fun _ _ _ _ h => h)) rfl (fun x8 => as1 rfl rfl (l_nil (b_of (nrm [tbO (rI .u8) 0 tab_0, oc b1 [iv .i64 t2.N, slv rT_Pai t2.L], oa (rI .u64) x5.1 x5.2 t4, oa (rI .i64) x8.1 x8.2 t7] rfl) (n_then (ref_ret ?_))))))))))))))
 exact fin1 (.inl rfl) x8 [0, 3] rfl ⟨rfl, rfl, trivial⟩ rfl (rv_tmp rfl)

/-! deliberation/grounded.build -/
noncomputable def grounded_build_l1 (g_0 : T_Gra) (s22 : Int × (List Int)) : Option (Sum ((List Int)) (Int × (List Int))) :=
 bif decide (s22.1 < (g_0.L.length : Int)) then
  Option.bind (idxM g_0.L s22.1) fun t25 =>
  Option.bind (vidxM 40 s22.2 t25.To) fun t27 =>
  Option.bind (vidxM 40 s22.2 t25.To) fun t28 =>
  some (Sum.inr (iadd .i64 s22.1 1, s22.2.set (Int.toNat t25.To) (iadd .i64 t27 1)))
 else
  some (Sum.inl s22.2)

noncomputable def grounded_build_l2 (g_0 : T_Gra) (q29 : (List Int)) (s45 : Int × (List Int)) : Option (Sum ((List Int)) (Int × (List Int))) :=
 bif decide (s45.1 < g_0.N) then
  Option.bind (vidxM 40 q29 s45.1) fun t48 =>
  bif t48 == 0 then
   Option.bind (appM 8 s45.2 [s45.1]) fun queue50 =>
   some (Sum.inr (iadd .i64 s45.1 1, queue50))
  else
   some (Sum.inr (iadd .i64 s45.1 1, s45.2))
 else
  some (Sum.inl s45.2)

noncomputable def grounded_build_l4 (s909 : Int × (List Int) × (List Int) × (List Int) × (List Int)) (s924 : Int × (List Int) × (List Int)) : Option (Sum ((List Int) × (List Int)) (Int × (List Int) × (List Int))) :=
 bif decide (s924.1 < (s909.2.2.2.2.length : Int)) then
  Option.bind (idxM s909.2.2.2.2 s924.1) fun i927 =>
  Option.bind (idxM s924.2.1 i927) fun t928 =>
  Option.bind (idxM s924.2.2 i927) fun t929 =>
  some (Sum.inr (iadd .i64 s924.1 1, s924.2.1.set (Int.toNat i927) 1, s924.2.2.set (Int.toNat i927) s909.1))
 else
  some (Sum.inl (s924.2.1, s924.2.2))

noncomputable def grounded_build_l7 (s1278 : Int × (List Int) × (List Int) × (List Int) × (List Int)) (k1281 : Int) (t1286 : List Int) (s1316 : Int × (List Int) × (List Int)) : Option (Sum ((List Int) × (List Int)) (Int × (List Int) × (List Int))) :=
 bif decide (s1316.1 < (t1286.length : Int)) then
  Option.bind (idxM t1286 s1316.1) fun j1319 =>
  Option.bind (vidxM 40 s1316.2.1 j1319) fun t1320 =>
  Option.bind (vidxM 40 s1316.2.1 j1319) fun t1321 =>
  joinM (fun j1324 : Bool =>
    bif j1324 then
     Option.bind (appM 8 s1316.2.2 [j1319]) fun next1328 =>
     some (Sum.inr (iadd .i64 s1316.1 1, s1316.2.1.set (Int.toNat j1319) (isub .i64 t1320 1), next1328))
    else
     some (Sum.inr (iadd .i64 s1316.1 1, s1316.2.1.set (Int.toNat j1319) (isub .i64 t1320 1), s1316.2.2))) fun k1326 =>
  Option.bind (vidxM 40 (s1316.2.1.set (Int.toNat j1319) (isub .i64 t1320 1)) j1319) fun t1322 =>
  bif t1322 == 0 then
   Option.bind (idxM (s1278.2.1.set (Int.toNat k1281) 2) j1319) fun t1323 =>
   k1326 (t1323 == 3)
  else
   k1326 false
 else
  some (Sum.inl (s1316.2.1, s1316.2.2))

noncomputable def grounded_build_l6 (g_0 : T_Gra) (s909 : Int × (List Int) × (List Int) × (List Int) × (List Int)) (t1222 : List Int) (s1278 : Int × (List Int) × (List Int) × (List Int) × (List Int)) : Option (Sum ((List Int) × (List Int) × (List Int) × (List Int)) (Int × (List Int) × (List Int) × (List Int) × (List Int))) :=
 bif decide (s1278.1 < (t1222.length : Int)) then
  Option.bind (idxM t1222 s1278.1) fun k1281 =>
  Option.bind (idxM s1278.2.1 k1281) fun t1282 =>
  bif t1282 != 3 then
   some (Sum.inr (iadd .i64 s1278.1 1, s1278.2.1, s1278.2.2.1, s1278.2.2.2.1, s1278.2.2.2.2))
  else
   Option.bind (idxM s1278.2.1 k1281) fun t1284 =>
   Option.bind (idxM s1278.2.2.1 k1281) fun t1285 =>
   Option.bind (graph_Attacked_m g_0 k1281) fun t1286 =>
   Option.bind (loopC (grounded_build_l7 s1278 k1281 t1286) (0, s1278.2.2.2.1, s1278.2.2.2.2)) fun q1330 : (List Int) × (List Int) =>
   some (Sum.inr (iadd .i64 s1278.1 1, s1278.2.1.set (Int.toNat k1281) 2, s1278.2.2.1.set (Int.toNat k1281) s909.1, q1330.1, q1330.2))
 else
  some (Sum.inl (s1278.2.1, s1278.2.2.1, s1278.2.2.2.1, s1278.2.2.2.2))

noncomputable def grounded_build_l5 (g_0 : T_Gra) (s909 : Int × (List Int) × (List Int) × (List Int) × (List Int)) (s1218 : Int × (List Int) × (List Int) × (List Int) × (List Int)) : Option (Sum ((List Int) × (List Int) × (List Int) × (List Int)) (Int × (List Int) × (List Int) × (List Int) × (List Int))) :=
 bif decide (s1218.1 < (s909.2.2.2.2.length : Int)) then
  Option.bind (idxM s909.2.2.2.2 s1218.1) fun i1221 =>
  Option.bind (graph_Attacked_m g_0 i1221) fun t1222 =>
  Option.bind (loopC (grounded_build_l6 g_0 s909 t1222) (0, s1218.2.1, s1218.2.2.1, s1218.2.2.2.1, s1218.2.2.2.2)) fun q1332 : (List Int) × (List Int) × (List Int) × (List Int) =>
  some (Sum.inr (iadd .i64 s1218.1 1, q1332.1, q1332.2.1, q1332.2.2.1, q1332.2.2.2))
 else
  some (Sum.inl (s1218.2.1, s1218.2.2.1, s1218.2.2.2.1, s1218.2.2.2.2))

noncomputable def grounded_build_l3 (g_0 : T_Gra) (s909 : Int × (List Int) × (List Int) × (List Int) × (List Int)) : Option (Sum ((List Int) × (List Int)) (Int × (List Int) × (List Int) × (List Int) × (List Int))) :=
 bif decide ((s909.2.2.2.2.length : Int) > 0) then
  Option.bind (loopC (grounded_build_l4 s909) (0, s909.2.1, s909.2.2.1)) fun q930 : (List Int) × (List Int) =>
  Option.bind (loopC (grounded_build_l5 g_0 s909) (0, q930.1, q930.2, s909.2.2.2.1, [])) fun q1334 : (List Int) × (List Int) × (List Int) × (List Int) =>
  letM (iadd .i64 s909.1 1) fun round1336 =>
  some (Sum.inr (round1336, q1334.1, q1334.2.1, q1334.2.2.1, q1334.2.2.2))
 else
  some (Sum.inl (s909.2.1, s909.2.2.1))

noncomputable def grounded_build_m (g_0 : T_Gra) : Option (List Int × List Int) :=
 Option.bind (slices_Repeat_int_int_m [3] g_0.N) fun labels3 =>
 Option.bind (mkM 8 0 g_0.N) fun ranks5 =>
 Option.bind (loopC (grounded_build_l1 g_0) (0, (List.replicate 40 0))) fun q29 : (List Int) =>
 Option.bind (loopC (grounded_build_l2 g_0 q29) (0, [])) fun q52 : (List Int) =>
 Option.bind (loopC (grounded_build_l3 g_0) (1, labels3, ranks5, q29, q52)) fun q1337 : (List Int) × (List Int) =>
 some (q1337.1, q1337.2)

theorem grounded_build_ok {g_0 : T_Gra} {r : List Int × List Int} (hm : grounded_build_m g_0 = some r) :
  FnOk prog 82 [ag [iv .i64 g_0.N, slv rT_Pai g_0.L]] [tbO (rI .u8) 0 tab_0] (fun (x : (Value × List Nat) × (Value × List Nat)) => [pv x.1.1, pv x.2.1]) (fun (x : (Value × List Nat) × (Value × List Nat)) => [tbO (rI .u8) 0 tab_0, oa (rI .i64) x.1.1 x.1.2 r.1, oa (rI .i64) x.2.1 x.2.2 r.2]) := by
 refine fn_ok (X := (Value × List Nat) × (Value × List Nat)) (fn := Tryz.f82) (N := 133) (res := fun r x => [pv x.1.1, pv x.2.1]) (Ω1 := fun r x => [tbO (rI .u8) 0 tab_0, oa (rI .i64) x.1.1 x.1.2 r.1, oa (rI .i64) x.2.1 x.2.2 r.2]) Tryz.func82 rfl rfl hm rfl (fun E hM => ?_)
 unfold grounded_build_m
 refine ref_seq (ref_region (s_st (s_box (part_agO (ψs := [iv .i64 g_0.N, slv rT_Pai g_0.L]) rfl ⟨.inl iv_at, .inl slv_at, trivial⟩)) rfl (fun b1 => as1 rfl rfl (as1 rfl rfl (l_nil (n_then (ref_seq (pull fun labels3 h_labels3 => pull fun ranks5 h_ranks5 => ?_))))))))
 refine ref_drawI 2 [⟨[], [], [], [], [], fun us u => slv (rI .i64) [3], fun us u => []⟩, ⟨[], [], [], [], [], fun us u => pv (ptr b1 0), fun us u => []⟩, ⟨[1], [], [], [1], [], fun us u => iv .i64 g_0.N, fun us u => []⟩, ⟨[0, 1, 2], [], [2], [2], [], fun us u => pv u.V.1, fun us u => [oa (rI .i64) u.V.1 u.V.2 labels3]⟩, ⟨[], [], [], [], [], fun us u => pv (ptr b1 0), fun us u => []⟩, ⟨[4], [], [], [1], [], fun us u => iv .i64 g_0.N, fun us u => []⟩, ⟨[4, 5], [], [3], [3], [], fun us u => pv u.V.1, fun us u => [oa (rI .i64) u.V.1 u.V.2 ranks5]⟩, ⟨[0, 1, 2, 3], [3], [], [], [], fun us u => pv (us.getD 0 .none).V.1, fun us u => []⟩, ⟨[0, 1, 2, 3, 4, 5, 6, 7], [6], [], [], [], fun us u => pv (us.getD 0 .none).V.1, fun us u => []⟩] (fun χ2 => [(1, pv (ptr b1 0)), (2, pv (χ2 3).V.1), (3, pv (χ2 6).V.1)]) (fun χ2 => [tbO (rI .u8) 0 tab_0, oc b1 [iv .i64 g_0.N, slv rT_Pai g_0.L], oa (rI .i64) (χ2 3).V.1 (χ2 3).V.2 labels3, oa (rI .i64) (χ2 6).V.1 (χ2 6).V.2 ranks5]) rfl (by kernel_rfl) ⟨fun χ2 Ω _ => St.to XU.U XU.hU (s_bslice (xs := [.const (.int .i64 (3))]) (ds := [3]) Tryz.underlying27 el_3 rfl (Nat.le_of_ble_eq_true rfl) ⟨(part_at rfl iv_at), trivial⟩) (fun _ => rfl) (fun _ => rfl), (by intro _ h; cases h; rfl), ⟨fun χ2 Ω _ => St.toR (r_faddr (fo := 0) Tryz.underlying52 rfl rfl Tryz.sizeOf3 rfl) (fun _ => rfl) (fun _ => rfl), (by intro _ h; cases h; rfl), ⟨fun χ2 Ω ⟨h1, _⟩ => St.toR (r_cload Tryz.isAgg3 rfl (j := 1) h1 rfl) (fun _ => rfl) (fun _ => rfl), (by intro _ h; cases h; rfl), ⟨fun χ2 Ω ⟨h2, _⟩ => St.to XU.V XU.hV (St.placeL [2] (s_call (ψ := fun (x4 : (Value × List Nat)) => pv x4.1) (args := [.tmp 19, .tmp 21]) Tryz.call98 rfl (slices_Repeat_int_int_ok h_labels3) ⟨arg rfl, arg rfl, trivial⟩ (fun _ _ _ _ h => h)) (fun _ => rfl) (fun _ => ⟨h2, rfl, trivial⟩)) (fun _ => rfl) (fun _ => rfl), (by intro _ h; cases h; rfl), ⟨fun χ2 Ω _ => St.toR (r_faddr (fo := 0) Tryz.underlying52 rfl rfl Tryz.sizeOf3 rfl) (fun _ => rfl) (fun _ => rfl), (by intro _ h; cases h; rfl), ⟨fun χ2 Ω ⟨h1, _⟩ => St.toR (r_cload Tryz.isAgg3 rfl (j := 1) h1 rfl) (fun _ => rfl) (fun _ => rfl), (by intro _ h; cases h; rfl), ⟨fun χ2 Ω ⟨h3, _⟩ => St.to XU.V XU.hV (St.placeL (os := fun _ => [_]) [3] (s_make h_ranks5 Tryz.underlying27 el_3 ze_3 rfl rfl) (fun _ => rfl) (fun _ => ⟨h3, rfl, trivial⟩)) (fun _ => rfl) (fun _ => rfl), (by intro _ h; cases h; rfl), ⟨fun χ2 Ω _ => St.toR (r_assign rfl) (fun _ => rfl) (fun _ => rfl), (by intro _ h; cases h; rfl), ⟨fun χ2 Ω _ => St.toR (r_assign rfl) (fun _ => rfl) (fun _ => rfl), (by intro _ h; cases h; rfl), trivial⟩⟩⟩⟩⟩⟩⟩⟩⟩ (fun _ => ⟨rfl, rfl, rfl, trivial⟩) (fun _ => rfl) (fun χ2 => ?_)
 refine n_then (ref_seq (ref_region (s_st (s_alloc zv_119) rfl (fun b7 => l_nil (n_then (ref_seq (ref_seq (ref_region (s_rd (r_faddr (fo := 1) Tryz.underlying52 rfl rfl Tryz.sizeOf50 rfl) rfl (s_rd (r_cload Tryz.isAgg50 rfl (j := 1) rfl rfl) rfl (s_rd (r_len Tryz.underlying50 rfl) rfl (mv1 rfl rfl (l_nil (n_then ?_))))))))))))))
 refine ref_loopB (f := (grounded_build_l1 g_0)) (Γl := (fun (s22 : Int × (List Int)) (x23 : Unit) => [(1, pv (ptr b1 0)), (2, pv (χ2 3).V.1), (3, pv (χ2 6).V.1), (4, pv (ptr b7 0)), (27, slv rT_Pai g_0.L), (28, iv .i64 (g_0.L.length : Int)), (29, iv .i64 s22.1)])) (Ωl := (fun (s22 : Int × (List Int)) (x23 : Unit) => [tbO (rI .u8) 0 tab_0, oc b1 [iv .i64 g_0.N, slv rT_Pai g_0.L], oa (rI .i64) (χ2 3).V.1 (χ2 3).V.2 labels3, oa (rI .i64) (χ2 6).V.1 (χ2 6).V.2 ranks5, oc b7 (List.map (iv .i64) s22.2)])) (Γb := (fun (q29 : (List Int)) (y30 : Unit) => [(1, pv (ptr b1 0)), (2, pv (χ2 3).V.1), (3, pv (χ2 6).V.1), (4, pv (ptr b7 0))])) (Ωb := (fun (q29 : (List Int)) (y30 : Unit) => [oc b1 [iv .i64 g_0.N, slv rT_Pai g_0.L], oa (rI .i64) (χ2 3).V.1 (χ2 3).V.2 labels3, oa (rI .i64) (χ2 6).V.1 (χ2 6).V.2 ranks5, oc b7 (List.map (iv .i64) q29), tbO (rI .u8) 0 tab_0])) (0, (List.replicate 40 0)) () (weak [0, 1, 2, 3, 4] ⟨rfl, rfl, rfl, rfl, rfl, rfl, rfl, trivial⟩ ⟨rfl, rfl, rfl, rfl, rfl, trivial⟩) (fun s22 x23 => ?_) (fun q29 y30 => ?_)
 ·unfold grounded_build_l1
  refine ref_seq (ref_region (s_rd (r_lss rfl rfl) rfl (l_nil (n_then (ref_seq ?_)))))
  refine ref_cond rfl (fun hb24 => ?_) (fun hb24 => ?_)
  ·refine ref_skip (n_then (ref_seq (ref_block (ref_seq (ref_region (pull fun t25 h_t25 => s_rd (r_index h_t25 Tryz.underlying50 el_87 rfl rfl) rfl (s_rd (r_load el_87 rfl) rfl (s_st (s_alloc zt_87) rfl (fun b26 => s_st0 (s_cstore (out := [iv .i64 t25.From, iv .i64 t25.To]) Tryz.sizeOf87 rfl (j := 5) rfl (part_agO (ψs := [iv .i64 t25.From, iv .i64 t25.To]) rfl ⟨.inl iv_at, .inl iv_at, trivial⟩) rfl rfl rfl) (fun _ => l_nil (n_then (ref_region (s_rd (r_faddr (fo := 1) Tryz.underlying87 rfl rfl Tryz.sizeOf3 rfl) rfl (s_rd (r_cload Tryz.isAgg3 rfl (j := 5) rfl rfl) rfl (pull fun t27 h_t27 => s_rd (r_aaddrV (off := 0) (vidx_idx h_t27) (vidx_len h_t27) Tryz.underlying119 Tryz.sizeOf3 rfl rfl) rfl (s_rd (r_vload (vidx_idx h_t27) Tryz.isAgg3 rfl (j := 4) rfl) rfl (s_rd (r_add rfl rfl) rfl (pull fun t28 h_t28 => s_rd (r_aaddrV (off := 0) (vidx_idx h_t28) (vidx_len h_t28) Tryz.underlying119 Tryz.sizeOf3 rfl rfl) rfl (s_st0 (s_vstore (u := iadd .i64 t27 1) (vidx_idx h_t28) Tryz.sizeOf3 rfl (j := 4) rfl (part_at rfl iv_at)) (fun _ => l_nil (b_of (nrm [tbO (rI .u8) 0 tab_0, oc b1 [iv .i64 g_0.N, slv rT_Pai g_0.L], oa (rI .i64) (χ2 3).V.1 (χ2 3).V.2 labels3, oa (rI .i64) (χ2 6).V.1 (χ2 6).V.2 ranks5, oc b7 (List.map (iv .i64) (s22.2.set (Int.toNat t25.To) (iadd .i64 t27 1))), oc b26 [iv .i64 t25.From, iv .i64 t25.To]] rfl) (n_block (n_then (ref_region (s_rd (r_add rfl rfl) rfl (mv1 rfl rfl (l_nil ?_)))))))))))))))))))))))))))
   exact goB () (weak [0, 1, 2, 3, 4] ⟨rfl, rfl, rfl, rfl, rfl, rfl, rfl, trivial⟩ ⟨rfl, rfl, rfl, rfl, rfl, trivial⟩)
  refine ref_exit (x_then ?_)
  exact brkB () (weak [1, 2, 3, 4, 0] ⟨rfl, rfl, rfl, rfl, trivial⟩ ⟨rfl, rfl, rfl, rfl, rfl, trivial⟩)
 refine n_then (ref_seq (ref_region (as1 rfl rfl (l_nil (n_then (ref_seq (ref_seq (ref_region (s_rd (r_faddr (fo := 0) Tryz.underlying52 rfl rfl Tryz.sizeOf3 rfl) rfl (s_rd (r_cload Tryz.isAgg3 rfl (j := 0) rfl rfl) rfl (mv1 rfl rfl (l_nil (n_then (b_of (own_nil (rI .i64)) ?_))))))))))))))
 refine ref_loopB (f := (grounded_build_l2 g_0 q29)) (Γl := (fun (s45 : Int × (List Int)) (x46 : (Value × List Nat)) => [(1, pv (ptr b1 0)), (2, pv (χ2 3).V.1), (3, pv (χ2 6).V.1), (4, pv (ptr b7 0)), (7, pv x46.1), (41, iv .i64 g_0.N), (42, iv .i64 s45.1)])) (Ωl := (fun (s45 : Int × (List Int)) (x46 : (Value × List Nat)) => [tbO (rI .u8) 0 tab_0, oc b1 [iv .i64 g_0.N, slv rT_Pai g_0.L], oa (rI .i64) (χ2 3).V.1 (χ2 3).V.2 labels3, oa (rI .i64) (χ2 6).V.1 (χ2 6).V.2 ranks5, oc b7 (List.map (iv .i64) q29), oa (rI .i64) x46.1 x46.2 s45.2])) (Γb := (fun (q52 : (List Int)) (y53 : (Value × List Nat)) => [(1, pv (ptr b1 0)), (2, pv (χ2 3).V.1), (3, pv (χ2 6).V.1), (4, pv (ptr b7 0)), (7, pv y53.1)])) (Ωb := (fun (q52 : (List Int)) (y53 : (Value × List Nat)) => [oc b1 [iv .i64 g_0.N, slv rT_Pai g_0.L], oa (rI .i64) (χ2 3).V.1 (χ2 3).V.2 labels3, oa (rI .i64) (χ2 6).V.1 (χ2 6).V.2 ranks5, oc b7 (List.map (iv .i64) q29), oa (rI .i64) y53.1 y53.2 q52, tbO (rI .u8) 0 tab_0])) (0, []) ((.slice none 0 0), []) (weak [4, 0, 1, 2, 3, 5] ⟨rfl, rfl, rfl, rfl, rfl, rfl, rfl, trivial⟩ ⟨rfl, rfl, rfl, rfl, rfl, rfl, trivial⟩) (fun s45 x46 => ?_) (fun q52 y53 => ?_)
 ·unfold grounded_build_l2
  refine ref_seq (ref_region (s_rd (r_lss rfl rfl) rfl (l_nil (n_then (ref_seq ?_)))))
  refine ref_cond rfl (fun hb47 => ?_) (fun hb47 => ?_)
  ·refine ref_skip (n_then (ref_seq (ref_block (ref_seq (ref_region (mv1 rfl rfl (as1 rfl rfl (l_nil (n_then (ref_seq (ref_region (mv1 rfl rfl (pull fun t48 h_t48 => s_rd (r_aaddrV (off := 0) (vidx_idx h_t48) (vidx_len h_t48) Tryz.underlying119 Tryz.sizeOf3 rfl rfl) rfl (s_rd (r_vload (vidx_idx h_t48) Tryz.isAgg3 rfl (j := 4) rfl) rfl (s_rd (r_eql rfl rfl) rfl (l_nil (n_then ?_)))))))))))))))))
   refine ref_cond rfl (fun hb49 => ?_) (fun hb49 => ?_)
   ·refine ref_region (mv1 rfl rfl (mv1 rfl rfl (s_st (s_bslice (xs := [.tmp 50]) (ds := [s45.1]) Tryz.underlying27 el_3 rfl (Nat.le_of_ble_eq_true rfl) ⟨(part_at rfl iv_at), trivial⟩) rfl (fun _ => pull fun queue50 h_queue50 => s_st (s_append h_queue50 Tryz.underlying27 el_3 rfl (j := 5) rfl rfl) rfl (fun o51 => as1 rfl rfl (l_nil (n_block (n_then (ref_region (s_rd (r_add rfl rfl) rfl (mv1 rfl rfl (l_nil ?_))))))))))))
    exact goB o51 (weak [0, 1, 2, 3, 4, 5] ⟨rfl, rfl, rfl, rfl, rfl, rfl, rfl, trivial⟩ ⟨rfl, rfl, rfl, rfl, rfl, rfl, trivial⟩)
   refine ref_skip (n_block (n_then (ref_region (s_rd (r_add rfl rfl) rfl (mv1 rfl rfl (l_nil ?_))))))
   exact goB x46 (weak [0, 1, 2, 3, 4, 5] ⟨rfl, rfl, rfl, rfl, rfl, rfl, rfl, trivial⟩ ⟨rfl, rfl, rfl, rfl, rfl, rfl, trivial⟩)
  refine ref_exit (x_then ?_)
  exact brkB x46 (weak [1, 2, 3, 4, 5, 0] ⟨rfl, rfl, rfl, rfl, rfl, trivial⟩ ⟨rfl, rfl, rfl, rfl, rfl, rfl, trivial⟩)
 refine n_then (ref_seq (ref_seq (ref_region (as1 rfl rfl (l_nil (n_then ?_))))))
 refine ref_loopB (f := (grounded_build_l3 g_0)) (Γl := (fun (s909 : Int × (List Int) × (List Int) × (List Int) × (List Int)) (x910 : (Value × List Nat)) => [(1, pv (ptr b1 0)), (2, pv (χ2 3).V.1), (3, pv (χ2 6).V.1), (4, pv (ptr b7 0)), (7, pv x910.1), (9, iv .i64 s909.1)])) (Ωl := (fun (s909 : Int × (List Int) × (List Int) × (List Int) × (List Int)) (x910 : (Value × List Nat)) => [tbO (rI .u8) 0 tab_0, oc b1 [iv .i64 g_0.N, slv rT_Pai g_0.L], oa (rI .i64) (χ2 3).V.1 (χ2 3).V.2 s909.2.1, oa (rI .i64) (χ2 6).V.1 (χ2 6).V.2 s909.2.2.1, oc b7 (List.map (iv .i64) s909.2.2.2.1), oa (rI .i64) x910.1 x910.2 s909.2.2.2.2])) (Γb := (fun (q1337 : (List Int) × (List Int)) (y1338 : Unit) => [(2, pv (χ2 3).V.1), (3, pv (χ2 6).V.1)])) (Ωb := (fun (q1337 : (List Int) × (List Int)) (y1338 : Unit) => [oa (rI .i64) (χ2 3).V.1 (χ2 3).V.2 q1337.1, oa (rI .i64) (χ2 6).V.1 (χ2 6).V.2 q1337.2, tbO (rI .u8) 0 tab_0])) (1, labels3, ranks5, q29, q52) y53 (weak [5, 0, 1, 2, 3, 4] ⟨rfl, rfl, rfl, rfl, rfl, rfl, trivial⟩ ⟨rfl, rfl, rfl, rfl, rfl, rfl, trivial⟩) (fun s909 x910 => ?_) (fun q1337 y1338 => ?_)
 ·unfold grounded_build_l3
  refine ref_seq (ref_seq (ref_region (mv1 rfl rfl (s_rd (r_olen Tryz.underlying27 rfl (j := 5) rfl) rfl (s_rd (r_gtr rfl rfl) rfl (l_nil (n_then ?_)))))))
  refine ref_cond rfl (fun hb911 => ?_) (fun hb911 => ?_)
  ·refine ref_skip (n_then (ref_seq (ref_block (ref_seq (ref_seq (ref_region (mv1 rfl rfl (s_rd (r_olen Tryz.underlying27 rfl (j := 5) rfl) rfl (mv1 rfl rfl (l_nil (n_then ?_)))))))))))
   refine ref_loopB (f := (grounded_build_l4 s909)) (Γl := (fun (s924 : Int × (List Int) × (List Int)) (x925 : Unit) => [(1, pv (ptr b1 0)), (2, pv (χ2 3).V.1), (3, pv (χ2 6).V.1), (4, pv (ptr b7 0)), (7, pv x910.1), (9, iv .i64 s909.1), (59, pv x910.1), (60, iv .i64 (s909.2.2.2.2.length : Int)), (61, iv .i64 s924.1)])) (Ωl := (fun (s924 : Int × (List Int) × (List Int)) (x925 : Unit) => [tbO (rI .u8) 0 tab_0, oc b1 [iv .i64 g_0.N, slv rT_Pai g_0.L], oa (rI .i64) (χ2 3).V.1 (χ2 3).V.2 s924.2.1, oa (rI .i64) (χ2 6).V.1 (χ2 6).V.2 s924.2.2, oc b7 (List.map (iv .i64) s909.2.2.2.1), oa (rI .i64) x910.1 x910.2 s909.2.2.2.2])) (Γb := (fun (q930 : (List Int) × (List Int)) (y931 : Unit) => [(1, pv (ptr b1 0)), (2, pv (χ2 3).V.1), (3, pv (χ2 6).V.1), (4, pv (ptr b7 0)), (7, pv x910.1), (9, iv .i64 s909.1)])) (Ωb := (fun (q930 : (List Int) × (List Int)) (y931 : Unit) => [oc b1 [iv .i64 g_0.N, slv rT_Pai g_0.L], oa (rI .i64) (χ2 3).V.1 (χ2 3).V.2 q930.1, oa (rI .i64) (χ2 6).V.1 (χ2 6).V.2 q930.2, oc b7 (List.map (iv .i64) s909.2.2.2.1), oa (rI .i64) x910.1 x910.2 s909.2.2.2.2, tbO (rI .u8) 0 tab_0])) (0, s909.2.1, s909.2.2.1) () (weak [0, 1, 2, 3, 4, 5] ⟨rfl, rfl, rfl, rfl, rfl, rfl, rfl, rfl, rfl, trivial⟩ ⟨rfl, rfl, rfl, rfl, rfl, rfl, trivial⟩) (fun s924 x925 => ?_) (fun q930 y931 => ?_)
   ·unfold grounded_build_l4
    refine ref_seq (ref_region (s_rd (r_lss rfl rfl) rfl (l_nil (n_then (ref_seq ?_)))))
    refine ref_cond rfl (fun hb926 => ?_) (fun hb926 => ?_)
    ·refine ref_skip (n_then (ref_seq (ref_block (ref_seq (ref_region (pull fun i927 h_i927 => s_rd (r_oindex h_i927 Tryz.underlying27 el_3 rfl (j := 5) rfl rfl) rfl (s_rd (r_oload h_i927 el_3 rfl (j := 5) rfl) rfl (as1 rfl rfl (l_nil (n_then (ref_region (mv1 rfl rfl (mv1 rfl rfl (mv1 rfl rfl (mv1 rfl rfl (mv1 rfl rfl (pull fun t928 h_t928 => s_rd (r_oindex h_t928 Tryz.underlying27 el_3 rfl (j := 2) rfl rfl) rfl (s_st0 (s_ostore (u := 1) h_t928 el_3 rfl (j := 2) rfl (part_at rfl iv_at)) (fun _ => pull fun t929 h_t929 => s_rd (r_oindex h_t929 Tryz.underlying27 el_3 rfl (j := 3) rfl rfl) rfl (s_st0 (s_ostore (u := s909.1) h_t929 el_3 rfl (j := 3) rfl (part_at rfl iv_at)) (fun _ => l_nil (n_block (n_then (ref_region (s_rd (r_add rfl rfl) rfl (mv1 rfl rfl (l_nil ?_)))))))))))))))))))))))))))
     exact goB () (weak [0, 1, 2, 3, 4, 5] ⟨rfl, rfl, rfl, rfl, rfl, rfl, rfl, rfl, rfl, trivial⟩ ⟨rfl, rfl, rfl, rfl, rfl, rfl, trivial⟩)
    refine ref_exit (x_then ?_)
    exact brkB () (weak [1, 2, 3, 4, 5, 0] ⟨rfl, rfl, rfl, rfl, rfl, rfl, trivial⟩ ⟨rfl, rfl, rfl, rfl, rfl, rfl, trivial⟩)
   refine n_then (ref_seq (ref_region (as1 rfl rfl (l_nil (n_then (ref_seq (ref_seq (ref_region (mv1 rfl rfl (s_rd (r_olen Tryz.underlying27 rfl (j := 4) rfl) rfl (mv1 rfl rfl (l_nil (n_then (b_of (own_nil (rI .i64)) ?_))))))))))))))
   refine ref_loopB (f := (grounded_build_l5 g_0 s909)) (Γl := (fun (s1218 : Int × (List Int) × (List Int) × (List Int) × (List Int)) (x1219 : (Value × List Nat)) => [(1, pv (ptr b1 0)), (2, pv (χ2 3).V.1), (3, pv (χ2 6).V.1), (4, pv (ptr b7 0)), (9, iv .i64 s909.1), (12, pv x1219.1), (73, pv x910.1), (74, iv .i64 (s909.2.2.2.2.length : Int)), (75, iv .i64 s1218.1)])) (Ωl := (fun (s1218 : Int × (List Int) × (List Int) × (List Int) × (List Int)) (x1219 : (Value × List Nat)) => [tbO (rI .u8) 0 tab_0, oc b1 [iv .i64 g_0.N, slv rT_Pai g_0.L], oa (rI .i64) (χ2 3).V.1 (χ2 3).V.2 s1218.2.1, oa (rI .i64) (χ2 6).V.1 (χ2 6).V.2 s1218.2.2.1, oc b7 (List.map (iv .i64) s1218.2.2.2.1), oa (rI .i64) x1219.1 x1219.2 s1218.2.2.2.2, oa (rI .i64) x910.1 x910.2 s909.2.2.2.2])) (Γb := (fun (q1334 : (List Int) × (List Int) × (List Int) × (List Int)) (y1335 : (Value × List Nat)) => [(1, pv (ptr b1 0)), (2, pv (χ2 3).V.1), (3, pv (χ2 6).V.1), (4, pv (ptr b7 0)), (9, iv .i64 s909.1), (12, pv y1335.1)])) (Ωb := (fun (q1334 : (List Int) × (List Int) × (List Int) × (List Int)) (y1335 : (Value × List Nat)) => [oc b1 [iv .i64 g_0.N, slv rT_Pai g_0.L], oa (rI .i64) (χ2 3).V.1 (χ2 3).V.2 q1334.1, oa (rI .i64) (χ2 6).V.1 (χ2 6).V.2 q1334.2.1, oc b7 (List.map (iv .i64) q1334.2.2.1), oa (rI .i64) y1335.1 y1335.2 q1334.2.2.2, tbO (rI .u8) 0 tab_0])) (0, q930.1, q930.2, s909.2.2.2.1, []) ((.slice none 0 0), []) (weak [5, 0, 1, 2, 3, 6, 4] ⟨rfl, rfl, rfl, rfl, rfl, rfl, rfl, rfl, rfl, trivial⟩ ⟨rfl, rfl, rfl, rfl, rfl, rfl, rfl, trivial⟩) (fun s1218 x1219 => ?_) (fun q1334 y1335 => ?_)
   ·unfold grounded_build_l5
    refine ref_seq (ref_region (s_rd (r_lss rfl rfl) rfl (l_nil (n_then (ref_seq ?_)))))
    refine ref_cond rfl (fun hb1220 => ?_) (fun hb1220 => ?_)
    ·refine ref_skip (n_then (ref_seq (ref_block (ref_seq (ref_region (pull fun i1221 h_i1221 => s_rd (r_oindex h_i1221 Tryz.underlying27 el_3 rfl (j := 6) rfl rfl) rfl (s_rd (r_oload h_i1221 el_3 rfl (j := 6) rfl) rfl (as1 rfl rfl (l_nil (n_then (ref_seq (ref_region (s_rd (r_cloadS Tryz.isAgg52 Tryz.sizeOf52 rfl (j := 1) rfl rfl rfl) rfl (mv1 rfl rfl (pull fun t1222 h_t1222 => s_st (s_callC [0] [true] (fun (x1223 : (Value × List Nat)) => [tbO (rI .u8) 0 tab_0]) (fun (x1223 : (Value × List Nat)) => [oa (rI .i64) x1223.1 x1223.2 t1222]) (fun (x1223 : (Value × List Nat)) => pv x1223.1) (args := [.tmp 79, .tmp 80]) (caps := []) Tryz.call99 rfl (graph_Attacked_ok h_t1222) ⟨rfl, rfl, trivial⟩ (fun _ => rfl) (fun _ => trivial) (fun _ => rfl) ⟨arg rfl, arg rfl, trivial⟩ (fun _ _ _ _ h => h)) rfl (fun x1223 => s_rd (r_olen Tryz.underlying27 rfl (j := 7) rfl) rfl (mv1 rfl rfl (l_nil (n_then ?_)))))))))))))))))))
     refine ref_loopB (f := (grounded_build_l6 g_0 s909 t1222)) (Γl := (fun (s1278 : Int × (List Int) × (List Int) × (List Int) × (List Int)) (x1279 : (Value × List Nat)) => [(1, pv (ptr b1 0)), (2, pv (χ2 3).V.1), (3, pv (χ2 6).V.1), (4, pv (ptr b7 0)), (9, iv .i64 s909.1), (12, pv x1279.1), (73, pv x910.1), (74, iv .i64 (s909.2.2.2.2.length : Int)), (75, iv .i64 s1218.1), (81, pv x1223.1), (82, iv .i64 (t1222.length : Int)), (83, iv .i64 s1278.1)])) (Ωl := (fun (s1278 : Int × (List Int) × (List Int) × (List Int) × (List Int)) (x1279 : (Value × List Nat)) => [tbO (rI .u8) 0 tab_0, oc b1 [iv .i64 g_0.N, slv rT_Pai g_0.L], oa (rI .i64) (χ2 3).V.1 (χ2 3).V.2 s1278.2.1, oa (rI .i64) (χ2 6).V.1 (χ2 6).V.2 s1278.2.2.1, oc b7 (List.map (iv .i64) s1278.2.2.2.1), oa (rI .i64) x1279.1 x1279.2 s1278.2.2.2.2, oa (rI .i64) x910.1 x910.2 s909.2.2.2.2, oa (rI .i64) x1223.1 x1223.2 t1222])) (Γb := (fun (q1332 : (List Int) × (List Int) × (List Int) × (List Int)) (y1333 : (Value × List Nat)) => [(1, pv (ptr b1 0)), (2, pv (χ2 3).V.1), (3, pv (χ2 6).V.1), (4, pv (ptr b7 0)), (9, iv .i64 s909.1), (12, pv y1333.1), (73, pv x910.1), (74, iv .i64 (s909.2.2.2.2.length : Int)), (75, iv .i64 s1218.1)])) (Ωb := (fun (q1332 : (List Int) × (List Int) × (List Int) × (List Int)) (y1333 : (Value × List Nat)) => [oc b1 [iv .i64 g_0.N, slv rT_Pai g_0.L], oa (rI .i64) (χ2 3).V.1 (χ2 3).V.2 q1332.1, oa (rI .i64) (χ2 6).V.1 (χ2 6).V.2 q1332.2.1, oc b7 (List.map (iv .i64) q1332.2.2.1), oa (rI .i64) y1333.1 y1333.2 q1332.2.2.2, oa (rI .i64) x910.1 x910.2 s909.2.2.2.2, tbO (rI .u8) 0 tab_0])) (0, s1218.2.1, s1218.2.2.1, s1218.2.2.2.1, s1218.2.2.2.2) x1219 (weak [0, 1, 2, 3, 4, 5, 6, 7] ⟨rfl, rfl, rfl, rfl, rfl, rfl, rfl, rfl, rfl, rfl, rfl, rfl, trivial⟩ ⟨rfl, rfl, rfl, rfl, rfl, rfl, rfl, rfl, trivial⟩) (fun s1278 x1279 => ?_) (fun q1332 y1333 => ?_)
     ·unfold grounded_build_l6
      refine ref_seq (ref_region (s_rd (r_lss rfl rfl) rfl (l_nil (n_then (ref_seq ?_)))))
      refine ref_cond rfl (fun hb1280 => ?_) (fun hb1280 => ?_)
      ·refine ref_skip (n_then (ref_seq (ref_block (ref_seq (ref_region (pull fun k1281 h_k1281 => s_rd (r_oindex h_k1281 Tryz.underlying27 el_3 rfl (j := 7) rfl rfl) rfl (s_rd (r_oload h_k1281 el_3 rfl (j := 7) rfl) rfl (as1 rfl rfl (l_nil (n_then (ref_seq (ref_seq (ref_region (mv1 rfl rfl (mv1 rfl rfl (pull fun t1282 h_t1282 => s_rd (r_oindex h_t1282 Tryz.underlying27 el_3 rfl (j := 2) rfl rfl) rfl (s_rd (r_oload h_t1282 el_3 rfl (j := 2) rfl) rfl (s_rd (r_neq rfl rfl) rfl (l_nil (n_then ?_))))))))))))))))))))
       refine ref_cond rfl (fun hb1283 => ?_) (fun hb1283 => ?_)
       ·refine ref_exit (x_then (x_eq (n_then (ref_region (s_rd (r_add rfl rfl) rfl (mv1 rfl rfl (l_nil ?_)))))))
        exact goB x1279 (weak [0, 1, 2, 3, 4, 5, 6, 7] ⟨rfl, rfl, rfl, rfl, rfl, rfl, rfl, rfl, rfl, rfl, rfl, rfl, trivial⟩ ⟨rfl, rfl, rfl, rfl, rfl, rfl, rfl, rfl, trivial⟩)
       refine ref_skip (n_then (ref_seq (ref_region (mv1 rfl rfl (mv1 rfl rfl (mv1 rfl rfl (mv1 rfl rfl (mv1 rfl rfl (pull fun t1284 h_t1284 => s_rd (r_oindex h_t1284 Tryz.underlying27 el_3 rfl (j := 2) rfl rfl) rfl (s_st0 (s_ostore (u := 2) h_t1284 el_3 rfl (j := 2) rfl (part_at rfl iv_at)) (fun _ => pull fun t1285 h_t1285 => s_rd (r_oindex h_t1285 Tryz.underlying27 el_3 rfl (j := 3) rfl rfl) rfl (s_st0 (s_ostore (u := s909.1) h_t1285 el_3 rfl (j := 3) rfl (part_at rfl iv_at)) (fun _ => l_nil (n_then (ref_seq (ref_region (s_rd (r_cloadS Tryz.isAgg52 Tryz.sizeOf52 rfl (j := 1) rfl rfl rfl) rfl (mv1 rfl rfl (pull fun t1286 h_t1286 => s_st (s_callC [0] [true] (fun (x1287 : (Value × List Nat)) => [tbO (rI .u8) 0 tab_0]) (fun (x1287 : (Value × List Nat)) => [oa (rI .i64) x1287.1 x1287.2 t1286]) (fun (x1287 : (Value × List Nat)) => pv x1287.1) (args := [.tmp 99, .tmp 100]) (caps := []) Tryz.call99 rfl (graph_Attacked_ok h_t1286) ⟨rfl, rfl, trivial⟩ (fun _ => rfl) (fun _ => trivial) (fun _ => rfl) ⟨arg rfl, arg rfl, trivial⟩ (fun _ _ _ _ h => h)) rfl (fun x1287 => s_rd (r_olen Tryz.underlying27 rfl (j := 8) rfl) rfl (mv1 rfl rfl (l_nil (b_of (nrm [tbO (rI .u8) 0 tab_0, oc b1 [iv .i64 g_0.N, slv rT_Pai g_0.L], oa (rI .i64) (χ2 3).V.1 (χ2 3).V.2 (s1278.2.1.set (Int.toNat k1281) 2), oa (rI .i64) (χ2 6).V.1 (χ2 6).V.2 (s1278.2.2.1.set (Int.toNat k1281) s909.1), oc b7 (List.map (iv .i64) s1278.2.2.2.1), oa (rI .i64) x1279.1 x1279.2 s1278.2.2.2.2, oa (rI .i64) x910.1 x910.2 s909.2.2.2.2, oa (rI .i64) x1223.1 x1223.2 t1222, oa (rI .i64) x1287.1 x1287.2 t1286] rfl) (n_then ?_))))))))))))))))))))))))
       refine ref_loopB (f := (grounded_build_l7 s1278 k1281 t1286)) (Γl := (fun (s1316 : Int × (List Int) × (List Int)) (x1317 : (Value × List Nat)) => [(1, pv (ptr b1 0)), (2, pv (χ2 3).V.1), (3, pv (χ2 6).V.1), (4, pv (ptr b7 0)), (9, iv .i64 s909.1), (12, pv x1317.1), (73, pv x910.1), (74, iv .i64 (s909.2.2.2.2.length : Int)), (75, iv .i64 s1218.1), (81, pv x1223.1), (82, iv .i64 (t1222.length : Int)), (83, iv .i64 s1278.1), (101, pv x1287.1), (102, iv .i64 (t1286.length : Int)), (103, iv .i64 s1316.1)])) (Ωl := (fun (s1316 : Int × (List Int) × (List Int)) (x1317 : (Value × List Nat)) => [tbO (rI .u8) 0 tab_0, oc b1 [iv .i64 g_0.N, slv rT_Pai g_0.L], oa (rI .i64) (χ2 3).V.1 (χ2 3).V.2 (s1278.2.1.set (Int.toNat k1281) 2), oa (rI .i64) (χ2 6).V.1 (χ2 6).V.2 (s1278.2.2.1.set (Int.toNat k1281) s909.1), oc b7 (List.map (iv .i64) s1316.2.1), oa (rI .i64) x1317.1 x1317.2 s1316.2.2, oa (rI .i64) x910.1 x910.2 s909.2.2.2.2, oa (rI .i64) x1223.1 x1223.2 t1222, oa (rI .i64) x1287.1 x1287.2 t1286])) (Γb := (fun (q1330 : (List Int) × (List Int)) (y1331 : (Value × List Nat)) => [(1, pv (ptr b1 0)), (2, pv (χ2 3).V.1), (3, pv (χ2 6).V.1), (4, pv (ptr b7 0)), (9, iv .i64 s909.1), (12, pv y1331.1), (73, pv x910.1), (74, iv .i64 (s909.2.2.2.2.length : Int)), (75, iv .i64 s1218.1), (81, pv x1223.1), (82, iv .i64 (t1222.length : Int)), (83, iv .i64 s1278.1)])) (Ωb := (fun (q1330 : (List Int) × (List Int)) (y1331 : (Value × List Nat)) => [oc b1 [iv .i64 g_0.N, slv rT_Pai g_0.L], oa (rI .i64) (χ2 3).V.1 (χ2 3).V.2 (s1278.2.1.set (Int.toNat k1281) 2), oa (rI .i64) (χ2 6).V.1 (χ2 6).V.2 (s1278.2.2.1.set (Int.toNat k1281) s909.1), oc b7 (List.map (iv .i64) q1330.1), oa (rI .i64) y1331.1 y1331.2 q1330.2, oa (rI .i64) x910.1 x910.2 s909.2.2.2.2, oa (rI .i64) x1223.1 x1223.2 t1222, tbO (rI .u8) 0 tab_0])) (0, s1278.2.2.2.1, s1278.2.2.2.2) x1279 (weak [0, 1, 2, 3, 4, 5, 6, 7, 8] ⟨rfl, rfl, rfl, rfl, rfl, rfl, rfl, rfl, rfl, rfl, rfl, rfl, rfl, rfl, rfl, trivial⟩ ⟨rfl, rfl, rfl, rfl, rfl, rfl, rfl, rfl, rfl, trivial⟩) (fun s1316 x1317 => ?_) (fun q1330 y1331 => ?_)
       ·unfold grounded_build_l7
        refine ref_seq (ref_region (s_rd (r_lss rfl rfl) rfl (l_nil (n_then (ref_seq ?_)))))
        refine ref_cond rfl (fun hb1318 => ?_) (fun hb1318 => ?_)
        ·refine ref_skip (n_then (ref_seq (ref_block (ref_seq (ref_region (pull fun j1319 h_j1319 => s_rd (r_oindex h_j1319 Tryz.underlying27 el_3 rfl (j := 8) rfl rfl) rfl (s_rd (r_oload h_j1319 el_3 rfl (j := 8) rfl) rfl (as1 rfl rfl (l_nil (n_then (ref_seq (ref_region (mv1 rfl rfl (pull fun t1320 h_t1320 => s_rd (r_aaddrV (off := 0) (vidx_idx h_t1320) (vidx_len h_t1320) Tryz.underlying119 Tryz.sizeOf3 rfl rfl) rfl (s_rd (r_vload (vidx_idx h_t1320) Tryz.isAgg3 rfl (j := 4) rfl) rfl (s_rd (r_sub rfl rfl) rfl (pull fun t1321 h_t1321 => s_rd (r_aaddrV (off := 0) (vidx_idx h_t1321) (vidx_len h_t1321) Tryz.underlying119 Tryz.sizeOf3 rfl rfl) rfl (s_st0 (s_vstore (u := isub .i64 t1320 1) (vidx_idx h_t1321) Tryz.sizeOf3 rfl (j := 4) rfl (part_at rfl iv_at)) (fun _ => l_nil (n_then (ref_seq ?_)))))))))))))))))))))
         refine ref_join (fun (j1324 : Bool) (x1325 : Unit) => [(1, pv (ptr b1 0)), (2, pv (χ2 3).V.1), (3, pv (χ2 6).V.1), (4, pv (ptr b7 0)), (9, iv .i64 s909.1), (12, pv x1317.1), (18, iv .i64 j1319), (73, pv x910.1), (74, iv .i64 (s909.2.2.2.2.length : Int)), (75, iv .i64 s1218.1), (81, pv x1223.1), (82, iv .i64 (t1222.length : Int)), (83, iv .i64 s1278.1), (101, pv x1287.1), (102, iv .i64 (t1286.length : Int)), (103, iv .i64 s1316.1), (122, bv j1324)]) (fun (j1324 : Bool) (x1325 : Unit) => [oc b1 [iv .i64 g_0.N, slv rT_Pai g_0.L], oa (rI .i64) (χ2 3).V.1 (χ2 3).V.2 (s1278.2.1.set (Int.toNat k1281) 2), oa (rI .i64) (χ2 6).V.1 (χ2 6).V.2 (s1278.2.2.1.set (Int.toNat k1281) s909.1), oc b7 (List.map (iv .i64) (s1316.2.1.set (Int.toNat j1319) (isub .i64 t1320 1))), oa (rI .i64) x1317.1 x1317.2 s1316.2.2, oa (rI .i64) x910.1 x910.2 s909.2.2.2.2, oa (rI .i64) x1223.1 x1223.2 t1222, oa (rI .i64) x1287.1 x1287.2 t1286, tbO (rI .u8) 0 tab_0]) (fun k1326 hk1326 => ?_) (fun j1324 x1325 => ?_)
         ·refine ref_region (mv1 rfl rfl (pull fun t1322 h_t1322 => s_rd (r_aaddrV (off := 0) (vidx_idx h_t1322) (vidx_len h_t1322) Tryz.underlying119 Tryz.sizeOf3 rfl rfl) rfl (s_rd (r_vload (vidx_idx h_t1322) Tryz.isAgg3 rfl (j := 4) rfl) rfl (s_rd (r_eql rfl rfl) rfl (mv1 rfl rfl ?_)))))
          refine b_split (t := 116) rfl (fun _ => ?_) (fun _ => ?_)
          ·refine s_on rfl rfl rfl (mv1 rfl rfl (s_on rfl rfl rfl (mv1 rfl rfl (s_on rfl rfl rfl (pull fun t1323 h_t1323 => s_rd (r_oindex h_t1323 Tryz.underlying27 el_3 rfl (j := 2) rfl rfl) rfl (s_on rfl rfl rfl (s_rd (r_oload h_t1323 el_3 rfl (j := 2) rfl) rfl (s_on rfl rfl rfl (s_rd (r_eql rfl rfl) rfl (s_rd (r_pickT rfl rfl) rfl (l_nil ?_)))))))))))
           exact b_to (hk1326 (t1323 == 3) ()) (weak [1, 2, 3, 4, 5, 6, 7, 8, 0] ⟨rfl, rfl, rfl, rfl, rfl, rfl, rfl, rfl, rfl, rfl, rfl, rfl, rfl, rfl, rfl, rfl, rfl, trivial⟩ ⟨rfl, rfl, rfl, rfl, rfl, rfl, rfl, rfl, rfl, trivial⟩)
          refine s_off rfl rfl rfl rfl rfl (s_off rfl rfl rfl rfl rfl (s_off rfl rfl rfl rfl rfl (s_off rfl rfl rfl rfl rfl (s_off rfl rfl rfl rfl rfl (s_rd (r_pickF rfl rfl) rfl (l_nil ?_))))))
          exact b_to (hk1326 false ()) (weak [1, 2, 3, 4, 5, 6, 7, 8, 0] ⟨rfl, rfl, rfl, rfl, rfl, rfl, rfl, rfl, rfl, rfl, rfl, rfl, rfl, rfl, rfl, rfl, rfl, trivial⟩ ⟨rfl, rfl, rfl, rfl, rfl, rfl, rfl, rfl, rfl, trivial⟩)
         refine n_then ?_
         refine ref_cond rfl (fun hb1327 => ?_) (fun hb1327 => ?_)
         ·refine ref_region (mv1 rfl rfl (mv1 rfl rfl (s_st (s_bslice (xs := [.tmp 124]) (ds := [j1319]) Tryz.underlying27 el_3 rfl (Nat.le_of_ble_eq_true rfl) ⟨(part_at rfl iv_at), trivial⟩) rfl (fun _ => pull fun next1328 h_next1328 => s_st (s_append h_next1328 Tryz.underlying27 el_3 rfl (j := 4) rfl rfl) rfl (fun o1329 => as1 rfl rfl (l_nil (n_block (n_then (ref_region (s_rd (r_add rfl rfl) rfl (mv1 rfl rfl (l_nil ?_))))))))))))
          exact goB o1329 (weak [8, 0, 1, 2, 3, 4, 5, 6, 7] ⟨rfl, rfl, rfl, rfl, rfl, rfl, rfl, rfl, rfl, rfl, rfl, rfl, rfl, rfl, rfl, trivial⟩ ⟨rfl, rfl, rfl, rfl, rfl, rfl, rfl, rfl, rfl, trivial⟩)
         refine ref_skip (n_block (n_then (ref_region (s_rd (r_add rfl rfl) rfl (mv1 rfl rfl (l_nil ?_))))))
         exact goB x1317 (weak [8, 0, 1, 2, 3, 4, 5, 6, 7] ⟨rfl, rfl, rfl, rfl, rfl, rfl, rfl, rfl, rfl, rfl, rfl, rfl, rfl, rfl, rfl, trivial⟩ ⟨rfl, rfl, rfl, rfl, rfl, rfl, rfl, rfl, rfl, trivial⟩)
        refine ref_exit (x_then ?_)
        exact brkB x1317 (weak [1, 2, 3, 4, 5, 6, 7, 0] ⟨rfl, rfl, rfl, rfl, rfl, rfl, rfl, rfl, rfl, rfl, rfl, rfl, trivial⟩ ⟨rfl, rfl, rfl, rfl, rfl, rfl, rfl, rfl, trivial⟩)
       refine n_block (n_then (ref_region (s_rd (r_add rfl rfl) rfl (mv1 rfl rfl (l_nil ?_)))))
       exact goB y1331 (weak [7, 0, 1, 2, 3, 4, 5, 6] ⟨rfl, rfl, rfl, rfl, rfl, rfl, rfl, rfl, rfl, rfl, rfl, rfl, trivial⟩ ⟨rfl, rfl, rfl, rfl, rfl, rfl, rfl, rfl, trivial⟩)
      refine ref_exit (x_then ?_)
      exact brkB x1279 (weak [1, 2, 3, 4, 5, 6, 0] ⟨rfl, rfl, rfl, rfl, rfl, rfl, rfl, rfl, rfl, trivial⟩ ⟨rfl, rfl, rfl, rfl, rfl, rfl, rfl, trivial⟩)
     refine n_block (n_then (ref_region (s_rd (r_add rfl rfl) rfl (mv1 rfl rfl (l_nil ?_)))))
     exact goB y1333 (weak [6, 0, 1, 2, 3, 4, 5] ⟨rfl, rfl, rfl, rfl, rfl, rfl, rfl, rfl, rfl, trivial⟩ ⟨rfl, rfl, rfl, rfl, rfl, rfl, rfl, trivial⟩)
    refine ref_exit (x_then ?_)
    exact brkB x1219 (weak [1, 2, 3, 4, 5, 0] ⟨rfl, rfl, rfl, rfl, rfl, rfl, trivial⟩ ⟨rfl, rfl, rfl, rfl, rfl, rfl, trivial⟩)
   refine n_then (ref_region (mv1 rfl rfl (as1 rfl rfl (l_nil (n_block (n_then (ref_region (mv1 rfl rfl (s_rd (r_add rfl rfl) rfl (as1 rfl rfl (b_let (f := iv .i64) (t := 9) rfl fun round1336 => l_nil ?_)))))))))))
   exact goB y1335 (weak [5, 0, 1, 2, 3, 4] ⟨rfl, rfl, rfl, rfl, rfl, rfl, trivial⟩ ⟨rfl, rfl, rfl, rfl, rfl, rfl, trivial⟩)
  refine ref_exit (x_then ?_)
  exact brkB () (weak [2, 3, 0] ⟨rfl, rfl, trivial⟩ ⟨rfl, rfl, rfl, trivial⟩)
 refine n_then (ref_seq (ref_region (mv1 rfl rfl (mv1 rfl rfl (as1 rfl rfl (as1 rfl rfl (l_nil (n_then (ref_ret ?_)))))))))
 exact fin2 (.inl rfl) ((χ2 3).V, (χ2 6).V) [2, 0, 1] rfl ⟨rfl, rfl, rfl, trivial⟩ rfl (rv_tmp rfl) (rv_tmp rfl)

/-! deliberation/grounded.Label -/
noncomputable def grounded_Label_m (g_0 : T_Gra) : Option (List Int) :=
 Option.bind (grounded_build_m g_0) fun t2 =>
 some t2.1

theorem grounded_Label_ok {g_0 : T_Gra} {r : List Int} (hm : grounded_Label_m g_0 = some r) :
  FnOk prog 65 [ag [iv .i64 g_0.N, slv rT_Pai g_0.L]] [tbO (rI .u8) 0 tab_0] (fun (x : (Value × List Nat)) => [pv x.1]) (fun (x : (Value × List Nat)) => [tbO (rI .u8) 0 tab_0, oa (rI .i64) x.1 x.2 r]) := by
 refine fn_ok (X := (Value × List Nat)) (fn := Tryz.f65) (N := 11) (res := fun r x => [pv x.1]) (Ω1 := fun r x => [tbO (rI .u8) 0 tab_0, oa (rI .i64) x.1 x.2 r]) Tryz.func65 rfl rfl hm rfl (fun E hM => ?_)
 unfold grounded_Label_m
 refine ref_seq (ref_region (s_st (s_box (part_agO (ψs := [iv .i64 g_0.N, slv rT_Pai g_0.L]) rfl ⟨.inl iv_at, .inl slv_at, trivial⟩)) rfl (fun b1 => as1 rfl rfl (l_nil (n_then (ref_seq (ref_region (s_rd (r_cloadS Tryz.isAgg52 Tryz.sizeOf52 rfl (j := 1) rfl rfl rfl) rfl (pull fun t2 h_t2 => s_st (s_callC [0] [true] (fun (x3 : (Value × List Nat) × (Value × List Nat)) => [tbO (rI .u8) 0 tab_0]) (fun (x3 : (Value × List Nat) × (Value × List Nat)) => [oa (rI .i64) x3.1.1 x3.1.2 t2.1, oa (rI .i64) x3.2.1 x3.2.2 t2.2]) (fun (x3 : (Value × List Nat) × (Value × List Nat)) => tup [pv x3.1.1, pv x3.2.1]) (args := [.tmp 6]) (caps := []) Tryz.call82 rfl (grounded_build_ok h_t2) ⟨rfl, rfl, trivial⟩ (fun _ => rfl) (fun _ => trivial) (fun _ => rfl) ⟨arg rfl, trivial⟩ (fun _ _ _ _ h => h)) rfl (fun x3 => mv1 rfl rfl (s_rd (r_extract rfl rfl) rfl (s_rd (r_extract rfl rfl) rfl (as1 rfl rfl (as1 rfl rfl (l_nil (n_then (ref_seq (ref_region (mv1 rfl rfl (as1 rfl rfl (l_nil (n_then (ref_ret ?_)))))))))))))))))))))))
 exact fin1 (.inl rfl) x3.1 [0, 2] rfl ⟨rfl, rfl, trivial⟩ rfl (rv_tmp rfl)

/-! deliberation/precedent.Decide -/
noncomputable def pc_Decide_l1 (l_0 : T_Lib) (t2 : List Int × T_Gra × Int) (labels6 : List Int) (s18 : Int) : Option (Sum ((Sum (Int × Int × Int) (Unit))) (Int)) :=
 bif decide (s18 < (t2.1.length : Int)) then
  Option.bind (idxM t2.1 s18) fun i21 =>
  joinM (fun j23 : Bool =>
    bif j23 then
     Option.bind (idxM l_0.Cases i21) fun t27 =>
     some (Sum.inl (Sum.inl (t27.Winner, i21, 0)))
    else
     some (Sum.inr (iadd .i64 s18 1))) fun k25 =>
  bif decide (s18 < (labels6.length : Int)) then
   Option.bind (idxM labels6 s18) fun t22 =>
   k25 (t22 == 1)
  else
   k25 false
 else
  some (Sum.inl (Sum.inr ()))

noncomputable def pc_Decide_m (l_0 : T_Lib) (facts_1 : (List ByteArray)) : Option (Int × Int × Int) :=
 Option.bind (pc_Citable_m l_0 facts_1) fun t2 =>
 bif t2.2.2 != 0 then
  some (0, 0, t2.2.2)
 else
  Option.bind (grounded_Label_m t2.2.1) fun labels6 =>
  Option.bind (loopC (pc_Decide_l1 l_0 t2 labels6) 0) (sumK (fun a : Int × Int × Int => some a) fun q28 : Unit =>
   some (0, (-1), 0))

theorem pc_Decide_ok {l_0 : T_Lib} {facts_1 : (List ByteArray)} {r : Int × Int × Int} (hm : pc_Decide_m l_0 facts_1 = some r) :
  FnOk prog 25 [ag [slv rS l_0.Sides.i0, slv rS l_0.Sides.i1, slv rT_Cas l_0.Cases], slv rS facts_1] [tbO (rI .u8) 0 tab_0] (fun (x : Unit) => [iv .i64 r.1, iv .i64 r.2.1, iv .i64 r.2.2]) (fun (x : Unit) => [tbO (rI .u8) 0 tab_0]) := by
 refine fn_ok (fn := Tryz.f25) (N := 51) (res := fun r x => [iv .i64 r.1, iv .i64 r.2.1, iv .i64 r.2.2]) (Ω1 := fun r x => [tbO (rI .u8) 0 tab_0]) Tryz.func25 rfl rfl hm rfl (fun E hM => ?_)
 unfold pc_Decide_m
 refine ref_seq (ref_region (s_st (s_box (part_agO (ψs := [slv rS l_0.Sides.i0, slv rS l_0.Sides.i1, slv rT_Cas l_0.Cases]) rfl ⟨.inl slv_at, .inl slv_at, .inl slv_at, trivial⟩)) rfl (fun b1 => as1 rfl rfl (as1 rfl rfl (as1 rfl rfl (l_nil (n_then (ref_seq (ref_region (s_rd (r_cloadS Tryz.isAgg26 Tryz.sizeOf26 rfl (j := 1) rfl rfl rfl) rfl (mv1 rfl rfl (pull fun t2 h_t2 => s_st (s_call (ψ := fun (x3 : (Value × List Nat)) => tup [pv x3.1, ag [iv .i64 t2.2.1.N, slv rT_Pai t2.2.1.L], iv .i64 t2.2.2]) (args := [.tmp 14, .tmp 15]) Tryz.call23 rfl (pc_Citable_ok h_t2) ⟨arg rfl, arg rfl, trivial⟩ (fun _ _ _ _ h => h)) rfl (fun x3 => mv1 rfl rfl (s_rd (r_extract rfl rfl) rfl (s_rd (r_extract rfl rfl) rfl (s_rd (r_extract rfl rfl) rfl (s_st (s_alloc zt_52) rfl (fun b4 => as1 rfl rfl (s_st0 (s_cstore (out := [iv .i64 t2.2.1.N, slv rT_Pai t2.2.1.L]) Tryz.sizeOf52 rfl (j := 3) rfl (part_agO (ψs := [iv .i64 t2.2.1.N, slv rT_Pai t2.2.1.L]) rfl ⟨.inl iv_at, .inl slv_at, trivial⟩) rfl rfl rfl) (fun _ => as1 rfl rfl (l_nil (b_of (nrm [tbO (rI .u8) 0 tab_0, oc b1 [slv rS l_0.Sides.i0, slv rS l_0.Sides.i1, slv rT_Cas l_0.Cases], oa (rI .i64) x3.1 x3.2 t2.1, oc b4 [iv .i64 t2.2.1.N, slv rT_Pai t2.2.1.L]] rfl) (n_then (ref_seq (ref_seq (ref_region (mv1 rfl rfl (s_rd (r_neq rfl rfl) rfl (l_nil (n_then ?_))))))))))))))))))))))))))))))
 refine ref_cond rfl (fun hb5 => ?_) (fun hb5 => ?_)
 ·refine ref_seq (ref_region (mv1 rfl rfl (as1 rfl rfl (as1 rfl rfl (as1 rfl rfl (l_nil (n_then (ref_ret (r_then ?_)))))))))
  exact fin3 (.inl rfl) () [0] rfl ⟨rfl, trivial⟩ rfl (rv_tmp rfl) (rv_tmp rfl) (rv_tmp rfl)
 refine ref_skip (n_then (ref_seq (ref_region (s_rd (r_cloadS Tryz.isAgg52 Tryz.sizeOf52 rfl (j := 3) rfl rfl rfl) rfl (pull fun labels6 h_labels6 => s_st (s_callC [0] [true] (fun (x7 : (Value × List Nat)) => [tbO (rI .u8) 0 tab_0]) (fun (x7 : (Value × List Nat)) => [oa (rI .i64) x7.1 x7.2 labels6]) (fun (x7 : (Value × List Nat)) => pv x7.1) (args := [.tmp 23]) (caps := []) Tryz.call65 rfl (grounded_Label_ok h_labels6) ⟨rfl, rfl, trivial⟩ (fun _ => rfl) (fun _ => trivial) (fun _ => rfl) ⟨arg rfl, trivial⟩ (fun _ _ _ _ h => h)) rfl (fun x7 => as1 rfl rfl (l_nil (n_then (ref_seq (ref_seq (ref_region (mv1 rfl rfl (s_rd (r_olen Tryz.underlying27 rfl (j := 2) rfl) rfl (mv1 rfl rfl (l_nil (n_then ?_))))))))))))))))
 refine ref_loopX (f := (pc_Decide_l1 l_0 t2 labels6)) (Γl := (fun (s18 : Int) (x19 : Unit) => [(2, pv (ptr b1 0)), (10, pv x7.1), (25, pv x3.1), (26, iv .i64 (t2.1.length : Int)), (27, iv .i64 s18)])) (Ωl := (fun (s18 : Int) (x19 : Unit) => [tbO (rI .u8) 0 tab_0, oc b1 [slv rS l_0.Sides.i0, slv rS l_0.Sides.i1, slv rT_Cas l_0.Cases], oa (rI .i64) x7.1 x7.2 labels6, oa (rI .i64) x3.1 x3.2 t2.1])) (Γb := (fun (q28 : Unit) (y29 : Unit) => [])) (Ωb := (fun (q28 : Unit) (y29 : Unit) => [tbO (rI .u8) 0 tab_0])) (kr := (fun a : Int × Int × Int => some a)) 0 () (weak [0, 1, 4, 2] ⟨rfl, rfl, rfl, rfl, rfl, trivial⟩ ⟨rfl, rfl, rfl, rfl, trivial⟩) (fun s18 x19 => ?_) (fun q28 y29 => ?_)
 ·unfold pc_Decide_l1
  refine ref_seq (ref_region (s_rd (r_lss rfl rfl) rfl (l_nil (n_then (ref_seq ?_)))))
  refine ref_cond rfl (fun hb20 => ?_) (fun hb20 => ?_)
  ·refine ref_skip (n_then (ref_seq (ref_block (ref_seq (ref_region (mv1 rfl rfl (pull fun i21 h_i21 => s_rd (r_oindex h_i21 Tryz.underlying27 el_3 rfl (j := 3) rfl rfl) rfl (s_rd (r_oload h_i21 el_3 rfl (j := 3) rfl) rfl (as1 rfl rfl (as1 rfl rfl (l_nil (n_then (ref_seq ?_)))))))))))))
   refine ref_join (fun (j23 : Bool) (x24 : Unit) => [(2, pv (ptr b1 0)), (10, pv x7.1), (12, iv .i64 i21), (25, pv x3.1), (26, iv .i64 (t2.1.length : Int)), (27, iv .i64 s18), (42, bv j23)]) (fun (j23 : Bool) (x24 : Unit) => [oc b1 [slv rS l_0.Sides.i0, slv rS l_0.Sides.i1, slv rT_Cas l_0.Cases], oa (rI .i64) x7.1 x7.2 labels6, oa (rI .i64) x3.1 x3.2 t2.1, tbO (rI .u8) 0 tab_0]) (fun k25 hk25 => ?_) (fun j23 x24 => ?_)
   ·refine ref_region (mv1 rfl rfl (mv1 rfl rfl (s_rd (r_olen Tryz.underlying27 rfl (j := 2) rfl) rfl (s_rd (r_lss rfl rfl) rfl (mv1 rfl rfl ?_)))))
    refine b_split (t := 36) rfl (fun _ => ?_) (fun _ => ?_)
    ·refine s_on rfl rfl rfl (mv1 rfl rfl (s_on rfl rfl rfl (mv1 rfl rfl (s_on rfl rfl rfl (pull fun t22 h_t22 => s_rd (r_oindex h_t22 Tryz.underlying27 el_3 rfl (j := 2) rfl rfl) rfl (s_on rfl rfl rfl (s_rd (r_oload h_t22 el_3 rfl (j := 2) rfl) rfl (s_on rfl rfl rfl (s_rd (r_eql rfl rfl) rfl (s_rd (r_pickT rfl rfl) rfl (l_nil ?_)))))))))))
     exact b_to (hk25 (t22 == 1) ()) (weak [1, 2, 3, 0] ⟨rfl, rfl, rfl, rfl, rfl, rfl, rfl, trivial⟩ ⟨rfl, rfl, rfl, rfl, trivial⟩)
    refine s_off rfl rfl rfl rfl rfl (s_off rfl rfl rfl rfl rfl (s_off rfl rfl rfl rfl rfl (s_off rfl rfl rfl rfl rfl (s_off rfl rfl rfl rfl rfl (s_rd (r_pickF rfl rfl) rfl (l_nil ?_))))))
    exact b_to (hk25 false ()) (weak [1, 2, 3, 0] ⟨rfl, rfl, rfl, rfl, rfl, rfl, rfl, trivial⟩ ⟨rfl, rfl, rfl, rfl, trivial⟩)
   refine n_then ?_
   refine ref_cond rfl (fun hb26 => ?_) (fun hb26 => ?_)
   ·refine ref_seq (ref_region (s_rd (r_faddr (fo := 2) Tryz.underlying26 rfl rfl Tryz.sizeOf24 rfl) rfl (s_rd (r_cload Tryz.isAgg24 rfl (j := 0) rfl rfl) rfl (mv1 rfl rfl (pull fun t27 h_t27 => s_rd (r_index h_t27 Tryz.underlying24 el_60 rfl rfl) rfl (s_rd (r_fea (fo := 2) (ρ := rT_Cas) (y := t27) (ρ' := (rI .i64)) (z := t27.Winner) Tryz.underlying60 rfl rfl Tryz.sizeOf3 rfl rfl rfl) rfl (s_rd (r_load el_3 rfl) rfl (mv1 rfl rfl (as1 rfl rfl (as1 rfl rfl (as1 rfl rfl (l_nil (n_then (ref_ret (r_block (r_then ?_))))))))))))))))
    refine retX ?_
    refine r_block (r_then ?_)
    exact fin3 (.inl rfl) () [3] rfl ⟨rfl, trivial⟩ rfl (rv_tmp rfl) (rv_tmp rfl) (rv_tmp rfl)
   refine ref_skip (n_block (n_then (ref_region (s_rd (r_add rfl rfl) rfl (mv1 rfl rfl (l_nil ?_))))))
   exact goX () (weak [3, 0, 1, 2] ⟨rfl, rfl, rfl, rfl, rfl, trivial⟩ ⟨rfl, rfl, rfl, rfl, trivial⟩)
  refine ref_exit (x_then ?_)
  exact brkX () (weak [0] trivial ⟨rfl, trivial⟩)
 refine n_then (ref_seq (ref_region (as1 rfl rfl (as1 rfl rfl (as1 rfl rfl (l_nil (n_then (ref_ret ?_))))))))
 exact fin3 (.inl rfl) () [0] rfl ⟨rfl, trivial⟩ rfl (rv_tmp rfl) (rv_tmp rfl) (rv_tmp rfl)

/-! deliberation/deliberationkeep.Ints -/
noncomputable def keep_Ints_l1 (a__0 : (List Int)) (b_1 : (List Int)) (s8 : Int) : Option (Sum ((Sum (Bool) (Unit))) (Int)) :=
 bif decide (s8 < (a__0.length : Int)) then
  Option.bind (idxM a__0 s8) fun t11 =>
  Option.bind (idxM b_1 s8) fun t12 =>
  bif t11 != t12 then
   some (Sum.inl (Sum.inl false))
  else
   some (Sum.inr (iadd .i64 s8 1))
 else
  some (Sum.inl (Sum.inr ()))

noncomputable def keep_Ints_m (a__0 : (List Int)) (b_1 : (List Int)) : Option (Bool) :=
 bif (a__0.length : Int) != (b_1.length : Int) then
  some false
 else
  Option.bind (loopC (keep_Ints_l1 a__0 b_1) 0) (sumK (fun a : Bool => some a) fun q14 : Unit =>
   some true)

theorem keep_Ints_ok {a__0 : (List Int)} {b_1 : (List Int)} {r : Bool} (hm : keep_Ints_m a__0 b_1 = some r) :
  FnOk prog 16 [slv (rI .i64) a__0, slv (rI .i64) b_1] [] (fun (x : Unit) => [bv r]) (fun (x : Unit) => []) := by
 refine fn_ok (fn := Tryz.f16) (N := 26) (res := fun r x => [bv r]) (Ω1 := fun r x => []) Tryz.func16 rfl rfl hm rfl (fun E hM => ?_)
 unfold keep_Ints_m
 refine ref_seq (ref_region (as1 rfl rfl (l_nil (n_then (ref_seq (ref_seq (ref_region (mv1 rfl rfl (s_rd (r_len Tryz.underlying27 rfl) rfl (mv1 rfl rfl (s_rd (r_len Tryz.underlying27 rfl) rfl (s_rd (r_neq rfl rfl) rfl (l_nil (n_then ?_))))))))))))))
 refine ref_cond rfl (fun hb1 => ?_) (fun hb1 => ?_)
 ·refine ref_seq (ref_region (as1 rfl rfl (l_nil (n_then (ref_ret (r_then ?_))))))
  exact fin1 (.inl rfl) () [] rfl trivial rfl (rv_tmp rfl)
 refine ref_skip (n_then (ref_seq (ref_seq (ref_region (mv1 rfl rfl (s_rd (r_len Tryz.underlying27 rfl) rfl (mv1 rfl rfl (l_nil (n_then ?_)))))))))
 refine ref_loopX (f := (keep_Ints_l1 a__0 b_1)) (Γl := (fun (s8 : Int) (x9 : Unit) => [(0, slv (rI .i64) a__0), (1, slv (rI .i64) b_1), (12, iv .i64 (a__0.length : Int)), (13, iv .i64 s8)])) (Ωl := (fun (s8 : Int) (x9 : Unit) => [])) (Γb := (fun (q14 : Unit) (y15 : Unit) => [])) (Ωb := (fun (q14 : Unit) (y15 : Unit) => [])) (kr := (fun a : Bool => some a)) 0 () (weak [] ⟨rfl, rfl, rfl, rfl, trivial⟩ trivial) (fun s8 x9 => ?_) (fun q14 y15 => ?_)
 ·unfold keep_Ints_l1
  refine ref_seq (ref_region (s_rd (r_lss rfl rfl) rfl (l_nil (n_then (ref_seq ?_)))))
  refine ref_cond rfl (fun hb10 => ?_) (fun hb10 => ?_)
  ·refine ref_skip (n_then (ref_seq (ref_block (ref_seq (ref_region (mv1 rfl rfl (as1 rfl rfl (l_nil (n_then (ref_seq ?_))))))))))
   refine ref_draw [0, 1, 2, 3, 4, 5, 6, 7, 8] rfl (by kernel_rfl) (fun hok => ?_)
   refine a_rd (i := 0) hok rfl (by kernel_rfl) rfl (r_move rfl) rfl ?_
   refine a_rd (i := 1) hok rfl (by kernel_rfl) rfl (r_move rfl) rfl ?_
   refine pull fun t11 h_t11 => ?_
   refine a_rd (i := 2) hok rfl (by kernel_rfl) rfl (r_index h_t11 Tryz.underlying27 el_3 rfl rfl) rfl ?_
   refine a_rd (i := 3) hok rfl (by kernel_rfl) rfl (r_load el_3 rfl) rfl ?_
   refine a_rd (i := 4) hok rfl (by kernel_rfl) rfl (r_move rfl) rfl ?_
   refine a_rd (i := 5) hok rfl (by kernel_rfl) rfl (r_move rfl) rfl ?_
   refine pull fun t12 h_t12 => ?_
   refine a_rd (i := 6) hok rfl (by kernel_rfl) rfl (r_index h_t12 Tryz.underlying27 el_3 rfl rfl) rfl ?_
   refine a_rd (i := 7) hok rfl (by kernel_rfl) rfl (r_load el_3 rfl) rfl ?_
   refine a_rd (i := 8) hok rfl (by kernel_rfl) rfl (r_neq rfl rfl) rfl ?_
   refine a_fin hok (by kernel_rfl) ?_
   refine n_then ?_
   refine ref_cond rfl (fun hb13 => ?_) (fun hb13 => ?_)
   ·refine ref_seq (ref_region (as1 rfl rfl (l_nil (n_then (ref_ret (r_block (r_then ?_)))))))
    refine retX ?_
    refine r_block (r_then ?_)
    exact fin1 (.inl rfl) () [] rfl trivial rfl (rv_tmp rfl)
   refine ref_skip (n_block (n_then (ref_region (s_rd (r_add rfl rfl) rfl (mv1 rfl rfl (l_nil ?_))))))
   exact goX () (weak [] ⟨rfl, rfl, rfl, rfl, trivial⟩ trivial)
  refine ref_exit (x_then ?_)
  exact brkX () (weak [] trivial trivial)
 refine n_then (ref_seq (ref_region (as1 rfl rfl (l_nil (n_then (ref_ret ?_))))))
 exact fin1 (.inl rfl) () [] rfl trivial rfl (rv_tmp rfl)

/-! deliberation/deliberationref38.Same -/
noncomputable def ref38_Same_l1 (a__0 : (List ByteArray)) (b_1 : (List ByteArray)) (s8 : Int) : Option (Sum ((Sum (Bool) (Unit))) (Int)) :=
 bif decide (s8 < (a__0.length : Int)) then
  Option.bind (idxM a__0 s8) fun t11 =>
  Option.bind (idxM b_1 s8) fun t12 =>
  bif !(t11.toList == t12.toList) then
   some (Sum.inl (Sum.inl false))
  else
   some (Sum.inr (iadd .i64 s8 1))
 else
  some (Sum.inl (Sum.inr ()))

noncomputable def ref38_Same_m (a__0 : (List ByteArray)) (b_1 : (List ByteArray)) : Option (Bool) :=
 bif (a__0.length : Int) != (b_1.length : Int) then
  some false
 else
  Option.bind (loopC (ref38_Same_l1 a__0 b_1) 0) (sumK (fun a : Bool => some a) fun q14 : Unit =>
   some true)

theorem ref38_Same_ok {a__0 : (List ByteArray)} {b_1 : (List ByteArray)} {r : Bool} (hm : ref38_Same_m a__0 b_1 = some r) :
  FnOk prog 22 [slv rS a__0, slv rS b_1] [] (fun (x : Unit) => [bv r]) (fun (x : Unit) => []) := by
 refine fn_ok (fn := Tryz.f22) (N := 26) (res := fun r x => [bv r]) (Ω1 := fun r x => []) Tryz.func22 rfl rfl hm rfl (fun E hM => ?_)
 unfold ref38_Same_m
 refine ref_seq (ref_region (as1 rfl rfl (l_nil (n_then (ref_seq (ref_seq (ref_region (mv1 rfl rfl (s_rd (r_len Tryz.underlying22 rfl) rfl (mv1 rfl rfl (s_rd (r_len Tryz.underlying22 rfl) rfl (s_rd (r_neq rfl rfl) rfl (l_nil (n_then ?_))))))))))))))
 refine ref_cond rfl (fun hb1 => ?_) (fun hb1 => ?_)
 ·refine ref_seq (ref_region (as1 rfl rfl (l_nil (n_then (ref_ret (r_then ?_))))))
  exact fin1 (.inl rfl) () [] rfl trivial rfl (rv_tmp rfl)
 refine ref_skip (n_then (ref_seq (ref_seq (ref_region (as1 rfl rfl (l_nil (n_then ?_)))))))
 refine ref_loopX (f := (ref38_Same_l1 a__0 b_1)) (Γl := (fun (s8 : Int) (x9 : Unit) => [(0, slv rS a__0), (1, slv rS b_1), (5, iv .i64 s8)])) (Ωl := (fun (s8 : Int) (x9 : Unit) => [])) (Γb := (fun (q14 : Unit) (y15 : Unit) => [])) (Ωb := (fun (q14 : Unit) (y15 : Unit) => [])) (kr := (fun a : Bool => some a)) 0 () (weak [] ⟨rfl, rfl, rfl, trivial⟩ trivial) (fun s8 x9 => ?_) (fun q14 y15 => ?_)
 ·unfold ref38_Same_l1
  refine ref_seq (ref_seq (ref_region (mv1 rfl rfl (mv1 rfl rfl (s_rd (r_len Tryz.underlying22 rfl) rfl (s_rd (r_lss rfl rfl) rfl (l_nil (n_then ?_))))))))
  refine ref_cond rfl (fun hb10 => ?_) (fun hb10 => ?_)
  ·refine ref_skip (n_then (ref_seq (ref_block (ref_seq ?_))))
   refine ref_draw [0, 1, 2, 3, 4, 5, 6, 7, 8] rfl (by kernel_rfl) (fun hok => ?_)
   refine a_rd (i := 0) hok rfl (by kernel_rfl) rfl (r_move rfl) rfl ?_
   refine a_rd (i := 1) hok rfl (by kernel_rfl) rfl (r_move rfl) rfl ?_
   refine pull fun t11 h_t11 => ?_
   refine a_rd (i := 2) hok rfl (by kernel_rfl) rfl (r_index h_t11 Tryz.underlying22 el_9 rfl rfl) rfl ?_
   refine a_rd (i := 3) hok rfl (by kernel_rfl) rfl (r_load el_9 rfl) rfl ?_
   refine a_rd (i := 4) hok rfl (by kernel_rfl) rfl (r_move rfl) rfl ?_
   refine a_rd (i := 5) hok rfl (by kernel_rfl) rfl (r_move rfl) rfl ?_
   refine pull fun t12 h_t12 => ?_
   refine a_rd (i := 6) hok rfl (by kernel_rfl) rfl (r_index h_t12 Tryz.underlying22 el_9 rfl rfl) rfl ?_
   refine a_rd (i := 7) hok rfl (by kernel_rfl) rfl (r_load el_9 rfl) rfl ?_
   refine a_rd (i := 8) hok rfl (by kernel_rfl) rfl (r_sneq rfl rfl) rfl ?_
   refine a_fin hok (by kernel_rfl) ?_
   refine n_then ?_
   refine ref_cond rfl (fun hb13 => ?_) (fun hb13 => ?_)
   ·refine ref_seq (ref_region (as1 rfl rfl (l_nil (n_then (ref_ret (r_block (r_then ?_)))))))
    refine retX ?_
    refine r_block (r_then ?_)
    exact fin1 (.inl rfl) () [] rfl trivial rfl (rv_tmp rfl)
   refine ref_skip (n_block (n_then (ref_region (mv1 rfl rfl (s_rd (r_add rfl rfl) rfl (as1 rfl rfl (l_nil ?_)))))))
   exact goX () (weak [] ⟨rfl, rfl, rfl, trivial⟩ trivial)
  refine ref_exit (x_then ?_)
  exact brkX () (weak [] trivial trivial)
 refine n_then (ref_seq (ref_region (as1 rfl rfl (l_nil (n_then (ref_ret ?_))))))
 exact fin1 (.inl rfl) () [] rfl trivial rfl (rv_tmp rfl)

/-! deliberation/deliberationlaw38.awake -/
noncomputable def law38_awake_m  : Option (Bool) :=
 Option.bind (law38_sides_m ) fun t1 =>
 Option.bind (pc_Reasons_m (T_Lib.mk t1 [(T_Cas.mk (ByteArray.mk #[99]) [(ByteArray.mk #[97]), (ByteArray.mk #[98]), (ByteArray.mk #[120])] 1 [(ByteArray.mk #[97])])]) [(ByteArray.mk #[97]), (ByteArray.mk #[120])]) fun t3 =>
 Option.bind (pc_Strong_m (T_Lib.mk t1 [(T_Cas.mk (ByteArray.mk #[99]) [(ByteArray.mk #[97]), (ByteArray.mk #[98]), (ByteArray.mk #[120])] 1 [(ByteArray.mk #[97])])]) [(ByteArray.mk #[97]), (ByteArray.mk #[120])]) fun t5 =>
 Option.bind (pc_Distinguish_m (T_Lib.mk t1 [(T_Cas.mk (ByteArray.mk #[99]) [(ByteArray.mk #[97]), (ByteArray.mk #[98]), (ByteArray.mk #[120])] 1 [(ByteArray.mk #[97])])]) 0 [(ByteArray.mk #[97]), (ByteArray.mk #[120])]) fun t7 =>
 Option.bind (pc_Distinguish_m (T_Lib.mk t1 [(T_Cas.mk (ByteArray.mk #[99]) [(ByteArray.mk #[97]), (ByteArray.mk #[98]), (ByteArray.mk #[120])] 1 [(ByteArray.mk #[97])])]) 0 [(ByteArray.mk #[97]), (ByteArray.mk #[98]), (ByteArray.mk #[120]), (ByteArray.mk #[121])]) fun t9 =>
 Option.bind (pc_Decide_m (T_Lib.mk t1 [(T_Cas.mk (ByteArray.mk #[99]) [(ByteArray.mk #[97]), (ByteArray.mk #[98]), (ByteArray.mk #[120])] 1 [(ByteArray.mk #[97])])]) [(ByteArray.mk #[97]), (ByteArray.mk #[120])]) fun t11 =>
 bif t3.2 == 0 then
  bif t5.2 == 0 then
   bif t7.2 == 0 then
    bif t9.2 == 0 then
     bif t11.2.2 == 0 then
      Option.bind (keep_Ints_m t3.1.For [0]) fun t12 =>
      bif t12 then
       bif (t5.1.For.length : Int) == 0 then
        Option.bind (ref38_Same_m t7.1 [(ByteArray.mk #[98])]) fun t13 =>
        bif t13 then
         Option.bind (ref38_Same_m t9.1 [(ByteArray.mk #[121])]) fun t14 =>
         bif t14 then
          bif t11.1 == 1 then
           some (t11.2.1 == 0)
          else
           some false
         else
          some false
        else
         some false
       else
        some false
      else
       some false
     else
      some false
    else
     some false
   else
    some false
  else
   some false
 else
  some false

theorem law38_awake_ok  {r : Bool} (hm : law38_awake_m  = some r) :
  FnOk prog 5 [] [tbO (rI .u8) 0 tab_0] (fun (x : Unit) => [bv r]) (fun (x : Unit) => [tbO (rI .u8) 0 tab_0]) := by
 refine fn_ok (fn := Tryz.f5) (N := 98) (res := fun r x => [bv r]) (Ω1 := fun r x => [tbO (rI .u8) 0 tab_0]) Tryz.func5 rfl rfl hm rfl (fun E hM => ?_)
 unfold law38_awake_m
 refine ref_seq (ref_region (as1 rfl rfl (l_nil (n_then (ref_seq (ref_region (pull fun t1 h_t1 => s_st (s_call (ψ := fun (_ : Unit) => ag [slv rS t1.i0, slv rS t1.i1]) (args := []) Tryz.call28 rfl (law38_sides_ok h_t1) trivial (fun _ _ _ _ h => h)) rfl (fun _ => s_st (s_bslice (xs := [.const (.string (ByteArray.mk #[97])), .const (.string (ByteArray.mk #[98])), .const (.string (ByteArray.mk #[120]))]) (ds := [(ByteArray.mk #[97]), (ByteArray.mk #[98]), (ByteArray.mk #[120])]) Tryz.underlying22 el_9 rfl (Nat.le_of_ble_eq_true rfl) ⟨(part_at rfl sv_at), ⟨(part_at rfl sv_at), ⟨(part_at rfl sv_at), trivial⟩⟩⟩) rfl (fun _ => s_st (s_bslice (xs := [.const (.string (ByteArray.mk #[97]))]) (ds := [(ByteArray.mk #[97])]) Tryz.underlying22 el_9 rfl (Nat.le_of_ble_eq_true rfl) ⟨(part_at rfl sv_at), trivial⟩) rfl (fun _ => s_rd (r_build (ps := [(0, .const (.string (ByteArray.mk #[99]))), (1, .tmp 14), (2, .const (.int .i64 (1))), (3, .tmp 15)]) (rs := [(0, [sv (ByteArray.mk #[99])]), (1, [slv rS [(ByteArray.mk #[97]), (ByteArray.mk #[98]), (ByteArray.mk #[120])]]), (2, [iv .i64 1]), (3, [slv rS [(ByteArray.mk #[97])]])]) st_60 zs_60 ⟨rfl, (part_at rfl sv_at), ⟨rfl, (part_at rfl slv_at), ⟨rfl, (part_at rfl iv_at), ⟨rfl, (part_at rfl slv_at), trivial⟩⟩⟩⟩ rfl rfl) rfl (s_st (s_bslice (xs := [.tmp 16]) (ds := [(T_Cas.mk (ByteArray.mk #[99]) [(ByteArray.mk #[97]), (ByteArray.mk #[98]), (ByteArray.mk #[120])] 1 [(ByteArray.mk #[97])])]) Tryz.underlying24 el_60 rfl (Nat.le_of_ble_eq_true rfl) ⟨(part_agO (ψs := [sv (ByteArray.mk #[99]), slv rS [(ByteArray.mk #[97]), (ByteArray.mk #[98]), (ByteArray.mk #[120])], iv .i64 1, slv rS [(ByteArray.mk #[97])]]) rfl ⟨.inl sv_at, .inl slv_at, .inl iv_at, .inl slv_at, trivial⟩), trivial⟩) rfl (fun _ => s_rd (r_build (ps := [(0, .tmp 13), (1, .tmp 17)]) (rs := [(0, [slv rS t1.i0, slv rS t1.i1]), (1, [slv rT_Cas [(T_Cas.mk (ByteArray.mk #[99]) [(ByteArray.mk #[97]), (ByteArray.mk #[98]), (ByteArray.mk #[120])] 1 [(ByteArray.mk #[97])])]])]) st_26 zs_26 ⟨rfl, (part_agO (ψs := [slv rS t1.i0, slv rS t1.i1]) rfl ⟨.inl slv_at, .inl slv_at, trivial⟩), ⟨rfl, (part_at rfl slv_at), trivial⟩⟩ rfl rfl) rfl (s_st (s_alloc zt_26) rfl (fun b2 => s_st0 (s_cstore (out := [slv rS t1.i0, slv rS t1.i1, slv rT_Cas [(T_Cas.mk (ByteArray.mk #[99]) [(ByteArray.mk #[97]), (ByteArray.mk #[98]), (ByteArray.mk #[120])] 1 [(ByteArray.mk #[97])])]]) Tryz.sizeOf26 rfl (j := 1) rfl (part_agO (ψs := [slv rS t1.i0, slv rS t1.i1, slv rT_Cas [(T_Cas.mk (ByteArray.mk #[99]) [(ByteArray.mk #[97]), (ByteArray.mk #[98]), (ByteArray.mk #[120])] 1 [(ByteArray.mk #[97])])]]) rfl ⟨.inl slv_at, .inl slv_at, .inl slv_at, trivial⟩) rfl rfl rfl) (fun _ => l_nil (b_of (nrm [tbO (rI .u8) 0 tab_0, oc b2 [slv rS t1.i0, slv rS t1.i1, slv rT_Cas [(T_Cas.mk (ByteArray.mk #[99]) [(ByteArray.mk #[97]), (ByteArray.mk #[98]), (ByteArray.mk #[120])] 1 [(ByteArray.mk #[97])])]]] rfl) (n_then (ref_seq (ref_region (s_rd (r_cloadS Tryz.isAgg26 Tryz.sizeOf26 rfl (j := 1) rfl rfl rfl) rfl (s_st (s_bslice (xs := [.const (.string (ByteArray.mk #[97])), .const (.string (ByteArray.mk #[120]))]) (ds := [(ByteArray.mk #[97]), (ByteArray.mk #[120])]) Tryz.underlying22 el_9 rfl (Nat.le_of_ble_eq_true rfl) ⟨(part_at rfl sv_at), ⟨(part_at rfl sv_at), trivial⟩⟩) rfl (fun _ => pull fun t3 h_t3 => s_st (s_call (ψ := fun (_ : Unit) => tup [ag [slv (rI .i64) t3.1.For, slv (rI .i64) t3.1.Against], iv .i64 t3.2]) (args := [.tmp 20, .tmp 21]) Tryz.call17 rfl (pc_Reasons_ok h_t3) ⟨arg rfl, arg rfl, trivial⟩ (fun _ _ _ _ h => h)) rfl (fun _ => mv1 rfl rfl (s_rd (r_extract rfl rfl) rfl (s_rd (r_extract rfl rfl) rfl (s_st (s_alloc zt_42) rfl (fun b4 => s_st0 (s_cstore (out := [slv (rI .i64) t3.1.For, slv (rI .i64) t3.1.Against]) Tryz.sizeOf42 rfl (j := 2) rfl (part_agO (ψs := [slv (rI .i64) t3.1.For, slv (rI .i64) t3.1.Against]) rfl ⟨.inl slv_at, .inl slv_at, trivial⟩) rfl rfl rfl) (fun _ => as1 rfl rfl (l_nil (b_of (nrm [tbO (rI .u8) 0 tab_0, oc b2 [slv rS t1.i0, slv rS t1.i1, slv rT_Cas [(T_Cas.mk (ByteArray.mk #[99]) [(ByteArray.mk #[97]), (ByteArray.mk #[98]), (ByteArray.mk #[120])] 1 [(ByteArray.mk #[97])])]], oc b4 [slv (rI .i64) t3.1.For, slv (rI .i64) t3.1.Against]] rfl) (n_then (ref_seq (ref_region (s_rd (r_cloadS Tryz.isAgg26 Tryz.sizeOf26 rfl (j := 1) rfl rfl rfl) rfl (s_st (s_bslice (xs := [.const (.string (ByteArray.mk #[97])), .const (.string (ByteArray.mk #[120]))]) (ds := [(ByteArray.mk #[97]), (ByteArray.mk #[120])]) Tryz.underlying22 el_9 rfl (Nat.le_of_ble_eq_true rfl) ⟨(part_at rfl sv_at), ⟨(part_at rfl sv_at), trivial⟩⟩) rfl (fun _ => pull fun t5 h_t5 => ?_))))))))))))))))))))))))))))))))))))
 refine s_st (s_call (ψ := fun (_ : Unit) => tup [ag [slv (rI .i64) t5.1.For, slv (rI .i64) t5.1.Against], iv .i64 t5.2]) (args := [.tmp 26, .tmp 27]) Tryz.call14 rfl (pc_Strong_ok h_t5) ⟨arg rfl, arg rfl, trivial⟩ (fun _ _ _ _ h => h)) rfl (fun _ => mv1 rfl rfl (s_rd (r_extract rfl rfl) rfl (s_rd (r_extract rfl rfl) rfl (s_st (s_alloc zt_42) rfl (fun b6 => s_st0 (s_cstore (out := [slv (rI .i64) t5.1.For, slv (rI .i64) t5.1.Against]) Tryz.sizeOf42 rfl (j := 3) rfl (part_agO (ψs := [slv (rI .i64) t5.1.For, slv (rI .i64) t5.1.Against]) rfl ⟨.inl slv_at, .inl slv_at, trivial⟩) rfl rfl rfl) (fun _ => as1 rfl rfl (l_nil (b_of (nrm [tbO (rI .u8) 0 tab_0, oc b2 [slv rS t1.i0, slv rS t1.i1, slv rT_Cas [(T_Cas.mk (ByteArray.mk #[99]) [(ByteArray.mk #[97]), (ByteArray.mk #[98]), (ByteArray.mk #[120])] 1 [(ByteArray.mk #[97])])]], oc b4 [slv (rI .i64) t3.1.For, slv (rI .i64) t3.1.Against], oc b6 [slv (rI .i64) t5.1.For, slv (rI .i64) t5.1.Against]] rfl) (n_then (ref_seq (ref_region (s_rd (r_cloadS Tryz.isAgg26 Tryz.sizeOf26 rfl (j := 1) rfl rfl rfl) rfl (s_st (s_bslice (xs := [.const (.string (ByteArray.mk #[97])), .const (.string (ByteArray.mk #[120]))]) (ds := [(ByteArray.mk #[97]), (ByteArray.mk #[120])]) Tryz.underlying22 el_9 rfl (Nat.le_of_ble_eq_true rfl) ⟨(part_at rfl sv_at), ⟨(part_at rfl sv_at), trivial⟩⟩) rfl (fun _ => pull fun t7 h_t7 => s_st (s_call (ψ := fun (x8 : (Value × List Nat)) => tup [pv x8.1, iv .i64 t7.2]) (args := [.tmp 32, .const (.int .i64 (0)), .tmp 33]) Tryz.call20 rfl (pc_Distinguish_ok h_t7) ⟨arg rfl, arg rfl, arg rfl, trivial⟩ (fun _ _ _ _ h => h)) rfl (fun x8 => mv1 rfl rfl (s_rd (r_extract rfl rfl) rfl (s_rd (r_extract rfl rfl) rfl (as1 rfl rfl (as1 rfl rfl (l_nil (n_then (ref_seq (ref_region (s_rd (r_cloadS Tryz.isAgg26 Tryz.sizeOf26 rfl (j := 1) rfl rfl rfl) rfl (s_st (s_bslice (xs := [.const (.string (ByteArray.mk #[97])), .const (.string (ByteArray.mk #[98])), .const (.string (ByteArray.mk #[120])), .const (.string (ByteArray.mk #[121]))]) (ds := [(ByteArray.mk #[97]), (ByteArray.mk #[98]), (ByteArray.mk #[120]), (ByteArray.mk #[121])]) Tryz.underlying22 el_9 rfl (Nat.le_of_ble_eq_true rfl) ⟨(part_at rfl sv_at), ⟨(part_at rfl sv_at), ⟨(part_at rfl sv_at), ⟨(part_at rfl sv_at), trivial⟩⟩⟩⟩) rfl (fun _ => pull fun t9 h_t9 => s_st (s_call (ψ := fun (x10 : (Value × List Nat)) => tup [pv x10.1, iv .i64 t9.2]) (args := [.tmp 38, .const (.int .i64 (0)), .tmp 39]) Tryz.call20 rfl (pc_Distinguish_ok h_t9) ⟨arg rfl, arg rfl, arg rfl, trivial⟩ (fun _ _ _ _ h => h)) rfl (fun x10 => mv1 rfl rfl (s_rd (r_extract rfl rfl) rfl (s_rd (r_extract rfl rfl) rfl (as1 rfl rfl (as1 rfl rfl (l_nil (b_of (nrm [tbO (rI .u8) 0 tab_0, oc b2 [slv rS t1.i0, slv rS t1.i1, slv rT_Cas [(T_Cas.mk (ByteArray.mk #[99]) [(ByteArray.mk #[97]), (ByteArray.mk #[98]), (ByteArray.mk #[120])] 1 [(ByteArray.mk #[97])])]], oc b4 [slv (rI .i64) t3.1.For, slv (rI .i64) t3.1.Against], oc b6 [slv (rI .i64) t5.1.For, slv (rI .i64) t5.1.Against], oa rS x8.1 x8.2 t7.1, oa rS x10.1 x10.2 t9.1] rfl) ?_)))))))))))))))))))))))))))))))))
 refine n_then (ref_seq (ref_region (s_rd (r_cloadS Tryz.isAgg26 Tryz.sizeOf26 rfl (j := 1) rfl rfl rfl) rfl (s_st (s_bslice (xs := [.const (.string (ByteArray.mk #[97])), .const (.string (ByteArray.mk #[120]))]) (ds := [(ByteArray.mk #[97]), (ByteArray.mk #[120])]) Tryz.underlying22 el_9 rfl (Nat.le_of_ble_eq_true rfl) ⟨(part_at rfl sv_at), ⟨(part_at rfl sv_at), trivial⟩⟩) rfl (fun _ => pull fun t11 h_t11 => s_st (s_callC [0] [true] (fun (_ : Unit) => [tbO (rI .u8) 0 tab_0]) (fun (_ : Unit) => []) (fun (_ : Unit) => tup [iv .i64 t11.1, iv .i64 t11.2.1, iv .i64 t11.2.2]) (args := [.tmp 44, .tmp 45]) (caps := []) Tryz.call25 rfl (pc_Decide_ok h_t11) ⟨rfl, rfl, trivial⟩ (fun _ => rfl) (fun _ => trivial) (fun _ => rfl) ⟨arg rfl, arg rfl, trivial⟩ (fun _ _ _ _ h => h)) rfl (fun _ => mv1 rfl rfl (s_rd (r_extract rfl rfl) rfl (s_rd (r_extract rfl rfl) rfl (s_rd (r_extract rfl rfl) rfl (as1 rfl rfl (as1 rfl rfl (as1 rfl rfl (l_nil (n_then (ref_seq (ref_region (mv1 rfl rfl (s_rd (r_eql rfl rfl) rfl (mv1 rfl rfl ?_)))))))))))))))))))
 refine b_split (t := 52) rfl (fun _ => ?_) (fun _ => ?_)
 ·refine s_on rfl rfl rfl (mv1 rfl rfl (s_on rfl rfl rfl (s_rd (r_eql rfl rfl) rfl (s_rd (r_pickT rfl rfl) rfl (mv1 rfl rfl ?_)))))
  refine b_split (t := 56) rfl (fun _ => ?_) (fun _ => ?_)
  ·refine s_on rfl rfl rfl (mv1 rfl rfl (s_on rfl rfl rfl (s_rd (r_eql rfl rfl) rfl (s_rd (r_pickT rfl rfl) rfl (mv1 rfl rfl ?_)))))
   refine b_split (t := 60) rfl (fun _ => ?_) (fun _ => ?_)
   ·refine s_on rfl rfl rfl (mv1 rfl rfl (s_on rfl rfl rfl (s_rd (r_eql rfl rfl) rfl (s_rd (r_pickT rfl rfl) rfl (mv1 rfl rfl ?_)))))
    refine b_split (t := 64) rfl (fun _ => ?_) (fun _ => ?_)
    ·refine s_on rfl rfl rfl (mv1 rfl rfl (s_on rfl rfl rfl (s_rd (r_eql rfl rfl) rfl (s_rd (r_pickT rfl rfl) rfl (mv1 rfl rfl ?_)))))
     refine b_split (t := 68) rfl (fun _ => ?_) (fun _ => ?_)
     ·refine s_on rfl rfl rfl (s_rd (r_faddr (fo := 0) Tryz.underlying42 rfl rfl Tryz.sizeOf27 rfl) rfl (s_on rfl rfl rfl (s_rd (r_cload Tryz.isAgg27 rfl (j := 2) rfl rfl) rfl (s_on rfl rfl rfl (s_st (s_bslice (xs := [.const (.int .i64 (0))]) (ds := [0]) Tryz.underlying27 el_3 rfl (Nat.le_of_ble_eq_true rfl) ⟨(part_at rfl iv_at), trivial⟩) rfl (fun _ => s_on rfl rfl rfl (pull fun t12 h_t12 => s_st (s_call (ψ := fun (_ : Unit) => bv t12) (args := [.tmp 70, .tmp 71]) Tryz.call16 rfl (keep_Ints_ok h_t12) ⟨arg rfl, arg rfl, trivial⟩ (fun _ _ _ _ h => h)) rfl (fun _ => s_rd (r_pickT rfl rfl) rfl (mv1 rfl rfl ?_)))))))))
      refine b_split (t := 74) rfl (fun _ => ?_) (fun _ => ?_)
      ·refine s_on rfl rfl rfl (s_rd (r_faddr (fo := 0) Tryz.underlying42 rfl rfl Tryz.sizeOf27 rfl) rfl (s_on rfl rfl rfl (s_rd (r_cload Tryz.isAgg27 rfl (j := 3) rfl rfl) rfl (s_on rfl rfl rfl (s_rd (r_len Tryz.underlying27 rfl) rfl (s_on rfl rfl rfl (s_rd (r_eql rfl rfl) rfl (s_rd (r_pickT rfl rfl) rfl (mv1 rfl rfl ?_)))))))))
       refine b_split (t := 80) rfl (fun _ => ?_) (fun _ => ?_)
       ·refine s_on rfl rfl rfl (mv1 rfl rfl (s_on rfl rfl rfl (s_st (s_bslice (xs := [.const (.string (ByteArray.mk #[98]))]) (ds := [(ByteArray.mk #[98])]) Tryz.underlying22 el_9 rfl (Nat.le_of_ble_eq_true rfl) ⟨(part_at rfl sv_at), trivial⟩) rfl (fun _ => s_on rfl rfl rfl (pull fun t13 h_t13 => s_st (s_callB (ψ := fun (_ : Unit) => bv t13) (args := [.tmp 81, .tmp 82]) Tryz.call22 rfl (ref38_Same_ok h_t13) ⟨argO rfl (j := 4) rfl, argB rfl, trivial⟩ (fun _ _ _ _ _ h => h)) rfl (fun _ => s_rd (r_pickT rfl rfl) rfl (mv1 rfl rfl ?_)))))))
        refine b_split (t := 85) rfl (fun _ => ?_) (fun _ => ?_)
        ·refine s_on rfl rfl rfl (mv1 rfl rfl (s_on rfl rfl rfl (s_st (s_bslice (xs := [.const (.string (ByteArray.mk #[121]))]) (ds := [(ByteArray.mk #[121])]) Tryz.underlying22 el_9 rfl (Nat.le_of_ble_eq_true rfl) ⟨(part_at rfl sv_at), trivial⟩) rfl (fun _ => s_on rfl rfl rfl (pull fun t14 h_t14 => s_st (s_callB (ψ := fun (_ : Unit) => bv t14) (args := [.tmp 86, .tmp 87]) Tryz.call22 rfl (ref38_Same_ok h_t14) ⟨argO rfl (j := 5) rfl, argB rfl, trivial⟩ (fun _ _ _ _ _ h => h)) rfl (fun _ => s_rd (r_pickT rfl rfl) rfl (mv1 rfl rfl ?_)))))))
         refine b_split (t := 90) rfl (fun _ => ?_) (fun _ => ?_)
         ·refine s_on rfl rfl rfl (mv1 rfl rfl (s_on rfl rfl rfl (s_rd (r_eql rfl rfl) rfl (s_rd (r_pickT rfl rfl) rfl (mv1 rfl rfl ?_)))))
          refine b_split (t := 94) rfl (fun _ => ?_) (fun _ => ?_)
          ·refine s_on rfl rfl rfl (mv1 rfl rfl (s_on rfl rfl rfl (s_rd (r_eql rfl rfl) rfl (s_rd (r_pickT rfl rfl) rfl (as1 rfl rfl (l_nil (b_of (nrm [tbO (rI .u8) 0 tab_0, oc b2 [slv rS t1.i0, slv rS t1.i1, slv rT_Cas [(T_Cas.mk (ByteArray.mk #[99]) [(ByteArray.mk #[97]), (ByteArray.mk #[98]), (ByteArray.mk #[120])] 1 [(ByteArray.mk #[97])])]], oc b4 [slv (rI .i64) t3.1.For, slv (rI .i64) t3.1.Against], oc b6 [slv (rI .i64) t5.1.For, slv (rI .i64) t5.1.Against], oa rS x8.1 x8.2 t7.1, oa rS x10.1 x10.2 t9.1] rfl) (n_then (ref_ret ?_)))))))))
           exact fin1 (.inl rfl) () [0] rfl ⟨rfl, trivial⟩ rfl (rv_tmp rfl)
          refine s_off rfl rfl rfl rfl rfl (s_off rfl rfl rfl rfl rfl (s_rd (r_pickF rfl rfl) rfl (as1 rfl rfl (l_nil (b_of (nrm [tbO (rI .u8) 0 tab_0, oc b2 [slv rS t1.i0, slv rS t1.i1, slv rT_Cas [(T_Cas.mk (ByteArray.mk #[99]) [(ByteArray.mk #[97]), (ByteArray.mk #[98]), (ByteArray.mk #[120])] 1 [(ByteArray.mk #[97])])]], oc b4 [slv (rI .i64) t3.1.For, slv (rI .i64) t3.1.Against], oc b6 [slv (rI .i64) t5.1.For, slv (rI .i64) t5.1.Against], oa rS x8.1 x8.2 t7.1, oa rS x10.1 x10.2 t9.1] rfl) (n_then (ref_ret ?_)))))))
          exact fin1 (.inl rfl) () [0] rfl ⟨rfl, trivial⟩ rfl (rv_tmp rfl)
         refine s_off rfl rfl rfl rfl rfl (s_off rfl rfl rfl rfl rfl (s_rd (r_pickF rfl rfl) rfl (mv1 rfl rfl (s_off rfl rfl rfl rfl rfl (s_off rfl rfl rfl rfl rfl (s_rd (r_pickF rfl rfl) rfl (as1 rfl rfl (l_nil (b_of (nrm [tbO (rI .u8) 0 tab_0, oc b2 [slv rS t1.i0, slv rS t1.i1, slv rT_Cas [(T_Cas.mk (ByteArray.mk #[99]) [(ByteArray.mk #[97]), (ByteArray.mk #[98]), (ByteArray.mk #[120])] 1 [(ByteArray.mk #[97])])]], oc b4 [slv (rI .i64) t3.1.For, slv (rI .i64) t3.1.Against], oc b6 [slv (rI .i64) t5.1.For, slv (rI .i64) t5.1.Against], oa rS x8.1 x8.2 t7.1, oa rS x10.1 x10.2 t9.1] rfl) (n_then (ref_ret ?_)))))))))))
         exact fin1 (.inl rfl) () [0] rfl ⟨rfl, trivial⟩ rfl (rv_tmp rfl)
        refine s_off rfl rfl rfl rfl rfl (s_off rfl rfl rfl rfl rfl (s_off rfl rfl rfl rfl rfl (s_rd (r_pickF rfl rfl) rfl (mv1 rfl rfl (s_off rfl rfl rfl rfl rfl (s_off rfl rfl rfl rfl rfl (s_rd (r_pickF rfl rfl) rfl (mv1 rfl rfl (s_off rfl rfl rfl rfl rfl (s_off rfl rfl rfl rfl rfl (s_rd (r_pickF rfl rfl) rfl (as1 rfl rfl (l_nil (b_of (nrm [tbO (rI .u8) 0 tab_0, oc b2 [slv rS t1.i0, slv rS t1.i1, slv rT_Cas [(T_Cas.mk (ByteArray.mk #[99]) [(ByteArray.mk #[97]), (ByteArray.mk #[98]), (ByteArray.mk #[120])] 1 [(ByteArray.mk #[97])])]], oc b4 [slv (rI .i64) t3.1.For, slv (rI .i64) t3.1.Against], oc b6 [slv (rI .i64) t5.1.For, slv (rI .i64) t5.1.Against], oa rS x8.1 x8.2 t7.1, oa rS x10.1 x10.2 t9.1] rfl) (n_then (ref_ret ?_))))))))))))))))
        exact fin1 (.inl rfl) () [0] rfl ⟨rfl, trivial⟩ rfl (rv_tmp rfl)
       refine s_off rfl rfl rfl rfl rfl (s_off rfl rfl rfl rfl rfl (s_off rfl rfl rfl rfl rfl (s_rd (r_pickF rfl rfl) rfl (mv1 rfl rfl (s_off rfl rfl rfl rfl rfl (s_off rfl rfl rfl rfl rfl (s_off rfl rfl rfl rfl rfl (s_rd (r_pickF rfl rfl) rfl (mv1 rfl rfl (s_off rfl rfl rfl rfl rfl (s_off rfl rfl rfl rfl rfl (s_rd (r_pickF rfl rfl) rfl (mv1 rfl rfl (s_off rfl rfl rfl rfl rfl (s_off rfl rfl rfl rfl rfl (s_rd (r_pickF rfl rfl) rfl (as1 rfl rfl (l_nil (b_of (nrm [tbO (rI .u8) 0 tab_0, oc b2 [slv rS t1.i0, slv rS t1.i1, slv rT_Cas [(T_Cas.mk (ByteArray.mk #[99]) [(ByteArray.mk #[97]), (ByteArray.mk #[98]), (ByteArray.mk #[120])] 1 [(ByteArray.mk #[97])])]], oc b4 [slv (rI .i64) t3.1.For, slv (rI .i64) t3.1.Against], oc b6 [slv (rI .i64) t5.1.For, slv (rI .i64) t5.1.Against], oa rS x8.1 x8.2 t7.1, oa rS x10.1 x10.2 t9.1] rfl) (n_then (ref_ret ?_)))))))))))))))))))))
       exact fin1 (.inl rfl) () [0] rfl ⟨rfl, trivial⟩ rfl (rv_tmp rfl)
      refine s_off rfl rfl rfl rfl rfl (s_off rfl rfl rfl rfl rfl (s_off rfl rfl rfl rfl rfl (s_off rfl rfl rfl rfl rfl (s_rd (r_pickF rfl rfl) rfl (mv1 rfl rfl (s_off rfl rfl rfl rfl rfl (s_off rfl rfl rfl rfl rfl (s_off rfl rfl rfl rfl rfl (s_rd (r_pickF rfl rfl) rfl (mv1 rfl rfl (s_off rfl rfl rfl rfl rfl (s_off rfl rfl rfl rfl rfl (s_off rfl rfl rfl rfl rfl (s_rd (r_pickF rfl rfl) rfl (mv1 rfl rfl (s_off rfl rfl rfl rfl rfl (s_off rfl rfl rfl rfl rfl (s_rd (r_pickF rfl rfl) rfl (mv1 rfl rfl (s_off rfl rfl rfl rfl rfl (s_off rfl rfl rfl rfl rfl (s_rd (r_pickF rfl rfl) rfl (as1 rfl rfl (l_nil (b_of (nrm [tbO (rI .u8) 0 tab_0, oc b2 [slv rS t1.i0, slv rS t1.i1, slv rT_Cas [(T_Cas.mk (ByteArray.mk #[99]) [(ByteArray.mk #[97]), (ByteArray.mk #[98]), (ByteArray.mk #[120])] 1 [(ByteArray.mk #[97])])]], oc b4 [slv (rI .i64) t3.1.For, slv (rI .i64) t3.1.Against], oc b6 [slv (rI .i64) t5.1.For, slv (rI .i64) t5.1.Against], oa rS x8.1 x8.2 t7.1, oa rS x10.1 x10.2 t9.1] rfl) (n_then (ref_ret ?_)))))))))))))))))))))))))))
      exact fin1 (.inl rfl) () [0] rfl ⟨rfl, trivial⟩ rfl (rv_tmp rfl)
     refine s_off rfl rfl rfl rfl rfl (s_off rfl rfl rfl rfl rfl (s_off rfl rfl rfl rfl rfl (s_off rfl rfl rfl rfl rfl (s_rd (r_pickF rfl rfl) rfl (mv1 rfl rfl (s_off rfl rfl rfl rfl rfl (s_off rfl rfl rfl rfl rfl (s_off rfl rfl rfl rfl rfl (s_off rfl rfl rfl rfl rfl (s_rd (r_pickF rfl rfl) rfl (mv1 rfl rfl (s_off rfl rfl rfl rfl rfl (s_off rfl rfl rfl rfl rfl (s_off rfl rfl rfl rfl rfl (s_rd (r_pickF rfl rfl) rfl (mv1 rfl rfl (s_off rfl rfl rfl rfl rfl (s_off rfl rfl rfl rfl rfl (s_off rfl rfl rfl rfl rfl (s_rd (r_pickF rfl rfl) rfl (mv1 rfl rfl (s_off rfl rfl rfl rfl rfl (s_off rfl rfl rfl rfl rfl (s_rd (r_pickF rfl rfl) rfl (mv1 rfl rfl (s_off rfl rfl rfl rfl rfl (s_off rfl rfl rfl rfl rfl (s_rd (r_pickF rfl rfl) rfl (as1 rfl rfl (l_nil (n_then (ref_ret ?_))))))))))))))))))))))))))))))))
     exact fin1 (.inl rfl) () [0] rfl ⟨rfl, trivial⟩ rfl (rv_tmp rfl)
    refine s_off rfl rfl rfl rfl rfl (s_off rfl rfl rfl rfl rfl (s_rd (r_pickF rfl rfl) rfl (mv1 rfl rfl (s_off rfl rfl rfl rfl rfl (s_off rfl rfl rfl rfl rfl (s_off rfl rfl rfl rfl rfl (s_off rfl rfl rfl rfl rfl (s_rd (r_pickF rfl rfl) rfl (mv1 rfl rfl (s_off rfl rfl rfl rfl rfl (s_off rfl rfl rfl rfl rfl (s_off rfl rfl rfl rfl rfl (s_off rfl rfl rfl rfl rfl (s_rd (r_pickF rfl rfl) rfl (mv1 rfl rfl (s_off rfl rfl rfl rfl rfl (s_off rfl rfl rfl rfl rfl (s_off rfl rfl rfl rfl rfl (s_rd (r_pickF rfl rfl) rfl (mv1 rfl rfl (s_off rfl rfl rfl rfl rfl (s_off rfl rfl rfl rfl rfl (s_off rfl rfl rfl rfl rfl (s_rd (r_pickF rfl rfl) rfl (mv1 rfl rfl (s_off rfl rfl rfl rfl rfl (s_off rfl rfl rfl rfl rfl (s_rd (r_pickF rfl rfl) rfl (mv1 rfl rfl (s_off rfl rfl rfl rfl rfl ?_))))))))))))))))))))))))))))))
    refine s_off rfl rfl rfl rfl rfl (s_rd (r_pickF rfl rfl) rfl (as1 rfl rfl (l_nil (n_then (ref_ret ?_)))))
    exact fin1 (.inl rfl) () [0] rfl ⟨rfl, trivial⟩ rfl (rv_tmp rfl)
   refine s_off rfl rfl rfl rfl rfl (s_off rfl rfl rfl rfl rfl (s_rd (r_pickF rfl rfl) rfl (mv1 rfl rfl (s_off rfl rfl rfl rfl rfl (s_off rfl rfl rfl rfl rfl (s_rd (r_pickF rfl rfl) rfl (mv1 rfl rfl (s_off rfl rfl rfl rfl rfl (s_off rfl rfl rfl rfl rfl (s_off rfl rfl rfl rfl rfl (s_off rfl rfl rfl rfl rfl (s_rd (r_pickF rfl rfl) rfl (mv1 rfl rfl (s_off rfl rfl rfl rfl rfl (s_off rfl rfl rfl rfl rfl (s_off rfl rfl rfl rfl rfl (s_off rfl rfl rfl rfl rfl (s_rd (r_pickF rfl rfl) rfl (mv1 rfl rfl (s_off rfl rfl rfl rfl rfl (s_off rfl rfl rfl rfl rfl (s_off rfl rfl rfl rfl rfl (s_rd (r_pickF rfl rfl) rfl (mv1 rfl rfl (s_off rfl rfl rfl rfl rfl (s_off rfl rfl rfl rfl rfl (s_off rfl rfl rfl rfl rfl (s_rd (r_pickF rfl rfl) rfl (mv1 rfl rfl (s_off rfl rfl rfl rfl rfl ?_))))))))))))))))))))))))))))))
   refine s_off rfl rfl rfl rfl rfl (s_rd (r_pickF rfl rfl) rfl (mv1 rfl rfl (s_off rfl rfl rfl rfl rfl (s_off rfl rfl rfl rfl rfl (s_rd (r_pickF rfl rfl) rfl (as1 rfl rfl (l_nil (n_then (ref_ret ?_)))))))))
   exact fin1 (.inl rfl) () [0] rfl ⟨rfl, trivial⟩ rfl (rv_tmp rfl)
  refine s_off rfl rfl rfl rfl rfl (s_off rfl rfl rfl rfl rfl (s_rd (r_pickF rfl rfl) rfl (mv1 rfl rfl (s_off rfl rfl rfl rfl rfl (s_off rfl rfl rfl rfl rfl (s_rd (r_pickF rfl rfl) rfl (mv1 rfl rfl (s_off rfl rfl rfl rfl rfl (s_off rfl rfl rfl rfl rfl (s_rd (r_pickF rfl rfl) rfl (mv1 rfl rfl (s_off rfl rfl rfl rfl rfl (s_off rfl rfl rfl rfl rfl (s_off rfl rfl rfl rfl rfl (s_off rfl rfl rfl rfl rfl (s_rd (r_pickF rfl rfl) rfl (mv1 rfl rfl (s_off rfl rfl rfl rfl rfl (s_off rfl rfl rfl rfl rfl (s_off rfl rfl rfl rfl rfl (s_off rfl rfl rfl rfl rfl (s_rd (r_pickF rfl rfl) rfl (mv1 rfl rfl (s_off rfl rfl rfl rfl rfl (s_off rfl rfl rfl rfl rfl (s_off rfl rfl rfl rfl rfl (s_rd (r_pickF rfl rfl) rfl (mv1 rfl rfl (s_off rfl rfl rfl rfl rfl (s_off rfl rfl rfl rfl rfl ?_))))))))))))))))))))))))))))))
  refine s_off rfl rfl rfl rfl rfl (s_rd (r_pickF rfl rfl) rfl (mv1 rfl rfl (s_off rfl rfl rfl rfl rfl (s_off rfl rfl rfl rfl rfl (s_rd (r_pickF rfl rfl) rfl (mv1 rfl rfl (s_off rfl rfl rfl rfl rfl (s_off rfl rfl rfl rfl rfl (s_rd (r_pickF rfl rfl) rfl (as1 rfl rfl (l_nil (n_then (ref_ret ?_)))))))))))))
  exact fin1 (.inl rfl) () [0] rfl ⟨rfl, trivial⟩ rfl (rv_tmp rfl)
 refine s_off rfl rfl rfl rfl rfl (s_off rfl rfl rfl rfl rfl (s_rd (r_pickF rfl rfl) rfl (mv1 rfl rfl (s_off rfl rfl rfl rfl rfl (s_off rfl rfl rfl rfl rfl (s_rd (r_pickF rfl rfl) rfl (mv1 rfl rfl (s_off rfl rfl rfl rfl rfl (s_off rfl rfl rfl rfl rfl (s_rd (r_pickF rfl rfl) rfl (mv1 rfl rfl (s_off rfl rfl rfl rfl rfl (s_off rfl rfl rfl rfl rfl (s_rd (r_pickF rfl rfl) rfl (mv1 rfl rfl (s_off rfl rfl rfl rfl rfl (s_off rfl rfl rfl rfl rfl (s_off rfl rfl rfl rfl rfl (s_off rfl rfl rfl rfl rfl (s_rd (r_pickF rfl rfl) rfl (mv1 rfl rfl (s_off rfl rfl rfl rfl rfl (s_off rfl rfl rfl rfl rfl (s_off rfl rfl rfl rfl rfl (s_off rfl rfl rfl rfl rfl (s_rd (r_pickF rfl rfl) rfl (mv1 rfl rfl (s_off rfl rfl rfl rfl rfl (s_off rfl rfl rfl rfl rfl (s_off rfl rfl rfl rfl rfl ?_))))))))))))))))))))))))))))))
 refine s_rd (r_pickF rfl rfl) rfl (mv1 rfl rfl (s_off rfl rfl rfl rfl rfl (s_off rfl rfl rfl rfl rfl (s_off rfl rfl rfl rfl rfl (s_rd (r_pickF rfl rfl) rfl (mv1 rfl rfl (s_off rfl rfl rfl rfl rfl (s_off rfl rfl rfl rfl rfl (s_rd (r_pickF rfl rfl) rfl (mv1 rfl rfl (s_off rfl rfl rfl rfl rfl (s_off rfl rfl rfl rfl rfl (s_rd (r_pickF rfl rfl) rfl (as1 rfl rfl (l_nil (n_then (ref_ret ?_)))))))))))))))))
 exact fin1 (.inl rfl) () [0] rfl ⟨rfl, trivial⟩ rfl (rv_tmp rfl)

/-! deliberation/deliberationkeep.New -/
noncomputable def keep_New_m (l_0 : (List Int)) : Option (T_Src) :=
 Option.bind (slM l_0 0 (imin (l_0.length : Int) 2000)) fun t1 =>
 some (T_Src.mk t1 0)

theorem keep_New_ok {l_0 : (List Int)} {r : T_Src} (hm : keep_New_m l_0 = some r) :
  FnOk prog 6 [slv (rI .i64) l_0] [] (fun (x : Nat) => [pv (ptr x 0)]) (fun (x : Nat) => [oc x [slv (rI .i64) r.L, iv .i64 r.At]]) := by
 refine fn_ok (X := Nat) (fn := Tryz.f6) (N := 10) (res := fun r x => [pv (ptr x 0)]) (Ω1 := fun r x => [oc x [slv (rI .i64) r.L, iv .i64 r.At]]) Tryz.func6 rfl rfl hm rfl (fun E hM => ?_)
 unfold keep_New_m
 refine ref_seq (ref_region (as1 rfl rfl (l_nil (n_then (ref_seq (ref_region (mv1 rfl rfl (mv1 rfl rfl (s_rd (r_len Tryz.underlying27 rfl) rfl (s_rd (r_min rfl rfl) rfl (pull fun t1 h_t1 => s_rd (r_slice h_t1 Tryz.underlying27 el_3 rfl .dft (.of rfl)) rfl (s_rd (r_build (ps := [(0, .tmp 7)]) (rs := [(0, [slv (rI .i64) t1])]) st_63 zs_63 ⟨rfl, (part_at rfl slv_at), trivial⟩ rfl rfl) rfl (s_st (s_box (part_agO (ψs := [slv (rI .i64) t1, iv .i64 0]) rfl ⟨.inl slv_at, .inl iv_at, trivial⟩)) rfl (fun b2 => as1 rfl rfl (l_nil (n_then (ref_ret ?_)))))))))))))))))
 exact fin1 (.inl rfl) b2 [0] rfl ⟨rfl, trivial⟩ rfl (rv_tmp rfl)

/-! (*deliberation/deliberationkeep.Src).Raw -/
noncomputable def keep_Src_Raw_m (s_0 : T_Src) : Option (Int × T_Src) :=
 bif decide (s_0.At ≥ (s_0.L.length : Int)) then
  some (0, s_0)
 else
  Option.bind (idxM s_0.L (isub .i64 (iadd .i64 s_0.At 1) 1)) fun t2 =>
  some (t2, (T_Src.mk s_0.L (iadd .i64 s_0.At 1)))

theorem keep_Src_Raw_ok {s_0 : T_Src} {b_0 : Nat} {r : Int × T_Src} (hm : keep_Src_Raw_m s_0 = some r) :
  FnOk prog 55 [pv (ptr b_0 0)] [oc b_0 [slv (rI .i64) s_0.L, iv .i64 s_0.At]] (fun (x : Unit) => [iv .i64 r.1]) (fun (x : Unit) => [oc b_0 [slv (rI .i64) r.2.L, iv .i64 r.2.At]]) := by
 refine fn_ok (fn := Tryz.f55) (N := 31) (res := fun r x => [iv .i64 r.1]) (Ω1 := fun r x => [oc b_0 [slv (rI .i64) r.2.L, iv .i64 r.2.At]]) Tryz.func55 rfl rfl hm rfl (fun E hM => ?_)
 unfold keep_Src_Raw_m
 refine ref_seq (ref_region (as1 rfl rfl (l_nil (n_then (ref_seq (ref_seq ?_))))))
 refine ref_draw [0, 1, 2, 3, 4, 5, 6, 7, 8, 9] rfl (by kernel_rfl) (fun hok => ?_)
 refine a_rd (i := 0) hok rfl (by kernel_rfl) rfl (r_move rfl) rfl ?_
 refine a_rd (i := 1) hok rfl (by kernel_rfl) rfl (r_nilc rfl) rfl ?_
 refine a_rd (i := 2) hok rfl (by kernel_rfl) rfl (r_faddr (fo := 1) Tryz.underlying63 rfl rfl Tryz.sizeOf3 rfl) rfl ?_
 refine a_rd (i := 3) hok rfl (by kernel_rfl) rfl (r_cload Tryz.isAgg3 rfl (j := 0) rfl rfl) rfl ?_
 refine a_rd (i := 4) hok rfl (by kernel_rfl) rfl (r_move rfl) rfl ?_
 refine a_rd (i := 5) hok rfl (by kernel_rfl) rfl (r_nilc rfl) rfl ?_
 refine a_rd (i := 6) hok rfl (by kernel_rfl) rfl (r_faddr (fo := 0) Tryz.underlying63 rfl rfl Tryz.sizeOf27 rfl) rfl ?_
 refine a_rd (i := 7) hok rfl (by kernel_rfl) rfl (r_cload Tryz.isAgg27 rfl (j := 0) rfl rfl) rfl ?_
 refine a_rd (i := 8) hok rfl (by kernel_rfl) rfl (r_len Tryz.underlying27 rfl) rfl ?_
 refine a_rd (i := 9) hok rfl (by kernel_rfl) rfl (r_geq rfl rfl) rfl ?_
 refine a_fin hok (by kernel_rfl) ?_
 refine n_then ?_
 refine ref_cond rfl (fun hb1 => ?_) (fun hb1 => ?_)
 ·refine ref_seq (ref_region (as1 rfl rfl (l_nil (n_then (ref_ret (r_then ?_))))))
  exact fin1 (.inl rfl) () [0] rfl ⟨rfl, trivial⟩ rfl (rv_tmp rfl)
 refine ref_skip (n_then (ref_seq (ref_region (mv1 rfl rfl (s_rd (r_nilc rfl) rfl (s_rd (r_faddr (fo := 1) Tryz.underlying63 rfl rfl Tryz.sizeOf3 rfl) rfl (s_rd (r_cload Tryz.isAgg3 rfl (j := 0) rfl rfl) rfl (s_rd (r_add rfl rfl) rfl (s_rd (r_nilc rfl) rfl (s_rd (r_faddr (fo := 1) Tryz.underlying63 rfl rfl Tryz.sizeOf3 rfl) rfl (s_st0 (s_cstore (out := [slv (rI .i64) s_0.L, iv .i64 (iadd .i64 s_0.At 1)]) Tryz.sizeOf3 rfl (j := 0) rfl (part_at rfl iv_at) rfl rfl rfl) (fun _ => l_nil (n_then (ref_seq ?_))))))))))))))
 refine ref_draw [0, 1, 2, 3, 4, 5, 6, 7, 8, 9, 10] rfl (by kernel_rfl) (fun hok => ?_)
 refine a_rd (i := 0) hok rfl (by kernel_rfl) rfl (r_move rfl) rfl ?_
 refine a_rd (i := 1) hok rfl (by kernel_rfl) rfl (r_nilc rfl) rfl ?_
 refine a_rd (i := 2) hok rfl (by kernel_rfl) rfl (r_faddr (fo := 0) Tryz.underlying63 rfl rfl Tryz.sizeOf27 rfl) rfl ?_
 refine a_rd (i := 3) hok rfl (by kernel_rfl) rfl (r_cload Tryz.isAgg27 rfl (j := 0) rfl rfl) rfl ?_
 refine a_rd (i := 4) hok rfl (by kernel_rfl) rfl (r_move rfl) rfl ?_
 refine a_rd (i := 5) hok rfl (by kernel_rfl) rfl (r_nilc rfl) rfl ?_
 refine a_rd (i := 6) hok rfl (by kernel_rfl) rfl (r_faddr (fo := 1) Tryz.underlying63 rfl rfl Tryz.sizeOf3 rfl) rfl ?_
 refine a_rd (i := 7) hok rfl (by kernel_rfl) rfl (r_cload Tryz.isAgg3 rfl (j := 0) rfl rfl) rfl ?_
 refine a_rd (i := 8) hok rfl (by kernel_rfl) rfl (r_sub rfl rfl) rfl ?_
 refine pull fun t2 h_t2 => ?_
 refine a_rd (i := 9) hok rfl (by kernel_rfl) rfl (r_index h_t2 Tryz.underlying27 el_3 rfl rfl) rfl ?_
 refine a_rd (i := 10) hok rfl (by kernel_rfl) rfl (r_load el_3 rfl) rfl ?_
 refine a_next hok 11 [] (by kernel_rfl) ?_ trivial
 refine a_st (i := 11) hok rfl rfl (St.ofRd (r_assign rfl)) (by intro _ h; cases h; rfl) (fun _ => ⟨trivial, ⟨trivial, ⟨trivial, ⟨trivial, ⟨trivial, ⟨trivial, ⟨trivial, ⟨trivial, ⟨trivial, ⟨trivial, ⟨trivial, trivial⟩⟩⟩⟩⟩⟩⟩⟩⟩⟩⟩) (fun _ => ?_)
 refine a_fin hok (by kernel_rfl) ?_
 refine n_then (ref_ret ?_)
 exact fin1 (.inl rfl) () [0] rfl ⟨rfl, trivial⟩ rfl (rv_tmp rfl)

/-! deliberation/deliberationkeep.Mod -/
noncomputable def keep_Mod_m (x_0 : Int) (n_1 : Int) : Option (Int) :=
 bif decide (n_1 < 1) then
  some 0
 else
  Option.bind (iremM .i64 x_0 n_1) fun x2 =>
  bif decide (x2 < 0) then
   letM (iadd .i64 x2 n_1) fun x4 =>
   some x4
  else
   some x2

theorem keep_Mod_ok {x_0 : Int} {n_1 : Int} {r : Int} (hm : keep_Mod_m x_0 n_1 = some r) :
  FnOk prog 54 [iv .i64 x_0, iv .i64 n_1] [] (fun (x : Unit) => [iv .i64 r]) (fun (x : Unit) => []) := by
 refine fn_ok (fn := Tryz.f54) (N := 16) (res := fun r x => [iv .i64 r]) (Ω1 := fun r x => []) Tryz.func54 rfl rfl hm rfl (fun E hM => ?_)
 unfold keep_Mod_m
 refine ref_seq (ref_region (as1 rfl rfl (l_nil (n_then (ref_seq (ref_seq (ref_region (mv1 rfl rfl (s_rd (r_lss rfl rfl) rfl (l_nil (n_then ?_)))))))))))
 refine ref_cond rfl (fun hb1 => ?_) (fun hb1 => ?_)
 ·refine ref_seq (ref_region (as1 rfl rfl (l_nil (n_then (ref_ret (r_then ?_))))))
  exact fin1 (.inl rfl) () [] rfl trivial rfl (rv_tmp rfl)
 refine ref_skip (n_then (ref_seq (ref_region (mv1 rfl rfl (mv1 rfl rfl (pull fun x2 h_x2 => s_rd (r_remM h_x2 rfl rfl) rfl (as1 rfl rfl (l_nil (n_then (ref_seq (ref_seq (ref_region (mv1 rfl rfl (s_rd (r_lss rfl rfl) rfl (l_nil (n_then ?_))))))))))))))))
 refine ref_cond rfl (fun hb3 => ?_) (fun hb3 => ?_)
 ·refine ref_region (mv1 rfl rfl (mv1 rfl rfl (s_rd (r_add rfl rfl) rfl (as1 rfl rfl (b_let (f := iv .i64) (t := 0) rfl fun x4 => l_nil (n_then (ref_seq (ref_region (mv1 rfl rfl (as1 rfl rfl (l_nil (n_then (ref_ret ?_)))))))))))))
  exact fin1 (.inl rfl) () [] rfl trivial rfl (rv_tmp rfl)
 refine ref_skip (n_then (ref_seq (ref_region (mv1 rfl rfl (as1 rfl rfl (l_nil (n_then (ref_ret ?_))))))))
 exact fin1 (.inl rfl) () [] rfl trivial rfl (rv_tmp rfl)

/-! (*deliberation/deliberationkeep.Src).N -/
noncomputable def keep_Src_N_m (s_0 : T_Src) (n_1 : Int) : Option (Int × T_Src) :=
 Option.bind (keep_Src_Raw_m s_0) fun t1 =>
 Option.bind (keep_Mod_m t1.1 n_1) fun t2 =>
 some (t2, t1.2)

theorem keep_Src_N_ok {s_0 : T_Src} {n_1 : Int} {b_0 : Nat} {r : Int × T_Src} (hm : keep_Src_N_m s_0 n_1 = some r) :
  FnOk prog 19 [pv (ptr b_0 0), iv .i64 n_1] [oc b_0 [slv (rI .i64) s_0.L, iv .i64 s_0.At]] (fun (x : Unit) => [iv .i64 r.1]) (fun (x : Unit) => [oc b_0 [slv (rI .i64) r.2.L, iv .i64 r.2.At]]) := by
 refine fn_ok (fn := Tryz.f19) (N := 9) (res := fun r x => [iv .i64 r.1]) (Ω1 := fun r x => [oc b_0 [slv (rI .i64) r.2.L, iv .i64 r.2.At]]) Tryz.func19 rfl rfl hm rfl (fun E hM => ?_)
 unfold keep_Src_N_m
 refine ref_seq (ref_region (as1 rfl rfl (l_nil (n_then (ref_seq (ref_region (mv1 rfl rfl (pull fun t1 h_t1 => s_st (s_callC [0] [true] (fun (_ : Unit) => [oc b_0 [slv (rI .i64) t1.2.L, iv .i64 t1.2.At]]) (fun (_ : Unit) => []) (fun (_ : Unit) => iv .i64 t1.1) (args := [.tmp 5]) (caps := []) Tryz.call55 rfl (keep_Src_Raw_ok h_t1) ⟨rfl, rfl, trivial⟩ (fun _ => rfl) (fun _ => trivial) (fun _ => rfl) ⟨arg rfl, trivial⟩ (fun _ _ _ _ h => h)) rfl (fun _ => mv1 rfl rfl (pull fun t2 h_t2 => s_st (s_call (ψ := fun (_ : Unit) => iv .i64 t2) (args := [.tmp 6, .tmp 7]) Tryz.call54 rfl (keep_Mod_ok h_t2) ⟨arg rfl, arg rfl, trivial⟩ (fun _ _ _ _ h => h)) rfl (fun _ => as1 rfl rfl (l_nil (n_then (ref_ret ?_))))))))))))))
 exact fin1 (.inl rfl) () [0] rfl ⟨rfl, trivial⟩ rfl (rv_tmp rfl)

/-! deliberation/deliberationlaw38.facts -/
noncomputable def law38_facts_l1  (s17 : Int × T_Src × (List ByteArray)) : Option (Sum (T_Src × (List ByteArray)) (Int × T_Src × (List ByteArray))) :=
 bif decide (s17.1 < ([(ByteArray.mk #[97]), (ByteArray.mk #[98]), (ByteArray.mk #[99]), (ByteArray.mk #[120]), (ByteArray.mk #[121]), (ByteArray.mk #[122])].length : Int)) then
  Option.bind (idxM [(ByteArray.mk #[97]), (ByteArray.mk #[98]), (ByteArray.mk #[99]), (ByteArray.mk #[120]), (ByteArray.mk #[121]), (ByteArray.mk #[122])] s17.1) fun x20 =>
  Option.bind (keep_Src_N_m s17.2.1 2) fun t21 =>
  bif t21.1 == 0 then
   Option.bind (appM 16 s17.2.2 [x20]) fun out23 =>
   some (Sum.inr (iadd .i64 s17.1 1, t21.2, out23))
  else
   some (Sum.inr (iadd .i64 s17.1 1, t21.2, s17.2.2))
 else
  some (Sum.inl (s17.2.1, s17.2.2))

noncomputable def law38_facts_m (s_0 : T_Src) : Option (List ByteArray × T_Src) :=
 Option.bind (loopC (law38_facts_l1) (0, s_0, [])) fun q25 : T_Src × (List ByteArray) =>
 some (q25.2, q25.1)

theorem law38_facts_ok {s_0 : T_Src} {b_0 : Nat} {r : List ByteArray × T_Src} (hm : law38_facts_m s_0 = some r) :
  FnOk prog 13 [pv (ptr b_0 0)] [oc b_0 [slv (rI .i64) s_0.L, iv .i64 s_0.At]] (fun (x : (Value × List Nat)) => [pv x.1]) (fun (x : (Value × List Nat)) => [oc b_0 [slv (rI .i64) r.2.L, iv .i64 r.2.At], oa rS x.1 x.2 r.1]) := by
 refine fn_ok (X := (Value × List Nat)) (fn := Tryz.f13) (N := 21) (res := fun r x => [pv x.1]) (Ω1 := fun r x => [oc b_0 [slv (rI .i64) r.2.L, iv .i64 r.2.At], oa rS x.1 x.2 r.1]) Tryz.func13 rfl rfl hm rfl (fun E hM => ?_)
 unfold law38_facts_m
 refine ref_seq (ref_region (as1 rfl rfl (l_nil (n_then (ref_seq (ref_region (as1 rfl rfl (l_nil (n_then (ref_seq (ref_seq (ref_region (s_st (s_bslice (xs := [.const (.string (ByteArray.mk #[97])), .const (.string (ByteArray.mk #[98])), .const (.string (ByteArray.mk #[99])), .const (.string (ByteArray.mk #[120])), .const (.string (ByteArray.mk #[121])), .const (.string (ByteArray.mk #[122]))]) (ds := [(ByteArray.mk #[97]), (ByteArray.mk #[98]), (ByteArray.mk #[99]), (ByteArray.mk #[120]), (ByteArray.mk #[121]), (ByteArray.mk #[122])]) Tryz.underlying22 el_9 rfl (Nat.le_of_ble_eq_true rfl) ⟨(part_at rfl sv_at), ⟨(part_at rfl sv_at), ⟨(part_at rfl sv_at), ⟨(part_at rfl sv_at), ⟨(part_at rfl sv_at), ⟨(part_at rfl sv_at), trivial⟩⟩⟩⟩⟩⟩) rfl (fun _ => s_rd (r_len Tryz.underlying22 rfl) rfl (mv1 rfl rfl (l_nil (n_then (b_of (own_nil rS) ?_))))))))))))))))))
 refine ref_loopB (f := (law38_facts_l1)) (Γl := (fun (s17 : Int × T_Src × (List ByteArray)) (x18 : (Value × List Nat)) => [(0, pv (ptr b_0 0)), (3, pv x18.1), (6, slv rS [(ByteArray.mk #[97]), (ByteArray.mk #[98]), (ByteArray.mk #[99]), (ByteArray.mk #[120]), (ByteArray.mk #[121]), (ByteArray.mk #[122])]), (7, iv .i64 ([(ByteArray.mk #[97]), (ByteArray.mk #[98]), (ByteArray.mk #[99]), (ByteArray.mk #[120]), (ByteArray.mk #[121]), (ByteArray.mk #[122])].length : Int)), (8, iv .i64 s17.1)])) (Ωl := (fun (s17 : Int × T_Src × (List ByteArray)) (x18 : (Value × List Nat)) => [oc b_0 [slv (rI .i64) s17.2.1.L, iv .i64 s17.2.1.At], oa rS x18.1 x18.2 s17.2.2])) (Γb := (fun (q25 : T_Src × (List ByteArray)) (y26 : (Value × List Nat)) => [(0, pv (ptr b_0 0)), (3, pv y26.1)])) (Ωb := (fun (q25 : T_Src × (List ByteArray)) (y26 : (Value × List Nat)) => [oc b_0 [slv (rI .i64) q25.1.L, iv .i64 q25.1.At], oa rS y26.1 y26.2 q25.2])) (0, s_0, []) ((.slice none 0 0), []) (weak [0, 1] ⟨rfl, rfl, rfl, rfl, rfl, trivial⟩ ⟨rfl, rfl, trivial⟩) (fun s17 x18 => ?_) (fun q25 y26 => ?_)
 ·unfold law38_facts_l1
  refine ref_seq (ref_region (s_rd (r_lss rfl rfl) rfl (l_nil (n_then (ref_seq ?_)))))
  refine ref_cond rfl (fun hb19 => ?_) (fun hb19 => ?_)
  ·refine ref_skip (n_then (ref_seq (ref_block (ref_seq (ref_region (pull fun x20 h_x20 => s_rd (r_index h_x20 Tryz.underlying22 el_9 rfl rfl) rfl (s_rd (r_load el_9 rfl) rfl (as1 rfl rfl (l_nil (n_then (ref_seq (ref_region (mv1 rfl rfl (pull fun t21 h_t21 => s_st (s_callC [0] [true] (fun (_ : Unit) => [oc b_0 [slv (rI .i64) t21.2.L, iv .i64 t21.2.At]]) (fun (_ : Unit) => []) (fun (_ : Unit) => iv .i64 t21.1) (args := [.tmp 12, .const (.int .i64 (2))]) (caps := []) Tryz.call19 rfl (keep_Src_N_ok h_t21) ⟨rfl, rfl, trivial⟩ (fun _ => rfl) (fun _ => trivial) (fun _ => rfl) ⟨arg rfl, arg rfl, trivial⟩ (fun _ _ _ _ h => h)) rfl (fun _ => s_rd (r_eql rfl rfl) rfl (l_nil (n_then ?_)))))))))))))))))
   refine ref_cond rfl (fun hb22 => ?_) (fun hb22 => ?_)
   ·refine ref_region (mv1 rfl rfl (mv1 rfl rfl (s_st (s_bslice (xs := [.tmp 16]) (ds := [x20]) Tryz.underlying22 el_9 rfl (Nat.le_of_ble_eq_true rfl) ⟨(part_at rfl sv_at), trivial⟩) rfl (fun _ => pull fun out23 h_out23 => s_st (s_append h_out23 Tryz.underlying22 el_9 rfl (j := 1) rfl rfl) rfl (fun o24 => as1 rfl rfl (l_nil (b_of (nrm [oc b_0 [slv (rI .i64) t21.2.L, iv .i64 t21.2.At], oa rS o24.1 o24.2 out23] rfl) (n_block (n_then (ref_region (s_rd (r_add rfl rfl) rfl (mv1 rfl rfl (l_nil ?_)))))))))))))
    exact goB o24 (weak [0, 1] ⟨rfl, rfl, rfl, rfl, rfl, trivial⟩ ⟨rfl, rfl, trivial⟩)
   refine ref_skip (n_block (n_then (ref_region (s_rd (r_add rfl rfl) rfl (mv1 rfl rfl (l_nil ?_))))))
   exact goB x18 (weak [0, 1] ⟨rfl, rfl, rfl, rfl, rfl, trivial⟩ ⟨rfl, rfl, trivial⟩)
  refine ref_exit (x_then ?_)
  exact brkB x18 (weak [0, 1] ⟨rfl, rfl, trivial⟩ ⟨rfl, rfl, trivial⟩)
 refine n_then (ref_seq (ref_region (mv1 rfl rfl (as1 rfl rfl (l_nil (n_then (ref_ret ?_)))))))
 exact fin1 (.inl rfl) y26 [0, 1] rfl ⟨rfl, rfl, trivial⟩ rfl (rv_tmp rfl)

/-! (*deliberation/deliberationkeep.Src).Range -/
noncomputable def keep_Src_Range_m (s_0 : T_Src) (lo_1 : Int) (hi_2 : Int) : Option (Int × T_Src) :=
 Option.bind (keep_Src_N_m s_0 (iadd .i64 (isub .i64 hi_2 lo_1) 1)) fun t1 =>
 letM (iadd .i64 lo_1 t1.1) fun t2 =>
 some (t2, t1.2)

theorem keep_Src_Range_ok {s_0 : T_Src} {lo_1 : Int} {hi_2 : Int} {b_0 : Nat} {r : Int × T_Src} (hm : keep_Src_Range_m s_0 lo_1 hi_2 = some r) :
  FnOk prog 29 [pv (ptr b_0 0), iv .i64 lo_1, iv .i64 hi_2] [oc b_0 [slv (rI .i64) s_0.L, iv .i64 s_0.At]] (fun (x : Unit) => [iv .i64 r.1]) (fun (x : Unit) => [oc b_0 [slv (rI .i64) r.2.L, iv .i64 r.2.At]]) := by
 refine fn_ok (fn := Tryz.f29) (N := 15) (res := fun r x => [iv .i64 r.1]) (Ω1 := fun r x => [oc b_0 [slv (rI .i64) r.2.L, iv .i64 r.2.At]]) Tryz.func29 rfl rfl hm rfl (fun E hM => ?_)
 unfold keep_Src_Range_m
 refine ref_seq (ref_region (as1 rfl rfl (l_nil (n_then (ref_seq (ref_region (mv1 rfl rfl (mv1 rfl rfl (mv1 rfl rfl (mv1 rfl rfl (s_rd (r_sub rfl rfl) rfl (s_rd (r_add rfl rfl) rfl (pull fun t1 h_t1 => s_st (s_callC [0] [true] (fun (_ : Unit) => [oc b_0 [slv (rI .i64) t1.2.L, iv .i64 t1.2.At]]) (fun (_ : Unit) => []) (fun (_ : Unit) => iv .i64 t1.1) (args := [.tmp 8, .tmp 12]) (caps := []) Tryz.call19 rfl (keep_Src_N_ok h_t1) ⟨rfl, rfl, trivial⟩ (fun _ => rfl) (fun _ => trivial) (fun _ => rfl) ⟨arg rfl, arg rfl, trivial⟩ (fun _ _ _ _ h => h)) rfl (fun _ => s_rd (r_add rfl rfl) rfl (as1 rfl rfl (b_let (f := iv .i64) (t := 6) rfl fun t2 => l_nil (n_then (ref_ret ?_))))))))))))))))))
 exact fin1 (.inl rfl) () [0] rfl ⟨rfl, trivial⟩ rfl (rv_tmp rfl)

/-! deliberation/deliberationref38.In -/
noncomputable def ref38_In_l1 (l_0 : (List ByteArray)) (s_1 : ByteArray) (s6 : Int) : Option (Sum ((Sum (Bool) (Unit))) (Int)) :=
 bif decide (s6 < (l_0.length : Int)) then
  Option.bind (idxM l_0 s6) fun t9 =>
  bif t9.toList == s_1.toList then
   some (Sum.inl (Sum.inl true))
  else
   some (Sum.inr (iadd .i64 s6 1))
 else
  some (Sum.inl (Sum.inr ()))

noncomputable def ref38_In_m (l_0 : (List ByteArray)) (s_1 : ByteArray) : Option (Bool) :=
 Option.bind (loopC (ref38_In_l1 l_0 s_1) 0) (sumK (fun a : Bool => some a) fun q11 : Unit =>
  some false)

theorem ref38_In_ok {l_0 : (List ByteArray)} {s_1 : ByteArray} {r : Bool} (hm : ref38_In_m l_0 s_1 = some r) :
  FnOk prog 47 [slv rS l_0, sv s_1] [] (fun (x : Unit) => [bv r]) (fun (x : Unit) => []) := by
 refine fn_ok (fn := Tryz.f47) (N := 18) (res := fun r x => [bv r]) (Ω1 := fun r x => []) Tryz.func47 rfl rfl hm rfl (fun E hM => ?_)
 unfold ref38_In_m
 refine ref_seq (ref_region (as1 rfl rfl (l_nil (n_then (ref_seq (ref_seq (ref_region (as1 rfl rfl (l_nil (n_then ?_))))))))))
 refine ref_loopX (f := (ref38_In_l1 l_0 s_1)) (Γl := (fun (s6 : Int) (x7 : Unit) => [(0, slv rS l_0), (1, sv s_1), (5, iv .i64 s6)])) (Ωl := (fun (s6 : Int) (x7 : Unit) => [])) (Γb := (fun (q11 : Unit) (y12 : Unit) => [])) (Ωb := (fun (q11 : Unit) (y12 : Unit) => [])) (kr := (fun a : Bool => some a)) 0 () (weak [] ⟨rfl, rfl, rfl, trivial⟩ trivial) (fun s6 x7 => ?_) (fun q11 y12 => ?_)
 ·unfold ref38_In_l1
  refine ref_seq (ref_seq (ref_region (mv1 rfl rfl (mv1 rfl rfl (s_rd (r_len Tryz.underlying22 rfl) rfl (s_rd (r_lss rfl rfl) rfl (l_nil (n_then ?_))))))))
  refine ref_cond rfl (fun hb8 => ?_) (fun hb8 => ?_)
  ·refine ref_skip (n_then (ref_seq (ref_block (ref_seq (ref_region (mv1 rfl rfl (mv1 rfl rfl (pull fun t9 h_t9 => s_rd (r_index h_t9 Tryz.underlying22 el_9 rfl rfl) rfl (s_rd (r_load el_9 rfl) rfl (mv1 rfl rfl (s_rd (r_seql rfl rfl) rfl (l_nil (n_then ?_)))))))))))))
   refine ref_cond rfl (fun hb10 => ?_) (fun hb10 => ?_)
   ·refine ref_seq (ref_region (as1 rfl rfl (l_nil (n_then (ref_ret (r_block (r_then ?_)))))))
    refine retX ?_
    refine r_block (r_then ?_)
    exact fin1 (.inl rfl) () [] rfl trivial rfl (rv_tmp rfl)
   refine ref_skip (n_block (n_then (ref_region (mv1 rfl rfl (s_rd (r_add rfl rfl) rfl (as1 rfl rfl (l_nil ?_)))))))
   exact goX () (weak [] ⟨rfl, rfl, rfl, trivial⟩ trivial)
  refine ref_exit (x_then ?_)
  exact brkX () (weak [] trivial trivial)
 refine n_then (ref_seq (ref_region (as1 rfl rfl (l_nil (n_then (ref_ret ?_))))))
 exact fin1 (.inl rfl) () [] rfl trivial rfl (rv_tmp rfl)

/-! deliberation/deliberationref38.Own -/
noncomputable def ref38_Own_l1 (l_0 : T_Lib) (s_1 : (List ByteArray)) (side_2 : Int) (s24 : Int × (List ByteArray)) : Option (Sum ((List ByteArray)) (Int × (List ByteArray))) :=
 bif decide (s24.1 < (s_1.length : Int)) then
  Option.bind (idxM [l_0.Sides.i0, l_0.Sides.i1] (isub .i64 side_2 1)) fun t27 =>
  Option.bind (idxM s_1 s24.1) fun t28 =>
  Option.bind (ref38_In_m t27 t28) fun t29 =>
  bif t29 then
   Option.bind (idxM s_1 s24.1) fun t31 =>
   Option.bind (appM 16 s24.2 [t31]) fun out32 =>
   letM (iadd .i64 s24.1 1) fun i34 =>
   some (Sum.inr (i34, out32))
  else
   letM (iadd .i64 s24.1 1) fun i35 =>
   some (Sum.inr (i35, s24.2))
 else
  some (Sum.inl s24.2)

noncomputable def ref38_Own_m (l_0 : T_Lib) (s_1 : (List ByteArray)) (side_2 : Int) : Option (List ByteArray) :=
 Option.bind (loopC (ref38_Own_l1 l_0 s_1 side_2) (0, [])) fun q36 : (List ByteArray) =>
 some q36

theorem ref38_Own_ok {l_0 : T_Lib} {s_1 : (List ByteArray)} {side_2 : Int} {r : List ByteArray} (hm : ref38_Own_m l_0 s_1 side_2 = some r) :
  FnOk prog 30 [ag [slv rS l_0.Sides.i0, slv rS l_0.Sides.i1, slv rT_Cas l_0.Cases], slv rS s_1, iv .i64 side_2] [] (fun (x : (Value × List Nat)) => [pv x.1]) (fun (x : (Value × List Nat)) => [oa rS x.1 x.2 r]) := by
 refine fn_ok (X := (Value × List Nat)) (fn := Tryz.f30) (N := 33) (res := fun r x => [pv x.1]) (Ω1 := fun r x => [oa rS x.1 x.2 r]) Tryz.func30 rfl rfl hm rfl (fun E hM => ?_)
 unfold ref38_Own_m
 refine ref_seq (ref_region (s_st (s_box (part_agO (ψs := [slv rS l_0.Sides.i0, slv rS l_0.Sides.i1, slv rT_Cas l_0.Cases]) rfl ⟨.inl slv_at, .inl slv_at, .inl slv_at, trivial⟩)) rfl (fun b1 => as1 rfl rfl (l_nil (n_then (ref_seq (ref_region (as1 rfl rfl (l_nil (n_then (ref_seq (ref_seq (ref_region (as1 rfl rfl (l_nil (n_then (b_of (own_nil rS) ?_)))))))))))))))))
 refine ref_loopB (f := (ref38_Own_l1 l_0 s_1 side_2)) (Γl := (fun (s24 : Int × (List ByteArray)) (x25 : (Value × List Nat)) => [(1, slv rS s_1), (2, iv .i64 side_2), (3, pv (ptr b1 0)), (7, pv x25.1), (8, iv .i64 s24.1)])) (Ωl := (fun (s24 : Int × (List ByteArray)) (x25 : (Value × List Nat)) => [oc b1 [slv rS l_0.Sides.i0, slv rS l_0.Sides.i1, slv rT_Cas l_0.Cases], oa rS x25.1 x25.2 s24.2])) (Γb := (fun (q36 : (List ByteArray)) (y37 : (Value × List Nat)) => [(7, pv y37.1)])) (Ωb := (fun (q36 : (List ByteArray)) (y37 : (Value × List Nat)) => [oa rS y37.1 y37.2 q36])) (0, []) ((.slice none 0 0), []) (weak [0, 1] ⟨rfl, rfl, rfl, rfl, rfl, trivial⟩ ⟨rfl, rfl, trivial⟩) (fun s24 x25 => ?_) (fun q36 y37 => ?_)
 ·unfold ref38_Own_l1
  refine ref_seq (ref_seq (ref_region (mv1 rfl rfl (mv1 rfl rfl (s_rd (r_len Tryz.underlying22 rfl) rfl (s_rd (r_lss rfl rfl) rfl (l_nil (n_then ?_))))))))
  refine ref_cond rfl (fun hb26 => ?_) (fun hb26 => ?_)
  ·refine ref_skip (n_then (ref_seq (ref_block (ref_seq ?_))))
   refine ref_draw [0, 1, 2, 3, 4, 5, 6, 7, 8] rfl (by kernel_rfl) (fun hok => ?_)
   refine a_rd (i := 0) hok rfl (by kernel_rfl) rfl (r_move rfl) rfl ?_
   refine a_rd (i := 1) hok rfl (by kernel_rfl) rfl (r_sub rfl rfl) rfl ?_
   refine a_rd (i := 2) hok rfl (by kernel_rfl) rfl (r_faddr (fo := 0) Tryz.underlying26 rfl rfl Tryz.sizeOf23 rfl) rfl ?_
   refine pull fun t27 h_t27 => ?_
   refine a_rd (i := 3) hok rfl (by kernel_rfl) rfl (r_aaddrV h_t27 rfl Tryz.underlying23 Tryz.sizeOf22 rfl rfl) rfl ?_
   refine a_rd (i := 4) hok rfl (by kernel_rfl) rfl (r_acload (ρ := (rSl rS)) (off := 0) h_t27 Tryz.isAgg22 rfl (j := 0) rfl rfl rfl rfl) rfl ?_
   refine a_rd (i := 5) hok rfl (by kernel_rfl) rfl (r_move rfl) rfl ?_
   refine a_rd (i := 6) hok rfl (by kernel_rfl) rfl (r_move rfl) rfl ?_
   refine pull fun t28 h_t28 => ?_
   refine a_rd (i := 7) hok rfl (by kernel_rfl) rfl (r_index h_t28 Tryz.underlying22 el_9 rfl rfl) rfl ?_
   refine a_rd (i := 8) hok rfl (by kernel_rfl) rfl (r_load el_9 rfl) rfl ?_
   refine pull fun t29 h_t29 => ?_
   refine a_next hok 9 [] (by kernel_rfl) ?_ trivial
   refine a_st (i := 9) hok rfl rfl (s_call (ψ := fun (_ : Unit) => bv t29) (args := [.tmp 19, .tmp 23]) Tryz.call47 rfl (ref38_In_ok h_t29) ⟨arg rfl, arg rfl, trivial⟩ (fun _ _ _ _ h => h)) (by intro _ h; cases h; rfl) (fun _ => ⟨trivial, ⟨trivial, ⟨trivial, ⟨trivial, ⟨trivial, ⟨trivial, ⟨trivial, ⟨trivial, ⟨trivial, trivial⟩⟩⟩⟩⟩⟩⟩⟩⟩) (fun _ => ?_)
   refine a_fin hok (by kernel_rfl) ?_
   refine n_then ?_
   refine ref_cond rfl (fun hb30 => ?_) (fun hb30 => ?_)
   ·refine ref_region (mv1 rfl rfl (mv1 rfl rfl (mv1 rfl rfl (pull fun t31 h_t31 => s_rd (r_index h_t31 Tryz.underlying22 el_9 rfl rfl) rfl (s_rd (r_load el_9 rfl) rfl (s_st (s_bslice (xs := [.tmp 29]) (ds := [t31]) Tryz.underlying22 el_9 rfl (Nat.le_of_ble_eq_true rfl) ⟨(part_at rfl sv_at), trivial⟩) rfl (fun _ => pull fun out32 h_out32 => s_st (s_append h_out32 Tryz.underlying22 el_9 rfl (j := 1) rfl rfl) rfl (fun o33 => as1 rfl rfl (l_nil (b_of (nrm [oc b1 [slv rS l_0.Sides.i0, slv rS l_0.Sides.i1, slv rT_Cas l_0.Cases], oa rS o33.1 o33.2 out32] rfl) (n_block (n_then (ref_region (mv1 rfl rfl (s_rd (r_add rfl rfl) rfl (as1 rfl rfl (b_let (f := iv .i64) (t := 8) rfl fun i34 => l_nil ?_)))))))))))))))))
    exact goB o33 (weak [0, 1] ⟨rfl, rfl, rfl, rfl, rfl, trivial⟩ ⟨rfl, rfl, trivial⟩)
   refine ref_skip (n_block (n_then (ref_region (mv1 rfl rfl (s_rd (r_add rfl rfl) rfl (as1 rfl rfl (b_let (f := iv .i64) (t := 8) rfl fun i35 => l_nil ?_)))))))
   exact goB x25 (weak [0, 1] ⟨rfl, rfl, rfl, rfl, rfl, trivial⟩ ⟨rfl, rfl, trivial⟩)
  refine ref_exit (x_then ?_)
  exact brkB x25 (weak [1] ⟨rfl, trivial⟩ ⟨rfl, trivial⟩)
 refine n_then (ref_seq (ref_region (mv1 rfl rfl (as1 rfl rfl (l_nil (n_then (ref_ret ?_)))))))
 exact fin1 (.inl rfl) y37 [0] rfl ⟨rfl, trivial⟩ rfl (rv_tmp rfl)

end Go.Dc
