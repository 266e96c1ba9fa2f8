/- Part LAW08T.A2 of a proof: lemmas. -/
import Derived.Test.YtofcoilhjmkejaaLAW08TA1
import Derived.Test.YtofcoilhjmkejaaProg
set_option linter.unusedVariables false
set_option maxRecDepth 100000
set_option maxHeartbeats 4000000
namespace Go.Dc
open Go.Proofs
open Go.Proofs.Try (prog)

/-! deliberation/deliberationkeep.sorted -/
noncomputable def keep_sorted_l2 (s63 : Int × (List T_api_Literal)) (t66 : T_api_Literal) (s74 : Int) : Option (Sum (Int) (Int)) :=
  bif decide (s74 < (s63.2.length : Int)) then
    Option.bind (idxM s63.2 s74) fun t76 =>
    bif Op.bytesLess t76.Name.toList t66.Name.toList then
      letM (iadd .i64 s74 1) fun k80 =>
      some (Sum.inr k80)
    else
      Option.bind (idxM s63.2 s74) fun t77 =>
      bif t77.Name.toList == t66.Name.toList then
        Option.bind (idxM s63.2 s74) fun t78 =>
        bif !t78.Neg then
          bif t66.Neg then
            letM (iadd .i64 s74 1) fun k81 =>
            some (Sum.inr k81)
          else
            some (Sum.inl s74)
        else
          some (Sum.inl s74)
      else
        some (Sum.inl s74)
  else
    some (Sum.inl s74)

noncomputable def keep_sorted_l1 (l_0 : (List T_api_Literal)) (s63 : Int × (List T_api_Literal)) : Option (Sum ((List T_api_Literal)) (Int × (List T_api_Literal))) :=
  bif decide (s63.1 < (l_0.length : Int)) then
    Option.bind (idxM l_0 s63.1) fun t66 =>
    Option.bind (loopC (keep_sorted_l2 s63 t66) 0) fun q82 : Int =>
    joinM (fun j86 : Unit =>
        Option.bind (appM 24 s63.2 [(T_api_Literal.mk false ByteArray.empty)]) fun out89 =>
        Option.bind (slM out89 (iadd .i64 q82 1) (out89.length : Int)) fun t91 =>
        Option.bind (slM out89 q82 (out89.length : Int)) fun t92 =>
        Option.bind (idxM (cpO out89 (iadd .i64 q82 1) (out89.length : Int) q82 (out89.length : Int)) q82) fun t93 =>
        some (Sum.inr (iadd .i64 s63.1 1, (cpO out89 (iadd .i64 q82 1) (out89.length : Int) q82 (out89.length : Int)).set (Int.toNat q82) t66))) fun k88 =>
    bif decide (q82 < (s63.2.length : Int)) then
      Option.bind (idxM s63.2 q82) fun t84 =>
      bif decide (t84 = t66) then
        some (Sum.inr (iadd .i64 s63.1 1, s63.2))
      else
        k88 ()
    else
      k88 ()
  else
    some (Sum.inl s63.2)

noncomputable def keep_sorted_m (l_0 : (List T_api_Literal)) : Option (List T_api_Literal) :=
  Option.bind (loopC (keep_sorted_l1 l_0) (0, [])) fun q94 : (List T_api_Literal) =>
  some q94

theorem keep_sorted_ok {l_0 : (List T_api_Literal)} {r : List T_api_Literal} (hm : keep_sorted_m l_0 = some r) :
    FnOk prog 54 [slv rT_api_Literal l_0] [] (fun (x : (Value × List Nat)) => [pv x.1]) (fun (x : (Value × List Nat)) => [oa rT_api_Literal x.1 x.2 r]) := by
  refine fn_ok (X := (Value × List Nat)) (fn := Try.f54) (N := 81) (res := fun r x => [pv x.1]) (Ω1 := fun r x => [oa rT_api_Literal x.1 x.2 r]) Try.func54 rfl rfl hm rfl (fun E hM => ?_)
  unfold keep_sorted_m
  refine ref_seq (ref_region ?_)
  refine as1 rfl rfl ?_
  refine l_nil (n_then (ref_seq (ref_region ?_)))
  refine as1 rfl rfl ?_
  refine l_nil (n_then (ref_seq (ref_seq (ref_region ?_))))
  refine mv1 rfl rfl ?_
  refine s_rd (r_len Try.underlying53 rfl) rfl ?_
  refine mv1 rfl rfl ?_
  refine l_nil (n_then ?_)
  refine b_of (own_nil rT_api_Literal) ?_
  refine ref_loopB (f := (keep_sorted_l1 l_0)) (Γl := (fun (s63 : Int × (List T_api_Literal)) (x64 : (Value × List Nat)) => [(3, pv x64.1), (7, slv rT_api_Literal l_0), (8, iv .i64 (l_0.length : Int)), (9, iv .i64 s63.1)])) (Ωl := (fun (s63 : Int × (List T_api_Literal)) (x64 : (Value × List Nat)) => [oa rT_api_Literal x64.1 x64.2 s63.2])) (Γb := (fun (q94 : (List T_api_Literal)) (y95 : (Value × List Nat)) => [(3, pv y95.1)])) (Ωb := (fun (q94 : (List T_api_Literal)) (y95 : (Value × List Nat)) => [oa rT_api_Literal y95.1 y95.2 q94])) (0, []) ((.slice none 0 0), []) (weak [0] ⟨rfl, rfl, rfl, rfl, trivial⟩ ⟨rfl, trivial⟩) (fun s63 x64 => ?_) (fun q94 y95 => ?_)
  · unfold keep_sorted_l1
    refine ref_seq (ref_region ?_)
    refine s_rd (r_lss rfl rfl) rfl ?_
    refine l_nil (n_then (ref_seq ?_))
    refine ref_cond rfl (fun hb65 => ?_) (fun hb65 => ?_)
    · refine ref_skip (n_then (ref_seq (ref_block (ref_seq (ref_region ?_)))))
      refine pull fun t66 h_t66 => ?_
      refine s_rd (r_index h_t66 Try.underlying53 el_50 rfl rfl) rfl ?_
      refine s_rd (r_load el_50 rfl) rfl ?_
      refine s_st (s_alloc zt_50) rfl (fun b67 => ?_)
      refine s_st0 (s_cstore (out := [bv t66.Neg, sv t66.Name]) Try.sizeOf50 rfl (j := 1) rfl (part_agO (ψs := [bv t66.Neg, sv t66.Name]) rfl ⟨.inl bv_at, .inl sv_at, trivial⟩) rfl rfl rfl) (fun _ => ?_)
      refine l_nil (n_then (ref_seq (ref_region ?_)))
      refine as1 rfl rfl ?_
      refine l_nil (n_then (ref_seq ?_))
      refine ref_loopB (f := (keep_sorted_l2 s63 t66)) (Γl := (fun (s74 : Int) (x75 : Unit) => [(3, pv x64.1), (5, pv (ptr b67 0)), (6, iv .i64 s74), (7, slv rT_api_Literal l_0), (8, iv .i64 (l_0.length : Int)), (9, iv .i64 s63.1)])) (Ωl := (fun (s74 : Int) (x75 : Unit) => [oa rT_api_Literal x64.1 x64.2 s63.2, oc b67 [bv t66.Neg, sv t66.Name]])) (Γb := (fun (q82 : Int) (y83 : Unit) => [(3, pv x64.1), (5, pv (ptr b67 0)), (6, iv .i64 q82), (7, slv rT_api_Literal l_0), (8, iv .i64 (l_0.length : Int)), (9, iv .i64 s63.1)])) (Ωb := (fun (q82 : Int) (y83 : Unit) => [oa rT_api_Literal x64.1 x64.2 s63.2, oc b67 [bv t66.Neg, sv t66.Name]])) 0 () (weak [0, 1] ⟨rfl, rfl, rfl, rfl, rfl, rfl, trivial⟩ ⟨rfl, rfl, trivial⟩) (fun s74 x75 => ?_) (fun q82 y83 => ?_)
      · unfold keep_sorted_l2
        refine ref_seq (ref_seq ?_)
        refine ref_draw [0, 1, 2, 3, 4, 5, 6, 7, 8, 9, 10, 11, 12, 13, 14, 15, 16, 17, 18, 19, 20, 21, 22, 23, 24, 25, 26, 27, 28, 29, 30, 31, 32, 33, 34, 35] rfl (by kernel_rfl) (fun hok => ?_)
        refine a_rd (i := 0) hok rfl (by kernel_rfl) rfl (r_move rfl) rfl ?_
        refine a_rd (i := 1) hok rfl (by kernel_rfl) rfl (r_move rfl) rfl ?_
        refine a_rd (i := 2) hok rfl (by kernel_rfl) rfl (r_olen Try.underlying53 rfl (j := 0) rfl) rfl ?_
        refine a_rd (i := 3) hok rfl (by kernel_rfl) rfl (r_lss rfl rfl) rfl ?_
        refine a_rd (i := 4) hok rfl (by kernel_rfl) rfl (r_move rfl) rfl ?_
        refine b_split (t := 17) rfl (fun _ => ?_) (fun _ => ?_)
        · refine a_rdOn (i := 5) hok rfl rfl rfl rfl (by kernel_rfl) rfl (r_move rfl) rfl ?_
          refine a_rdOn (i := 6) hok rfl rfl rfl rfl (by kernel_rfl) rfl (r_move rfl) rfl ?_
          refine pull fun t76 h_t76 => ?_
          refine a_rdOn (i := 7) hok rfl rfl rfl rfl (by kernel_rfl) rfl (r_oindex h_t76 Try.underlying53 el_50 rfl (j := 0) rfl rfl) rfl ?_
          refine a_rdOn (i := 8) hok rfl rfl rfl rfl (by kernel_rfl) rfl (r_foea (ρ := rT_api_Literal) (fo := 1) h_t76 Try.underlying50 rfl rfl Try.sizeOf9 rfl (j := 0) rfl) rfl ?_
          refine a_rdOn (i := 9) hok rfl rfl rfl rfl (by kernel_rfl) rfl (r_foload (ρ := rT_api_Literal) (y := t76) (ρ' := rS) (z := t76.Name) h_t76 el_9 rfl (j := 0) rfl rfl rfl) rfl ?_
          refine a_rdOn (i := 10) hok rfl rfl rfl rfl (by kernel_rfl) rfl (r_faddr (fo := 1) Try.underlying50 rfl rfl Try.sizeOf9 rfl) rfl ?_
          refine a_rdOn (i := 11) hok rfl rfl rfl rfl (by kernel_rfl) rfl (r_cload Try.isAgg9 rfl (j := 1) rfl rfl) rfl ?_
          refine a_rdOn (i := 12) hok rfl rfl rfl rfl (by kernel_rfl) rfl (r_slss rfl rfl) rfl ?_
          refine a_rdOn (i := 13) hok rfl rfl rfl rfl (by kernel_rfl) rfl (r_move rfl) rfl ?_
          refine b_split (t := 26) rfl (fun _ => ?_) (fun _ => ?_)
          · refine a_off (i := 14) hok rfl rfl rfl rfl rfl (by kernel_rfl) rfl rfl ?_
            refine a_off (i := 15) hok rfl rfl rfl rfl rfl (by kernel_rfl) rfl rfl ?_
            refine a_off (i := 16) hok rfl rfl rfl rfl rfl (by kernel_rfl) rfl rfl ?_
            refine a_off (i := 17) hok rfl rfl rfl rfl rfl (by kernel_rfl) rfl rfl ?_
            refine a_off (i := 18) hok rfl rfl rfl rfl rfl (by kernel_rfl) rfl rfl ?_
            refine a_off (i := 19) hok rfl rfl rfl rfl rfl (by kernel_rfl) rfl rfl ?_
            refine a_off (i := 20) hok rfl rfl rfl rfl rfl (by kernel_rfl) rfl rfl ?_
            refine a_off (i := 21) hok rfl rfl rfl rfl rfl (by kernel_rfl) rfl rfl ?_
            refine a_off (i := 22) hok rfl rfl rfl rfl rfl (by kernel_rfl) rfl rfl ?_
            refine a_offU (i := 23) hok rfl rfl rfl (by kernel_rfl) rfl rfl ?_
            refine a_offU (i := 24) hok rfl rfl rfl (by kernel_rfl) rfl rfl ?_
            refine a_offU (i := 25) hok rfl rfl rfl (by kernel_rfl) rfl rfl ?_
            refine a_offU (i := 26) hok rfl rfl rfl (by kernel_rfl) rfl rfl ?_
            refine a_offU (i := 27) hok rfl rfl rfl (by kernel_rfl) rfl rfl ?_
            refine a_offU (i := 28) hok rfl rfl rfl (by kernel_rfl) rfl rfl ?_
            refine a_off (i := 29) hok rfl rfl rfl rfl rfl (by kernel_rfl) rfl rfl ?_
            refine a_off (i := 30) hok rfl rfl rfl rfl rfl (by kernel_rfl) rfl rfl ?_
            refine a_offU (i := 31) hok rfl rfl rfl (by kernel_rfl) rfl rfl ?_
            refine a_offU (i := 32) hok rfl rfl rfl (by kernel_rfl) rfl rfl ?_
            refine a_off (i := 33) hok rfl rfl rfl rfl rfl (by kernel_rfl) rfl rfl ?_
            refine a_rdOn (i := 34) hok rfl rfl rfl rfl (by kernel_rfl) rfl (r_pickT rfl rfl) rfl ?_
            refine a_rd (i := 35) hok rfl (by kernel_rfl) rfl (r_pickT rfl rfl) rfl ?_
            refine a_fin hok (by kernel_rfl) ?_
            refine n_then ?_
            refine ref_condT rfl rfl ?_
            refine ref_skip (n_then (ref_block (ref_region ?_)))
            refine mv1 rfl rfl ?_
            refine s_rd (r_add rfl rfl) rfl ?_
            refine as1 rfl rfl ?_
            refine b_let (f := iv .i64) (t := 6) rfl fun k80 => ?_
            refine l_nil (n_block ?_)
            exact goB () (weak [0, 1] ⟨rfl, rfl, rfl, rfl, rfl, rfl, trivial⟩ ⟨rfl, rfl, trivial⟩)
          refine a_rdOn (i := 14) hok rfl rfl rfl rfl (by kernel_rfl) rfl (r_move rfl) rfl ?_
          refine a_rdOn (i := 15) hok rfl rfl rfl rfl (by kernel_rfl) rfl (r_move rfl) rfl ?_
          refine pull fun t77 h_t77 => ?_
          refine a_rdOn (i := 16) hok rfl rfl rfl rfl (by kernel_rfl) rfl (r_oindex h_t77 Try.underlying53 el_50 rfl (j := 0) rfl rfl) rfl ?_
          refine a_rdOn (i := 17) hok rfl rfl rfl rfl (by kernel_rfl) rfl (r_foea (ρ := rT_api_Literal) (fo := 1) h_t77 Try.underlying50 rfl rfl Try.sizeOf9 rfl (j := 0) rfl) rfl ?_
          refine a_rdOn (i := 18) hok rfl rfl rfl rfl (by kernel_rfl) rfl (r_foload (ρ := rT_api_Literal) (y := t77) (ρ' := rS) (z := t77.Name) h_t77 el_9 rfl (j := 0) rfl rfl rfl) rfl ?_
          refine a_rdOn (i := 19) hok rfl rfl rfl rfl (by kernel_rfl) rfl (r_faddr (fo := 1) Try.underlying50 rfl rfl Try.sizeOf9 rfl) rfl ?_
          refine a_rdOn (i := 20) hok rfl rfl rfl rfl (by kernel_rfl) rfl (r_cload Try.isAgg9 rfl (j := 1) rfl rfl) rfl ?_
          refine a_rdOn (i := 21) hok rfl rfl rfl rfl (by kernel_rfl) rfl (r_seql rfl rfl) rfl ?_
          refine a_rdOn (i := 22) hok rfl rfl rfl rfl (by kernel_rfl) rfl (r_move rfl) rfl ?_
          refine b_split (t := 35) rfl (fun _ => ?_) (fun _ => ?_)
          · refine a_rdOn (i := 23) hok rfl rfl rfl rfl (by kernel_rfl) rfl (r_move rfl) rfl ?_
            refine a_rdOn (i := 24) hok rfl rfl rfl rfl (by kernel_rfl) rfl (r_move rfl) rfl ?_
            refine pull fun t78 h_t78 => ?_
            refine a_rdOn (i := 25) hok rfl rfl rfl rfl (by kernel_rfl) rfl (r_oindex h_t78 Try.underlying53 el_50 rfl (j := 0) rfl rfl) rfl ?_
            refine a_rdOn (i := 26) hok rfl rfl rfl rfl (by kernel_rfl) rfl (r_foea (ρ := rT_api_Literal) (fo := 0) h_t78 Try.underlying50 rfl rfl Try.sizeOf4 rfl (j := 0) rfl) rfl ?_
            refine a_rdOn (i := 27) hok rfl rfl rfl rfl (by kernel_rfl) rfl (r_foload (ρ := rT_api_Literal) (y := t78) (ρ' := rB) (z := t78.Neg) h_t78 el_4 rfl (j := 0) rfl rfl rfl) rfl ?_
            refine a_rdOn (i := 28) hok rfl rfl rfl rfl (by kernel_rfl) rfl (r_not rfl) rfl ?_
            refine a_rdOn (i := 29) hok rfl rfl rfl rfl (by kernel_rfl) rfl (r_pickT rfl rfl) rfl ?_
            refine a_rdOn (i := 30) hok rfl rfl rfl rfl (by kernel_rfl) rfl (r_move rfl) rfl ?_
            refine b_split (t := 43) rfl (fun _ => ?_) (fun _ => ?_)
            · refine a_rdOn (i := 31) hok rfl rfl rfl rfl (by kernel_rfl) rfl (r_faddr (fo := 0) Try.underlying50 rfl rfl Try.sizeOf4 rfl) rfl ?_
              refine a_rdOn (i := 32) hok rfl rfl rfl rfl (by kernel_rfl) rfl (r_cload Try.isAgg4 rfl (j := 1) rfl rfl) rfl ?_
              refine a_rdOn (i := 33) hok rfl rfl rfl rfl (by kernel_rfl) rfl (r_pickT rfl rfl) rfl ?_
              refine a_rdOn (i := 34) hok rfl rfl rfl rfl (by kernel_rfl) rfl (r_pickF rfl rfl) rfl ?_
              refine a_rd (i := 35) hok rfl (by kernel_rfl) rfl (r_pickT rfl rfl) rfl ?_
              refine a_fin hok (by kernel_rfl) ?_
              refine n_then ?_
              refine ref_cond rfl (fun hb79 => ?_) (fun hb79 => ?_)
              · refine ref_skip (n_then (ref_block (ref_region ?_)))
                refine mv1 rfl rfl ?_
                refine s_rd (r_add rfl rfl) rfl ?_
                refine as1 rfl rfl ?_
                refine b_let (f := iv .i64) (t := 6) rfl fun k81 => ?_
                refine l_nil (n_block ?_)
                exact goB () (weak [0, 1] ⟨rfl, rfl, rfl, rfl, rfl, rfl, trivial⟩ ⟨rfl, rfl, trivial⟩)
              refine ref_exit (x_then ?_)
              exact brkB () (weak [0, 1] ⟨rfl, rfl, rfl, rfl, rfl, rfl, trivial⟩ ⟨rfl, rfl, trivial⟩)
            refine a_off (i := 31) hok rfl rfl rfl rfl rfl (by kernel_rfl) rfl rfl ?_
            refine a_off (i := 32) hok rfl rfl rfl rfl rfl (by kernel_rfl) rfl rfl ?_
            refine a_rdOn (i := 33) hok rfl rfl rfl rfl (by kernel_rfl) rfl (r_pickF rfl rfl) rfl ?_
            refine a_rdOn (i := 34) hok rfl rfl rfl rfl (by kernel_rfl) rfl (r_pickF rfl rfl) rfl ?_
            refine a_rd (i := 35) hok rfl (by kernel_rfl) rfl (r_pickT rfl rfl) rfl ?_
            refine a_fin hok (by kernel_rfl) ?_
            refine n_then ?_
            refine ref_condF rfl rfl ?_
            refine ref_exit (x_then ?_)
            exact brkB () (weak [0, 1] ⟨rfl, rfl, rfl, rfl, rfl, rfl, trivial⟩ ⟨rfl, rfl, trivial⟩)
          refine a_off (i := 23) hok rfl rfl rfl rfl rfl (by kernel_rfl) rfl rfl ?_
          refine a_off (i := 24) hok rfl rfl rfl rfl rfl (by kernel_rfl) rfl rfl ?_
          refine a_off (i := 25) hok rfl rfl rfl rfl rfl (by kernel_rfl) rfl rfl ?_
          refine a_off (i := 26) hok rfl rfl rfl rfl rfl (by kernel_rfl) rfl rfl ?_
          refine a_off (i := 27) hok rfl rfl rfl rfl rfl (by kernel_rfl) rfl rfl ?_
          refine a_off (i := 28) hok rfl rfl rfl rfl rfl (by kernel_rfl) rfl rfl ?_
          refine a_rdOn (i := 29) hok rfl rfl rfl rfl (by kernel_rfl) rfl (r_pickF rfl rfl) rfl ?_
          refine a_rdOn (i := 30) hok rfl rfl rfl rfl (by kernel_rfl) rfl (r_move rfl) rfl ?_
          refine a_off (i := 31) hok rfl rfl rfl rfl rfl (by kernel_rfl) rfl rfl ?_
          refine a_off (i := 32) hok rfl rfl rfl rfl rfl (by kernel_rfl) rfl rfl ?_
          refine a_rdOn (i := 33) hok rfl rfl rfl rfl (by kernel_rfl) rfl (r_pickF rfl rfl) rfl ?_
          refine a_rdOn (i := 34) hok rfl rfl rfl rfl (by kernel_rfl) rfl (r_pickF rfl rfl) rfl ?_
          refine a_rd (i := 35) hok rfl (by kernel_rfl) rfl (r_pickT rfl rfl) rfl ?_
          refine a_fin hok (by kernel_rfl) ?_
          refine n_then ?_
          refine ref_condF rfl rfl ?_
          refine ref_exit (x_then ?_)
          exact brkB () (weak [0, 1] ⟨rfl, rfl, rfl, rfl, rfl, rfl, trivial⟩ ⟨rfl, rfl, trivial⟩)
        refine a_off (i := 5) hok rfl rfl rfl rfl rfl (by kernel_rfl) rfl rfl ?_
        refine a_off (i := 6) hok rfl rfl rfl rfl rfl (by kernel_rfl) rfl rfl ?_
        refine a_off (i := 7) hok rfl rfl rfl rfl rfl (by kernel_rfl) rfl rfl ?_
        refine a_off (i := 8) hok rfl rfl rfl rfl rfl (by kernel_rfl) rfl rfl ?_
        refine a_off (i := 9) hok rfl rfl rfl rfl rfl (by kernel_rfl) rfl rfl ?_
        refine a_off (i := 10) hok rfl rfl rfl rfl rfl (by kernel_rfl) rfl rfl ?_
        refine a_off (i := 11) hok rfl rfl rfl rfl rfl (by kernel_rfl) rfl rfl ?_
        refine a_off (i := 12) hok rfl rfl rfl rfl rfl (by kernel_rfl) rfl rfl ?_
        refine a_off (i := 13) hok rfl rfl rfl rfl rfl (by kernel_rfl) rfl rfl ?_
        refine a_offU (i := 14) hok rfl rfl rfl (by kernel_rfl) rfl rfl ?_
        refine a_offU (i := 15) hok rfl rfl rfl (by kernel_rfl) rfl rfl ?_
        refine a_offU (i := 16) hok rfl rfl rfl (by kernel_rfl) rfl rfl ?_
        refine a_offU (i := 17) hok rfl rfl rfl (by kernel_rfl) rfl rfl ?_
        refine a_offU (i := 18) hok rfl rfl rfl (by kernel_rfl) rfl rfl ?_
        refine a_offU (i := 19) hok rfl rfl rfl (by kernel_rfl) rfl rfl ?_
        refine a_offU (i := 20) hok rfl rfl rfl (by kernel_rfl) rfl rfl ?_
        refine a_offU (i := 21) hok rfl rfl rfl (by kernel_rfl) rfl rfl ?_
        refine a_offU (i := 22) hok rfl rfl rfl (by kernel_rfl) rfl rfl ?_
        refine a_offU (i := 23) hok rfl rfl rfl (by kernel_rfl) rfl rfl ?_
        refine a_offU (i := 24) hok rfl rfl rfl (by kernel_rfl) rfl rfl ?_
        refine a_offU (i := 25) hok rfl rfl rfl (by kernel_rfl) rfl rfl ?_
        refine a_offU (i := 26) hok rfl rfl rfl (by kernel_rfl) rfl rfl ?_
        refine a_offU (i := 27) hok rfl rfl rfl (by kernel_rfl) rfl rfl ?_
        refine a_offU (i := 28) hok rfl rfl rfl (by kernel_rfl) rfl rfl ?_
        refine a_offU (i := 29) hok rfl rfl rfl (by kernel_rfl) rfl rfl ?_
        refine a_offU (i := 30) hok rfl rfl rfl (by kernel_rfl) rfl rfl ?_
        refine a_offU (i := 31) hok rfl rfl rfl (by kernel_rfl) rfl rfl ?_
        refine a_offU (i := 32) hok rfl rfl rfl (by kernel_rfl) rfl rfl ?_
        refine a_offU (i := 33) hok rfl rfl rfl (by kernel_rfl) rfl rfl ?_
        refine a_off (i := 34) hok rfl rfl rfl rfl rfl (by kernel_rfl) rfl rfl ?_
        refine a_rd (i := 35) hok rfl (by kernel_rfl) rfl (r_pickF rfl rfl) rfl ?_
        refine a_fin hok (by kernel_rfl) ?_
        refine n_then ?_
        refine ref_condF rfl rfl ?_
        refine ref_exit (x_then ?_)
        exact brkB () (weak [0, 1] ⟨rfl, rfl, rfl, rfl, rfl, rfl, trivial⟩ ⟨rfl, rfl, trivial⟩)
      refine n_then (ref_seq ?_)
      refine ref_join (fun (j86 : Unit) (x87 : Unit) => [(3, pv x64.1), (5, pv (ptr b67 0)), (6, iv .i64 q82), (7, slv rT_api_Literal l_0), (8, iv .i64 (l_0.length : Int)), (9, iv .i64 s63.1)]) (fun (j86 : Unit) (x87 : Unit) => [oa rT_api_Literal x64.1 x64.2 s63.2, oc b67 [bv t66.Neg, sv t66.Name]]) (fun k88 hk88 => ?_) (fun j86 x87 => ?_)
      · refine ref_seq ?_
        refine ref_draw [0, 1, 2, 3, 4, 5, 6, 7, 8, 9, 10, 11] rfl (by kernel_rfl) (fun hok => ?_)
        refine a_rd (i := 0) hok rfl (by kernel_rfl) rfl (r_move rfl) rfl ?_
        refine a_rd (i := 1) hok rfl (by kernel_rfl) rfl (r_move rfl) rfl ?_
        refine a_rd (i := 2) hok rfl (by kernel_rfl) rfl (r_olen Try.underlying53 rfl (j := 0) rfl) rfl ?_
        refine a_rd (i := 3) hok rfl (by kernel_rfl) rfl (r_lss rfl rfl) rfl ?_
        refine a_rd (i := 4) hok rfl (by kernel_rfl) rfl (r_move rfl) rfl ?_
        refine b_split (t := 55) rfl (fun _ => ?_) (fun _ => ?_)
        · refine a_rdOn (i := 5) hok rfl rfl rfl rfl (by kernel_rfl) rfl (r_move rfl) rfl ?_
          refine a_rdOn (i := 6) hok rfl rfl rfl rfl (by kernel_rfl) rfl (r_move rfl) rfl ?_
          refine pull fun t84 h_t84 => ?_
          refine a_rdOn (i := 7) hok rfl rfl rfl rfl (by kernel_rfl) rfl (r_oindex h_t84 Try.underlying53 el_50 rfl (j := 0) rfl rfl) rfl ?_
          refine a_rdOn (i := 8) hok rfl rfl rfl rfl (by kernel_rfl) rfl (r_oload h_t84 el_50 rfl (j := 0) rfl) rfl ?_
          refine a_rdOn (i := 9) hok rfl rfl rfl rfl (by kernel_rfl) rfl (r_cloadS Try.isAgg50 Try.sizeOf50 rfl (j := 1) rfl rfl rfl) rfl ?_
          refine a_rdOn (i := 10) hok rfl rfl rfl rfl (by kernel_rfl) rfl (r_steql (u := t84) (v := t66) eq_50 rfl rfl rfl rfl) rfl ?_
          refine a_rd (i := 11) hok rfl (by kernel_rfl) rfl (r_pickT rfl rfl) rfl ?_
          refine a_fin hok (by kernel_rfl) ?_
          refine n_then ?_
          refine ref_cond rfl (fun hb85 => ?_) (fun hb85 => ?_)
          · refine ref_exit (x_then (x_eq (n_then (ref_region ?_))))
            refine s_rd (r_add rfl rfl) rfl ?_
            refine mv1 rfl rfl ?_
            refine l_nil ?_
            exact goB x64 (weak [0] ⟨rfl, rfl, rfl, rfl, trivial⟩ ⟨rfl, trivial⟩)
          refine ref_skip ?_
          exact b_to (hk88 () ()) (weak [0, 1] ⟨rfl, rfl, rfl, rfl, rfl, rfl, trivial⟩ ⟨rfl, rfl, trivial⟩)
        refine a_off (i := 5) hok rfl rfl rfl rfl rfl (by kernel_rfl) rfl rfl ?_
        refine a_off (i := 6) hok rfl rfl rfl rfl rfl (by kernel_rfl) rfl rfl ?_
        refine a_off (i := 7) hok rfl rfl rfl rfl rfl (by kernel_rfl) rfl rfl ?_
        refine a_off (i := 8) hok rfl rfl rfl rfl rfl (by kernel_rfl) rfl rfl ?_
        refine a_off (i := 9) hok rfl rfl rfl rfl rfl (by kernel_rfl) rfl rfl ?_
        refine a_off (i := 10) hok rfl rfl rfl rfl rfl (by kernel_rfl) rfl rfl ?_
        refine a_rd (i := 11) hok rfl (by kernel_rfl) rfl (r_pickF rfl rfl) rfl ?_
        refine a_fin hok (by kernel_rfl) ?_
        refine n_then ?_
        refine ref_condF rfl rfl ?_
        refine ref_skip ?_
        exact b_to (hk88 () ()) (weak [0, 1] ⟨rfl, rfl, rfl, rfl, rfl, rfl, trivial⟩ ⟨rfl, rfl, trivial⟩)
      refine n_then (ref_seq (ref_region ?_))
      refine mv1 rfl rfl ?_
      refine s_rd (r_build (ps := []) (rs := []) st_50 zs_50 trivial rfl rfl) rfl ?_
      refine s_st (s_bslice (xs := [.tmp 64]) (ds := [(T_api_Literal.mk false ByteArray.empty)]) Try.underlying53 el_50 rfl (Nat.le_of_ble_eq_true rfl) ⟨(part_agO (ψs := [bv false, sv ByteArray.empty]) rfl ⟨.inl bv_at, .inl sv_at, trivial⟩), trivial⟩) rfl (fun _ => ?_)
      refine pull fun out89 h_out89 => ?_
      refine s_st (s_append h_out89 Try.underlying53 el_50 rfl (j := 0) rfl rfl) rfl (fun o90 => ?_)
      refine as1 rfl rfl ?_
      refine l_nil (n_then (ref_seq ?_))
      refine ref_draw [0, 1, 2, 3, 4, 5, 6] rfl (by kernel_rfl) (fun hok => ?_)
      refine a_rd (i := 0) hok rfl (by kernel_rfl) rfl (r_move rfl) rfl ?_
      refine a_rd (i := 1) hok rfl (by kernel_rfl) rfl (r_move rfl) rfl ?_
      refine a_rd (i := 2) hok rfl (by kernel_rfl) rfl (r_add rfl rfl) rfl ?_
      refine pull fun t91 h_t91 => ?_
      refine a_rd (i := 3) hok rfl (by kernel_rfl) rfl (r_osub h_t91 Try.underlying53 el_50 rfl (j := 0) rfl (.of rfl) .dft) rfl ?_
      refine a_rd (i := 4) hok rfl (by kernel_rfl) rfl (r_move rfl) rfl ?_
      refine a_rd (i := 5) hok rfl (by kernel_rfl) rfl (r_move rfl) rfl ?_
      refine pull fun t92 h_t92 => ?_
      refine a_rd (i := 6) hok rfl (by kernel_rfl) rfl (r_osub h_t92 Try.underlying53 el_50 rfl (j := 0) rfl (.of rfl) .dft) rfl ?_
      refine a_next hok 7 [] (by kernel_rfl) ?_ trivial
      refine a_st (i := 7) hok rfl rfl (s_copyW h_t91 h_t92 Try.underlying53 el_50 rfl (j := 0) rfl rfl) (by intro _ h; cases h; rfl) (fun _ => ⟨trivial, ⟨trivial, ⟨trivial, ⟨trivial, ⟨trivial, ⟨trivial, ⟨trivial, trivial⟩⟩⟩⟩⟩⟩⟩) (fun _ => ?_)
      refine a_fin hok (by kernel_rfl) ?_
      refine n_then (ref_region ?_)
      refine mv1 rfl rfl ?_
      refine mv1 rfl rfl ?_
      refine s_rd (r_cloadS Try.isAgg50 Try.sizeOf50 rfl (j := 1) rfl rfl rfl) rfl ?_
      refine pull fun t93 h_t93 => ?_
      refine s_rd (r_oindex h_t93 Try.underlying53 el_50 rfl (j := 0) rfl rfl) rfl ?_
      refine s_st0 (s_ostore (u := t66) h_t93 el_50 rfl (j := 0) rfl (part_agO (ψs := [bv t66.Neg, sv t66.Name]) rfl ⟨.inl bv_at, .inl sv_at, trivial⟩)) (fun _ => ?_)
      refine l_nil ?_
      refine b_of (nrm [oa rT_api_Literal o90.1 o90.2 ((cpO out89 (iadd .i64 q82 1) (out89.length : Int) q82 (out89.length : Int)).set (Int.toNat q82) t66), oc b67 [bv t66.Neg, sv t66.Name]] rfl) ?_
      refine n_block (n_then (ref_region ?_))
      refine s_rd (r_add rfl rfl) rfl ?_
      refine mv1 rfl rfl ?_
      refine l_nil ?_
      exact goB o90 (weak [0] ⟨rfl, rfl, rfl, rfl, trivial⟩ ⟨rfl, trivial⟩)
    refine ref_exit (x_then ?_)
    exact brkB x64 (weak [0] ⟨rfl, trivial⟩ ⟨rfl, trivial⟩)
  refine n_then (ref_seq (ref_region ?_))
  refine mv1 rfl rfl ?_
  refine as1 rfl rfl ?_
  refine l_nil (n_then (ref_ret ?_))
  exact fin1 (.inl rfl) y95 [0] rfl ⟨rfl, trivial⟩ rfl (rv_tmp rfl)

/-! (*deliberation/deliberationkeep.Src).Base -/
noncomputable def keep_Src_Base_l2 (s97 : Int × T_deliberationkeep_Src × (List T_api_Premise)) (t100 : T_api_Literal × T_deliberationkeep_Src) (s115 : Bool × Int) : Option (Sum (Bool) (Bool × Int)) :=
  bif decide (s115.2 < (s97.2.2.length : Int)) then
    Option.bind (idxM s97.2.2 s115.2) fun t118 =>
    bif s115.1 then
      some (Sum.inr (true, iadd .i64 s115.2 1))
    else
      letM (decide (t118.Literal = t100.1)) fun dup120 =>
      some (Sum.inr (dup120, iadd .i64 s115.2 1))
  else
    some (Sum.inl s115.1)

noncomputable def keep_Src_Base_l1 (n_1 : Int) (s97 : Int × T_deliberationkeep_Src × (List T_api_Premise)) : Option (Sum (T_deliberationkeep_Src × (List T_api_Premise)) (Int × T_deliberationkeep_Src × (List T_api_Premise))) :=
  bif decide (s97.1 > 0) then
    Option.bind (keep_Src_Literal_m s97.2.1 n_1) fun t100 =>
    Option.bind (keep_Src_Pick_m t100.2 [1, 2, 2, 2, 3]) fun t101 =>
    Option.bind (keep_Src_Text_m t101.2 [(ByteArray.mk #[]), (ByteArray.mk #[]), (ByteArray.mk #[97, 110, 110]), (ByteArray.mk #[98, 111, 98])]) fun t102 =>
    joinM (fun j106 : T_deliberationkeep_Src × Int =>
        Option.bind (loopC (keep_Src_Base_l2 s97 t100) (false, 0)) fun q121 : Bool =>
        bif !q121 then
          Option.bind (appM 56 s97.2.2 [(T_api_Premise.mk t100.1 t101.1 j106.2 t102.1)]) fun t124 =>
          letM (isub .i64 s97.1 1) fun k126 =>
          some (Sum.inr (k126, j106.1, t124))
        else
          letM (isub .i64 s97.1 1) fun k127 =>
          some (Sum.inr (k127, j106.1, s97.2.2))) fun k108 =>
    bif t101.1 == 2 then
      Option.bind (keep_Src_N_m t102.2 4) fun t105 =>
      k108 (t105.2, t105.1)
    else
      k108 (t102.2, 0)
  else
    some (Sum.inl (s97.2.1, s97.2.2))

noncomputable def keep_Src_Base_l3 (n_1 : Int) (rules_3 : Int) (s212 : Int × T_deliberationkeep_Src × (List T_api_Rule)) : Option (Sum (T_deliberationkeep_Src × (List T_api_Rule)) (Int × T_deliberationkeep_Src × (List T_api_Rule))) :=
  bif decide (s212.1 > 0) then
    Option.bind (keep_RuleName_m (s212.2.2.length : Int)) fun t215 =>
    Option.bind (keep_Src_N_m s212.2.1 3) fun t216 =>
    Option.bind (keep_Src_Literals_m t216.2 2 n_1) fun t217 =>
    Option.bind (keep_sorted_m t217.1) fun t219 =>
    Option.bind (keep_Src_Literal_m t217.2 n_1) fun t221 =>
    joinM (fun j225 : T_deliberationkeep_Src × Int =>
        joinM (fun j233 : T_deliberationkeep_Src × Bool × ByteArray =>
            Option.bind (appM 80 s212.2.2 [(T_api_Rule.mk t215 (t216.1 == 0) j225.2 t219 (T_api_Literal.mk j233.2.1 j233.2.2))]) fun t236 =>
            letM (isub .i64 s212.1 1) fun k238 =>
            some (Sum.inr (k238, j233.1, t236))) fun k235 =>
        Option.bind (keep_Src_N_m j225.1 6) fun t228 =>
        bif t228.1 == 5 then
          Option.bind (keep_Src_N_m t228.2 4) fun t230 =>
          Option.bind (keep_Src_N_m t230.2 rules_3) fun t231 =>
          Option.bind (keep_RuleName_m t231.1) fun t232 =>
          k235 (t231.2, decide (t230.1 > 0), t232)
        else
          k235 (t228.2, t221.1.Neg, t221.1.Name)) fun k227 =>
    bif !(t216.1 == 0) then
      Option.bind (keep_Src_N_m t221.2 4) fun t224 =>
      k227 (t224.2, t224.1)
    else
      k227 (t221.2, 0)
  else
    some (Sum.inl (s212.2.1, s212.2.2))

noncomputable def keep_Src_Base_l4 (n_1 : Int) (q239 : T_deliberationkeep_Src × (List T_api_Rule)) (s284 : Int × T_deliberationkeep_Src × (List T_api_Promotion)) : Option (Sum (T_deliberationkeep_Src × (List T_api_Promotion)) (Int × T_deliberationkeep_Src × (List T_api_Promotion))) :=
  bif decide (s284.1 > 0) then
    bif decide ((q239.2.length : Int) > 0) then
      Option.bind (keep_Src_N_m s284.2.1 (q239.2.length : Int)) fun t288 =>
      Option.bind (idxM q239.2 t288.1) fun t289 =>
      bif !t289.Strict then
        Option.bind (keep_Src_N_m t288.2 10) fun t292 =>
        Option.bind (keep_Src_Literal_m t292.2 n_1) fun t293 =>
        Option.bind (appM 48 s284.2.2 [(T_api_Promotion.mk t289.Name t292.1 t293.1)]) fun t294 =>
        letM (isub .i64 s284.1 1) fun k296 =>
        some (Sum.inr (k296, t293.2, t294))
      else
        letM (isub .i64 s284.1 1) fun k297 =>
        some (Sum.inr (k297, t288.2, s284.2.2))
    else
      some (Sum.inl (s284.2.1, s284.2.2))
  else
    some (Sum.inl (s284.2.1, s284.2.2))

noncomputable def keep_Src_Base_m (s_0 : T_deliberationkeep_Src) (n_1 : Int) (premises_2 : Int) (rules_3 : Int) : Option (T_api_Base × T_deliberationkeep_Src) :=
  Option.bind (keep_Src_N_m s_0 (iadd .i64 premises_2 1)) fun k3 =>
  Option.bind (loopC (keep_Src_Base_l1 n_1) (k3.1, k3.2, [])) fun q128 : T_deliberationkeep_Src × (List T_api_Premise) =>
  Option.bind (keep_Src_N_m q128.1 (iadd .i64 rules_3 1)) fun k130 =>
  Option.bind (loopC (keep_Src_Base_l3 n_1 rules_3) (k130.1, k130.2, [])) fun q239 : T_deliberationkeep_Src × (List T_api_Rule) =>
  Option.bind (keep_Src_N_m q239.1 3) fun k241 =>
  Option.bind (loopC (keep_Src_Base_l4 n_1 q239) (k241.1, k241.2, [])) fun q298 : T_deliberationkeep_Src × (List T_api_Promotion) =>
  some ((T_api_Base.mk q128.2 q239.2 q298.2), q298.1)

theorem keep_Src_Base_ok {s_0 : T_deliberationkeep_Src} {n_1 : Int} {premises_2 : Int} {rules_3 : Int} {b_0 : Nat} {r : T_api_Base × T_deliberationkeep_Src} (hm : keep_Src_Base_m s_0 n_1 premises_2 rules_3 = some r) :
    FnOk prog 32 [pv (ptr b_0 0), iv .i64 n_1, iv .i64 premises_2, iv .i64 rules_3] [oc b_0 [slv (rI .i64) s_0.L, iv .i64 s_0.At]] (fun (x : Unit) => [ag [slv rT_api_Premise r.1.Premises, slv rT_api_Rule r.1.Rules, slv rT_api_Promotion r.1.Promotions]]) (fun (x : Unit) => [oc b_0 [slv (rI .i64) r.2.L, iv .i64 r.2.At]]) := by
  refine fn_ok (fn := Try.f32) (N := 152) (res := fun r x => [ag [slv rT_api_Premise r.1.Premises, slv rT_api_Rule r.1.Rules, slv rT_api_Promotion r.1.Promotions]]) (Ω1 := fun r x => [oc b_0 [slv (rI .i64) r.2.L, iv .i64 r.2.At]]) Try.func32 rfl rfl hm rfl (fun E hM => ?_)
  unfold keep_Src_Base_m
  refine ref_seq (ref_region ?_)
  refine s_st (s_alloc zt_34) rfl (fun b1 => ?_)
  refine l_nil (n_then (ref_seq (ref_region ?_)))
  refine s_st (s_alloc zt_34) rfl (fun b2 => ?_)
  refine l_nil (n_then (ref_seq (ref_seq (ref_region ?_))))
  refine mv1 rfl rfl ?_
  refine mv1 rfl rfl ?_
  refine s_rd (r_add rfl rfl) rfl ?_
  refine pull fun k3 h_k3 => ?_
  refine s_st (s_callC [0] [true] (fun (_ : Unit) => [oc b_0 [slv (rI .i64) k3.2.L, iv .i64 k3.2.At]]) (fun (_ : Unit) => []) (fun (_ : Unit) => iv .i64 k3.1) (args := [.tmp 19, .tmp 21]) (caps := []) Try.call9 rfl (keep_Src_N_ok h_k3) ⟨rfl, rfl, trivial⟩ (fun _ => rfl) (fun _ => trivial) (fun _ => rfl) ⟨arg rfl, arg rfl, trivial⟩ (fun _ _ _ _ h => h)) rfl (fun _ => ?_)
  refine as1 rfl rfl ?_
  refine l_nil (n_then ?_)
  refine b_of (own_nil rT_api_Premise) ?_
  refine ref_loopB (f := (keep_Src_Base_l1 n_1)) (Γl := (fun (s97 : Int × T_deliberationkeep_Src × (List T_api_Premise)) (x98 : (Value × List Nat)) => [(0, pv (ptr b_0 0)), (1, iv .i64 n_1), (3, iv .i64 rules_3), (8, pv (ptr b1 0)), (9, pv (ptr b2 0)), (10, iv .i64 s97.1)])) (Ωl := (fun (s97 : Int × T_deliberationkeep_Src × (List T_api_Premise)) (x98 : (Value × List Nat)) => [oc b_0 [slv (rI .i64) s97.2.1.L, iv .i64 s97.2.1.At], oc b1 [pv (.slice none 0 0), pv (.slice none 0 0), pv (.slice none 0 0)], oc b2 [pv x98.1, pv (.slice none 0 0), pv (.slice none 0 0)], oa rT_api_Premise x98.1 x98.2 s97.2.2])) (Γb := (fun (q128 : T_deliberationkeep_Src × (List T_api_Premise)) (y129 : (Value × List Nat)) => [(0, pv (ptr b_0 0)), (1, iv .i64 n_1), (3, iv .i64 rules_3), (8, pv (ptr b1 0)), (9, pv (ptr b2 0))])) (Ωb := (fun (q128 : T_deliberationkeep_Src × (List T_api_Premise)) (y129 : (Value × List Nat)) => [oc b_0 [slv (rI .i64) q128.1.L, iv .i64 q128.1.At], oc b1 [pv (.slice none 0 0), pv (.slice none 0 0), pv (.slice none 0 0)], oc b2 [pv y129.1, pv (.slice none 0 0), pv (.slice none 0 0)], oa rT_api_Premise y129.1 y129.2 q128.2])) (k3.1, k3.2, []) ((.slice none 0 0), []) (weak [0, 1, 2, 3] ⟨rfl, rfl, rfl, rfl, rfl, rfl, trivial⟩ ⟨rfl, rfl, rfl, rfl, trivial⟩) (fun s97 x98 => ?_) (fun q128 y129 => ?_)
  · unfold keep_Src_Base_l1
    refine ref_seq (ref_seq (ref_region ?_))
    refine mv1 rfl rfl ?_
    refine s_rd (r_gtr rfl rfl) rfl ?_
    refine l_nil (n_then ?_)
    refine ref_cond rfl (fun hb99 => ?_) (fun hb99 => ?_)
    · refine ref_skip (n_then (ref_seq (ref_block (ref_seq (ref_region ?_)))))
      refine mv1 rfl rfl ?_
      refine mv1 rfl rfl ?_
      refine pull fun t100 h_t100 => ?_
      refine s_st (s_callC [0] [true] (fun (_ : Unit) => [oc b_0 [slv (rI .i64) t100.2.L, iv .i64 t100.2.At]]) (fun (_ : Unit) => []) (fun (_ : Unit) => ag [bv t100.1.Neg, sv t100.1.Name]) (args := [.tmp 27, .tmp 28]) (caps := []) Try.call50 rfl (keep_Src_Literal_ok h_t100) ⟨rfl, rfl, trivial⟩ (fun _ => rfl) (fun _ => trivial) (fun _ => rfl) ⟨arg rfl, arg rfl, trivial⟩ (fun _ _ _ _ h => h)) rfl (fun _ => ?_)
      refine mv1 rfl rfl ?_
      refine s_st (s_bslice (xs := [.const (.int .i64 (1)), .const (.int .i64 (2)), .const (.int .i64 (2)), .const (.int .i64 (2)), .const (.int .i64 (3))]) (ds := [1, 2, 2, 2, 3]) Try.underlying22 el_3 rfl (Nat.le_of_ble_eq_true rfl) ⟨(part_at rfl iv_at), ⟨(part_at rfl iv_at), ⟨(part_at rfl iv_at), ⟨(part_at rfl iv_at), ⟨(part_at rfl iv_at), trivial⟩⟩⟩⟩⟩) rfl (fun _ => ?_)
      refine pull fun t101 h_t101 => ?_
      refine s_st (s_callC [0] [true] (fun (_ : Unit) => [oc b_0 [slv (rI .i64) t101.2.L, iv .i64 t101.2.At]]) (fun (_ : Unit) => []) (fun (_ : Unit) => iv .i64 t101.1) (args := [.tmp 30, .tmp 31]) (caps := []) Try.call51 rfl (keep_Src_Pick_ok h_t101) ⟨rfl, rfl, trivial⟩ (fun _ => rfl) (fun _ => trivial) (fun _ => rfl) ⟨arg rfl, arg rfl, trivial⟩ (fun _ _ _ _ h => h)) rfl (fun _ => ?_)
      refine mv1 rfl rfl ?_
      refine s_st (s_bslice (xs := [.const (.string (ByteArray.mk #[])), .const (.string (ByteArray.mk #[])), .const (.string (ByteArray.mk #[97, 110, 110])), .const (.string (ByteArray.mk #[98, 111, 98]))]) (ds := [(ByteArray.mk #[]), (ByteArray.mk #[]), (ByteArray.mk #[97, 110, 110]), (ByteArray.mk #[98, 111, 98])]) Try.underlying79 el_9 rfl (Nat.le_of_ble_eq_true rfl) ⟨(part_at rfl sv_at), ⟨(part_at rfl sv_at), ⟨(part_at rfl sv_at), ⟨(part_at rfl sv_at), trivial⟩⟩⟩⟩) rfl (fun _ => ?_)
      refine pull fun t102 h_t102 => ?_
      refine s_st (s_callC [0] [true] (fun (_ : Unit) => [oc b_0 [slv (rI .i64) t102.2.L, iv .i64 t102.2.At]]) (fun (_ : Unit) => []) (fun (_ : Unit) => sv t102.1) (args := [.tmp 33, .tmp 34]) (caps := []) Try.call52 rfl (keep_Src_Text_ok h_t102) ⟨rfl, rfl, trivial⟩ (fun _ => rfl) (fun _ => trivial) (fun _ => rfl) ⟨arg rfl, arg rfl, trivial⟩ (fun _ _ _ _ h => h)) rfl (fun _ => ?_)
      refine s_rd (r_build (ps := [(0, .tmp 29), (1, .tmp 32), (3, .tmp 35)]) (rs := [(0, [bv t100.1.Neg, sv t100.1.Name]), (1, [iv .i64 t101.1]), (3, [sv t102.1])]) st_64 zs_64 ⟨rfl, (part_agO (ψs := [bv t100.1.Neg, sv t100.1.Name]) rfl ⟨.inl bv_at, .inl sv_at, trivial⟩), ⟨rfl, (part_at rfl iv_at), ⟨rfl, (part_at rfl sv_at), trivial⟩⟩⟩ rfl rfl) rfl ?_
      refine s_st (s_alloc zt_64) rfl (fun b103 => ?_)
      refine s_st0 (s_cstore (out := [bv t100.1.Neg, sv t100.1.Name, iv .i64 t101.1, iv .i64 0, sv t102.1]) Try.sizeOf64 rfl (j := 4) rfl (part_agO (ψs := [bv t100.1.Neg, sv t100.1.Name, iv .i64 t101.1, iv .i64 0, sv t102.1]) rfl ⟨.inl bv_at, .inl sv_at, .inl iv_at, .inl iv_at, .inl sv_at, trivial⟩) rfl rfl rfl) (fun _ => ?_)
      refine l_nil ?_
      refine b_of (nrm [oc b_0 [slv (rI .i64) t102.2.L, iv .i64 t102.2.At], oc b1 [pv (.slice none 0 0), pv (.slice none 0 0), pv (.slice none 0 0)], oc b2 [pv x98.1, pv (.slice none 0 0), pv (.slice none 0 0)], oa rT_api_Premise x98.1 x98.2 s97.2.2, oc b103 [bv t100.1.Neg, sv t100.1.Name, iv .i64 t101.1, iv .i64 0, sv t102.1]] rfl) ?_
      refine n_then (ref_seq ?_)
      refine ref_join (fun (j106 : T_deliberationkeep_Src × Int) (x107 : Unit) => [(0, pv (ptr b_0 0)), (1, iv .i64 n_1), (3, iv .i64 rules_3), (8, pv (ptr b1 0)), (9, pv (ptr b2 0)), (10, iv .i64 s97.1), (11, pv (ptr b103 0))]) (fun (j106 : T_deliberationkeep_Src × Int) (x107 : Unit) => [oc b_0 [slv (rI .i64) j106.1.L, iv .i64 j106.1.At], oc b1 [pv (.slice none 0 0), pv (.slice none 0 0), pv (.slice none 0 0)], oc b2 [pv x98.1, pv (.slice none 0 0), pv (.slice none 0 0)], oa rT_api_Premise x98.1 x98.2 s97.2.2, oc b103 [bv t100.1.Neg, sv t100.1.Name, iv .i64 t101.1, iv .i64 j106.2, sv t102.1]]) (fun k108 hk108 => ?_) (fun j106 x107 => ?_)
      · refine ref_seq (ref_region ?_)
        refine s_rd (r_faddr (fo := 2) Try.underlying64 rfl rfl Try.sizeOf3 rfl) rfl ?_
        refine s_rd (r_cload Try.isAgg3 rfl (j := 4) rfl rfl) rfl ?_
        refine s_rd (r_eql rfl rfl) rfl ?_
        refine l_nil (n_then ?_)
        refine ref_cond rfl (fun hb104 => ?_) (fun hb104 => ?_)
        · refine ref_region ?_
          refine mv1 rfl rfl ?_
          refine pull fun t105 h_t105 => ?_
          refine s_st (s_callC [0] [true] (fun (_ : Unit) => [oc b_0 [slv (rI .i64) t105.2.L, iv .i64 t105.2.At]]) (fun (_ : Unit) => []) (fun (_ : Unit) => iv .i64 t105.1) (args := [.tmp 40, .const (.int .i64 (4))]) (caps := []) Try.call9 rfl (keep_Src_N_ok h_t105) ⟨rfl, rfl, trivial⟩ (fun _ => rfl) (fun _ => trivial) (fun _ => rfl) ⟨arg rfl, arg rfl, trivial⟩ (fun _ _ _ _ h => h)) rfl (fun _ => ?_)
          refine s_rd (r_faddr (fo := 3) Try.underlying64 rfl rfl Try.sizeOf3 rfl) rfl ?_
          refine s_st0 (s_cstore (out := [bv t100.1.Neg, sv t100.1.Name, iv .i64 t101.1, iv .i64 t105.1, sv t102.1]) Try.sizeOf3 rfl (j := 4) rfl (part_at rfl iv_at) rfl rfl rfl) (fun _ => ?_)
          refine l_nil ?_
          exact b_to (hk108 (t105.2, t105.1) ()) (weak [0, 1, 2, 3, 4] ⟨rfl, rfl, rfl, rfl, rfl, rfl, rfl, trivial⟩ ⟨rfl, rfl, rfl, rfl, rfl, trivial⟩)
        refine ref_skip ?_
        exact b_to (hk108 (t102.2, 0) ()) (weak [0, 1, 2, 3, 4] ⟨rfl, rfl, rfl, rfl, rfl, rfl, rfl, trivial⟩ ⟨rfl, rfl, rfl, rfl, rfl, trivial⟩)
      refine n_then (ref_seq (ref_region ?_))
      refine as1 rfl rfl ?_
      refine l_nil (n_then (ref_seq (ref_seq (ref_region ?_))))
      refine s_rd (r_faddr (fo := 0) Try.underlying34 rfl rfl Try.sizeOf30 rfl) rfl ?_
      refine s_rd (r_cload Try.isAgg30 rfl (j := 2) rfl rfl) rfl ?_
      refine s_rd (r_olen Try.underlying30 rfl (j := 3) rfl) rfl ?_
      refine mv1 rfl rfl ?_
      refine l_nil (n_then ?_)
      refine ref_loopB (f := (keep_Src_Base_l2 s97 t100)) (Γl := (fun (s115 : Bool × Int) (x116 : Unit) => [(0, pv (ptr b_0 0)), (1, iv .i64 n_1), (3, iv .i64 rules_3), (8, pv (ptr b1 0)), (9, pv (ptr b2 0)), (10, iv .i64 s97.1), (11, pv (ptr b103 0)), (12, bv s115.1), (44, pv x98.1), (45, iv .i64 (s97.2.2.length : Int)), (46, iv .i64 s115.2)])) (Ωl := (fun (s115 : Bool × Int) (x116 : Unit) => [oc b_0 [slv (rI .i64) j106.1.L, iv .i64 j106.1.At], oc b1 [pv (.slice none 0 0), pv (.slice none 0 0), pv (.slice none 0 0)], oc b2 [pv x98.1, pv (.slice none 0 0), pv (.slice none 0 0)], oa rT_api_Premise x98.1 x98.2 s97.2.2, oc b103 [bv t100.1.Neg, sv t100.1.Name, iv .i64 t101.1, iv .i64 j106.2, sv t102.1]])) (Γb := (fun (q121 : Bool) (y122 : Unit) => [(0, pv (ptr b_0 0)), (1, iv .i64 n_1), (3, iv .i64 rules_3), (8, pv (ptr b1 0)), (9, pv (ptr b2 0)), (10, iv .i64 s97.1), (11, pv (ptr b103 0)), (12, bv q121)])) (Ωb := (fun (q121 : Bool) (y122 : Unit) => [oc b_0 [slv (rI .i64) j106.1.L, iv .i64 j106.1.At], oc b1 [pv (.slice none 0 0), pv (.slice none 0 0), pv (.slice none 0 0)], oc b2 [pv x98.1, pv (.slice none 0 0), pv (.slice none 0 0)], oa rT_api_Premise x98.1 x98.2 s97.2.2, oc b103 [bv t100.1.Neg, sv t100.1.Name, iv .i64 t101.1, iv .i64 j106.2, sv t102.1]])) (false, 0) () (weak [0, 1, 2, 3, 4] ⟨rfl, rfl, rfl, rfl, rfl, rfl, rfl, rfl, rfl, rfl, rfl, trivial⟩ ⟨rfl, rfl, rfl, rfl, rfl, trivial⟩) (fun s115 x116 => ?_) (fun q121 y122 => ?_)
      · unfold keep_Src_Base_l2
        refine ref_seq (ref_region ?_)
        refine s_rd (r_lss rfl rfl) rfl ?_
        refine l_nil (n_then (ref_seq ?_))
        refine ref_cond rfl (fun hb117 => ?_) (fun hb117 => ?_)
        · refine ref_skip (n_then (ref_seq (ref_block (ref_seq (ref_region ?_)))))
          refine pull fun t118 h_t118 => ?_
          refine s_rd (r_oindex h_t118 Try.underlying30 el_64 rfl (j := 3) rfl rfl) rfl ?_
          refine s_rd (r_oload h_t118 el_64 rfl (j := 3) rfl) rfl ?_
          refine s_st (s_alloc zt_64) rfl (fun b119 => ?_)
          refine s_st0 (s_cstore (out := [bv t118.Literal.Neg, sv t118.Literal.Name, iv .i64 t118.Kind, iv .i64 t118.Rank, sv t118.Source]) Try.sizeOf64 rfl (j := 5) rfl (part_agO (ψs := [bv t118.Literal.Neg, sv t118.Literal.Name, iv .i64 t118.Kind, iv .i64 t118.Rank, sv t118.Source]) rfl ⟨.inl bv_at, .inl sv_at, .inl iv_at, .inl iv_at, .inl sv_at, trivial⟩) rfl rfl rfl) (fun _ => ?_)
          refine l_nil (n_then (ref_region ?_))
          refine mv1 rfl rfl ?_
          refine mv1 rfl rfl ?_
          refine b_split (t := 51) rfl (fun _ => ?_) (fun _ => ?_)
          · refine s_off rfl rfl rfl rfl rfl ?_
            refine s_off rfl rfl rfl rfl rfl ?_
            refine s_off rfl rfl rfl rfl rfl ?_
            refine s_off rfl rfl rfl rfl rfl ?_
            refine s_off rfl rfl rfl rfl rfl ?_
            refine s_rd (r_pickT rfl rfl) rfl ?_
            refine as1 rfl rfl ?_
            refine l_nil (n_block (n_then (ref_region ?_)))
            refine s_rd (r_add rfl rfl) rfl ?_
            refine mv1 rfl rfl ?_
            refine l_nil ?_
            exact goB () (weak [0, 1, 2, 3, 4] ⟨rfl, rfl, rfl, rfl, rfl, rfl, rfl, rfl, rfl, rfl, rfl, trivial⟩ ⟨rfl, rfl, rfl, rfl, rfl, trivial⟩)
          refine s_on rfl rfl rfl ?_
          refine s_rd (r_faddr (fo := 0) Try.underlying64 rfl rfl Try.sizeOf50 rfl) rfl ?_
          refine s_on rfl rfl rfl ?_
          refine s_rd (r_cloadS Try.isAgg50 Try.sizeOf50 rfl (j := 5) rfl rfl rfl) rfl ?_
          refine s_on rfl rfl rfl ?_
          refine s_rd (r_faddr (fo := 0) Try.underlying64 rfl rfl Try.sizeOf50 rfl) rfl ?_
          refine s_on rfl rfl rfl ?_
          refine s_rd (r_cloadS Try.isAgg50 Try.sizeOf50 rfl (j := 4) rfl rfl rfl) rfl ?_
          refine s_on rfl rfl rfl ?_
          refine s_rd (r_steql (u := t118.Literal) (v := t100.1) eq_50 rfl rfl rfl rfl) rfl ?_
          refine s_rd (r_pickF rfl rfl) rfl ?_
          refine as1 rfl rfl ?_
          refine b_let (f := bv) (t := 12) rfl fun dup120 => ?_
          refine l_nil (n_block (n_then (ref_region ?_)))
          refine s_rd (r_add rfl rfl) rfl ?_
          refine mv1 rfl rfl ?_
          refine l_nil ?_
          exact goB () (weak [0, 1, 2, 3, 4] ⟨rfl, rfl, rfl, rfl, rfl, rfl, rfl, rfl, rfl, rfl, rfl, trivial⟩ ⟨rfl, rfl, rfl, rfl, rfl, trivial⟩)
        refine ref_exit (x_then ?_)
        exact brkB () (weak [0, 1, 2, 3, 4] ⟨rfl, rfl, rfl, rfl, rfl, rfl, rfl, rfl, trivial⟩ ⟨rfl, rfl, rfl, rfl, rfl, trivial⟩)
      refine n_then (ref_seq (ref_region ?_))
      refine mv1 rfl rfl ?_
      refine s_rd (r_not rfl) rfl ?_
      refine l_nil (n_then ?_)
      refine ref_cond rfl (fun hb123 => ?_) (fun hb123 => ?_)
      · refine ref_region ?_
        refine s_rd (r_faddr (fo := 0) Try.underlying34 rfl rfl Try.sizeOf30 rfl) rfl ?_
        refine s_rd (r_cload Try.isAgg30 rfl (j := 2) rfl rfl) rfl ?_
        refine s_rd (r_cloadS Try.isAgg64 Try.sizeOf64 rfl (j := 4) rfl rfl rfl) rfl ?_
        refine s_st (s_bslice (xs := [.tmp 63]) (ds := [(T_api_Premise.mk t100.1 t101.1 j106.2 t102.1)]) Try.underlying30 el_64 rfl (Nat.le_of_ble_eq_true rfl) ⟨(part_agO (ψs := [bv t100.1.Neg, sv t100.1.Name, iv .i64 t101.1, iv .i64 j106.2, sv t102.1]) rfl ⟨.inl bv_at, .inl sv_at, .inl iv_at, .inl iv_at, .inl sv_at, trivial⟩), trivial⟩) rfl (fun _ => ?_)
        refine pull fun t124 h_t124 => ?_
        refine s_st (s_append h_t124 Try.underlying30 el_64 rfl (j := 3) rfl rfl) rfl (fun o125 => ?_)
        refine s_rd (r_faddr (fo := 0) Try.underlying34 rfl rfl Try.sizeOf30 rfl) rfl ?_
        refine s_st0 (s_cstore (out := [pv o125.1, pv (.slice none 0 0), pv (.slice none 0 0)]) Try.sizeOf30 rfl (j := 2) rfl (part_own rfl (j := 3) rfl) rfl rfl rfl) (fun _ => ?_)
        refine l_nil (n_block (n_then (ref_region ?_)))
        refine mv1 rfl rfl ?_
        refine s_rd (r_sub rfl rfl) rfl ?_
        refine as1 rfl rfl ?_
        refine b_let (f := iv .i64) (t := 10) rfl fun k126 => ?_
        refine l_nil ?_
        exact goB o125 (weak [0, 1, 2, 3] ⟨rfl, rfl, rfl, rfl, rfl, rfl, trivial⟩ ⟨rfl, rfl, rfl, rfl, trivial⟩)
      refine ref_skip (n_block (n_then (ref_region ?_)))
      refine mv1 rfl rfl ?_
      refine s_rd (r_sub rfl rfl) rfl ?_
      refine as1 rfl rfl ?_
      refine b_let (f := iv .i64) (t := 10) rfl fun k127 => ?_
      refine l_nil ?_
      exact goB x98 (weak [0, 1, 2, 3] ⟨rfl, rfl, rfl, rfl, rfl, rfl, trivial⟩ ⟨rfl, rfl, rfl, rfl, trivial⟩)
    refine ref_exit (x_then ?_)
    exact brkB x98 (weak [0, 1, 2, 3] ⟨rfl, rfl, rfl, rfl, rfl, trivial⟩ ⟨rfl, rfl, rfl, rfl, trivial⟩)
  refine n_then (ref_seq (ref_seq (ref_region ?_)))
  refine mv1 rfl rfl ?_
  refine mv1 rfl rfl ?_
  refine s_rd (r_add rfl rfl) rfl ?_
  refine pull fun k130 h_k130 => ?_
  refine s_st (s_callC [0] [true] (fun (_ : Unit) => [oc b_0 [slv (rI .i64) k130.2.L, iv .i64 k130.2.At]]) (fun (_ : Unit) => []) (fun (_ : Unit) => iv .i64 k130.1) (args := [.tmp 67, .tmp 69]) (caps := []) Try.call9 rfl (keep_Src_N_ok h_k130) ⟨rfl, rfl, trivial⟩ (fun _ => rfl) (fun _ => trivial) (fun _ => rfl) ⟨arg rfl, arg rfl, trivial⟩ (fun _ _ _ _ h => h)) rfl (fun _ => ?_)
  refine as1 rfl rfl ?_
  refine l_nil (n_then ?_)
  refine b_of (own_nil rT_api_Rule) ?_
  refine ref_loopB (f := (keep_Src_Base_l3 n_1 rules_3)) (Γl := (fun (s212 : Int × T_deliberationkeep_Src × (List T_api_Rule)) (x213 : (Value × List Nat)) => [(0, pv (ptr b_0 0)), (1, iv .i64 n_1), (3, iv .i64 rules_3), (8, pv (ptr b1 0)), (9, pv (ptr b2 0)), (15, iv .i64 s212.1)])) (Ωl := (fun (s212 : Int × T_deliberationkeep_Src × (List T_api_Rule)) (x213 : (Value × List Nat)) => [oc b_0 [slv (rI .i64) s212.2.1.L, iv .i64 s212.2.1.At], oc b1 [pv (.slice none 0 0), pv (.slice none 0 0), pv (.slice none 0 0)], oc b2 [pv y129.1, pv x213.1, pv (.slice none 0 0)], oa rT_api_Premise y129.1 y129.2 q128.2, oa rT_api_Rule x213.1 x213.2 s212.2.2])) (Γb := (fun (q239 : T_deliberationkeep_Src × (List T_api_Rule)) (y240 : (Value × List Nat)) => [(0, pv (ptr b_0 0)), (1, iv .i64 n_1), (8, pv (ptr b1 0)), (9, pv (ptr b2 0))])) (Ωb := (fun (q239 : T_deliberationkeep_Src × (List T_api_Rule)) (y240 : (Value × List Nat)) => [oc b_0 [slv (rI .i64) q239.1.L, iv .i64 q239.1.At], oc b1 [pv (.slice none 0 0), pv (.slice none 0 0), pv (.slice none 0 0)], oc b2 [pv y129.1, pv y240.1, pv (.slice none 0 0)], oa rT_api_Premise y129.1 y129.2 q128.2, oa rT_api_Rule y240.1 y240.2 q239.2])) (k130.1, k130.2, []) ((.slice none 0 0), []) (weak [0, 1, 2, 3, 4] ⟨rfl, rfl, rfl, rfl, rfl, rfl, trivial⟩ ⟨rfl, rfl, rfl, rfl, rfl, trivial⟩) (fun s212 x213 => ?_) (fun q239 y240 => ?_)
  · unfold keep_Src_Base_l3
    refine ref_seq (ref_seq (ref_region ?_))
    refine mv1 rfl rfl ?_
    refine s_rd (r_gtr rfl rfl) rfl ?_
    refine l_nil (n_then ?_)
    refine ref_cond rfl (fun hb214 => ?_) (fun hb214 => ?_)
    · refine ref_skip (n_then (ref_seq (ref_block (ref_seq (ref_region ?_)))))
      refine s_rd (r_faddr (fo := 1) Try.underlying34 rfl rfl Try.sizeOf31 rfl) rfl ?_
      refine s_rd (r_cload Try.isAgg31 rfl (j := 2) rfl rfl) rfl ?_
      refine s_rd (r_olen Try.underlying31 rfl (j := 4) rfl) rfl ?_
      refine pull fun t215 h_t215 => ?_
      refine s_st (s_call (ψ := fun (_ : Unit) => sv t215) (args := [.tmp 77]) Try.call53 rfl (keep_RuleName_ok h_t215) ⟨arg rfl, trivial⟩ (fun _ _ _ _ h => h)) rfl (fun _ => ?_)
      refine mv1 rfl rfl ?_
      refine pull fun t216 h_t216 => ?_
      refine s_st (s_callC [0] [true] (fun (_ : Unit) => [oc b_0 [slv (rI .i64) t216.2.L, iv .i64 t216.2.At]]) (fun (_ : Unit) => []) (fun (_ : Unit) => iv .i64 t216.1) (args := [.tmp 79, .const (.int .i64 (3))]) (caps := []) Try.call9 rfl (keep_Src_N_ok h_t216) ⟨rfl, rfl, trivial⟩ (fun _ => rfl) (fun _ => trivial) (fun _ => rfl) ⟨arg rfl, arg rfl, trivial⟩ (fun _ _ _ _ h => h)) rfl (fun _ => ?_)
      refine s_rd (r_eql rfl rfl) rfl ?_
      refine mv1 rfl rfl ?_
      refine mv1 rfl rfl ?_
      refine pull fun t217 h_t217 => ?_
      refine s_st (s_callC [0] [true] (fun (x218 : (Value × List Nat)) => [oc b_0 [slv (rI .i64) t217.2.L, iv .i64 t217.2.At]]) (fun (x218 : (Value × List Nat)) => [oa rT_api_Literal x218.1 x218.2 t217.1]) (fun (x218 : (Value × List Nat)) => pv x218.1) (args := [.tmp 82, .const (.int .i64 (2)), .tmp 83]) (caps := []) Try.call55 rfl (keep_Src_Literals_ok h_t217) ⟨rfl, rfl, trivial⟩ (fun _ => rfl) (fun _ => trivial) (fun _ => rfl) ⟨arg rfl, arg rfl, arg rfl, trivial⟩ (fun _ _ _ _ h => h)) rfl (fun x218 => ?_)
      refine b_of (frzL [84] (j := 5) rfl ⟨rfl, trivial⟩) ?_
      refine pull fun t219 h_t219 => ?_
      refine s_st (s_call (ψ := fun (x220 : (Value × List Nat)) => pv x220.1) (args := [.tmp 84]) Try.call54 rfl (keep_sorted_ok h_t219) ⟨arg rfl, trivial⟩ (fun _ _ _ _ h => h)) rfl (fun x220 => ?_)
      refine mv1 rfl rfl ?_
      refine mv1 rfl rfl ?_
      refine pull fun t221 h_t221 => ?_
      refine s_st (s_callC [0] [true] (fun (_ : Unit) => [oc b_0 [slv (rI .i64) t221.2.L, iv .i64 t221.2.At]]) (fun (_ : Unit) => []) (fun (_ : Unit) => ag [bv t221.1.Neg, sv t221.1.Name]) (args := [.tmp 86, .tmp 87]) (caps := []) Try.call50 rfl (keep_Src_Literal_ok h_t221) ⟨rfl, rfl, trivial⟩ (fun _ => rfl) (fun _ => trivial) (fun _ => rfl) ⟨arg rfl, arg rfl, trivial⟩ (fun _ _ _ _ h => h)) rfl (fun _ => ?_)
      refine s_rd (r_build (ps := [(0, .tmp 78), (1, .tmp 81), (3, .tmp 85), (4, .tmp 88)]) (rs := [(0, [sv t215]), (1, [bv (t216.1 == 0)]), (3, [pv x220.1]), (4, [bv t221.1.Neg, sv t221.1.Name])]) st_55 zs_55 ⟨rfl, (part_at rfl sv_at), ⟨rfl, (part_at rfl bv_at), ⟨rfl, (part_own rfl (j := 6) rfl), ⟨rfl, (part_agO (ψs := [bv t221.1.Neg, sv t221.1.Name]) rfl ⟨.inl bv_at, .inl sv_at, trivial⟩), trivial⟩⟩⟩⟩ rfl rfl) rfl ?_
      refine s_st (s_alloc zt_55) rfl (fun b222 => ?_)
      refine s_st0 (s_cstore (out := [sv t215, bv (t216.1 == 0), iv .i64 0, pv x220.1, bv t221.1.Neg, sv t221.1.Name]) Try.sizeOf55 rfl (j := 7) rfl (part_agO (ψs := [sv t215, bv (t216.1 == 0), iv .i64 0, pv x220.1, bv t221.1.Neg, sv t221.1.Name]) rfl ⟨.inl sv_at, .inl bv_at, .inl iv_at, .inr ⟨_, _, _, _, _, 6, rfl, rfl⟩, .inl bv_at, .inl sv_at, trivial⟩) rfl rfl rfl) (fun _ => ?_)
      refine l_nil ?_
      refine b_of (nrm [oc b_0 [slv (rI .i64) t221.2.L, iv .i64 t221.2.At], oc b1 [pv (.slice none 0 0), pv (.slice none 0 0), pv (.slice none 0 0)], oc b2 [pv y129.1, pv x213.1, pv (.slice none 0 0)], oa rT_api_Premise y129.1 y129.2 q128.2, oa rT_api_Rule x213.1 x213.2 s212.2.2, dead, oa rT_api_Literal x220.1 x220.2 t219, oc b222 [sv t215, bv (t216.1 == 0), iv .i64 0, pv x220.1, bv t221.1.Neg, sv t221.1.Name]] rfl) ?_
      refine n_then (ref_seq ?_)
      refine ref_join (fun (j225 : T_deliberationkeep_Src × Int) (x226 : Unit) => [(0, pv (ptr b_0 0)), (1, iv .i64 n_1), (3, iv .i64 rules_3), (8, pv (ptr b1 0)), (9, pv (ptr b2 0)), (15, iv .i64 s212.1), (16, pv (ptr b222 0))]) (fun (j225 : T_deliberationkeep_Src × Int) (x226 : Unit) => [oc b_0 [slv (rI .i64) j225.1.L, iv .i64 j225.1.At], oc b1 [pv (.slice none 0 0), pv (.slice none 0 0), pv (.slice none 0 0)], oc b2 [pv y129.1, pv x213.1, pv (.slice none 0 0)], oa rT_api_Premise y129.1 y129.2 q128.2, oa rT_api_Rule x213.1 x213.2 s212.2.2, oc b222 [sv t215, bv (t216.1 == 0), iv .i64 j225.2, pv x220.1, bv t221.1.Neg, sv t221.1.Name], oa rT_api_Literal x220.1 x220.2 t219]) (fun k227 hk227 => ?_) (fun j225 x226 => ?_)
      · refine ref_seq (ref_region ?_)
        refine s_rd (r_faddr (fo := 1) Try.underlying55 rfl rfl Try.sizeOf4 rfl) rfl ?_
        refine s_rd (r_cload Try.isAgg4 rfl (j := 7) rfl rfl) rfl ?_
        refine s_rd (r_not rfl) rfl ?_
        refine l_nil (n_then ?_)
        refine ref_cond rfl (fun hb223 => ?_) (fun hb223 => ?_)
        · refine ref_region ?_
          refine mv1 rfl rfl ?_
          refine pull fun t224 h_t224 => ?_
          refine s_st (s_callC [0] [true] (fun (_ : Unit) => [oc b_0 [slv (rI .i64) t224.2.L, iv .i64 t224.2.At]]) (fun (_ : Unit) => []) (fun (_ : Unit) => iv .i64 t224.1) (args := [.tmp 93, .const (.int .i64 (4))]) (caps := []) Try.call9 rfl (keep_Src_N_ok h_t224) ⟨rfl, rfl, trivial⟩ (fun _ => rfl) (fun _ => trivial) (fun _ => rfl) ⟨arg rfl, arg rfl, trivial⟩ (fun _ _ _ _ h => h)) rfl (fun _ => ?_)
          refine s_rd (r_faddr (fo := 2) Try.underlying55 rfl rfl Try.sizeOf3 rfl) rfl ?_
          refine s_st0 (s_cstore (out := [sv t215, bv (t216.1 == 0), iv .i64 t224.1, pv x220.1, bv t221.1.Neg, sv t221.1.Name]) Try.sizeOf3 rfl (j := 7) rfl (part_at rfl iv_at) rfl rfl rfl) (fun _ => ?_)
          refine l_nil ?_
          exact b_to (hk227 (t224.2, t224.1) ()) (weak [0, 1, 2, 3, 4, 7, 6] ⟨rfl, rfl, rfl, rfl, rfl, rfl, rfl, trivial⟩ ⟨rfl, rfl, rfl, rfl, rfl, rfl, rfl, trivial⟩)
        refine ref_skip ?_
        exact b_to (hk227 (t221.2, 0) ()) (weak [0, 1, 2, 3, 4, 7, 6] ⟨rfl, rfl, rfl, rfl, rfl, rfl, rfl, trivial⟩ ⟨rfl, rfl, rfl, rfl, rfl, rfl, rfl, trivial⟩)
      refine n_then (ref_seq ?_)
      refine ref_join (fun (j233 : T_deliberationkeep_Src × Bool × ByteArray) (x234 : Unit) => [(0, pv (ptr b_0 0)), (1, iv .i64 n_1), (3, iv .i64 rules_3), (8, pv (ptr b1 0)), (9, pv (ptr b2 0)), (15, iv .i64 s212.1), (16, pv (ptr b222 0))]) (fun (j233 : T_deliberationkeep_Src × Bool × ByteArray) (x234 : Unit) => [oc b_0 [slv (rI .i64) j233.1.L, iv .i64 j233.1.At], oc b1 [pv (.slice none 0 0), pv (.slice none 0 0), pv (.slice none 0 0)], oc b2 [pv y129.1, pv x213.1, pv (.slice none 0 0)], oa rT_api_Premise y129.1 y129.2 q128.2, oa rT_api_Rule x213.1 x213.2 s212.2.2, oc b222 [sv t215, bv (t216.1 == 0), iv .i64 j225.2, pv x220.1, bv j233.2.1, sv j233.2.2], oa rT_api_Literal x220.1 x220.2 t219]) (fun k235 hk235 => ?_) (fun j233 x234 => ?_)
      · refine ref_seq (ref_region ?_)
        refine mv1 rfl rfl ?_
        refine pull fun t228 h_t228 => ?_
        refine s_st (s_callC [0] [true] (fun (_ : Unit) => [oc b_0 [slv (rI .i64) t228.2.L, iv .i64 t228.2.At]]) (fun (_ : Unit) => []) (fun (_ : Unit) => iv .i64 t228.1) (args := [.tmp 96, .const (.int .i64 (6))]) (caps := []) Try.call9 rfl (keep_Src_N_ok h_t228) ⟨rfl, rfl, trivial⟩ (fun _ => rfl) (fun _ => trivial) (fun _ => rfl) ⟨arg rfl, arg rfl, trivial⟩ (fun _ _ _ _ h => h)) rfl (fun _ => ?_)
        refine s_rd (r_eql rfl rfl) rfl ?_
        refine l_nil (n_then ?_)
        refine ref_cond rfl (fun hb229 => ?_) (fun hb229 => ?_)
        · refine ref_region ?_
          refine mv1 rfl rfl ?_
          refine pull fun t230 h_t230 => ?_
          refine s_st (s_callC [0] [true] (fun (_ : Unit) => [oc b_0 [slv (rI .i64) t230.2.L, iv .i64 t230.2.At]]) (fun (_ : Unit) => []) (fun (_ : Unit) => iv .i64 t230.1) (args := [.tmp 99, .const (.int .i64 (4))]) (caps := []) Try.call9 rfl (keep_Src_N_ok h_t230) ⟨rfl, rfl, trivial⟩ (fun _ => rfl) (fun _ => trivial) (fun _ => rfl) ⟨arg rfl, arg rfl, trivial⟩ (fun _ _ _ _ h => h)) rfl (fun _ => ?_)
          refine s_rd (r_gtr rfl rfl) rfl ?_
          refine mv1 rfl rfl ?_
          refine mv1 rfl rfl ?_
          refine pull fun t231 h_t231 => ?_
          refine s_st (s_callC [0] [true] (fun (_ : Unit) => [oc b_0 [slv (rI .i64) t231.2.L, iv .i64 t231.2.At]]) (fun (_ : Unit) => []) (fun (_ : Unit) => iv .i64 t231.1) (args := [.tmp 102, .tmp 103]) (caps := []) Try.call9 rfl (keep_Src_N_ok h_t231) ⟨rfl, rfl, trivial⟩ (fun _ => rfl) (fun _ => trivial) (fun _ => rfl) ⟨arg rfl, arg rfl, trivial⟩ (fun _ _ _ _ h => h)) rfl (fun _ => ?_)
          refine pull fun t232 h_t232 => ?_
          refine s_st (s_call (ψ := fun (_ : Unit) => sv t232) (args := [.tmp 104]) Try.call53 rfl (keep_RuleName_ok h_t232) ⟨arg rfl, trivial⟩ (fun _ _ _ _ h => h)) rfl (fun _ => ?_)
          refine s_rd (r_build (ps := [(0, .tmp 101), (1, .tmp 105)]) (rs := [(0, [bv (decide (t230.1 > 0))]), (1, [sv t232])]) st_50 zs_50 ⟨rfl, (part_at rfl bv_at), ⟨rfl, (part_at rfl sv_at), trivial⟩⟩ rfl rfl) rfl ?_
          refine s_rd (r_faddr (fo := 4) Try.underlying55 rfl rfl Try.sizeOf50 rfl) rfl ?_
          refine s_st0 (s_cstore (out := [sv t215, bv (t216.1 == 0), iv .i64 j225.2, pv x220.1, bv (decide (t230.1 > 0)), sv t232]) Try.sizeOf50 rfl (j := 5) rfl (part_agO (ψs := [bv (decide (t230.1 > 0)), sv t232]) rfl ⟨.inl bv_at, .inl sv_at, trivial⟩) rfl rfl rfl) (fun _ => ?_)
          refine l_nil ?_
          refine b_of (nrm [oc b_0 [slv (rI .i64) t231.2.L, iv .i64 t231.2.At], oc b1 [pv (.slice none 0 0), pv (.slice none 0 0), pv (.slice none 0 0)], oc b2 [pv y129.1, pv x213.1, pv (.slice none 0 0)], oa rT_api_Premise y129.1 y129.2 q128.2, oa rT_api_Rule x213.1 x213.2 s212.2.2, oc b222 [sv t215, bv (t216.1 == 0), iv .i64 j225.2, pv x220.1, bv (decide (t230.1 > 0)), sv t232], oa rT_api_Literal x220.1 x220.2 t219] rfl) ?_
          exact b_to (hk235 (t231.2, decide (t230.1 > 0), t232) ()) (weak [0, 1, 2, 3, 4, 5, 6] ⟨rfl, rfl, rfl, rfl, rfl, rfl, rfl, trivial⟩ ⟨rfl, rfl, rfl, rfl, rfl, rfl, rfl, trivial⟩)
        refine ref_skip ?_
        exact b_to (hk235 (t228.2, t221.1.Neg, t221.1.Name) ()) (weak [0, 1, 2, 3, 4, 5, 6] ⟨rfl, rfl, rfl, rfl, rfl, rfl, rfl, trivial⟩ ⟨rfl, rfl, rfl, rfl, rfl, rfl, rfl, trivial⟩)
      refine n_then (ref_region ?_)
      refine s_rd (r_faddr (fo := 1) Try.underlying34 rfl rfl Try.sizeOf31 rfl) rfl ?_
      refine s_rd (r_cload Try.isAgg31 rfl (j := 2) rfl rfl) rfl ?_
      refine s_rd (r_cloadS Try.isAgg55 Try.sizeOf55 rfl (j := 5) rfl rfl rfl) rfl ?_
      refine b_of (frzGL [(110, ag [sv t215, bv (t216.1 == 0), iv .i64 j225.2, slv rT_api_Literal t219, bv j233.2.1, sv j233.2.2])] [(5, b222, [sv t215, bv (t216.1 == 0), iv .i64 j225.2, slv rT_api_Literal t219, bv j233.2.1, sv j233.2.2])] (j := 6) rfl ⟨⟨_, rfl, .inr ⟨_, _, rfl, rfl, ⟨.inl rfl, .inl rfl, .inl rfl, .inr ⟨rfl, rfl⟩, .inl rfl, .inl rfl, trivial⟩⟩⟩, trivial⟩ ⟨⟨_, rfl, ⟨.inl rfl, .inl rfl, .inl rfl, .inr ⟨rfl, rfl⟩, .inl rfl, .inl rfl, trivial⟩⟩, trivial⟩) ?_
      refine s_st (s_bslice (xs := [.tmp 110]) (ds := [(T_api_Rule.mk t215 (t216.1 == 0) j225.2 t219 (T_api_Literal.mk j233.2.1 j233.2.2))]) Try.underlying31 el_55 rfl (Nat.le_of_ble_eq_true rfl) ⟨(part_agO (ψs := [sv t215, bv (t216.1 == 0), iv .i64 j225.2, slv rT_api_Literal t219, bv j233.2.1, sv j233.2.2]) rfl ⟨.inl sv_at, .inl bv_at, .inl iv_at, .inl slv_at, .inl bv_at, .inl sv_at, trivial⟩), trivial⟩) rfl (fun _ => ?_)
      refine pull fun t236 h_t236 => ?_
      refine s_st (s_append h_t236 Try.underlying31 el_55 rfl (j := 4) rfl rfl) rfl (fun o237 => ?_)
      refine s_rd (r_faddr (fo := 1) Try.underlying34 rfl rfl Try.sizeOf31 rfl) rfl ?_
      refine s_st0 (s_cstore (out := [pv y129.1, pv o237.1, pv (.slice none 0 0)]) Try.sizeOf31 rfl (j := 2) rfl (part_own rfl (j := 4) rfl) rfl rfl rfl) (fun _ => ?_)
      refine l_nil (n_block (n_then (ref_region ?_)))
      refine mv1 rfl rfl ?_
      refine s_rd (r_sub rfl rfl) rfl ?_
      refine as1 rfl rfl ?_
      refine b_let (f := iv .i64) (t := 15) rfl fun k238 => ?_
      refine l_nil ?_
      exact goB o237 (weak [0, 1, 2, 3, 4] ⟨rfl, rfl, rfl, rfl, rfl, rfl, trivial⟩ ⟨rfl, rfl, rfl, rfl, rfl, trivial⟩)
    refine ref_exit (x_then ?_)
    exact brkB x213 (weak [0, 1, 2, 3, 4] ⟨rfl, rfl, rfl, rfl, trivial⟩ ⟨rfl, rfl, rfl, rfl, rfl, trivial⟩)
  refine n_then (ref_seq (ref_seq (ref_region ?_)))
  refine mv1 rfl rfl ?_
  refine pull fun k241 h_k241 => ?_
  refine s_st (s_callC [0] [true] (fun (_ : Unit) => [oc b_0 [slv (rI .i64) k241.2.L, iv .i64 k241.2.At]]) (fun (_ : Unit) => []) (fun (_ : Unit) => iv .i64 k241.1) (args := [.tmp 114, .const (.int .i64 (3))]) (caps := []) Try.call9 rfl (keep_Src_N_ok h_k241) ⟨rfl, rfl, trivial⟩ (fun _ => rfl) (fun _ => trivial) (fun _ => rfl) ⟨arg rfl, arg rfl, trivial⟩ (fun _ _ _ _ h => h)) rfl (fun _ => ?_)
  refine as1 rfl rfl ?_
  refine l_nil (n_then ?_)
  refine b_of (own_nil rT_api_Promotion) ?_
  refine ref_loopB (f := (keep_Src_Base_l4 n_1 q239)) (Γl := (fun (s284 : Int × T_deliberationkeep_Src × (List T_api_Promotion)) (x285 : (Value × List Nat)) => [(0, pv (ptr b_0 0)), (1, iv .i64 n_1), (8, pv (ptr b1 0)), (9, pv (ptr b2 0)), (17, iv .i64 s284.1)])) (Ωl := (fun (s284 : Int × T_deliberationkeep_Src × (List T_api_Promotion)) (x285 : (Value × List Nat)) => [oc b_0 [slv (rI .i64) s284.2.1.L, iv .i64 s284.2.1.At], oc b1 [pv (.slice none 0 0), pv (.slice none 0 0), pv (.slice none 0 0)], oc b2 [pv y129.1, pv y240.1, pv x285.1], oa rT_api_Premise y129.1 y129.2 q128.2, oa rT_api_Rule y240.1 y240.2 q239.2, oa rT_api_Promotion x285.1 x285.2 s284.2.2])) (Γb := (fun (q298 : T_deliberationkeep_Src × (List T_api_Promotion)) (y299 : (Value × List Nat)) => [(0, pv (ptr b_0 0)), (8, pv (ptr b1 0)), (9, pv (ptr b2 0))])) (Ωb := (fun (q298 : T_deliberationkeep_Src × (List T_api_Promotion)) (y299 : (Value × List Nat)) => [oc b_0 [slv (rI .i64) q298.1.L, iv .i64 q298.1.At], oc b1 [pv (.slice none 0 0), pv (.slice none 0 0), pv (.slice none 0 0)], oc b2 [pv y129.1, pv y240.1, pv y299.1], oa rT_api_Premise y129.1 y129.2 q128.2, oa rT_api_Rule y240.1 y240.2 q239.2, oa rT_api_Promotion y299.1 y299.2 q298.2])) (k241.1, k241.2, []) ((.slice none 0 0), []) (weak [0, 1, 2, 3, 4, 5] ⟨rfl, rfl, rfl, rfl, rfl, trivial⟩ ⟨rfl, rfl, rfl, rfl, rfl, rfl, trivial⟩) (fun s284 x285 => ?_) (fun q298 y299 => ?_)
  · unfold keep_Src_Base_l4
    refine ref_seq (ref_seq (ref_region ?_))
    refine mv1 rfl rfl ?_
    refine s_rd (r_gtr rfl rfl) rfl ?_
    refine mv1 rfl rfl ?_
    refine b_split (t := 118) rfl (fun _ => ?_) (fun _ => ?_)
    · refine s_on rfl rfl rfl ?_
      refine s_rd (r_faddr (fo := 1) Try.underlying34 rfl rfl Try.sizeOf31 rfl) rfl ?_
      refine s_on rfl rfl rfl ?_
      refine s_rd (r_cload Try.isAgg31 rfl (j := 2) rfl rfl) rfl ?_
      refine s_on rfl rfl rfl ?_
      refine s_rd (r_olen Try.underlying31 rfl (j := 4) rfl) rfl ?_
      refine s_on rfl rfl rfl ?_
      refine s_rd (r_gtr rfl rfl) rfl ?_
      refine s_rd (r_pickT rfl rfl) rfl ?_
      refine l_nil (n_then ?_)
      refine ref_cond rfl (fun hb286 => ?_) (fun hb286 => ?_)
      · refine ref_skip (n_then (ref_seq (ref_block (ref_seq ?_))))
        refine pull fun t288 h_t288 => ?_
        refine pull fun t289 h_t289 => ?_
        refine ref_drawI 1 [⟨[], [], [], [], [], fun us u => pv (ptr b2 1), fun us u => []⟩, ⟨[0], [], [], [2], [], fun us u => pv y240.1, fun us u => []⟩, ⟨[], [], [], [], [], fun us u => pv (ptr b_0 0), fun us u => []⟩, ⟨[], [], [], [], [], fun us u => pv (ptr b2 1), fun us u => []⟩, ⟨[3], [], [], [2], [], fun us u => pv y240.1, fun us u => []⟩, ⟨[3, 4], [], [], [4], [], fun us u => iv .i64 (q239.2.length : Int), fun us u => []⟩, ⟨[2, 3, 4, 5], [], [0], [0], [0], fun us u => iv .i64 t288.1, fun us u => [oc b_0 [slv (rI .i64) t288.2.L, iv .i64 t288.2.At]]⟩, ⟨[0, 1, 2, 3, 4, 5, 6], [], [], [4], [], fun us u => pv (elA y240.1 (rT_api_Rule).size t288.1), fun us u => []⟩, ⟨[0, 1, 2, 3, 4, 5, 6, 7], [], [], [4], [], fun us u => ag [sv t289.Name, bv t289.Strict, iv .i64 t289.Rank, slv rT_api_Literal t289.Body, bv t289.Head.Neg, sv t289.Head.Name], fun us u => []⟩, ⟨[], [], [6], [6], [], fun us u => pv (ptr u.Nn 0), fun us u => [oc u.Nn [sv ByteArray.empty, bv false, iv .i64 0, pv (.slice none 0 0), bv false, sv ByteArray.empty]]⟩, ⟨[0, 1, 2, 3, 4, 5, 6, 7, 8, 9], [9], [6], [6], [6], fun us u => pv undef, fun us u => [oc (us.getD 0 .none).Nn [sv t289.Name, bv t289.Strict, iv .i64 t289.Rank, slv rT_api_Literal t289.Body, bv t289.Head.Neg, sv t289.Head.Name]]⟩] (fun χ287 => [(0, pv (ptr b_0 0)), (1, iv .i64 n_1), (8, pv (ptr b1 0)), (9, pv (ptr b2 0)), (17, iv .i64 s284.1), (18, pv (ptr (χ287 9).Nn 0)), (119, pv (ptr b2 1)), (120, pv y240.1), (121, iv .i64 (q239.2.length : Int)), (122, bv (decide ((q239.2.length : Int) > 0)))]) (fun χ287 => [oc b_0 [slv (rI .i64) t288.2.L, iv .i64 t288.2.At], oc b1 [pv (.slice none 0 0), pv (.slice none 0 0), pv (.slice none 0 0)], oc b2 [pv y129.1, pv y240.1, pv x285.1], oa rT_api_Premise y129.1 y129.2 q128.2, oa rT_api_Rule y240.1 y240.2 q239.2, oa rT_api_Promotion x285.1 x285.2 s284.2.2, oc (χ287 9).Nn [sv t289.Name, bv t289.Strict, iv .i64 t289.Rank, slv rT_api_Literal t289.Body, bv t289.Head.Neg, sv t289.Head.Name]]) rfl (by kernel_rfl) ⟨fun χ287 Ω _ => St.toR (r_faddr (fo := 1) Try.underlying34 rfl rfl Try.sizeOf31 rfl) (fun _ => rfl) (fun _ => rfl), (by intro _ h; cases h; rfl), ⟨fun χ287 Ω ⟨h2, _⟩ => St.toR (r_cload Try.isAgg31 rfl (j := 2) h2 rfl) (fun _ => rfl) (fun _ => rfl), (by intro _ h; cases h; rfl), ⟨fun χ287 Ω _ => St.toR (r_move rfl) (fun _ => rfl) (fun _ => rfl), (by intro _ h; cases h; rfl), ⟨fun χ287 Ω _ => St.toR (r_faddr (fo := 1) Try.underlying34 rfl rfl Try.sizeOf31 rfl) (fun _ => rfl) (fun _ => rfl), (by intro _ h; cases h; rfl), ⟨fun χ287 Ω ⟨h2, _⟩ => St.toR (r_cload Try.isAgg31 rfl (j := 2) h2 rfl) (fun _ => rfl) (fun _ => rfl), (by intro _ h; cases h; rfl), ⟨fun χ287 Ω ⟨h4, _⟩ => St.toR (r_olen Try.underlying31 rfl (j := 4) h4) (fun _ => rfl) (fun _ => rfl), (by intro _ h; cases h; rfl), ⟨fun χ287 Ω ⟨h0, _⟩ => St.to XU.U XU.hU (St.placeL [] (s_callC [0] [true] (fun (_ : Unit) => [oc b_0 [slv (rI .i64) t288.2.L, iv .i64 t288.2.At]]) (fun (_ : Unit) => []) (fun (_ : Unit) => iv .i64 t288.1) (args := [.tmp 128, .tmp 131]) (caps := []) Try.call9 rfl (keep_Src_N_ok h_t288) ⟨h0, rfl, trivial⟩ (fun _ => rfl) (fun _ => trivial) (fun _ => rfl) ⟨arg rfl, arg rfl, trivial⟩ (fun _ _ _ _ h => h)) (fun _ => rfl) (fun _ => trivial)) (fun _ => rfl) (fun _ => rfl), (by intro _ h; cases h; rfl), ⟨fun χ287 Ω ⟨h4, _⟩ => St.toR (r_oindex h_t289 Try.underlying31 el_55 rfl (j := 4) h4 rfl) (fun _ => rfl) (fun _ => rfl), (by intro _ h; cases h; rfl), ⟨fun χ287 Ω ⟨h4, _⟩ => St.toR (r_oload h_t289 el_55 rfl (j := 4) h4) (fun _ => rfl) (fun _ => rfl), (by intro _ h; cases h; rfl), ⟨fun χ287 Ω ⟨h6, _⟩ => St.to XU.Nn XU.hN (St.placeL (os := fun _ => [_]) [6] (s_alloc zt_55) (fun _ => rfl) (fun _ => ⟨h6, rfl, trivial⟩)) (fun _ => rfl) (fun _ => rfl), (by intro _ h; cases h; rfl), ⟨fun χ287 Ω ⟨h6, _⟩ => St.to XU.U XU.hU (s_cstore (out := [sv t289.Name, bv t289.Strict, iv .i64 t289.Rank, slv rT_api_Literal t289.Body, bv t289.Head.Neg, sv t289.Head.Name]) Try.sizeOf55 rfl (j := 6) h6 (part_agO (ψs := [sv t289.Name, bv t289.Strict, iv .i64 t289.Rank, slv rT_api_Literal t289.Body, bv t289.Head.Neg, sv t289.Head.Name]) rfl ⟨.inl sv_at, .inl bv_at, .inl iv_at, .inl slv_at, .inl bv_at, .inl sv_at, trivial⟩) rfl rfl rfl) (fun _ => rfl) (fun _ => rfl), (by intro _ h; cases h), trivial⟩⟩⟩⟩⟩⟩⟩⟩⟩⟩⟩ (fun _ => ⟨rfl, rfl, rfl, rfl, rfl, rfl, rfl, rfl, rfl, rfl, trivial⟩) (fun _ => rfl) (fun χ287 => ?_)
        refine n_then (ref_seq (ref_region ?_))
        refine s_rd (r_faddr (fo := 1) Try.underlying55 rfl rfl Try.sizeOf4 rfl) rfl ?_
        refine s_rd (r_cload Try.isAgg4 rfl (j := 6) rfl rfl) rfl ?_
        refine s_rd (r_not rfl) rfl ?_
        refine l_nil (n_then ?_)
        refine ref_cond rfl (fun hb291 => ?_) (fun hb291 => ?_)
        · refine ref_draw [0, 1, 2, 3, 4, 6, 7, 9, 12] rfl (by kernel_rfl) (fun hok => ?_)
          refine a_rd (i := 0) hok rfl (by kernel_rfl) rfl (r_faddr (fo := 2) Try.underlying34 rfl rfl Try.sizeOf32 rfl) rfl ?_
          refine a_rd (i := 1) hok rfl (by kernel_rfl) rfl (r_cload Try.isAgg32 rfl (j := 2) rfl rfl) rfl ?_
          refine a_rd (i := 2) hok rfl (by kernel_rfl) rfl (r_faddr (fo := 0) Try.underlying55 rfl rfl Try.sizeOf9 rfl) rfl ?_
          refine a_rd (i := 3) hok rfl (by kernel_rfl) rfl (r_cload Try.isAgg9 rfl (j := 6) rfl rfl) rfl ?_
          refine a_rd (i := 4) hok rfl (by kernel_rfl) rfl (r_move rfl) rfl ?_
          refine a_rd (i := 6) hok rfl (by kernel_rfl) rfl (r_move rfl) rfl ?_
          refine a_rd (i := 7) hok rfl (by kernel_rfl) rfl (r_move rfl) rfl ?_
          refine pull fun t292 h_t292 => ?_
          refine a_next hok 5 [] (by kernel_rfl) ?_ trivial
          refine a_st (i := 5) hok rfl rfl (s_callC [0] [true] (fun (_ : Unit) => [oc b_0 [slv (rI .i64) t292.2.L, iv .i64 t292.2.At]]) (fun (_ : Unit) => []) (fun (_ : Unit) => iv .i64 t292.1) (args := [.tmp 142, .const (.int .i64 (10))]) (caps := []) Try.call9 rfl (keep_Src_N_ok h_t292) ⟨rfl, rfl, trivial⟩ (fun _ => rfl) (fun _ => trivial) (fun _ => rfl) ⟨arg rfl, arg rfl, trivial⟩ (fun _ _ _ _ h => h)) (by intro _ h; cases h; rfl) (fun _ => ⟨trivial, ⟨trivial, ⟨trivial, ⟨⟨⟨rfl, rfl⟩, trivial⟩, ⟨trivial, ⟨⟨⟨rfl, rfl⟩, trivial⟩, ⟨trivial, trivial⟩⟩⟩⟩⟩⟩⟩) (fun _ => ?_)
          refine pull fun t293 h_t293 => ?_
          refine a_next hok 8 [] (by kernel_rfl) ?_ trivial
          refine a_st (i := 8) hok rfl rfl (s_callC [0] [true] (fun (_ : Unit) => [oc b_0 [slv (rI .i64) t293.2.L, iv .i64 t293.2.At]]) (fun (_ : Unit) => []) (fun (_ : Unit) => ag [bv t293.1.Neg, sv t293.1.Name]) (args := [.tmp 144, .tmp 145]) (caps := []) Try.call50 rfl (keep_Src_Literal_ok h_t293) ⟨rfl, rfl, trivial⟩ (fun _ => rfl) (fun _ => trivial) (fun _ => rfl) ⟨arg rfl, arg rfl, trivial⟩ (fun _ _ _ _ h => h)) (by intro _ h; cases h; rfl) (fun _ => ⟨trivial, ⟨trivial, ⟨trivial, ⟨⟨⟨rfl, rfl⟩, trivial⟩, ⟨trivial, ⟨⟨⟨rfl, rfl⟩, trivial⟩, ⟨trivial, trivial⟩⟩⟩⟩⟩⟩⟩) (fun _ => ?_)
          refine a_rd (i := 9) hok rfl (by kernel_rfl) rfl (r_build (ps := [(0, .tmp 141), (1, .tmp 143), (2, .tmp 146)]) (rs := [(0, [sv t289.Name]), (1, [iv .i64 t292.1]), (2, [bv t293.1.Neg, sv t293.1.Name])]) st_84 zs_84 ⟨rfl, (part_at rfl sv_at), ⟨rfl, (part_at rfl iv_at), ⟨rfl, (part_agO (ψs := [bv t293.1.Neg, sv t293.1.Name]) rfl ⟨.inl bv_at, .inl sv_at, trivial⟩), trivial⟩⟩⟩ rfl rfl) rfl ?_
          refine a_next hok 10 [] (by kernel_rfl) ?_ trivial
          refine a_st (i := 10) hok rfl rfl (s_bslice (xs := [.tmp 147]) (ds := [(T_api_Promotion.mk t289.Name t292.1 t293.1)]) Try.underlying32 el_84 rfl (Nat.le_of_ble_eq_true rfl) ⟨(part_agO (ψs := [sv t289.Name, iv .i64 t292.1, bv t293.1.Neg, sv t293.1.Name]) rfl ⟨.inl sv_at, .inl iv_at, .inl bv_at, .inl sv_at, trivial⟩), trivial⟩) (by intro _ h; cases h; rfl) (fun _ => ⟨trivial, ⟨trivial, ⟨trivial, ⟨trivial, ⟨⟨⟨rfl, rfl⟩, trivial⟩, ⟨trivial, ⟨⟨⟨rfl, rfl⟩, trivial⟩, ⟨trivial, trivial⟩⟩⟩⟩⟩⟩⟩⟩) (fun _ => ?_)
          refine pull fun t294 h_t294 => ?_
          refine a_next hok 11 [] (by kernel_rfl) ?_ trivial
          refine a_st (i := 11) hok rfl rfl (s_append h_t294 Try.underlying32 el_84 rfl (j := 5) rfl rfl) (by intro _ h; cases h; rfl) (fun _ => ⟨trivial, ⟨trivial, ⟨trivial, ⟨trivial, ⟨⟨⟨rfl, rfl⟩, trivial⟩, ⟨trivial, ⟨trivial, ⟨trivial, trivial⟩⟩⟩⟩⟩⟩⟩⟩) (fun o295 => ?_)
          refine a_rd (i := 12) hok rfl (by kernel_rfl) rfl (r_faddr (fo := 2) Try.underlying34 rfl rfl Try.sizeOf32 rfl) rfl ?_
          refine a_next hok 13 [] (by kernel_rfl) ?_ trivial
          refine a_st (i := 13) hok rfl rfl (s_cstore (out := [pv y129.1, pv y240.1, pv o295.1]) Try.sizeOf32 rfl (j := 2) rfl (part_own rfl (j := 5) rfl) rfl rfl rfl) (by intro _ h; cases h) (fun _ => ⟨trivial, ⟨trivial, ⟨trivial, ⟨trivial, ⟨trivial, ⟨trivial, ⟨trivial, ⟨trivial, ⟨trivial, trivial⟩⟩⟩⟩⟩⟩⟩⟩⟩) (fun _ => ?_)
          refine a_fin hok (by kernel_rfl) ?_
          refine b_of (nrm [oc b_0 [slv (rI .i64) t293.2.L, iv .i64 t293.2.At], oc b1 [pv (.slice none 0 0), pv (.slice none 0 0), pv (.slice none 0 0)], oc b2 [pv y129.1, pv y240.1, pv o295.1], oa rT_api_Premise y129.1 y129.2 q128.2, oa rT_api_Rule y240.1 y240.2 q239.2, oa rT_api_Promotion o295.1 o295.2 t294, oc (χ287 9).Nn [sv t289.Name, bv t289.Strict, iv .i64 t289.Rank, slv rT_api_Literal t289.Body, bv t289.Head.Neg, sv t289.Head.Name]] rfl) ?_
          refine n_block (n_then (ref_region ?_))
          refine mv1 rfl rfl ?_
          refine s_rd (r_sub rfl rfl) rfl ?_
          refine as1 rfl rfl ?_
          refine b_let (f := iv .i64) (t := 17) rfl fun k296 => ?_
          refine l_nil ?_
          exact goB o295 (weak [0, 1, 2, 3, 4, 5] ⟨rfl, rfl, rfl, rfl, rfl, trivial⟩ ⟨rfl, rfl, rfl, rfl, rfl, rfl, trivial⟩)
        refine ref_skip (n_block (n_then (ref_region ?_)))
        refine mv1 rfl rfl ?_
        refine s_rd (r_sub rfl rfl) rfl ?_
        refine as1 rfl rfl ?_
        refine b_let (f := iv .i64) (t := 17) rfl fun k297 => ?_
        refine l_nil ?_
        exact goB x285 (weak [0, 1, 2, 3, 4, 5] ⟨rfl, rfl, rfl, rfl, rfl, trivial⟩ ⟨rfl, rfl, rfl, rfl, rfl, rfl, trivial⟩)
      refine ref_exit (x_then ?_)
      exact brkB x285 (weak [0, 1, 2, 3, 4, 5] ⟨rfl, rfl, rfl, trivial⟩ ⟨rfl, rfl, rfl, rfl, rfl, rfl, trivial⟩)
    refine s_off rfl rfl rfl rfl rfl ?_
    refine s_off rfl rfl rfl rfl rfl ?_
    refine s_off rfl rfl rfl rfl rfl ?_
    refine s_off rfl rfl rfl rfl rfl ?_
    refine s_rd (r_pickF rfl rfl) rfl ?_
    refine l_nil (n_then ?_)
    refine ref_condF rfl rfl ?_
    refine ref_exit (x_then ?_)
    exact brkB x285 (weak [0, 1, 2, 3, 4, 5] ⟨rfl, rfl, rfl, trivial⟩ ⟨rfl, rfl, rfl, rfl, rfl, rfl, trivial⟩)
  refine n_then (ref_seq (ref_region ?_))
  refine s_rd (r_cloadS Try.isAgg34 Try.sizeOf34 rfl (j := 2) rfl rfl rfl) rfl ?_
  refine s_st0 (s_cstore (out := [pv y129.1, pv y240.1, pv y299.1]) Try.sizeOf34 rfl (j := 1) rfl (part_agO (ψs := [pv y129.1, pv y240.1, pv y299.1]) rfl ⟨.inr ⟨_, _, _, _, _, 3, rfl, rfl⟩, .inr ⟨_, _, _, _, _, 4, rfl, rfl⟩, .inr ⟨_, _, _, _, _, 5, rfl, rfl⟩, trivial⟩) rfl rfl rfl) (fun _ => ?_)
  refine l_nil (n_then (ref_ret ?_))
  refine b_of (frzGL [(151, ag [slv rT_api_Premise q128.2, pv y240.1, pv y299.1])] [(1, b1, [slv rT_api_Premise q128.2, pv y240.1, pv y299.1]), (2, b2, [slv rT_api_Premise q128.2, pv y240.1, pv y299.1])] (j := 3) rfl ⟨⟨_, rfl, .inr ⟨_, _, rfl, rfl, ⟨.inr ⟨rfl, rfl⟩, .inl rfl, .inl rfl, trivial⟩⟩⟩, trivial⟩ ⟨⟨_, rfl, ⟨.inr ⟨rfl, rfl⟩, .inl rfl, .inl rfl, trivial⟩⟩, ⟨_, rfl, ⟨.inr ⟨rfl, rfl⟩, .inl rfl, .inl rfl, trivial⟩⟩, trivial⟩) ?_
  refine b_of (nrm [oc b_0 [slv (rI .i64) q298.1.L, iv .i64 q298.1.At], oc b1 [slv rT_api_Premise q128.2, pv y240.1, pv y299.1], oc b2 [slv rT_api_Premise q128.2, pv y240.1, pv y299.1], dead, oa rT_api_Rule y240.1 y240.2 q239.2, oa rT_api_Promotion y299.1 y299.2 q298.2] rfl) ?_
  refine b_of (frzGL [(151, ag [slv rT_api_Premise q128.2, slv rT_api_Rule q239.2, pv y299.1])] [(1, b1, [slv rT_api_Premise q128.2, slv rT_api_Rule q239.2, pv y299.1]), (2, b2, [slv rT_api_Premise q128.2, slv rT_api_Rule q239.2, pv y299.1])] (j := 4) rfl ⟨⟨_, rfl, .inr ⟨_, _, rfl, rfl, ⟨.inl rfl, .inr ⟨rfl, rfl⟩, .inl rfl, trivial⟩⟩⟩, trivial⟩ ⟨⟨_, rfl, ⟨.inl rfl, .inr ⟨rfl, rfl⟩, .inl rfl, trivial⟩⟩, ⟨_, rfl, ⟨.inl rfl, .inr ⟨rfl, rfl⟩, .inl rfl, trivial⟩⟩, trivial⟩) ?_
  refine b_of (nrm [oc b_0 [slv (rI .i64) q298.1.L, iv .i64 q298.1.At], oc b1 [slv rT_api_Premise q128.2, slv rT_api_Rule q239.2, pv y299.1], oc b2 [slv rT_api_Premise q128.2, slv rT_api_Rule q239.2, pv y299.1], dead, dead, oa rT_api_Promotion y299.1 y299.2 q298.2] rfl) ?_
  refine b_of (frzGL [(151, ag [slv rT_api_Premise q128.2, slv rT_api_Rule q239.2, slv rT_api_Promotion q298.2])] [(1, b1, [slv rT_api_Premise q128.2, slv rT_api_Rule q239.2, slv rT_api_Promotion q298.2]), (2, b2, [slv rT_api_Premise q128.2, slv rT_api_Rule q239.2, slv rT_api_Promotion q298.2])] (j := 5) rfl ⟨⟨_, rfl, .inr ⟨_, _, rfl, rfl, ⟨.inl rfl, .inl rfl, .inr ⟨rfl, rfl⟩, trivial⟩⟩⟩, trivial⟩ ⟨⟨_, rfl, ⟨.inl rfl, .inl rfl, .inr ⟨rfl, rfl⟩, trivial⟩⟩, ⟨_, rfl, ⟨.inl rfl, .inl rfl, .inr ⟨rfl, rfl⟩, trivial⟩⟩, trivial⟩) ?_
  refine b_of (nrm [oc b_0 [slv (rI .i64) q298.1.L, iv .i64 q298.1.At], oc b1 [slv rT_api_Premise q128.2, slv rT_api_Rule q239.2, slv rT_api_Promotion q298.2], oc b2 [slv rT_api_Premise q128.2, slv rT_api_Rule q239.2, slv rT_api_Promotion q298.2], dead, dead, dead] rfl) ?_
  exact fin1 (.inl rfl) () [0] rfl ⟨rfl, trivial⟩ rfl (rv_cell rfl (j := 1) rfl Try.isAgg34 Try.sizeOf34 rfl rfl)

/-! deliberation/deliberationlaw08.built -/
noncomputable def law08_built_m (s_0 : T_deliberationkeep_Src) (n_1 : Int) (premises_2 : Int) (rules_3 : Int) : Option (T_api_Base × List T_api_Argument × T_deliberationkeep_Src) :=
  Option.bind (keep_Src_Base_m s_0 n_1 premises_2 rules_3) fun t2 =>
  Option.bind (ref07_Build_m t2.1) fun t4 =>
  bif t4.2 != 0 then
    Option.bind (slM t2.1.Rules 0 (imin (t2.1.Rules.length : Int) 2)) fun t7 =>
    Option.bind (ref07_Build_m (T_api_Base.mk t2.1.Premises t7 [])) fun t8 =>
    some ((T_api_Base.mk t2.1.Premises t7 []), t8.1, t2.2)
  else
    some (t2.1, t4.1, t2.2)

theorem law08_built_ok {s_0 : T_deliberationkeep_Src} {n_1 : Int} {premises_2 : Int} {rules_3 : Int} {b_0 : Nat} {r : T_api_Base × List T_api_Argument × T_deliberationkeep_Src} (hm : law08_built_m s_0 n_1 premises_2 rules_3 = some r) :
    FnOk prog 13 [pv (ptr b_0 0), iv .i64 n_1, iv .i64 premises_2, iv .i64 rules_3] [oc b_0 [slv (rI .i64) s_0.L, iv .i64 s_0.At]] (fun (x : (Value × List Nat)) => [ag [slv rT_api_Premise r.1.Premises, slv rT_api_Rule r.1.Rules, slv rT_api_Promotion r.1.Promotions], pv x.1]) (fun (x : (Value × List Nat)) => [oc b_0 [slv (rI .i64) r.2.2.L, iv .i64 r.2.2.At], oa rT_api_Argument x.1 x.2 r.2.1]) := by
  refine fn_ok (X := (Value × List Nat)) (fn := Try.f13) (N := 41) (res := fun r x => [ag [slv rT_api_Premise r.1.Premises, slv rT_api_Rule r.1.Rules, slv rT_api_Promotion r.1.Promotions], pv x.1]) (Ω1 := fun r x => [oc b_0 [slv (rI .i64) r.2.2.L, iv .i64 r.2.2.At], oa rT_api_Argument x.1 x.2 r.2.1]) Try.func13 rfl rfl hm rfl (fun E hM => ?_)
  unfold law08_built_m
  refine ref_seq (ref_region ?_)
  refine s_st (s_alloc zt_34) rfl (fun b1 => ?_)
  refine as1 rfl rfl ?_
  refine l_nil (n_then (ref_seq (ref_region ?_)))
  refine mv1 rfl rfl ?_
  refine mv1 rfl rfl ?_
  refine mv1 rfl rfl ?_
  refine mv1 rfl rfl ?_
  refine pull fun t2 h_t2 => ?_
  refine s_st (s_callC [0] [true] (fun (_ : Unit) => [oc b_0 [slv (rI .i64) t2.2.L, iv .i64 t2.2.At]]) (fun (_ : Unit) => []) (fun (_ : Unit) => ag [slv rT_api_Premise t2.1.Premises, slv rT_api_Rule t2.1.Rules, slv rT_api_Promotion t2.1.Promotions]) (args := [.tmp 13, .tmp 14, .tmp 15, .tmp 16]) (caps := []) Try.call32 rfl (keep_Src_Base_ok h_t2) ⟨rfl, rfl, trivial⟩ (fun _ => rfl) (fun _ => trivial) (fun _ => rfl) ⟨arg rfl, arg rfl, arg rfl, arg rfl, trivial⟩ (fun _ _ _ _ h => h)) rfl (fun _ => ?_)
  refine s_st (s_alloc zt_34) rfl (fun b3 => ?_)
  refine s_st0 (s_cstore (out := [slv rT_api_Premise t2.1.Premises, slv rT_api_Rule t2.1.Rules, slv rT_api_Promotion t2.1.Promotions]) Try.sizeOf34 rfl (j := 2) rfl (part_agO (ψs := [slv rT_api_Premise t2.1.Premises, slv rT_api_Rule t2.1.Rules, slv rT_api_Promotion t2.1.Promotions]) rfl ⟨.inl slv_at, .inl slv_at, .inl slv_at, trivial⟩) rfl rfl rfl) (fun _ => ?_)
  refine l_nil ?_
  refine b_of (nrm [oc b_0 [slv (rI .i64) t2.2.L, iv .i64 t2.2.At], oc b1 [pv (.slice none 0 0), pv (.slice none 0 0), pv (.slice none 0 0)], oc b3 [slv rT_api_Premise t2.1.Premises, slv rT_api_Rule t2.1.Rules, slv rT_api_Promotion t2.1.Promotions]] rfl) ?_
  refine n_then (ref_seq (ref_region ?_))
  refine s_rd (r_cloadS Try.isAgg34 Try.sizeOf34 rfl (j := 2) rfl rfl rfl) rfl ?_
  refine pull fun t4 h_t4 => ?_
  refine s_st (s_call (ψ := fun (x5 : (Value × List Nat)) => tup [pv x5.1, iv .i64 t4.2]) (args := [.tmp 19]) Try.call31 rfl (ref07_Build_ok h_t4) ⟨arg rfl, trivial⟩ (fun _ _ _ _ h => h)) rfl (fun x5 => ?_)
  refine mv1 rfl rfl ?_
  refine s_rd (r_extract rfl rfl) rfl ?_
  refine s_rd (r_extract rfl rfl) rfl ?_
  refine as1 rfl rfl ?_
  refine as1 rfl rfl ?_
  refine l_nil (n_then (ref_seq (ref_seq (ref_region ?_))))
  refine mv1 rfl rfl ?_
  refine s_rd (r_neq rfl rfl) rfl ?_
  refine l_nil (n_then ?_)
  refine ref_cond rfl (fun hb6 => ?_) (fun hb6 => ?_)
  · refine ref_seq (ref_region ?_)
    refine s_rd (r_faddr (fo := 1) Try.underlying34 rfl rfl Try.sizeOf31 rfl) rfl ?_
    refine s_rd (r_cload Try.isAgg31 rfl (j := 2) rfl rfl) rfl ?_
    refine s_rd (r_faddr (fo := 1) Try.underlying34 rfl rfl Try.sizeOf31 rfl) rfl ?_
    refine s_rd (r_cload Try.isAgg31 rfl (j := 2) rfl rfl) rfl ?_
    refine s_rd (r_len Try.underlying31 rfl) rfl ?_
    refine s_rd (r_min rfl rfl) rfl ?_
    refine pull fun t7 h_t7 => ?_
    refine s_rd (r_slice h_t7 Try.underlying31 el_55 rfl .dft (.of rfl)) rfl ?_
    refine s_rd (r_faddr (fo := 1) Try.underlying34 rfl rfl Try.sizeOf31 rfl) rfl ?_
    refine s_st0 (s_cstore (out := [slv rT_api_Premise t2.1.Premises, slv rT_api_Rule t7, slv rT_api_Promotion t2.1.Promotions]) Try.sizeOf31 rfl (j := 2) rfl (part_at rfl slv_at) rfl rfl rfl) (fun _ => ?_)
    refine l_nil (n_then (ref_seq (ref_region ?_)))
    refine s_rd (r_faddr (fo := 2) Try.underlying34 rfl rfl Try.sizeOf32 rfl) rfl ?_
    refine s_st0 (s_cstore (out := [slv rT_api_Premise t2.1.Premises, slv rT_api_Rule t7, pv (.slice none 0 0)]) Try.sizeOf32 rfl (j := 2) rfl (part_at (φ := pv (.slice none 0 0)) rfl (pv_at rfl)) rfl rfl rfl) (fun _ => ?_)
    refine l_nil (n_then (ref_region ?_))
    refine s_rd (r_cloadS Try.isAgg34 Try.sizeOf34 rfl (j := 2) rfl rfl rfl) rfl ?_
    refine b_of (nilG rT_api_Promotion [(35, ag [slv rT_api_Premise t2.1.Premises, slv rT_api_Rule t7, slv rT_api_Promotion []])] [] ⟨⟨_, rfl, .inr ⟨_, _, rfl, rfl, ⟨.inl rfl, .inl rfl, .inr ⟨rfl, rfl⟩, trivial⟩⟩⟩, trivial⟩ trivial) ?_
    refine pull fun t8 h_t8 => ?_
    refine s_st (s_call (ψ := fun (x9 : (Value × List Nat)) => tup [pv x9.1, iv .i64 t8.2]) (args := [.tmp 35]) Try.call31 rfl (ref07_Build_ok h_t8) ⟨arg rfl, trivial⟩ (fun _ _ _ _ h => h)) rfl (fun x9 => ?_)
    refine mv1 rfl rfl ?_
    refine s_rd (r_extract rfl rfl) rfl ?_
    refine s_rd (r_extract rfl rfl) rfl ?_
    refine as1 rfl rfl ?_
    refine l_nil ?_
    refine b_of (nrm [oc b_0 [slv (rI .i64) t2.2.L, iv .i64 t2.2.At], oc b1 [pv (.slice none 0 0), pv (.slice none 0 0), pv (.slice none 0 0)], oc b3 [slv rT_api_Premise t2.1.Premises, slv rT_api_Rule t7, pv (.slice none 0 0)], oa rT_api_Argument x5.1 x5.2 t4.1, oa rT_api_Argument x9.1 x9.2 t8.1] rfl) ?_
    refine n_then (ref_seq (ref_region ?_))
    refine s_rd (r_cloadS Try.isAgg34 Try.sizeOf34 rfl (j := 2) rfl rfl rfl) rfl ?_
    refine mv1 rfl rfl ?_
    refine s_st0 (s_cstore (out := [slv rT_api_Premise t2.1.Premises, slv rT_api_Rule t7, pv (.slice none 0 0)]) Try.sizeOf34 rfl (j := 1) rfl (part_agO (ψs := [slv rT_api_Premise t2.1.Premises, slv rT_api_Rule t7, pv (.slice none 0 0)]) rfl ⟨.inl slv_at, .inl slv_at, .inl (pv_at rfl), trivial⟩) rfl rfl rfl) (fun _ => ?_)
    refine as1 rfl rfl ?_
    refine l_nil (n_then (ref_ret ?_))
    refine b_of (ocW 1 [slv rT_api_Premise t2.1.Premises, slv rT_api_Rule t7, slv rT_api_Promotion []] rfl ⟨imp_rfl, imp_rfl, nil_sl, trivial⟩) ?_
    exact fin2 (.inl rfl) x9 [0, 4] rfl ⟨rfl, rfl, trivial⟩ rfl (rv_cell rfl (j := 1) rfl Try.isAgg34 Try.sizeOf34 rfl rfl) (rv_tmp rfl)
  refine ref_skip (n_then (ref_seq (ref_region ?_)))
  refine s_rd (r_cloadS Try.isAgg34 Try.sizeOf34 rfl (j := 2) rfl rfl rfl) rfl ?_
  refine mv1 rfl rfl ?_
  refine s_st0 (s_cstore (out := [slv rT_api_Premise t2.1.Premises, slv rT_api_Rule t2.1.Rules, slv rT_api_Promotion t2.1.Promotions]) Try.sizeOf34 rfl (j := 1) rfl (part_agO (ψs := [slv rT_api_Premise t2.1.Premises, slv rT_api_Rule t2.1.Rules, slv rT_api_Promotion t2.1.Promotions]) rfl ⟨.inl slv_at, .inl slv_at, .inl slv_at, trivial⟩) rfl rfl rfl) (fun _ => ?_)
  refine as1 rfl rfl ?_
  refine l_nil (n_then (ref_ret ?_))
  exact fin2 (.inl rfl) x5 [0, 3] rfl ⟨rfl, rfl, trivial⟩ rfl (rv_cell rfl (j := 1) rfl Try.isAgg34 Try.sizeOf34 rfl rfl) (rv_tmp rfl)

/-! deliberation/deliberationref07.Premises -/
noncomputable def ref07_Premises_l1 (l_0 : (List T_api_Argument)) (t1 : List Int) (s18 : (List Int) × Int) : Option (Sum ((List Int)) ((List Int) × Int)) :=
  bif decide (s18.2 < (t1.length : Int)) then
    Option.bind (idxM t1 s18.2) fun k21 =>
    Option.bind (idxM l_0 k21) fun t22 =>
    bif decide (t22.Premise ≥ 0) then
      Option.bind (idxM l_0 k21) fun t24 =>
      Option.bind (ref07_insert_m s18.1 t24.Premise) fun out25 =>
      some (Sum.inr (out25, iadd .i64 s18.2 1))
    else
      some (Sum.inr (s18.1, iadd .i64 s18.2 1))
  else
    some (Sum.inl s18.1)

noncomputable def ref07_Premises_m (l_0 : (List T_api_Argument)) (i_1 : Int) : Option (List Int) :=
  Option.bind (ref07_Subs_m l_0 i_1) fun t1 =>
  Option.bind (loopC (ref07_Premises_l1 l_0 t1) ([], 0)) fun q26 : (List Int) =>
  some q26

theorem ref07_Premises_ok {l_0 : (List T_api_Argument)} {i_1 : Int} {r : List Int} (hm : ref07_Premises_m l_0 i_1 = some r) :
    FnOk prog 34 [slv rT_api_Argument l_0, iv .i64 i_1] [] (fun (x : Unit) => [slv (rI .i64) r]) (fun (x : Unit) => []) := by
  refine fn_ok (fn := Try.f34) (N := 31) (res := fun r x => [slv (rI .i64) r]) (Ω1 := fun r x => []) Try.func34 rfl rfl hm rfl (fun E hM => ?_)
  unfold ref07_Premises_m
  refine ref_seq (ref_region ?_)
  refine as1 rfl rfl ?_
  refine l_nil (n_then (ref_seq (ref_region ?_)))
  refine as1 rfl rfl ?_
  refine l_nil (n_then (ref_seq (ref_seq (ref_region ?_))))
  refine mv1 rfl rfl ?_
  refine mv1 rfl rfl ?_
  refine pull fun t1 h_t1 => ?_
  refine s_st (s_call (ψ := fun (_ : Unit) => slv (rI .i64) t1) (args := [.tmp 8, .tmp 9]) Try.call58 rfl (ref07_Subs_ok h_t1) ⟨arg rfl, arg rfl, trivial⟩ (fun _ _ _ _ h => h)) rfl (fun _ => ?_)
  refine s_rd (r_len Try.underlying22 rfl) rfl ?_
  refine mv1 rfl rfl ?_
  refine l_nil (n_then ?_)
  refine b_of (sl_nil (rI .i64) (t := 5) rfl) ?_
  refine ref_loopB (f := (ref07_Premises_l1 l_0 t1)) (Γl := (fun (s18 : (List Int) × Int) (x19 : Unit) => [(0, slv rT_api_Argument l_0), (5, slv (rI .i64) s18.1), (10, slv (rI .i64) t1), (11, iv .i64 (t1.length : Int)), (12, iv .i64 s18.2)])) (Ωl := (fun (s18 : (List Int) × Int) (x19 : Unit) => [])) (Γb := (fun (q26 : (List Int)) (y27 : Unit) => [(5, slv (rI .i64) q26)])) (Ωb := (fun (q26 : (List Int)) (y27 : Unit) => [])) ([], 0) () (weak [] ⟨rfl, rfl, rfl, rfl, rfl, trivial⟩ trivial) (fun s18 x19 => ?_) (fun q26 y27 => ?_)
  · unfold ref07_Premises_l1
    refine ref_seq (ref_region ?_)
    refine s_rd (r_lss rfl rfl) rfl ?_
    refine l_nil (n_then (ref_seq ?_))
    refine ref_cond rfl (fun hb20 => ?_) (fun hb20 => ?_)
    · refine ref_skip (n_then (ref_seq (ref_block (ref_seq (ref_region ?_)))))
      refine pull fun k21 h_k21 => ?_
      refine s_rd (r_index h_k21 Try.underlying22 el_3 rfl rfl) rfl ?_
      refine s_rd (r_load el_3 rfl) rfl ?_
      refine as1 rfl rfl ?_
      refine l_nil (n_then (ref_seq (ref_region ?_)))
      refine mv1 rfl rfl ?_
      refine mv1 rfl rfl ?_
      refine pull fun t22 h_t22 => ?_
      refine s_rd (r_index h_t22 Try.underlying35 el_52 rfl rfl) rfl ?_
      refine s_rd (r_fea (fo := 0) (ρ := rT_api_Argument) (y := t22) (ρ' := (rI .i64)) (z := t22.Premise) Try.underlying52 rfl rfl Try.sizeOf3 rfl rfl rfl) rfl ?_
      refine s_rd (r_load el_3 rfl) rfl ?_
      refine s_rd (r_geq rfl rfl) rfl ?_
      refine l_nil (n_then ?_)
      refine ref_cond rfl (fun hb23 => ?_) (fun hb23 => ?_)
      · refine ref_region ?_
        refine mv1 rfl rfl ?_
        refine mv1 rfl rfl ?_
        refine mv1 rfl rfl ?_
        refine pull fun t24 h_t24 => ?_
        refine s_rd (r_index h_t24 Try.underlying35 el_52 rfl rfl) rfl ?_
        refine s_rd (r_fea (fo := 0) (ρ := rT_api_Argument) (y := t24) (ρ' := (rI .i64)) (z := t24.Premise) Try.underlying52 rfl rfl Try.sizeOf3 rfl rfl rfl) rfl ?_
        refine s_rd (r_load el_3 rfl) rfl ?_
        refine pull fun out25 h_out25 => ?_
        refine s_st (s_call (ψ := fun (_ : Unit) => slv (rI .i64) out25) (args := [.tmp 22, .tmp 27]) Try.call59 rfl (ref07_insert_ok h_out25) ⟨arg rfl, arg rfl, trivial⟩ (fun _ _ _ _ h => h)) rfl (fun _ => ?_)
        refine as1 rfl rfl ?_
        refine l_nil (n_block (n_then (ref_region ?_)))
        refine s_rd (r_add rfl rfl) rfl ?_
        refine mv1 rfl rfl ?_
        refine l_nil ?_
        exact goB () (weak [] ⟨rfl, rfl, rfl, rfl, rfl, trivial⟩ trivial)
      refine ref_skip (n_block (n_then (ref_region ?_)))
      refine s_rd (r_add rfl rfl) rfl ?_
      refine mv1 rfl rfl ?_
      refine l_nil ?_
      exact goB () (weak [] ⟨rfl, rfl, rfl, rfl, rfl, trivial⟩ trivial)
    refine ref_exit (x_then ?_)
    exact brkB () (weak [] ⟨rfl, trivial⟩ trivial)
  refine n_then (ref_seq (ref_region ?_))
  refine mv1 rfl rfl ?_
  refine as1 rfl rfl ?_
  refine l_nil (n_then (ref_ret ?_))
  exact fin1 (.inl rfl) () [] rfl trivial rfl (rv_tmp rfl)

/-! deliberation/deliberationref08.PremiseRanks -/
noncomputable def ref08_PremiseRanks_l1 (b_0 : T_api_Base) (t2 : List Int) (s27 : Int × (List Int)) : Option (Sum ((List Int)) (Int × (List Int))) :=
  bif decide (s27.1 < (t2.length : Int)) then
    Option.bind (idxM t2 s27.1) fun p30 =>
    Option.bind (idxM b_0.Premises p30) fun t31 =>
    bif t31.Kind == 2 then
      Option.bind (idxM b_0.Premises p30) fun t33 =>
      Option.bind (appM 8 s27.2 [t33.Rank]) fun out34 =>
      some (Sum.inr (iadd .i64 s27.1 1, out34))
    else
      bif t31.Kind == 3 then
        Option.bind (appM 8 s27.2 [(-1)]) fun out37 =>
        some (Sum.inr (iadd .i64 s27.1 1, out37))
      else
        some (Sum.inr (iadd .i64 s27.1 1, s27.2))
  else
    some (Sum.inl s27.2)

noncomputable def ref08_PremiseRanks_m (b_0 : T_api_Base) (l_1 : (List T_api_Argument)) (i_2 : Int) : Option (List Int) :=
  Option.bind (ref07_Premises_m l_1 i_2) fun t2 =>
  Option.bind (loopC (ref08_PremiseRanks_l1 b_0 t2) (0, [])) fun q39 : (List Int) =>
  some q39

theorem ref08_PremiseRanks_ok {b_0 : T_api_Base} {l_1 : (List T_api_Argument)} {i_2 : Int} {r : List Int} (hm : ref08_PremiseRanks_m b_0 l_1 i_2 = some r) :
    FnOk prog 16 [ag [slv rT_api_Premise b_0.Premises, slv rT_api_Rule b_0.Rules, slv rT_api_Promotion b_0.Promotions], slv rT_api_Argument l_1, iv .i64 i_2] [] (fun (x : (Value × List Nat)) => [pv x.1]) (fun (x : (Value × List Nat)) => [oa (rI .i64) x.1 x.2 r]) := by
  refine fn_ok (X := (Value × List Nat)) (fn := Try.f16) (N := 42) (res := fun r x => [pv x.1]) (Ω1 := fun r x => [oa (rI .i64) x.1 x.2 r]) Try.func16 rfl rfl hm rfl (fun E hM => ?_)
  unfold ref08_PremiseRanks_m
  refine ref_seq (ref_region ?_)
  refine s_st (s_box (part_agO (ψs := [slv rT_api_Premise b_0.Premises, slv rT_api_Rule b_0.Rules, slv rT_api_Promotion b_0.Promotions]) rfl ⟨.inl slv_at, .inl slv_at, .inl slv_at, trivial⟩)) rfl (fun b1 => ?_)
  refine as1 rfl rfl ?_
  refine l_nil (n_then (ref_seq (ref_region ?_)))
  refine as1 rfl rfl ?_
  refine l_nil (n_then (ref_seq (ref_seq (ref_region ?_))))
  refine mv1 rfl rfl ?_
  refine mv1 rfl rfl ?_
  refine pull fun t2 h_t2 => ?_
  refine s_st (s_call (ψ := fun (_ : Unit) => slv (rI .i64) t2) (args := [.tmp 10, .tmp 11]) Try.call34 rfl (ref07_Premises_ok h_t2) ⟨arg rfl, arg rfl, trivial⟩ (fun _ _ _ _ h => h)) rfl (fun _ => ?_)
  refine s_rd (r_len Try.underlying22 rfl) rfl ?_
  refine mv1 rfl rfl ?_
  refine l_nil (n_then ?_)
  refine b_of (own_nil (rI .i64)) ?_
  refine ref_loopB (f := (ref08_PremiseRanks_l1 b_0 t2)) (Γl := (fun (s27 : Int × (List Int)) (x28 : (Value × List Nat)) => [(3, pv (ptr b1 0)), (7, pv x28.1), (12, slv (rI .i64) t2), (13, iv .i64 (t2.length : Int)), (14, iv .i64 s27.1)])) (Ωl := (fun (s27 : Int × (List Int)) (x28 : (Value × List Nat)) => [oc b1 [slv rT_api_Premise b_0.Premises, slv rT_api_Rule b_0.Rules, slv rT_api_Promotion b_0.Promotions], oa (rI .i64) x28.1 x28.2 s27.2])) (Γb := (fun (q39 : (List Int)) (y40 : (Value × List Nat)) => [(7, pv y40.1)])) (Ωb := (fun (q39 : (List Int)) (y40 : (Value × List Nat)) => [oa (rI .i64) y40.1 y40.2 q39])) (0, []) ((.slice none 0 0), []) (weak [0, 1] ⟨rfl, rfl, rfl, rfl, rfl, trivial⟩ ⟨rfl, rfl, trivial⟩) (fun s27 x28 => ?_) (fun q39 y40 => ?_)
  · unfold ref08_PremiseRanks_l1
    refine ref_seq (ref_region ?_)
    refine s_rd (r_lss rfl rfl) rfl ?_
    refine l_nil (n_then (ref_seq ?_))
    refine ref_cond rfl (fun hb29 => ?_) (fun hb29 => ?_)
    · refine ref_skip (n_then (ref_seq (ref_block (ref_seq (ref_region ?_)))))
      refine pull fun p30 h_p30 => ?_
      refine s_rd (r_index h_p30 Try.underlying22 el_3 rfl rfl) rfl ?_
      refine s_rd (r_load el_3 rfl) rfl ?_
      refine as1 rfl rfl ?_
      refine l_nil (n_then (ref_seq (ref_region ?_)))
      refine s_rd (r_faddr (fo := 0) Try.underlying34 rfl rfl Try.sizeOf30 rfl) rfl ?_
      refine s_rd (r_cload Try.isAgg30 rfl (j := 0) rfl rfl) rfl ?_
      refine mv1 rfl rfl ?_
      refine pull fun t31 h_t31 => ?_
      refine s_rd (r_index h_t31 Try.underlying30 el_64 rfl rfl) rfl ?_
      refine s_rd (r_fea (fo := 2) (ρ := rT_api_Premise) (y := t31) (ρ' := (rI .i64)) (z := t31.Kind) Try.underlying64 rfl rfl Try.sizeOf3 rfl rfl rfl) rfl ?_
      refine s_rd (r_load el_3 rfl) rfl ?_
      refine l_nil (n_then (ref_block (ref_seq (ref_region ?_))))
      refine s_rd (r_eql rfl rfl) rfl ?_
      refine as1 rfl rfl ?_
      refine l_nil (n_then ?_)
      refine ref_cond rfl (fun hb32 => ?_) (fun hb32 => ?_)
      · refine ref_region ?_
        refine mv1 rfl rfl ?_
        refine s_rd (r_faddr (fo := 0) Try.underlying34 rfl rfl Try.sizeOf30 rfl) rfl ?_
        refine s_rd (r_cload Try.isAgg30 rfl (j := 0) rfl rfl) rfl ?_
        refine mv1 rfl rfl ?_
        refine pull fun t33 h_t33 => ?_
        refine s_rd (r_index h_t33 Try.underlying30 el_64 rfl rfl) rfl ?_
        refine s_rd (r_fea (fo := 3) (ρ := rT_api_Premise) (y := t33) (ρ' := (rI .i64)) (z := t33.Rank) Try.underlying64 rfl rfl Try.sizeOf3 rfl rfl rfl) rfl ?_
        refine s_rd (r_load el_3 rfl) rfl ?_
        refine s_st (s_bslice (xs := [.tmp 32]) (ds := [t33.Rank]) Try.underlying22 el_3 rfl (Nat.le_of_ble_eq_true rfl) ⟨(part_at rfl iv_at), trivial⟩) rfl (fun _ => ?_)
        refine pull fun out34 h_out34 => ?_
        refine s_st (s_append h_out34 Try.underlying22 el_3 rfl (j := 1) rfl rfl) rfl (fun o35 => ?_)
        refine as1 rfl rfl ?_
        refine l_nil ?_
        refine b_of (nrm [oc b1 [slv rT_api_Premise b_0.Premises, slv rT_api_Rule b_0.Rules, slv rT_api_Promotion b_0.Promotions], oa (rI .i64) o35.1 o35.2 out34] rfl) ?_
        refine n_block (n_block (n_then (ref_region ?_)))
        refine s_rd (r_add rfl rfl) rfl ?_
        refine mv1 rfl rfl ?_
        refine l_nil ?_
        exact goB o35 (weak [0, 1] ⟨rfl, rfl, rfl, rfl, rfl, trivial⟩ ⟨rfl, rfl, trivial⟩)
      refine ref_seq (ref_region ?_)
      refine s_rd (r_eql rfl rfl) rfl ?_
      refine as1 rfl rfl ?_
      refine l_nil (n_then ?_)
      refine ref_cond rfl (fun hb36 => ?_) (fun hb36 => ?_)
      · refine ref_region ?_
        refine mv1 rfl rfl ?_
        refine s_st (s_bslice (xs := [.const (.int .i64 (-1))]) (ds := [(-1)]) Try.underlying22 el_3 rfl (Nat.le_of_ble_eq_true rfl) ⟨(part_at rfl iv_at), trivial⟩) rfl (fun _ => ?_)
        refine pull fun out37 h_out37 => ?_
        refine s_st (s_append h_out37 Try.underlying22 el_3 rfl (j := 1) rfl rfl) rfl (fun o38 => ?_)
        refine as1 rfl rfl ?_
        refine l_nil ?_
        refine b_of (nrm [oc b1 [slv rT_api_Premise b_0.Premises, slv rT_api_Rule b_0.Rules, slv rT_api_Promotion b_0.Promotions], oa (rI .i64) o38.1 o38.2 out37] rfl) ?_
        refine n_block (n_block (n_then (ref_region ?_)))
        refine s_rd (r_add rfl rfl) rfl ?_
        refine mv1 rfl rfl ?_
        refine l_nil ?_
        exact goB o38 (weak [0, 1] ⟨rfl, rfl, rfl, rfl, rfl, trivial⟩ ⟨rfl, rfl, trivial⟩)
      refine ref_skip (n_block (n_block (n_then (ref_region ?_))))
      refine s_rd (r_add rfl rfl) rfl ?_
      refine mv1 rfl rfl ?_
      refine l_nil ?_
      exact goB x28 (weak [0, 1] ⟨rfl, rfl, rfl, rfl, rfl, trivial⟩ ⟨rfl, rfl, trivial⟩)
    refine ref_exit (x_then ?_)
    exact brkB x28 (weak [1] ⟨rfl, trivial⟩ ⟨rfl, trivial⟩)
  refine n_then (ref_seq (ref_region ?_))
  refine mv1 rfl rfl ?_
  refine as1 rfl rfl ?_
  refine l_nil (n_then (ref_ret ?_))
  exact fin1 (.inl rfl) y40 [0] rfl ⟨rfl, trivial⟩ rfl (rv_tmp rfl)

/-! deliberation/deliberationkeep.Ints -/
noncomputable def keep_Ints_l1 (a__0 : (List Int)) (b_1 : (List Int)) (s8 : Int) : Option (Sum ((Sum (Bool) (Unit))) (Int)) :=
  bif decide (s8 < (a__0.length : Int)) then
    Option.bind (idxM a__0 s8) fun t11 =>
    Option.bind (idxM b_1 s8) fun t12 =>
    bif t11 != t12 then
      some (Sum.inl (Sum.inl false))
    else
      some (Sum.inr (iadd .i64 s8 1))
  else
    some (Sum.inl (Sum.inr ()))

noncomputable def keep_Ints_m (a__0 : (List Int)) (b_1 : (List Int)) : Option (Bool) :=
  bif (a__0.length : Int) != (b_1.length : Int) then
    some false
  else
    Option.bind (loopC (keep_Ints_l1 a__0 b_1) 0) (sumK (fun a : Bool => some a) fun q14 : Unit =>
      some true)

theorem keep_Ints_ok {a__0 : (List Int)} {b_1 : (List Int)} {r : Bool} (hm : keep_Ints_m a__0 b_1 = some r) :
    FnOk prog 14 [slv (rI .i64) a__0, slv (rI .i64) b_1] [] (fun (x : Unit) => [bv r]) (fun (x : Unit) => []) := by
  refine fn_ok (fn := Try.f14) (N := 26) (res := fun r x => [bv r]) (Ω1 := fun r x => []) Try.func14 rfl rfl hm rfl (fun E hM => ?_)
  unfold keep_Ints_m
  refine ref_seq (ref_region ?_)
  refine as1 rfl rfl ?_
  refine l_nil (n_then (ref_seq (ref_seq (ref_region ?_))))
  refine mv1 rfl rfl ?_
  refine s_rd (r_len Try.underlying22 rfl) rfl ?_
  refine mv1 rfl rfl ?_
  refine s_rd (r_len Try.underlying22 rfl) rfl ?_
  refine s_rd (r_neq rfl rfl) rfl ?_
  refine l_nil (n_then ?_)
  refine ref_cond rfl (fun hb1 => ?_) (fun hb1 => ?_)
  · refine ref_seq (ref_region ?_)
    refine as1 rfl rfl ?_
    refine l_nil (n_then (ref_ret (r_then ?_)))
    exact fin1 (.inl rfl) () [] rfl trivial rfl (rv_tmp rfl)
  refine ref_skip (n_then (ref_seq (ref_seq (ref_region ?_))))
  refine mv1 rfl rfl ?_
  refine s_rd (r_len Try.underlying22 rfl) rfl ?_
  refine mv1 rfl rfl ?_
  refine l_nil (n_then ?_)
  refine ref_loopX (f := (keep_Ints_l1 a__0 b_1)) (Γl := (fun (s8 : Int) (x9 : Unit) => [(0, slv (rI .i64) a__0), (1, slv (rI .i64) b_1), (12, iv .i64 (a__0.length : Int)), (13, iv .i64 s8)])) (Ωl := (fun (s8 : Int) (x9 : Unit) => [])) (Γb := (fun (q14 : Unit) (y15 : Unit) => [])) (Ωb := (fun (q14 : Unit) (y15 : Unit) => [])) (kr := (fun a : Bool => some a)) 0 () (weak [] ⟨rfl, rfl, rfl, rfl, trivial⟩ trivial) (fun s8 x9 => ?_) (fun q14 y15 => ?_)
  · unfold keep_Ints_l1
    refine ref_seq (ref_region ?_)
    refine s_rd (r_lss rfl rfl) rfl ?_
    refine l_nil (n_then (ref_seq ?_))
    refine ref_cond rfl (fun hb10 => ?_) (fun hb10 => ?_)
    · refine ref_skip (n_then (ref_seq (ref_block (ref_seq (ref_region ?_)))))
      refine mv1 rfl rfl ?_
      refine as1 rfl rfl ?_
      refine l_nil (n_then (ref_seq ?_))
      refine ref_draw [0, 1, 2, 3, 4, 5, 6, 7, 8] rfl (by kernel_rfl) (fun hok => ?_)
      refine a_rd (i := 0) hok rfl (by kernel_rfl) rfl (r_move rfl) rfl ?_
      refine a_rd (i := 1) hok rfl (by kernel_rfl) rfl (r_move rfl) rfl ?_
      refine pull fun t11 h_t11 => ?_
      refine a_rd (i := 2) hok rfl (by kernel_rfl) rfl (r_index h_t11 Try.underlying22 el_3 rfl rfl) rfl ?_
      refine a_rd (i := 3) hok rfl (by kernel_rfl) rfl (r_load el_3 rfl) rfl ?_
      refine a_rd (i := 4) hok rfl (by kernel_rfl) rfl (r_move rfl) rfl ?_
      refine a_rd (i := 5) hok rfl (by kernel_rfl) rfl (r_move rfl) rfl ?_
      refine pull fun t12 h_t12 => ?_
      refine a_rd (i := 6) hok rfl (by kernel_rfl) rfl (r_index h_t12 Try.underlying22 el_3 rfl rfl) rfl ?_
      refine a_rd (i := 7) hok rfl (by kernel_rfl) rfl (r_load el_3 rfl) rfl ?_
      refine a_rd (i := 8) hok rfl (by kernel_rfl) rfl (r_neq rfl rfl) rfl ?_
      refine a_fin hok (by kernel_rfl) ?_
      refine n_then ?_
      refine ref_cond rfl (fun hb13 => ?_) (fun hb13 => ?_)
      · refine ref_seq (ref_region ?_)
        refine as1 rfl rfl ?_
        refine l_nil (n_then (ref_ret (r_block (r_then ?_))))
        refine retX ?_
        refine r_block (r_then ?_)
        exact fin1 (.inl rfl) () [] rfl trivial rfl (rv_tmp rfl)
      refine ref_skip (n_block (n_then (ref_region ?_)))
      refine s_rd (r_add rfl rfl) rfl ?_
      refine mv1 rfl rfl ?_
      refine l_nil ?_
      exact goX () (weak [] ⟨rfl, rfl, rfl, rfl, trivial⟩ trivial)
    refine ref_exit (x_then ?_)
    exact brkX () (weak [] trivial trivial)
  refine n_then (ref_seq (ref_region ?_))
  refine as1 rfl rfl ?_
  refine l_nil (n_then (ref_ret ?_))
  exact fin1 (.inl rfl) () [] rfl trivial rfl (rv_tmp rfl)

/-! deliberation/deliberationref08.RuleRanks -/
noncomputable def ref08_RuleRanks_l1 (b_0 : T_api_Base) (t2 : List Int) (s17 : Int × (List Int)) : Option (Sum ((List Int)) (Int × (List Int))) :=
  bif decide (s17.1 < (t2.length : Int)) then
    Option.bind (idxM t2 s17.1) fun r_20 =>
    Option.bind (idxM b_0.Rules r_20) fun t21 =>
    Option.bind (appM 8 s17.2 [t21.Rank]) fun out22 =>
    some (Sum.inr (iadd .i64 s17.1 1, out22))
  else
    some (Sum.inl s17.2)

noncomputable def ref08_RuleRanks_m (b_0 : T_api_Base) (l_1 : (List T_api_Argument)) (i_2 : Int) : Option (List Int) :=
  Option.bind (ref07_Defeasible_m b_0 l_1 i_2) fun t2 =>
  Option.bind (loopC (ref08_RuleRanks_l1 b_0 t2) (0, [])) fun q24 : (List Int) =>
  some q24

theorem ref08_RuleRanks_ok {b_0 : T_api_Base} {l_1 : (List T_api_Argument)} {i_2 : Int} {r : List Int} (hm : ref08_RuleRanks_m b_0 l_1 i_2 = some r) :
    FnOk prog 18 [ag [slv rT_api_Premise b_0.Premises, slv rT_api_Rule b_0.Rules, slv rT_api_Promotion b_0.Promotions], slv rT_api_Argument l_1, iv .i64 i_2] [] (fun (x : (Value × List Nat)) => [pv x.1]) (fun (x : (Value × List Nat)) => [oa (rI .i64) x.1 x.2 r]) := by
  refine fn_ok (X := (Value × List Nat)) (fn := Try.f18) (N := 30) (res := fun r x => [pv x.1]) (Ω1 := fun r x => [oa (rI .i64) x.1 x.2 r]) Try.func18 rfl rfl hm rfl (fun E hM => ?_)
  unfold ref08_RuleRanks_m
  refine ref_seq (ref_region ?_)
  refine s_st (s_box (part_agO (ψs := [slv rT_api_Premise b_0.Premises, slv rT_api_Rule b_0.Rules, slv rT_api_Promotion b_0.Promotions]) rfl ⟨.inl slv_at, .inl slv_at, .inl slv_at, trivial⟩)) rfl (fun b1 => ?_)
  refine as1 rfl rfl ?_
  refine l_nil (n_then (ref_seq (ref_region ?_)))
  refine as1 rfl rfl ?_
  refine l_nil (n_then (ref_seq (ref_seq (ref_region ?_))))
  refine s_rd (r_cloadS Try.isAgg34 Try.sizeOf34 rfl (j := 0) rfl rfl rfl) rfl ?_
  refine mv1 rfl rfl ?_
  refine mv1 rfl rfl ?_
  refine pull fun t2 h_t2 => ?_
  refine s_st (s_call (ψ := fun (_ : Unit) => slv (rI .i64) t2) (args := [.tmp 10, .tmp 11, .tmp 12]) Try.call37 rfl (ref07_Defeasible_ok h_t2) ⟨arg rfl, arg rfl, arg rfl, trivial⟩ (fun _ _ _ _ h => h)) rfl (fun _ => ?_)
  refine s_rd (r_len Try.underlying22 rfl) rfl ?_
  refine mv1 rfl rfl ?_
  refine l_nil (n_then ?_)
  refine b_of (own_nil (rI .i64)) ?_
  refine ref_loopB (f := (ref08_RuleRanks_l1 b_0 t2)) (Γl := (fun (s17 : Int × (List Int)) (x18 : (Value × List Nat)) => [(3, pv (ptr b1 0)), (7, pv x18.1), (13, slv (rI .i64) t2), (14, iv .i64 (t2.length : Int)), (15, iv .i64 s17.1)])) (Ωl := (fun (s17 : Int × (List Int)) (x18 : (Value × List Nat)) => [oc b1 [slv rT_api_Premise b_0.Premises, slv rT_api_Rule b_0.Rules, slv rT_api_Promotion b_0.Promotions], oa (rI .i64) x18.1 x18.2 s17.2])) (Γb := (fun (q24 : (List Int)) (y25 : (Value × List Nat)) => [(7, pv y25.1)])) (Ωb := (fun (q24 : (List Int)) (y25 : (Value × List Nat)) => [oa (rI .i64) y25.1 y25.2 q24])) (0, []) ((.slice none 0 0), []) (weak [0, 1] ⟨rfl, rfl, rfl, rfl, rfl, trivial⟩ ⟨rfl, rfl, trivial⟩) (fun s17 x18 => ?_) (fun q24 y25 => ?_)
  · unfold ref08_RuleRanks_l1
    refine ref_seq (ref_region ?_)
    refine s_rd (r_lss rfl rfl) rfl ?_
    refine l_nil (n_then (ref_seq ?_))
    refine ref_cond rfl (fun hb19 => ?_) (fun hb19 => ?_)
    · refine ref_skip (n_then (ref_seq (ref_block (ref_seq (ref_region ?_)))))
      refine pull fun r_20 h_r_20 => ?_
      refine s_rd (r_index h_r_20 Try.underlying22 el_3 rfl rfl) rfl ?_
      refine s_rd (r_load el_3 rfl) rfl ?_
      refine as1 rfl rfl ?_
      refine l_nil (n_then (ref_region ?_))
      refine mv1 rfl rfl ?_
      refine s_rd (r_faddr (fo := 1) Try.underlying34 rfl rfl Try.sizeOf31 rfl) rfl ?_
      refine s_rd (r_cload Try.isAgg31 rfl (j := 0) rfl rfl) rfl ?_
      refine mv1 rfl rfl ?_
      refine pull fun t21 h_t21 => ?_
      refine s_rd (r_index h_t21 Try.underlying31 el_55 rfl rfl) rfl ?_
      refine s_rd (r_fea (fo := 2) (ρ := rT_api_Rule) (y := t21) (ρ' := (rI .i64)) (z := t21.Rank) Try.underlying55 rfl rfl Try.sizeOf3 rfl rfl rfl) rfl ?_
      refine s_rd (r_load el_3 rfl) rfl ?_
      refine s_st (s_bslice (xs := [.tmp 25]) (ds := [t21.Rank]) Try.underlying22 el_3 rfl (Nat.le_of_ble_eq_true rfl) ⟨(part_at rfl iv_at), trivial⟩) rfl (fun _ => ?_)
      refine pull fun out22 h_out22 => ?_
      refine s_st (s_append h_out22 Try.underlying22 el_3 rfl (j := 1) rfl rfl) rfl (fun o23 => ?_)
      refine as1 rfl rfl ?_
      refine l_nil ?_
      refine b_of (nrm [oc b1 [slv rT_api_Premise b_0.Premises, slv rT_api_Rule b_0.Rules, slv rT_api_Promotion b_0.Promotions], oa (rI .i64) o23.1 o23.2 out22] rfl) ?_
      refine n_block (n_then (ref_region ?_))
      refine s_rd (r_add rfl rfl) rfl ?_
      refine mv1 rfl rfl ?_
      refine l_nil ?_
      exact goB o23 (weak [0, 1] ⟨rfl, rfl, rfl, rfl, rfl, trivial⟩ ⟨rfl, rfl, trivial⟩)
    refine ref_exit (x_then ?_)
    exact brkB x18 (weak [1] ⟨rfl, trivial⟩ ⟨rfl, trivial⟩)
  refine n_then (ref_seq (ref_region ?_))
  refine mv1 rfl rfl ?_
  refine as1 rfl rfl ?_
  refine l_nil (n_then (ref_ret ?_))
  exact fin1 (.inl rfl) y25 [0] rfl ⟨rfl, trivial⟩ rfl (rv_tmp rfl)

/-! deliberation/deliberationref07.Last -/
noncomputable def ref07_Last_l1 (b_0 : T_api_Base) (l_1 : (List T_api_Argument)) (i_2 : Int) (rec_ : T_api_Base → (List T_api_Argument) → Int → Option (List Int)) (s25 : (List Int) × Int) : Option (Sum ((List Int)) ((List Int) × Int)) :=
  Option.bind (idxM l_1 i_2) fun t27 =>
  bif decide (s25.2 < (t27.Subs.length : Int)) then
    Option.bind (idxM l_1 i_2) fun t29 =>
    Option.bind (idxM t29.Subs s25.2) fun t30 =>
    Option.bind (rec_ b_0 l_1 t30) fun t31 =>
    Option.bind (ref07_union_m s25.1 t31) fun out32 =>
    letM (iadd .i64 s25.2 1) fun k33 =>
    some (Sum.inr (out32, k33))
  else
    some (Sum.inl s25.1)

noncomputable def ref07_Last_b (rec_ : T_api_Base → (List T_api_Argument) → Int → Option (List Int)) (b_0 : T_api_Base) (l_1 : (List T_api_Argument)) (i_2 : Int) : Option (List Int) :=
  bif decide (i_2 < 0) then
    some []
  else
    bif decide (i_2 ≥ (l_1.length : Int)) then
      some []
    else
      Option.bind (idxM l_1 i_2) fun t2 =>
      bif decide (t2.Rule < 0) then
        some []
      else
        Option.bind (idxM l_1 i_2) fun t4 =>
        Option.bind (idxM b_0.Rules t4.Rule) fun t5 =>
        bif !t5.Strict then
          Option.bind (idxM l_1 i_2) fun t7 =>
          some [t7.Rule]
        else
          Option.bind (loopC (ref07_Last_l1 b_0 l_1 i_2 rec_) ([], 0)) fun q34 : (List Int) =>
          some q34

noncomputable def ref07_Last_n : Nat → T_api_Base → (List T_api_Argument) → Int → Option (List Int)
  | 0 => fun _ _ _ => none
  | n_ + 1 => ref07_Last_b (ref07_Last_n n_)

noncomputable def ref07_Last_m (b_0 : T_api_Base) (l_1 : (List T_api_Argument)) (i_2 : Int) : Option (List Int) := recC fun n_ => ref07_Last_n n_ b_0 l_1 i_2

theorem ref07_Last_step (rec_ : T_api_Base → (List T_api_Argument) → Int → Option (List Int)) (ih : ∀ {b_0 : T_api_Base} {l_1 : (List T_api_Argument)} {i_2 : Int} {r : List Int}, rec_ b_0 l_1 i_2 = some r →
    FnOk prog 39 [ag [slv rT_api_Premise b_0.Premises, slv rT_api_Rule b_0.Rules, slv rT_api_Promotion b_0.Promotions], slv rT_api_Argument l_1, iv .i64 i_2] [] (fun (x : Unit) => [slv (rI .i64) r]) (fun (x : Unit) => [])) {b_0 : T_api_Base} {l_1 : (List T_api_Argument)} {i_2 : Int} {r : List Int} (hm : ref07_Last_b rec_ b_0 l_1 i_2 = some r) :
    FnOk prog 39 [ag [slv rT_api_Premise b_0.Premises, slv rT_api_Rule b_0.Rules, slv rT_api_Promotion b_0.Promotions], slv rT_api_Argument l_1, iv .i64 i_2] [] (fun (x : Unit) => [slv (rI .i64) r]) (fun (x : Unit) => []) := by
  refine fn_ok (fn := Try.f39) (N := 66) (res := fun r x => [slv (rI .i64) r]) (Ω1 := fun r x => []) Try.func39 rfl rfl hm rfl (fun E hM => ?_)
  unfold ref07_Last_b
  refine ref_seq (ref_region ?_)
  refine s_st (s_box (part_agO (ψs := [slv rT_api_Premise b_0.Premises, slv rT_api_Rule b_0.Rules, slv rT_api_Promotion b_0.Promotions]) rfl ⟨.inl slv_at, .inl slv_at, .inl slv_at, trivial⟩)) rfl (fun b1 => ?_)
  refine as1 rfl rfl ?_
  refine l_nil (n_then (ref_seq (ref_seq (ref_region ?_))))
  refine mv1 rfl rfl ?_
  refine s_rd (r_lss rfl rfl) rfl ?_
  refine mv1 rfl rfl ?_
  refine b_split (t := 11) rfl (fun _ => ?_) (fun _ => ?_)
  · refine s_off rfl rfl rfl rfl rfl ?_
    refine s_off rfl rfl rfl rfl rfl ?_
    refine s_off rfl rfl rfl rfl rfl ?_
    refine s_off rfl rfl rfl rfl rfl ?_
    refine s_rd (r_pickT rfl rfl) rfl ?_
    refine mv1 rfl rfl ?_
    refine s_off rfl rfl rfl rfl rfl ?_
    refine s_off rfl rfl rfl rfl rfl ?_
    refine s_off rfl rfl rfl rfl rfl ?_
    refine s_off rfl rfl rfl rfl rfl ?_
    refine s_off rfl rfl rfl rfl rfl ?_
    refine s_off rfl rfl rfl rfl rfl ?_
    refine s_rd (r_pickT rfl rfl) rfl ?_
    refine l_nil (n_then ?_)
    refine ref_condT rfl rfl ?_
    refine ref_seq (ref_region ?_)
    refine as1 rfl rfl ?_
    refine l_nil (n_then (ref_ret (r_then ?_)))
    refine b_of (sl_nil (rI .i64) (t := 6) rfl) ?_
    exact fin1 (.inl rfl) () [] rfl trivial rfl (rv_tmp rfl)
  refine s_on rfl rfl rfl ?_
  refine mv1 rfl rfl ?_
  refine s_on rfl rfl rfl ?_
  refine mv1 rfl rfl ?_
  refine s_on rfl rfl rfl ?_
  refine s_rd (r_len Try.underlying35 rfl) rfl ?_
  refine s_on rfl rfl rfl ?_
  refine s_rd (r_geq rfl rfl) rfl ?_
  refine s_rd (r_pickF rfl rfl) rfl ?_
  refine mv1 rfl rfl ?_
  refine b_split (t := 17) rfl (fun _ => ?_) (fun _ => ?_)
  · refine s_off rfl rfl rfl rfl rfl ?_
    refine s_off rfl rfl rfl rfl rfl ?_
    refine s_off rfl rfl rfl rfl rfl ?_
    refine s_off rfl rfl rfl rfl rfl ?_
    refine s_off rfl rfl rfl rfl rfl ?_
    refine s_off rfl rfl rfl rfl rfl ?_
    refine s_rd (r_pickT rfl rfl) rfl ?_
    refine l_nil (n_then ?_)
    refine ref_condT rfl rfl ?_
    refine ref_seq (ref_region ?_)
    refine as1 rfl rfl ?_
    refine l_nil (n_then (ref_ret (r_then ?_)))
    refine b_of (sl_nil (rI .i64) (t := 6) rfl) ?_
    exact fin1 (.inl rfl) () [] rfl trivial rfl (rv_tmp rfl)
  refine s_on rfl rfl rfl ?_
  refine mv1 rfl rfl ?_
  refine s_on rfl rfl rfl ?_
  refine mv1 rfl rfl ?_
  refine s_on rfl rfl rfl ?_
  refine pull fun t2 h_t2 => ?_
  refine s_rd (r_index h_t2 Try.underlying35 el_52 rfl rfl) rfl ?_
  refine s_on rfl rfl rfl ?_
  refine s_rd (r_fea (fo := 1) (ρ := rT_api_Argument) (y := t2) (ρ' := (rI .i64)) (z := t2.Rule) Try.underlying52 rfl rfl Try.sizeOf3 rfl rfl rfl) rfl ?_
  refine s_on rfl rfl rfl ?_
  refine s_rd (r_load el_3 rfl) rfl ?_
  refine s_on rfl rfl rfl ?_
  refine s_rd (r_lss rfl rfl) rfl ?_
  refine s_rd (r_pickF rfl rfl) rfl ?_
  refine l_nil (n_then ?_)
  refine ref_cond rfl (fun hb3 => ?_) (fun hb3 => ?_)
  · refine ref_seq (ref_region ?_)
    refine as1 rfl rfl ?_
    refine l_nil (n_then (ref_ret (r_then ?_)))
    refine b_of (sl_nil (rI .i64) (t := 6) rfl) ?_
    exact fin1 (.inl rfl) () [] rfl trivial rfl (rv_tmp rfl)
  refine ref_skip (n_then (ref_seq (ref_seq ?_)))
  refine ref_draw [0, 1, 2, 3, 4, 5, 6, 7, 8, 9, 10] rfl (by kernel_rfl) (fun hok => ?_)
  refine a_rd (i := 0) hok rfl (by kernel_rfl) rfl (r_faddr (fo := 1) Try.underlying34 rfl rfl Try.sizeOf31 rfl) rfl ?_
  refine a_rd (i := 1) hok rfl (by kernel_rfl) rfl (r_cload Try.isAgg31 rfl (j := 0) rfl rfl) rfl ?_
  refine a_rd (i := 2) hok rfl (by kernel_rfl) rfl (r_move rfl) rfl ?_
  refine a_rd (i := 3) hok rfl (by kernel_rfl) rfl (r_move rfl) rfl ?_
  refine pull fun t4 h_t4 => ?_
  refine a_rd (i := 4) hok rfl (by kernel_rfl) rfl (r_index h_t4 Try.underlying35 el_52 rfl rfl) rfl ?_
  refine a_rd (i := 5) hok rfl (by kernel_rfl) rfl (r_fea (fo := 1) (ρ := rT_api_Argument) (y := t4) (ρ' := (rI .i64)) (z := t4.Rule) Try.underlying52 rfl rfl Try.sizeOf3 rfl rfl rfl) rfl ?_
  refine a_rd (i := 6) hok rfl (by kernel_rfl) rfl (r_load el_3 rfl) rfl ?_
  refine pull fun t5 h_t5 => ?_
  refine a_rd (i := 7) hok rfl (by kernel_rfl) rfl (r_index h_t5 Try.underlying31 el_55 rfl rfl) rfl ?_
  refine a_rd (i := 8) hok rfl (by kernel_rfl) rfl (r_fea (fo := 1) (ρ := rT_api_Rule) (y := t5) (ρ' := rB) (z := t5.Strict) Try.underlying55 rfl rfl Try.sizeOf4 rfl rfl rfl) rfl ?_
  refine a_rd (i := 9) hok rfl (by kernel_rfl) rfl (r_load el_4 rfl) rfl ?_
  refine a_rd (i := 10) hok rfl (by kernel_rfl) rfl (r_not rfl) rfl ?_
  refine a_fin hok (by kernel_rfl) ?_
  refine n_then ?_
  refine ref_cond rfl (fun hb6 => ?_) (fun hb6 => ?_)
  · refine ref_seq (ref_region ?_)
    refine mv1 rfl rfl ?_
    refine mv1 rfl rfl ?_
    refine pull fun t7 h_t7 => ?_
    refine s_rd (r_index h_t7 Try.underlying35 el_52 rfl rfl) rfl ?_
    refine s_rd (r_fea (fo := 1) (ρ := rT_api_Argument) (y := t7) (ρ' := (rI .i64)) (z := t7.Rule) Try.underlying52 rfl rfl Try.sizeOf3 rfl rfl rfl) rfl ?_
    refine s_rd (r_load el_3 rfl) rfl ?_
    refine s_st (s_bslice (xs := [.tmp 40]) (ds := [t7.Rule]) Try.underlying22 el_3 rfl (Nat.le_of_ble_eq_true rfl) ⟨(part_at rfl iv_at), trivial⟩) rfl (fun _ => ?_)
    refine as1 rfl rfl ?_
    refine l_nil (n_then (ref_ret (r_then ?_)))
    exact fin1 (.inl rfl) () [] rfl trivial rfl (rv_tmp rfl)
  refine ref_skip (n_then (ref_seq (ref_region ?_)))
  refine as1 rfl rfl ?_
  refine l_nil (n_then (ref_seq (ref_seq (ref_region ?_))))
  refine as1 rfl rfl ?_
  refine l_nil (n_then ?_)
  refine b_of (sl_nil (rI .i64) (t := 7) rfl) ?_
  refine ref_loopB (f := (ref07_Last_l1 b_0 l_1 i_2 rec_)) (Γl := (fun (s25 : (List Int) × Int) (x26 : Unit) => [(1, slv rT_api_Argument l_1), (2, iv .i64 i_2), (3, pv (ptr b1 0)), (7, slv (rI .i64) s25.1), (8, iv .i64 s25.2)])) (Ωl := (fun (s25 : (List Int) × Int) (x26 : Unit) => [oc b1 [slv rT_api_Premise b_0.Premises, slv rT_api_Rule b_0.Rules, slv rT_api_Promotion b_0.Promotions]])) (Γb := (fun (q34 : (List Int)) (y35 : Unit) => [(7, slv (rI .i64) q34)])) (Ωb := (fun (q34 : (List Int)) (y35 : Unit) => [])) ([], 0) () (weak [0] ⟨rfl, rfl, rfl, rfl, rfl, trivial⟩ ⟨rfl, trivial⟩) (fun s25 x26 => ?_) (fun q34 y35 => ?_)
  · unfold ref07_Last_l1
    refine ref_seq (ref_seq (ref_region ?_))
    refine mv1 rfl rfl ?_
    refine mv1 rfl rfl ?_
    refine mv1 rfl rfl ?_
    refine pull fun t27 h_t27 => ?_
    refine s_rd (r_index h_t27 Try.underlying35 el_52 rfl rfl) rfl ?_
    refine s_rd (r_fea (fo := 2) (ρ := rT_api_Argument) (y := t27) (ρ' := (rSl (rI .i64))) (z := t27.Subs) Try.underlying52 rfl rfl Try.sizeOf22 rfl rfl rfl) rfl ?_
    refine s_rd (r_load el_22 rfl) rfl ?_
    refine s_rd (r_len Try.underlying22 rfl) rfl ?_
    refine s_rd (r_lss rfl rfl) rfl ?_
    refine l_nil (n_then ?_)
    refine ref_cond rfl (fun hb28 => ?_) (fun hb28 => ?_)
    · refine ref_skip (n_then (ref_seq (ref_block ?_)))
      refine ref_draw [0, 1, 2, 3, 4, 5, 6, 7, 8, 9, 10] rfl (by kernel_rfl) (fun hok => ?_)
      refine a_rd (i := 0) hok rfl (by kernel_rfl) rfl (r_move rfl) rfl ?_
      refine a_rd (i := 1) hok rfl (by kernel_rfl) rfl (r_cloadS Try.isAgg34 Try.sizeOf34 rfl (j := 0) rfl rfl rfl) rfl ?_
      refine a_rd (i := 2) hok rfl (by kernel_rfl) rfl (r_move rfl) rfl ?_
      refine a_rd (i := 3) hok rfl (by kernel_rfl) rfl (r_move rfl) rfl ?_
      refine a_rd (i := 4) hok rfl (by kernel_rfl) rfl (r_move rfl) rfl ?_
      refine pull fun t29 h_t29 => ?_
      refine a_rd (i := 5) hok rfl (by kernel_rfl) rfl (r_index h_t29 Try.underlying35 el_52 rfl rfl) rfl ?_
      refine a_rd (i := 6) hok rfl (by kernel_rfl) rfl (r_fea (fo := 2) (ρ := rT_api_Argument) (y := t29) (ρ' := (rSl (rI .i64))) (z := t29.Subs) Try.underlying52 rfl rfl Try.sizeOf22 rfl rfl rfl) rfl ?_
      refine a_rd (i := 7) hok rfl (by kernel_rfl) rfl (r_load el_22 rfl) rfl ?_
      refine a_rd (i := 8) hok rfl (by kernel_rfl) rfl (r_move rfl) rfl ?_
      refine pull fun t30 h_t30 => ?_
      refine a_rd (i := 9) hok rfl (by kernel_rfl) rfl (r_index h_t30 Try.underlying22 el_3 rfl rfl) rfl ?_
      refine a_rd (i := 10) hok rfl (by kernel_rfl) rfl (r_load el_3 rfl) rfl ?_
      refine pull fun t31 h_t31 => ?_
      refine a_next hok 11 [] (by kernel_rfl) ?_ trivial
      refine a_st (i := 11) hok rfl rfl (s_call (ψ := fun (_ : Unit) => slv (rI .i64) t31) (args := [.tmp 53, .tmp 54, .tmp 62]) Try.call39 rfl (ih h_t31) ⟨arg rfl, arg rfl, arg rfl, trivial⟩ (fun _ _ _ _ h => h)) (by intro _ h; cases h; rfl) (fun _ => ⟨trivial, ⟨trivial, ⟨trivial, ⟨trivial, ⟨trivial, ⟨trivial, ⟨trivial, ⟨trivial, ⟨trivial, ⟨trivial, ⟨trivial, trivial⟩⟩⟩⟩⟩⟩⟩⟩⟩⟩⟩) (fun _ => ?_)
      refine pull fun out32 h_out32 => ?_
      refine a_next hok 12 [] (by kernel_rfl) ?_ trivial
      refine a_st (i := 12) hok rfl rfl (s_call (ψ := fun (_ : Unit) => slv (rI .i64) out32) (args := [.tmp 52, .tmp 63]) Try.call62 rfl (ref07_union_ok h_out32) ⟨arg rfl, arg rfl, trivial⟩ (fun _ _ _ _ h => h)) (by intro _ h; cases h; rfl) (fun _ => ⟨trivial, ⟨trivial, ⟨trivial, ⟨trivial, ⟨trivial, ⟨trivial, ⟨trivial, ⟨trivial, ⟨trivial, ⟨⟨⟨rfl, rfl⟩, trivial⟩, ⟨trivial, trivial⟩⟩⟩⟩⟩⟩⟩⟩⟩⟩⟩) (fun _ => ?_)
      refine a_next hok 13 [] (by kernel_rfl) ?_ trivial
      refine a_st (i := 13) hok rfl rfl (St.ofRd (r_assign rfl)) (by intro _ h; cases h; rfl) (fun _ => ⟨trivial, ⟨trivial, ⟨trivial, ⟨trivial, ⟨trivial, ⟨trivial, ⟨trivial, ⟨trivial, ⟨trivial, ⟨trivial, ⟨trivial, trivial⟩⟩⟩⟩⟩⟩⟩⟩⟩⟩⟩) (fun _ => ?_)
      refine a_fin hok (by kernel_rfl) ?_
      refine b_of (nrm [oc b1 [slv rT_api_Premise b_0.Premises, slv rT_api_Rule b_0.Rules, slv rT_api_Promotion b_0.Promotions]] rfl) ?_
      refine n_block (n_then (ref_region ?_))
      refine mv1 rfl rfl ?_
      refine s_rd (r_add rfl rfl) rfl ?_
      refine as1 rfl rfl ?_
      refine b_let (f := iv .i64) (t := 8) rfl fun k33 => ?_
      refine l_nil ?_
      exact goB () (weak [0] ⟨rfl, rfl, rfl, rfl, rfl, trivial⟩ ⟨rfl, trivial⟩)
    refine ref_exit (x_then ?_)
    exact brkB () (weak [] ⟨rfl, trivial⟩ trivial)
  refine n_then (ref_seq (ref_region ?_))
  refine mv1 rfl rfl ?_
  refine as1 rfl rfl ?_
  refine l_nil (n_then (ref_ret ?_))
  exact fin1 (.inl rfl) () [] rfl trivial rfl (rv_tmp rfl)

theorem ref07_Last_n_ok : ∀ (n_ : Nat) {b_0 : T_api_Base} {l_1 : (List T_api_Argument)} {i_2 : Int} {r : List Int}, ref07_Last_n n_ b_0 l_1 i_2 = some r →
    FnOk prog 39 [ag [slv rT_api_Premise b_0.Premises, slv rT_api_Rule b_0.Rules, slv rT_api_Promotion b_0.Promotions], slv rT_api_Argument l_1, iv .i64 i_2] [] (fun (x : Unit) => [slv (rI .i64) r]) (fun (x : Unit) => []) := by
  intro n_
  induction n_ with
  | zero => intros; rename_i h; cases h
  | succ n_ ih => intros; rename_i h; exact ref07_Last_step _ @ih h

theorem ref07_Last_ok {b_0 : T_api_Base} {l_1 : (List T_api_Argument)} {i_2 : Int} {r : List Int} (hm : ref07_Last_m b_0 l_1 i_2 = some r) :
    FnOk prog 39 [ag [slv rT_api_Premise b_0.Premises, slv rT_api_Rule b_0.Rules, slv rT_api_Promotion b_0.Promotions], slv rT_api_Argument l_1, iv .i64 i_2] [] (fun (x : Unit) => [slv (rI .i64) r]) (fun (x : Unit) => []) := by
  obtain ⟨n_, h⟩ := recC_some hm
  exact ref07_Last_n_ok n_ h

theorem ref07_Last_l1_le {rec_ rec_' : T_api_Base → (List T_api_Argument) → Int → Option (List Int)} (h : ∀ b_0 l_1 i_2, Le (rec_ b_0 l_1 i_2) (rec_' b_0 l_1 i_2)) {b_0 : T_api_Base} {l_1 : (List T_api_Argument)} {i_2 : Int} {s25 : (List Int) × Int}  : Le (ref07_Last_l1 b_0 l_1 i_2 rec_ s25) (ref07_Last_l1 b_0 l_1 i_2 rec_' s25) := by
  unfold ref07_Last_l1
  repeat' with_reducible (first | exact Le.refl _ | exact h _ _ _ | refine Le.bind ?_ (Le.sumK fun _ => ?_) | refine Le.bind ?_ (fun _ => ?_) | refine Le.cond ?_ ?_ | refine Le.letM (fun _ => ?_) | refine Le.join (fun _ => ?_) (fun _ _ hj => ?_) | exact hj _)

theorem ref07_Last_b_le {rec_ rec_' : T_api_Base → (List T_api_Argument) → Int → Option (List Int)} (h : ∀ b_0 l_1 i_2, Le (rec_ b_0 l_1 i_2) (rec_' b_0 l_1 i_2)) {b_0 : T_api_Base} {l_1 : (List T_api_Argument)} {i_2 : Int} : Le (ref07_Last_b rec_ b_0 l_1 i_2) (ref07_Last_b rec_' b_0 l_1 i_2) := by
  unfold ref07_Last_b
  repeat' with_reducible (first | exact Le.refl _ | exact h _ _ _ | refine Le.loopC (fun _ => ref07_Last_l1_le h) | refine Le.bind ?_ (Le.sumK fun _ => ?_) | refine Le.bind ?_ (fun _ => ?_) | refine Le.cond ?_ ?_ | refine Le.letM (fun _ => ?_) | refine Le.join (fun _ => ?_) (fun _ _ hj => ?_) | exact hj _)

theorem ref07_Last_n_le : ∀ (n_ : Nat) (b_0 : T_api_Base) (l_1 : (List T_api_Argument)) (i_2 : Int), Le (ref07_Last_n n_ b_0 l_1 i_2) (ref07_Last_n (n_ + 1) b_0 l_1 i_2)
  | 0, _, _, _ => fun _ h => by cases h
  | n_ + 1, _, _, _ => ref07_Last_b_le (ref07_Last_n_le n_)

/-! deliberation/deliberationref08.LastRanks -/
noncomputable def ref08_LastRanks_l1 (b_0 : T_api_Base) (t2 : List Int) (s17 : Int × (List Int)) : Option (Sum ((List Int)) (Int × (List Int))) :=
  bif decide (s17.1 < (t2.length : Int)) then
    Option.bind (idxM t2 s17.1) fun r_20 =>
    Option.bind (idxM b_0.Rules r_20) fun t21 =>
    Option.bind (appM 8 s17.2 [t21.Rank]) fun out22 =>
    some (Sum.inr (iadd .i64 s17.1 1, out22))
  else
    some (Sum.inl s17.2)

noncomputable def ref08_LastRanks_m (b_0 : T_api_Base) (l_1 : (List T_api_Argument)) (i_2 : Int) : Option (List Int) :=
  Option.bind (ref07_Last_m b_0 l_1 i_2) fun t2 =>
  Option.bind (loopC (ref08_LastRanks_l1 b_0 t2) (0, [])) fun q24 : (List Int) =>
  some q24

theorem ref08_LastRanks_ok {b_0 : T_api_Base} {l_1 : (List T_api_Argument)} {i_2 : Int} {r : List Int} (hm : ref08_LastRanks_m b_0 l_1 i_2 = some r) :
    FnOk prog 20 [ag [slv rT_api_Premise b_0.Premises, slv rT_api_Rule b_0.Rules, slv rT_api_Promotion b_0.Promotions], slv rT_api_Argument l_1, iv .i64 i_2] [] (fun (x : (Value × List Nat)) => [pv x.1]) (fun (x : (Value × List Nat)) => [oa (rI .i64) x.1 x.2 r]) := by
  refine fn_ok (X := (Value × List Nat)) (fn := Try.f20) (N := 30) (res := fun r x => [pv x.1]) (Ω1 := fun r x => [oa (rI .i64) x.1 x.2 r]) Try.func20 rfl rfl hm rfl (fun E hM => ?_)
  unfold ref08_LastRanks_m
  refine ref_seq (ref_region ?_)
  refine s_st (s_box (part_agO (ψs := [slv rT_api_Premise b_0.Premises, slv rT_api_Rule b_0.Rules, slv rT_api_Promotion b_0.Promotions]) rfl ⟨.inl slv_at, .inl slv_at, .inl slv_at, trivial⟩)) rfl (fun b1 => ?_)
  refine as1 rfl rfl ?_
  refine l_nil (n_then (ref_seq (ref_region ?_)))
  refine as1 rfl rfl ?_
  refine l_nil (n_then (ref_seq (ref_seq (ref_region ?_))))
  refine s_rd (r_cloadS Try.isAgg34 Try.sizeOf34 rfl (j := 0) rfl rfl rfl) rfl ?_
  refine mv1 rfl rfl ?_
  refine mv1 rfl rfl ?_
  refine pull fun t2 h_t2 => ?_
  refine s_st (s_call (ψ := fun (_ : Unit) => slv (rI .i64) t2) (args := [.tmp 10, .tmp 11, .tmp 12]) Try.call39 rfl (ref07_Last_ok h_t2) ⟨arg rfl, arg rfl, arg rfl, trivial⟩ (fun _ _ _ _ h => h)) rfl (fun _ => ?_)
  refine s_rd (r_len Try.underlying22 rfl) rfl ?_
  refine mv1 rfl rfl ?_
  refine l_nil (n_then ?_)
  refine b_of (own_nil (rI .i64)) ?_
  refine ref_loopB (f := (ref08_LastRanks_l1 b_0 t2)) (Γl := (fun (s17 : Int × (List Int)) (x18 : (Value × List Nat)) => [(3, pv (ptr b1 0)), (7, pv x18.1), (13, slv (rI .i64) t2), (14, iv .i64 (t2.length : Int)), (15, iv .i64 s17.1)])) (Ωl := (fun (s17 : Int × (List Int)) (x18 : (Value × List Nat)) => [oc b1 [slv rT_api_Premise b_0.Premises, slv rT_api_Rule b_0.Rules, slv rT_api_Promotion b_0.Promotions], oa (rI .i64) x18.1 x18.2 s17.2])) (Γb := (fun (q24 : (List Int)) (y25 : (Value × List Nat)) => [(7, pv y25.1)])) (Ωb := (fun (q24 : (List Int)) (y25 : (Value × List Nat)) => [oa (rI .i64) y25.1 y25.2 q24])) (0, []) ((.slice none 0 0), []) (weak [0, 1] ⟨rfl, rfl, rfl, rfl, rfl, trivial⟩ ⟨rfl, rfl, trivial⟩) (fun s17 x18 => ?_) (fun q24 y25 => ?_)
  · unfold ref08_LastRanks_l1
    refine ref_seq (ref_region ?_)
    refine s_rd (r_lss rfl rfl) rfl ?_
    refine l_nil (n_then (ref_seq ?_))
    refine ref_cond rfl (fun hb19 => ?_) (fun hb19 => ?_)
    · refine ref_skip (n_then (ref_seq (ref_block (ref_seq (ref_region ?_)))))
      refine pull fun r_20 h_r_20 => ?_
      refine s_rd (r_index h_r_20 Try.underlying22 el_3 rfl rfl) rfl ?_
      refine s_rd (r_load el_3 rfl) rfl ?_
      refine as1 rfl rfl ?_
      refine l_nil (n_then (ref_region ?_))
      refine mv1 rfl rfl ?_
      refine s_rd (r_faddr (fo := 1) Try.underlying34 rfl rfl Try.sizeOf31 rfl) rfl ?_
      refine s_rd (r_cload Try.isAgg31 rfl (j := 0) rfl rfl) rfl ?_
      refine mv1 rfl rfl ?_
      refine pull fun t21 h_t21 => ?_
      refine s_rd (r_index h_t21 Try.underlying31 el_55 rfl rfl) rfl ?_
      refine s_rd (r_fea (fo := 2) (ρ := rT_api_Rule) (y := t21) (ρ' := (rI .i64)) (z := t21.Rank) Try.underlying55 rfl rfl Try.sizeOf3 rfl rfl rfl) rfl ?_
      refine s_rd (r_load el_3 rfl) rfl ?_
      refine s_st (s_bslice (xs := [.tmp 25]) (ds := [t21.Rank]) Try.underlying22 el_3 rfl (Nat.le_of_ble_eq_true rfl) ⟨(part_at rfl iv_at), trivial⟩) rfl (fun _ => ?_)
      refine pull fun out22 h_out22 => ?_
      refine s_st (s_append h_out22 Try.underlying22 el_3 rfl (j := 1) rfl rfl) rfl (fun o23 => ?_)
      refine as1 rfl rfl ?_
      refine l_nil ?_
      refine b_of (nrm [oc b1 [slv rT_api_Premise b_0.Premises, slv rT_api_Rule b_0.Rules, slv rT_api_Promotion b_0.Promotions], oa (rI .i64) o23.1 o23.2 out22] rfl) ?_
      refine n_block (n_then (ref_region ?_))
      refine s_rd (r_add rfl rfl) rfl ?_
      refine mv1 rfl rfl ?_
      refine l_nil ?_
      exact goB o23 (weak [0, 1] ⟨rfl, rfl, rfl, rfl, rfl, trivial⟩ ⟨rfl, rfl, trivial⟩)
    refine ref_exit (x_then ?_)
    exact brkB x18 (weak [1] ⟨rfl, trivial⟩ ⟨rfl, trivial⟩)
  refine n_then (ref_seq (ref_region ?_))
  refine mv1 rfl rfl ?_
  refine as1 rfl rfl ?_
  refine l_nil (n_then (ref_ret ?_))
  exact fin1 (.inl rfl) y25 [0] rfl ⟨rfl, trivial⟩ rfl (rv_tmp rfl)

/-! deliberation/deliberationref08.Assumes -/
noncomputable def ref08_Assumes_l1 (b_0 : T_api_Base) (t2 : List Int) (s9 : Int) : Option (Sum ((Sum (Bool) (Unit))) (Int)) :=
  bif decide (s9 < (t2.length : Int)) then
    Option.bind (idxM t2 s9) fun p12 =>
    Option.bind (idxM b_0.Premises p12) fun t13 =>
    bif t13.Kind == 3 then
      some (Sum.inl (Sum.inl true))
    else
      some (Sum.inr (iadd .i64 s9 1))
  else
    some (Sum.inl (Sum.inr ()))

noncomputable def ref08_Assumes_m (b_0 : T_api_Base) (l_1 : (List T_api_Argument)) (i_2 : Int) : Option (Bool) :=
  Option.bind (ref07_Premises_m l_1 i_2) fun t2 =>
  Option.bind (loopC (ref08_Assumes_l1 b_0 t2) 0) (sumK (fun a : Bool => some a) fun q15 : Unit =>
    some false)

theorem ref08_Assumes_ok {b_0 : T_api_Base} {l_1 : (List T_api_Argument)} {i_2 : Int} {r : Bool} (hm : ref08_Assumes_m b_0 l_1 i_2 = some r) :
    FnOk prog 22 [ag [slv rT_api_Premise b_0.Premises, slv rT_api_Rule b_0.Rules, slv rT_api_Promotion b_0.Promotions], slv rT_api_Argument l_1, iv .i64 i_2] [] (fun (x : Unit) => [bv r]) (fun (x : Unit) => []) := by
  refine fn_ok (fn := Try.f22) (N := 25) (res := fun r x => [bv r]) (Ω1 := fun r x => []) Try.func22 rfl rfl hm rfl (fun E hM => ?_)
  unfold ref08_Assumes_m
  refine ref_seq (ref_region ?_)
  refine s_st (s_box (part_agO (ψs := [slv rT_api_Premise b_0.Premises, slv rT_api_Rule b_0.Rules, slv rT_api_Promotion b_0.Promotions]) rfl ⟨.inl slv_at, .inl slv_at, .inl slv_at, trivial⟩)) rfl (fun b1 => ?_)
  refine as1 rfl rfl ?_
  refine l_nil (n_then (ref_seq (ref_seq (ref_region ?_))))
  refine mv1 rfl rfl ?_
  refine mv1 rfl rfl ?_
  refine pull fun t2 h_t2 => ?_
  refine s_st (s_call (ψ := fun (_ : Unit) => slv (rI .i64) t2) (args := [.tmp 9, .tmp 10]) Try.call34 rfl (ref07_Premises_ok h_t2) ⟨arg rfl, arg rfl, trivial⟩ (fun _ _ _ _ h => h)) rfl (fun _ => ?_)
  refine s_rd (r_len Try.underlying22 rfl) rfl ?_
  refine mv1 rfl rfl ?_
  refine l_nil (n_then ?_)
  refine ref_loopX (f := (ref08_Assumes_l1 b_0 t2)) (Γl := (fun (s9 : Int) (x10 : Unit) => [(3, pv (ptr b1 0)), (11, slv (rI .i64) t2), (12, iv .i64 (t2.length : Int)), (13, iv .i64 s9)])) (Ωl := (fun (s9 : Int) (x10 : Unit) => [oc b1 [slv rT_api_Premise b_0.Premises, slv rT_api_Rule b_0.Rules, slv rT_api_Promotion b_0.Promotions]])) (Γb := (fun (q15 : Unit) (y16 : Unit) => [])) (Ωb := (fun (q15 : Unit) (y16 : Unit) => [])) (kr := (fun a : Bool => some a)) 0 () (weak [0] ⟨rfl, rfl, rfl, rfl, trivial⟩ ⟨rfl, trivial⟩) (fun s9 x10 => ?_) (fun q15 y16 => ?_)
  · unfold ref08_Assumes_l1
    refine ref_seq (ref_region ?_)
    refine s_rd (r_lss rfl rfl) rfl ?_
    refine l_nil (n_then (ref_seq ?_))
    refine ref_cond rfl (fun hb11 => ?_) (fun hb11 => ?_)
    · refine ref_skip (n_then (ref_seq (ref_block (ref_seq (ref_region ?_)))))
      refine pull fun p12 h_p12 => ?_
      refine s_rd (r_index h_p12 Try.underlying22 el_3 rfl rfl) rfl ?_
      refine s_rd (r_load el_3 rfl) rfl ?_
      refine as1 rfl rfl ?_
      refine l_nil (n_then (ref_seq (ref_region ?_)))
      refine s_rd (r_faddr (fo := 0) Try.underlying34 rfl rfl Try.sizeOf30 rfl) rfl ?_
      refine s_rd (r_cload Try.isAgg30 rfl (j := 0) rfl rfl) rfl ?_
      refine mv1 rfl rfl ?_
      refine pull fun t13 h_t13 => ?_
      refine s_rd (r_index h_t13 Try.underlying30 el_64 rfl rfl) rfl ?_
      refine s_rd (r_fea (fo := 2) (ρ := rT_api_Premise) (y := t13) (ρ' := (rI .i64)) (z := t13.Kind) Try.underlying64 rfl rfl Try.sizeOf3 rfl rfl rfl) rfl ?_
      refine s_rd (r_load el_3 rfl) rfl ?_
      refine s_rd (r_eql rfl rfl) rfl ?_
      refine l_nil (n_then ?_)
      refine ref_cond rfl (fun hb14 => ?_) (fun hb14 => ?_)
      · refine ref_seq (ref_region ?_)
        refine as1 rfl rfl ?_
        refine l_nil (n_then (ref_ret (r_block (r_then ?_))))
        refine retX ?_
        refine r_block (r_then ?_)
        exact fin1 (.inl rfl) () [] rfl trivial rfl (rv_tmp rfl)
      refine ref_skip (n_block (n_then (ref_region ?_)))
      refine s_rd (r_add rfl rfl) rfl ?_
      refine mv1 rfl rfl ?_
      refine l_nil ?_
      exact goX () (weak [0] ⟨rfl, rfl, rfl, rfl, trivial⟩ ⟨rfl, trivial⟩)
    refine ref_exit (x_then ?_)
    exact brkX () (weak [] trivial trivial)
  refine n_then (ref_seq (ref_region ?_))
  refine as1 rfl rfl ?_
  refine l_nil (n_then (ref_ret ?_))
  exact fin1 (.inl rfl) () [] rfl trivial rfl (rv_tmp rfl)

/-! deliberation/deliberationlaw08.LiftRanks -/
noncomputable def law08_LiftRanks_l1 (at__1 : Int) (t3 : T_api_Base × List T_api_Argument × T_deliberationkeep_Src) (s32 : Int) : Option (Sum ((Sum (Bool) (Unit))) (Int)) :=
  bif decide (s32 ≤ (iadd .i64 (t3.2.1.length : Int) 1)) then
    joinM (fun j36 : Int =>
        Option.bind (lift_PremiseRanks_m t3.1 t3.2.1 j36) fun t39 =>
        Option.bind (ref08_PremiseRanks_m t3.1 t3.2.1 j36) fun t41 =>
        Option.bind (keep_Ints_m t39 t41) fun t43 =>
        bif !t43 then
          some (Sum.inl (Sum.inl false))
        else
          Option.bind (lift_RuleRanks_m t3.1 t3.2.1 j36) fun t44 =>
          Option.bind (ref08_RuleRanks_m t3.1 t3.2.1 j36) fun t46 =>
          Option.bind (keep_Ints_m t44 t46) fun t48 =>
          bif !t48 then
            some (Sum.inl (Sum.inl false))
          else
            Option.bind (lift_LastRanks_m t3.1 t3.2.1 j36) fun t49 =>
            Option.bind (ref08_LastRanks_m t3.1 t3.2.1 j36) fun t51 =>
            Option.bind (keep_Ints_m t49 t51) fun t53 =>
            bif !t53 then
              some (Sum.inl (Sum.inl false))
            else
              Option.bind (lift_Assumes_m t3.1 t3.2.1 j36) fun t54 =>
              Option.bind (ref08_Assumes_m t3.1 t3.2.1 j36) fun t55 =>
              bif !(t54 == t55) then
                some (Sum.inl (Sum.inl false))
              else
                letM (iadd .i64 s32 1) fun i57 =>
                some (Sum.inr i57)) fun k38 =>
    bif decide (s32 > (t3.2.1.length : Int)) then
      k38 at__1
    else
      k38 s32
  else
    some (Sum.inl (Sum.inr ()))

noncomputable def law08_LiftRanks_m (l_0 : (List Int)) (at__1 : Int) : Option (Bool) :=
  Option.bind (keep_New_m l_0) fun s1 =>
  Option.bind (law08_built_m s1 4 6 8) fun t3 =>
  Option.bind (loopC (law08_LiftRanks_l1 at__1 t3) (-1)) (sumK (fun a : Bool => some a) fun q58 : Unit =>
    Option.bind (law08_awake_m ) fun t60 =>
    some t60)

theorem law08_LiftRanks_ok {l_0 : (List Int)} {at__1 : Int} {r : Bool} (hm : law08_LiftRanks_m l_0 at__1 = some r) :
    FnOk prog 4 [slv (rI .i64) l_0, iv .i64 at__1] [] (fun (x : Unit) => [bv r]) (fun (x : Unit) => []) := by
  refine fn_ok (fn := Try.f4) (N := 76) (res := fun r x => [bv r]) (Ω1 := fun r x => []) Try.func4 rfl rfl hm rfl (fun E hM => ?_)
  unfold law08_LiftRanks_m
  refine ref_seq (ref_region ?_)
  refine as1 rfl rfl ?_
  refine l_nil (n_then (ref_seq (ref_region ?_)))
  refine mv1 rfl rfl ?_
  refine pull fun s1 h_s1 => ?_
  refine s_st (s_call (ψ := fun (x2 : Nat) => pv (ptr x2 0)) (args := [.tmp 10]) Try.call8 rfl (keep_New_ok h_s1) ⟨arg rfl, trivial⟩ (fun _ _ _ _ h => h)) rfl (fun x2 => ?_)
  refine as1 rfl rfl ?_
  refine l_nil (n_then (ref_seq (ref_region ?_)))
  refine mv1 rfl rfl ?_
  refine pull fun t3 h_t3 => ?_
  refine s_st (s_callC [0] [true] (fun (x4 : (Value × List Nat)) => [oc x2 [slv (rI .i64) t3.2.2.L, iv .i64 t3.2.2.At]]) (fun (x4 : (Value × List Nat)) => [oa rT_api_Argument x4.1 x4.2 t3.2.1]) (fun (x4 : (Value × List Nat)) => tup [ag [slv rT_api_Premise t3.1.Premises, slv rT_api_Rule t3.1.Rules, slv rT_api_Promotion t3.1.Promotions], pv x4.1]) (args := [.tmp 13, .const (.int .i64 (4)), .const (.int .i64 (6)), .const (.int .i64 (8))]) (caps := []) Try.call13 rfl (law08_built_ok h_t3) ⟨rfl, rfl, trivial⟩ (fun _ => rfl) (fun _ => trivial) (fun _ => rfl) ⟨arg rfl, arg rfl, arg rfl, arg rfl, trivial⟩ (fun _ _ _ _ h => h)) rfl (fun x4 => ?_)
  refine mv1 rfl rfl ?_
  refine s_rd (r_extract rfl rfl) rfl ?_
  refine s_rd (r_extract rfl rfl) rfl ?_
  refine s_st (s_alloc zt_34) rfl (fun b5 => ?_)
  refine s_st0 (s_cstore (out := [slv rT_api_Premise t3.1.Premises, slv rT_api_Rule t3.1.Rules, slv rT_api_Promotion t3.1.Promotions]) Try.sizeOf34 rfl (j := 2) rfl (part_agO (ψs := [slv rT_api_Premise t3.1.Premises, slv rT_api_Rule t3.1.Rules, slv rT_api_Promotion t3.1.Promotions]) rfl ⟨.inl slv_at, .inl slv_at, .inl slv_at, trivial⟩) rfl rfl rfl) (fun _ => ?_)
  refine as1 rfl rfl ?_
  refine l_nil ?_
  refine b_of (nrm [oc x2 [slv (rI .i64) t3.2.2.L, iv .i64 t3.2.2.At], oa rT_api_Argument x4.1 x4.2 t3.2.1, oc b5 [slv rT_api_Premise t3.1.Premises, slv rT_api_Rule t3.1.Rules, slv rT_api_Promotion t3.1.Promotions]] rfl) ?_
  refine n_then (ref_seq (ref_seq (ref_region ?_)))
  refine as1 rfl rfl ?_
  refine l_nil (n_then ?_)
  refine b_of (frzL [16, 7] (j := 1) rfl ⟨rfl, rfl, trivial⟩) ?_
  refine ref_loopX (f := (law08_LiftRanks_l1 at__1 t3)) (Γl := (fun (s32 : Int) (x33 : Unit) => [(1, iv .i64 at__1), (6, pv (ptr b5 0)), (7, slv rT_api_Argument t3.2.1), (8, iv .i64 s32)])) (Ωl := (fun (s32 : Int) (x33 : Unit) => [oc b5 [slv rT_api_Premise t3.1.Premises, slv rT_api_Rule t3.1.Rules, slv rT_api_Promotion t3.1.Promotions]])) (Γb := (fun (q58 : Unit) (y59 : Unit) => [])) (Ωb := (fun (q58 : Unit) (y59 : Unit) => [])) (kr := (fun a : Bool => some a)) (-1) () (weak [2] ⟨rfl, rfl, rfl, rfl, trivial⟩ ⟨rfl, trivial⟩) (fun s32 x33 => ?_) (fun q58 y59 => ?_)
  · unfold law08_LiftRanks_l1
    refine ref_seq (ref_seq (ref_region ?_))
    refine mv1 rfl rfl ?_
    refine mv1 rfl rfl ?_
    refine s_rd (r_len Try.underlying35 rfl) rfl ?_
    refine s_rd (r_add rfl rfl) rfl ?_
    refine s_rd (r_leq rfl rfl) rfl ?_
    refine l_nil (n_then ?_)
    refine ref_cond rfl (fun hb34 => ?_) (fun hb34 => ?_)
    · refine ref_skip (n_then (ref_seq (ref_block (ref_seq (ref_region ?_)))))
      refine mv1 rfl rfl ?_
      refine as1 rfl rfl ?_
      refine l_nil (n_then (ref_seq ?_))
      refine ref_join (fun (j36 : Int) (x37 : Unit) => [(1, iv .i64 at__1), (6, pv (ptr b5 0)), (7, slv rT_api_Argument t3.2.1), (8, iv .i64 s32), (9, iv .i64 j36)]) (fun (j36 : Int) (x37 : Unit) => [oc b5 [slv rT_api_Premise t3.1.Premises, slv rT_api_Rule t3.1.Rules, slv rT_api_Promotion t3.1.Promotions]]) (fun k38 hk38 => ?_) (fun j36 x37 => ?_)
      · refine ref_seq (ref_region ?_)
        refine mv1 rfl rfl ?_
        refine mv1 rfl rfl ?_
        refine s_rd (r_len Try.underlying35 rfl) rfl ?_
        refine s_rd (r_gtr rfl rfl) rfl ?_
        refine l_nil (n_then ?_)
        refine ref_cond rfl (fun hb35 => ?_) (fun hb35 => ?_)
        · refine ref_region ?_
          refine mv1 rfl rfl ?_
          refine as1 rfl rfl ?_
          refine l_nil ?_
          exact b_to (hk38 at__1 ()) (weak [0] ⟨rfl, rfl, rfl, rfl, rfl, trivial⟩ ⟨rfl, trivial⟩)
        refine ref_skip ?_
        exact b_to (hk38 s32 ()) (weak [0] ⟨rfl, rfl, rfl, rfl, rfl, trivial⟩ ⟨rfl, trivial⟩)
      refine n_then (ref_seq ?_)
      refine ref_draw [0, 1, 2, 4, 5, 6, 9, 10, 11, 12, 13, 15, 16, 17, 20, 21, 22, 23, 24, 25, 27, 28, 29, 32, 33, 34, 35, 36, 37, 39, 40, 41, 43, 44] rfl (by kernel_rfl) (fun hok => ?_)
      refine a_rd (i := 0) hok rfl (by kernel_rfl) rfl (r_cloadS Try.isAgg34 Try.sizeOf34 rfl (j := 0) rfl rfl rfl) rfl ?_
      refine a_rd (i := 1) hok rfl (by kernel_rfl) rfl (r_move rfl) rfl ?_
      refine a_rd (i := 2) hok rfl (by kernel_rfl) rfl (r_move rfl) rfl ?_
      refine a_rd (i := 4) hok rfl (by kernel_rfl) rfl (r_cloadS Try.isAgg34 Try.sizeOf34 rfl (j := 0) rfl rfl rfl) rfl ?_
      refine a_rd (i := 5) hok rfl (by kernel_rfl) rfl (r_move rfl) rfl ?_
      refine a_rd (i := 6) hok rfl (by kernel_rfl) rfl (r_move rfl) rfl ?_
      refine pull fun t39 h_t39 => ?_
      refine a_next hok 3 [] (by kernel_rfl) ?_ trivial
      refine a_st (i := 3) hok rfl rfl (s_call (ψ := fun (x40 : (Value × List Nat)) => pv x40.1) (args := [.tmp 30, .tmp 31, .tmp 32]) Try.call15 rfl (lift_PremiseRanks_ok h_t39) ⟨arg rfl, arg rfl, arg rfl, trivial⟩ (fun _ _ _ _ h => h)) (by intro _ h; cases h; rfl) (fun _ => ⟨trivial, ⟨trivial, ⟨⟨⟨rfl, rfl⟩, trivial⟩, ⟨trivial, ⟨trivial, ⟨trivial, trivial⟩⟩⟩⟩⟩⟩) (fun x40 => ?_)
      refine pull fun t41 h_t41 => ?_
      refine a_next hok 7 [] (by kernel_rfl) ?_ trivial
      refine a_st (i := 7) hok rfl rfl (s_call (ψ := fun (x42 : (Value × List Nat)) => pv x42.1) (args := [.tmp 34, .tmp 35, .tmp 36]) Try.call16 rfl (ref08_PremiseRanks_ok h_t41) ⟨arg rfl, arg rfl, arg rfl, trivial⟩ (fun _ _ _ _ h => h)) (by intro _ h; cases h; rfl) (fun _ => ⟨trivial, ⟨trivial, ⟨trivial, ⟨trivial, ⟨trivial, ⟨⟨⟨rfl, rfl⟩, trivial⟩, trivial⟩⟩⟩⟩⟩⟩) (fun x42 => ?_)
      refine pull fun t43 h_t43 => ?_
      refine a_next hok 8 [] (by kernel_rfl) ?_ trivial
      refine a_st (i := 8) hok rfl rfl (s_callB (ψ := fun (_ : Unit) => bv t43) (args := [.tmp 33, .tmp 37]) Try.call14 rfl (keep_Ints_ok h_t43) ⟨argO rfl (j := 1) rfl, argO rfl (j := 2) rfl, trivial⟩ (fun _ _ _ _ _ h => h)) (by intro _ h; cases h; rfl) (fun _ => ⟨trivial, ⟨trivial, ⟨⟨⟨rfl, rfl⟩, trivial⟩, ⟨trivial, ⟨trivial, ⟨⟨⟨rfl, rfl⟩, trivial⟩, trivial⟩⟩⟩⟩⟩⟩) (fun _ => ?_)
      refine a_rd (i := 9) hok rfl (by kernel_rfl) rfl (r_not rfl) rfl ?_
      refine a_rd (i := 10) hok rfl (by kernel_rfl) rfl (r_move rfl) rfl ?_
      refine b_split (t := 40) rfl (fun _ => ?_) (fun _ => ?_)
      · refine a_off (i := 11) hok rfl rfl rfl rfl rfl (by kernel_rfl) rfl rfl ?_
        refine a_off (i := 12) hok rfl rfl rfl rfl rfl (by kernel_rfl) rfl rfl ?_
        refine a_off (i := 13) hok rfl rfl rfl rfl rfl (by kernel_rfl) rfl rfl ?_
        refine a_off (i := 15) hok rfl rfl rfl rfl rfl (by kernel_rfl) rfl rfl ?_
        refine a_off (i := 16) hok rfl rfl rfl rfl rfl (by kernel_rfl) rfl rfl ?_
        refine a_off (i := 17) hok rfl rfl rfl rfl rfl (by kernel_rfl) rfl rfl ?_
        refine a_next hok 14 [] (by kernel_rfl) ?_ trivial
        refine a_stOff (i := 14) hok rfl rfl rfl rfl rfl rfl (by intro _ h; cases h; rfl) ⟨trivial, ⟨trivial, ⟨trivial, ⟨trivial, ⟨trivial, ⟨trivial, ⟨trivial, ⟨trivial, ⟨trivial, ⟨trivial, ⟨⟨⟨rfl, rfl⟩, trivial⟩, ⟨trivial, ⟨trivial, ⟨⟨⟨rfl, rfl⟩, trivial⟩, trivial⟩⟩⟩⟩⟩⟩⟩⟩⟩⟩⟩⟩⟩⟩ ?_
        refine a_next hok 18 [] (by kernel_rfl) ?_ trivial
        refine a_stOff (i := 18) hok rfl rfl rfl rfl rfl rfl (by intro _ h; cases h; rfl) ⟨trivial, ⟨trivial, ⟨trivial, ⟨trivial, ⟨trivial, ⟨trivial, ⟨trivial, ⟨trivial, ⟨trivial, ⟨trivial, ⟨⟨⟨rfl, rfl⟩, trivial⟩, ⟨trivial, ⟨trivial, ⟨⟨⟨rfl, rfl⟩, trivial⟩, trivial⟩⟩⟩⟩⟩⟩⟩⟩⟩⟩⟩⟩⟩⟩ ?_
        refine a_next hok 19 [] (by kernel_rfl) ?_ trivial
        refine a_stOff (i := 19) hok rfl rfl rfl rfl rfl rfl (by intro _ h; cases h; rfl) ⟨trivial, ⟨trivial, ⟨trivial, ⟨trivial, ⟨trivial, ⟨trivial, ⟨trivial, ⟨trivial, ⟨trivial, ⟨trivial, ⟨⟨⟨rfl, rfl⟩, trivial⟩, ⟨trivial, ⟨trivial, ⟨⟨⟨rfl, rfl⟩, trivial⟩, trivial⟩⟩⟩⟩⟩⟩⟩⟩⟩⟩⟩⟩⟩⟩ ?_
        refine a_off (i := 20) hok rfl rfl rfl rfl rfl (by kernel_rfl) rfl rfl ?_
        refine a_rd (i := 21) hok rfl (by kernel_rfl) rfl (r_pickT rfl rfl) rfl ?_
        refine a_rd (i := 22) hok rfl (by kernel_rfl) rfl (r_move rfl) rfl ?_
        refine a_off (i := 23) hok rfl rfl rfl rfl rfl (by kernel_rfl) rfl rfl ?_
        refine a_off (i := 24) hok rfl rfl rfl rfl rfl (by kernel_rfl) rfl rfl ?_
        refine a_off (i := 25) hok rfl rfl rfl rfl rfl (by kernel_rfl) rfl rfl ?_
        refine a_off (i := 27) hok rfl rfl rfl rfl rfl (by kernel_rfl) rfl rfl ?_
        refine a_off (i := 28) hok rfl rfl rfl rfl rfl (by kernel_rfl) rfl rfl ?_
        refine a_off (i := 29) hok rfl rfl rfl rfl rfl (by kernel_rfl) rfl rfl ?_
        refine a_next hok 26 [] (by kernel_rfl) ?_ trivial
        refine a_stOff (i := 26) hok rfl rfl rfl rfl rfl rfl (by intro _ h; cases h; rfl) ⟨trivial, ⟨trivial, ⟨trivial, ⟨trivial, ⟨trivial, ⟨trivial, ⟨trivial, ⟨trivial, ⟨trivial, ⟨trivial, ⟨trivial, ⟨trivial, ⟨trivial, ⟨trivial, ⟨trivial, ⟨trivial, ⟨trivial, ⟨trivial, ⟨trivial, ⟨⟨⟨rfl, rfl⟩, trivial⟩, ⟨trivial, ⟨trivial, ⟨⟨⟨rfl, rfl⟩, trivial⟩, trivial⟩⟩⟩⟩⟩⟩⟩⟩⟩⟩⟩⟩⟩⟩⟩⟩⟩⟩⟩⟩⟩⟩⟩ ?_
        refine a_next hok 30 [] (by kernel_rfl) ?_ trivial
        refine a_stOff (i := 30) hok rfl rfl rfl rfl rfl rfl (by intro _ h; cases h; rfl) ⟨trivial, ⟨trivial, ⟨trivial, ⟨trivial, ⟨trivial, ⟨trivial, ⟨trivial, ⟨trivial, ⟨trivial, ⟨trivial, ⟨trivial, ⟨trivial, ⟨trivial, ⟨trivial, ⟨trivial, ⟨trivial, ⟨trivial, ⟨trivial, ⟨trivial, ⟨⟨⟨rfl, rfl⟩, trivial⟩, ⟨trivial, ⟨trivial, ⟨⟨⟨rfl, rfl⟩, trivial⟩, trivial⟩⟩⟩⟩⟩⟩⟩⟩⟩⟩⟩⟩⟩⟩⟩⟩⟩⟩⟩⟩⟩⟩⟩ ?_
        refine a_next hok 31 [] (by kernel_rfl) ?_ trivial
        refine a_stOff (i := 31) hok rfl rfl rfl rfl rfl rfl (by intro _ h; cases h; rfl) ⟨trivial, ⟨trivial, ⟨trivial, ⟨trivial, ⟨trivial, ⟨trivial, ⟨trivial, ⟨trivial, ⟨trivial, ⟨trivial, ⟨trivial, ⟨trivial, ⟨trivial, ⟨trivial, ⟨trivial, ⟨trivial, ⟨trivial, ⟨trivial, ⟨trivial, ⟨⟨⟨rfl, rfl⟩, trivial⟩, ⟨trivial, ⟨trivial, ⟨⟨⟨rfl, rfl⟩, trivial⟩, trivial⟩⟩⟩⟩⟩⟩⟩⟩⟩⟩⟩⟩⟩⟩⟩⟩⟩⟩⟩⟩⟩⟩⟩ ?_
        refine a_off (i := 32) hok rfl rfl rfl rfl rfl (by kernel_rfl) rfl rfl ?_
        refine a_rd (i := 33) hok rfl (by kernel_rfl) rfl (r_pickT rfl rfl) rfl ?_
        refine a_rd (i := 34) hok rfl (by kernel_rfl) rfl (r_move rfl) rfl ?_
        refine a_off (i := 35) hok rfl rfl rfl rfl rfl (by kernel_rfl) rfl rfl ?_
        refine a_off (i := 36) hok rfl rfl rfl rfl rfl (by kernel_rfl) rfl rfl ?_
        refine a_off (i := 37) hok rfl rfl rfl rfl rfl (by kernel_rfl) rfl rfl ?_
        refine a_off (i := 39) hok rfl rfl rfl rfl rfl (by kernel_rfl) rfl rfl ?_
        refine a_off (i := 40) hok rfl rfl rfl rfl rfl (by kernel_rfl) rfl rfl ?_
        refine a_off (i := 41) hok rfl rfl rfl rfl rfl (by kernel_rfl) rfl rfl ?_
        refine a_next hok 38 [] (by kernel_rfl) ?_ trivial
        refine a_stOff (i := 38) hok rfl rfl rfl rfl rfl rfl (by intro _ h; cases h; rfl) ⟨trivial, ⟨trivial, ⟨trivial, ⟨trivial, ⟨trivial, ⟨trivial, ⟨trivial, ⟨trivial, ⟨trivial, ⟨trivial, ⟨trivial, ⟨trivial, ⟨trivial, ⟨trivial, ⟨trivial, ⟨trivial, ⟨trivial, ⟨trivial, ⟨trivial, ⟨trivial, ⟨trivial, ⟨trivial, ⟨trivial, ⟨trivial, ⟨trivial, ⟨trivial, ⟨trivial, ⟨trivial, ⟨⟨⟨rfl, rfl⟩, trivial⟩, ⟨trivial, ⟨trivial, ⟨⟨⟨rfl, rfl⟩, trivial⟩, trivial⟩⟩⟩⟩⟩⟩⟩⟩⟩⟩⟩⟩⟩⟩⟩⟩⟩⟩⟩⟩⟩⟩⟩⟩⟩⟩⟩⟩⟩⟩⟩⟩ ?_
        refine a_next hok 42 [] (by kernel_rfl) ?_ trivial
        refine a_stOff (i := 42) hok rfl rfl rfl rfl rfl rfl (by intro _ h; cases h; rfl) ⟨trivial, ⟨trivial, ⟨trivial, ⟨trivial, ⟨trivial, ⟨trivial, ⟨trivial, ⟨trivial, ⟨trivial, ⟨trivial, ⟨trivial, ⟨trivial, ⟨trivial, ⟨trivial, ⟨trivial, ⟨trivial, ⟨trivial, ⟨trivial, ⟨trivial, ⟨trivial, ⟨trivial, ⟨trivial, ⟨trivial, ⟨trivial, ⟨trivial, ⟨trivial, ⟨trivial, ⟨trivial, ⟨⟨⟨rfl, rfl⟩, trivial⟩, ⟨trivial, ⟨trivial, ⟨⟨⟨rfl, rfl⟩, trivial⟩, trivial⟩⟩⟩⟩⟩⟩⟩⟩⟩⟩⟩⟩⟩⟩⟩⟩⟩⟩⟩⟩⟩⟩⟩⟩⟩⟩⟩⟩⟩⟩⟩⟩ ?_
        refine a_off (i := 43) hok rfl rfl rfl rfl rfl (by kernel_rfl) rfl rfl ?_
        refine a_rd (i := 44) hok rfl (by kernel_rfl) rfl (r_pickT rfl rfl) rfl ?_
        refine a_fin hok (by kernel_rfl) ?_
        refine n_then ?_
        refine ref_condT rfl rfl ?_
        refine ref_seq (ref_region ?_)
        refine as1 rfl rfl ?_
        refine l_nil (n_then (ref_ret (r_block (r_then ?_))))
        refine retX ?_
        refine r_block (r_then ?_)
        exact fin1 (.inl rfl) () [] rfl trivial rfl (rv_tmp rfl)
      refine a_rdOn (i := 11) hok rfl rfl rfl rfl (by kernel_rfl) rfl (r_cloadS Try.isAgg34 Try.sizeOf34 rfl (j := 0) rfl rfl rfl) rfl ?_
      refine a_rdOn (i := 12) hok rfl rfl rfl rfl (by kernel_rfl) rfl (r_move rfl) rfl ?_
      refine a_rdOn (i := 13) hok rfl rfl rfl rfl (by kernel_rfl) rfl (r_move rfl) rfl ?_
      refine a_rdOn (i := 15) hok rfl rfl rfl rfl (by kernel_rfl) rfl (r_cloadS Try.isAgg34 Try.sizeOf34 rfl (j := 0) rfl rfl rfl) rfl ?_
      refine a_rdOn (i := 16) hok rfl rfl rfl rfl (by kernel_rfl) rfl (r_move rfl) rfl ?_
      refine a_rdOn (i := 17) hok rfl rfl rfl rfl (by kernel_rfl) rfl (r_move rfl) rfl ?_
      refine pull fun t44 h_t44 => ?_
      refine a_next hok 14 [] (by kernel_rfl) ?_ trivial
      refine a_stOn (i := 14) hok rfl rfl rfl rfl rfl (s_call (ψ := fun (x45 : (Value × List Nat)) => pv x45.1) (args := [.tmp 41, .tmp 42, .tmp 43]) Try.call17 rfl (lift_RuleRanks_ok h_t44) ⟨arg rfl, arg rfl, arg rfl, trivial⟩ (fun _ _ _ _ h => h)) (by intro _ h; cases h; rfl) (fun _ => ⟨trivial, ⟨trivial, ⟨⟨⟨rfl, rfl⟩, trivial⟩, ⟨trivial, ⟨trivial, ⟨trivial, ⟨trivial, ⟨trivial, ⟨trivial, ⟨trivial, ⟨⟨⟨rfl, rfl⟩, trivial⟩, ⟨trivial, ⟨trivial, ⟨⟨⟨rfl, rfl⟩, trivial⟩, trivial⟩⟩⟩⟩⟩⟩⟩⟩⟩⟩⟩⟩⟩⟩) (fun x45 => ?_)
      refine pull fun t46 h_t46 => ?_
      refine a_next hok 18 [] (by kernel_rfl) ?_ trivial
      refine a_stOn (i := 18) hok rfl rfl rfl rfl rfl (s_call (ψ := fun (x47 : (Value × List Nat)) => pv x47.1) (args := [.tmp 45, .tmp 46, .tmp 47]) Try.call18 rfl (ref08_RuleRanks_ok h_t46) ⟨arg rfl, arg rfl, arg rfl, trivial⟩ (fun _ _ _ _ h => h)) (by intro _ h; cases h; rfl) (fun _ => ⟨trivial, ⟨trivial, ⟨trivial, ⟨trivial, ⟨trivial, ⟨⟨⟨rfl, rfl⟩, trivial⟩, ⟨trivial, ⟨trivial, ⟨trivial, ⟨trivial, ⟨⟨⟨rfl, rfl⟩, trivial⟩, ⟨trivial, ⟨trivial, ⟨⟨⟨rfl, rfl⟩, trivial⟩, trivial⟩⟩⟩⟩⟩⟩⟩⟩⟩⟩⟩⟩⟩⟩) (fun x47 => ?_)
      refine pull fun t48 h_t48 => ?_
      refine a_next hok 19 [] (by kernel_rfl) ?_ trivial
      refine a_stOn (i := 19) hok rfl rfl rfl rfl rfl (s_callB (ψ := fun (_ : Unit) => bv t48) (args := [.tmp 44, .tmp 48]) Try.call14 rfl (keep_Ints_ok h_t48) ⟨argO rfl (j := 3) rfl, argO rfl (j := 4) rfl, trivial⟩ (fun _ _ _ _ _ h => h)) (by intro _ h; cases h; rfl) (fun _ => ⟨trivial, ⟨trivial, ⟨⟨⟨rfl, rfl⟩, trivial⟩, ⟨trivial, ⟨trivial, ⟨⟨⟨rfl, rfl⟩, trivial⟩, ⟨trivial, ⟨trivial, ⟨trivial, ⟨trivial, ⟨⟨⟨rfl, rfl⟩, trivial⟩, ⟨trivial, ⟨trivial, ⟨⟨⟨rfl, rfl⟩, trivial⟩, trivial⟩⟩⟩⟩⟩⟩⟩⟩⟩⟩⟩⟩⟩⟩) (fun _ => ?_)
      refine a_rdOn (i := 20) hok rfl rfl rfl rfl (by kernel_rfl) rfl (r_not rfl) rfl ?_
      refine a_rd (i := 21) hok rfl (by kernel_rfl) rfl (r_pickF rfl rfl) rfl ?_
      refine a_rd (i := 22) hok rfl (by kernel_rfl) rfl (r_move rfl) rfl ?_
      refine b_split (t := 52) rfl (fun _ => ?_) (fun _ => ?_)
      · refine a_off (i := 23) hok rfl rfl rfl rfl rfl (by kernel_rfl) rfl rfl ?_
        refine a_off (i := 24) hok rfl rfl rfl rfl rfl (by kernel_rfl) rfl rfl ?_
        refine a_off (i := 25) hok rfl rfl rfl rfl rfl (by kernel_rfl) rfl rfl ?_
        refine a_off (i := 27) hok rfl rfl rfl rfl rfl (by kernel_rfl) rfl rfl ?_
        refine a_off (i := 28) hok rfl rfl rfl rfl rfl (by kernel_rfl) rfl rfl ?_
        refine a_off (i := 29) hok rfl rfl rfl rfl rfl (by kernel_rfl) rfl rfl ?_
        refine a_next hok 26 [] (by kernel_rfl) ?_ trivial
        refine a_stOff (i := 26) hok rfl rfl rfl rfl rfl rfl (by intro _ h; cases h; rfl) ⟨trivial, ⟨trivial, ⟨trivial, ⟨trivial, ⟨trivial, ⟨trivial, ⟨trivial, ⟨trivial, ⟨trivial, ⟨trivial, ⟨trivial, ⟨⟨⟨rfl, rfl⟩, trivial⟩, ⟨trivial, ⟨trivial, ⟨⟨⟨rfl, rfl⟩, trivial⟩, ⟨trivial, ⟨trivial, ⟨trivial, ⟨trivial, ⟨⟨⟨rfl, rfl⟩, trivial⟩, ⟨trivial, ⟨trivial, ⟨⟨⟨rfl, rfl⟩, trivial⟩, trivial⟩⟩⟩⟩⟩⟩⟩⟩⟩⟩⟩⟩⟩⟩⟩⟩⟩⟩⟩⟩⟩⟩⟩ ?_
        refine a_next hok 30 [] (by kernel_rfl) ?_ trivial
        refine a_stOff (i := 30) hok rfl rfl rfl rfl rfl rfl (by intro _ h; cases h; rfl) ⟨trivial, ⟨trivial, ⟨trivial, ⟨trivial, ⟨trivial, ⟨trivial, ⟨trivial, ⟨trivial, ⟨trivial, ⟨trivial, ⟨trivial, ⟨⟨⟨rfl, rfl⟩, trivial⟩, ⟨trivial, ⟨trivial, ⟨⟨⟨rfl, rfl⟩, trivial⟩, ⟨trivial, ⟨trivial, ⟨trivial, ⟨trivial, ⟨⟨⟨rfl, rfl⟩, trivial⟩, ⟨trivial, ⟨trivial, ⟨⟨⟨rfl, rfl⟩, trivial⟩, trivial⟩⟩⟩⟩⟩⟩⟩⟩⟩⟩⟩⟩⟩⟩⟩⟩⟩⟩⟩⟩⟩⟩⟩ ?_
        refine a_next hok 31 [] (by kernel_rfl) ?_ trivial
        refine a_stOff (i := 31) hok rfl rfl rfl rfl rfl rfl (by intro _ h; cases h; rfl) ⟨trivial, ⟨trivial, ⟨trivial, ⟨trivial, ⟨trivial, ⟨trivial, ⟨trivial, ⟨trivial, ⟨trivial, ⟨trivial, ⟨trivial, ⟨⟨⟨rfl, rfl⟩, trivial⟩, ⟨trivial, ⟨trivial, ⟨⟨⟨rfl, rfl⟩, trivial⟩, ⟨trivial, ⟨trivial, ⟨trivial, ⟨trivial, ⟨⟨⟨rfl, rfl⟩, trivial⟩, ⟨trivial, ⟨trivial, ⟨⟨⟨rfl, rfl⟩, trivial⟩, trivial⟩⟩⟩⟩⟩⟩⟩⟩⟩⟩⟩⟩⟩⟩⟩⟩⟩⟩⟩⟩⟩⟩⟩ ?_
        refine a_off (i := 32) hok rfl rfl rfl rfl rfl (by kernel_rfl) rfl rfl ?_
        refine a_rd (i := 33) hok rfl (by kernel_rfl) rfl (r_pickT rfl rfl) rfl ?_
        refine a_rd (i := 34) hok rfl (by kernel_rfl) rfl (r_move rfl) rfl ?_
        refine a_off (i := 35) hok rfl rfl rfl rfl rfl (by kernel_rfl) rfl rfl ?_
        refine a_off (i := 36) hok rfl rfl rfl rfl rfl (by kernel_rfl) rfl rfl ?_
        refine a_off (i := 37) hok rfl rfl rfl rfl rfl (by kernel_rfl) rfl rfl ?_
        refine a_off (i := 39) hok rfl rfl rfl rfl rfl (by kernel_rfl) rfl rfl ?_
        refine a_off (i := 40) hok rfl rfl rfl rfl rfl (by kernel_rfl) rfl rfl ?_
        refine a_off (i := 41) hok rfl rfl rfl rfl rfl (by kernel_rfl) rfl rfl ?_
        refine a_next hok 38 [] (by kernel_rfl) ?_ trivial
        refine a_stOff (i := 38) hok rfl rfl rfl rfl rfl rfl (by intro _ h; cases h; rfl) ⟨trivial, ⟨trivial, ⟨trivial, ⟨trivial, ⟨trivial, ⟨trivial, ⟨trivial, ⟨trivial, ⟨trivial, ⟨trivial, ⟨trivial, ⟨trivial, ⟨trivial, ⟨trivial, ⟨trivial, ⟨trivial, ⟨trivial, ⟨trivial, ⟨trivial, ⟨trivial, ⟨⟨⟨rfl, rfl⟩, trivial⟩, ⟨trivial, ⟨trivial, ⟨⟨⟨rfl, rfl⟩, trivial⟩, ⟨trivial, ⟨trivial, ⟨trivial, ⟨trivial, ⟨⟨⟨rfl, rfl⟩, trivial⟩, ⟨trivial, ⟨trivial, ⟨⟨⟨rfl, rfl⟩, trivial⟩, trivial⟩⟩⟩⟩⟩⟩⟩⟩⟩⟩⟩⟩⟩⟩⟩⟩⟩⟩⟩⟩⟩⟩⟩⟩⟩⟩⟩⟩⟩⟩⟩⟩ ?_
        refine a_next hok 42 [] (by kernel_rfl) ?_ trivial
        refine a_stOff (i := 42) hok rfl rfl rfl rfl rfl rfl (by intro _ h; cases h; rfl) ⟨trivial, ⟨trivial, ⟨trivial, ⟨trivial, ⟨trivial, ⟨trivial, ⟨trivial, ⟨trivial, ⟨trivial, ⟨trivial, ⟨trivial, ⟨trivial, ⟨trivial, ⟨trivial, ⟨trivial, ⟨trivial, ⟨trivial, ⟨trivial, ⟨trivial, ⟨trivial, ⟨⟨⟨rfl, rfl⟩, trivial⟩, ⟨trivial, ⟨trivial, ⟨⟨⟨rfl, rfl⟩, trivial⟩, ⟨trivial, ⟨trivial, ⟨trivial, ⟨trivial, ⟨⟨⟨rfl, rfl⟩, trivial⟩, ⟨trivial, ⟨trivial, ⟨⟨⟨rfl, rfl⟩, trivial⟩, trivial⟩⟩⟩⟩⟩⟩⟩⟩⟩⟩⟩⟩⟩⟩⟩⟩⟩⟩⟩⟩⟩⟩⟩⟩⟩⟩⟩⟩⟩⟩⟩⟩ ?_
        refine a_off (i := 43) hok rfl rfl rfl rfl rfl (by kernel_rfl) rfl rfl ?_
        refine a_rd (i := 44) hok rfl (by kernel_rfl) rfl (r_pickT rfl rfl) rfl ?_
        refine a_fin hok (by kernel_rfl) ?_
        refine b_of (nrm [oc b5 [slv rT_api_Premise t3.1.Premises, slv rT_api_Rule t3.1.Rules, slv rT_api_Promotion t3.1.Promotions], oa (rI .i64) x40.1 x40.2 t39, oa (rI .i64) x42.1 x42.2 t41, oa (rI .i64) x45.1 x45.2 t44, oa (rI .i64) x47.1 x47.2 t46] rfl) ?_
        refine n_then ?_
        refine ref_condT rfl rfl ?_
        refine ref_seq (ref_region ?_)
        refine as1 rfl rfl ?_
        refine l_nil (n_then (ref_ret (r_block (r_then ?_))))
        refine retX ?_
        refine r_block (r_then ?_)
        exact fin1 (.inl rfl) () [] rfl trivial rfl (rv_tmp rfl)
      refine a_rdOn (i := 23) hok rfl rfl rfl rfl (by kernel_rfl) rfl (r_cloadS Try.isAgg34 Try.sizeOf34 rfl (j := 0) rfl rfl rfl) rfl ?_
      refine a_rdOn (i := 24) hok rfl rfl rfl rfl (by kernel_rfl) rfl (r_move rfl) rfl ?_
      refine a_rdOn (i := 25) hok rfl rfl rfl rfl (by kernel_rfl) rfl (r_move rfl) rfl ?_
      refine a_rdOn (i := 27) hok rfl rfl rfl rfl (by kernel_rfl) rfl (r_cloadS Try.isAgg34 Try.sizeOf34 rfl (j := 0) rfl rfl rfl) rfl ?_
      refine a_rdOn (i := 28) hok rfl rfl rfl rfl (by kernel_rfl) rfl (r_move rfl) rfl ?_
      refine a_rdOn (i := 29) hok rfl rfl rfl rfl (by kernel_rfl) rfl (r_move rfl) rfl ?_
      refine pull fun t49 h_t49 => ?_
      refine a_next hok 26 [] (by kernel_rfl) ?_ trivial
      refine a_stOn (i := 26) hok rfl rfl rfl rfl rfl (s_call (ψ := fun (x50 : (Value × List Nat)) => pv x50.1) (args := [.tmp 53, .tmp 54, .tmp 55]) Try.call19 rfl (lift_LastRanks_ok h_t49) ⟨arg rfl, arg rfl, arg rfl, trivial⟩ (fun _ _ _ _ h => h)) (by intro _ h; cases h; rfl) (fun _ => ⟨trivial, ⟨trivial, ⟨⟨⟨rfl, rfl⟩, trivial⟩, ⟨trivial, ⟨trivial, ⟨trivial, ⟨trivial, ⟨trivial, ⟨trivial, ⟨trivial, ⟨trivial, ⟨⟨⟨rfl, rfl⟩, trivial⟩, ⟨trivial, ⟨trivial, ⟨⟨⟨rfl, rfl⟩, trivial⟩, ⟨trivial, ⟨trivial, ⟨trivial, ⟨trivial, ⟨⟨⟨rfl, rfl⟩, trivial⟩, ⟨trivial, ⟨trivial, ⟨⟨⟨rfl, rfl⟩, trivial⟩, trivial⟩⟩⟩⟩⟩⟩⟩⟩⟩⟩⟩⟩⟩⟩⟩⟩⟩⟩⟩⟩⟩⟩⟩) (fun x50 => ?_)
      refine pull fun t51 h_t51 => ?_
      refine a_next hok 30 [] (by kernel_rfl) ?_ trivial
      refine a_stOn (i := 30) hok rfl rfl rfl rfl rfl (s_call (ψ := fun (x52 : (Value × List Nat)) => pv x52.1) (args := [.tmp 57, .tmp 58, .tmp 59]) Try.call20 rfl (ref08_LastRanks_ok h_t51) ⟨arg rfl, arg rfl, arg rfl, trivial⟩ (fun _ _ _ _ h => h)) (by intro _ h; cases h; rfl) (fun _ => ⟨trivial, ⟨trivial, ⟨trivial, ⟨trivial, ⟨trivial, ⟨⟨⟨rfl, rfl⟩, trivial⟩, ⟨trivial, ⟨trivial, ⟨trivial, ⟨trivial, ⟨trivial, ⟨⟨⟨rfl, rfl⟩, trivial⟩, ⟨trivial, ⟨trivial, ⟨⟨⟨rfl, rfl⟩, trivial⟩, ⟨trivial, ⟨trivial, ⟨trivial, ⟨trivial, ⟨⟨⟨rfl, rfl⟩, trivial⟩, ⟨trivial, ⟨trivial, ⟨⟨⟨rfl, rfl⟩, trivial⟩, trivial⟩⟩⟩⟩⟩⟩⟩⟩⟩⟩⟩⟩⟩⟩⟩⟩⟩⟩⟩⟩⟩⟩⟩) (fun x52 => ?_)
      refine pull fun t53 h_t53 => ?_
      refine a_next hok 31 [] (by kernel_rfl) ?_ trivial
      refine a_stOn (i := 31) hok rfl rfl rfl rfl rfl (s_callB (ψ := fun (_ : Unit) => bv t53) (args := [.tmp 56, .tmp 60]) Try.call14 rfl (keep_Ints_ok h_t53) ⟨argO rfl (j := 5) rfl, argO rfl (j := 6) rfl, trivial⟩ (fun _ _ _ _ _ h => h)) (by intro _ h; cases h; rfl) (fun _ => ⟨trivial, ⟨trivial, ⟨⟨⟨rfl, rfl⟩, trivial⟩, ⟨trivial, ⟨trivial, ⟨⟨⟨rfl, rfl⟩, trivial⟩, ⟨trivial, ⟨trivial, ⟨trivial, ⟨trivial, ⟨trivial, ⟨⟨⟨rfl, rfl⟩, trivial⟩, ⟨trivial, ⟨trivial, ⟨⟨⟨rfl, rfl⟩, trivial⟩, ⟨trivial, ⟨trivial, ⟨trivial, ⟨trivial, ⟨⟨⟨rfl, rfl⟩, trivial⟩, ⟨trivial, ⟨trivial, ⟨⟨⟨rfl, rfl⟩, trivial⟩, trivial⟩⟩⟩⟩⟩⟩⟩⟩⟩⟩⟩⟩⟩⟩⟩⟩⟩⟩⟩⟩⟩⟩⟩) (fun _ => ?_)
      refine a_rdOn (i := 32) hok rfl rfl rfl rfl (by kernel_rfl) rfl (r_not rfl) rfl ?_
      refine a_rd (i := 33) hok rfl (by kernel_rfl) rfl (r_pickF rfl rfl) rfl ?_
      refine a_rd (i := 34) hok rfl (by kernel_rfl) rfl (r_move rfl) rfl ?_
      refine b_split (t := 64) rfl (fun _ => ?_) (fun _ => ?_)
      · refine a_off (i := 35) hok rfl rfl rfl rfl rfl (by kernel_rfl) rfl rfl ?_
        refine a_off (i := 36) hok rfl rfl rfl rfl rfl (by kernel_rfl) rfl rfl ?_
        refine a_off (i := 37) hok rfl rfl rfl rfl rfl (by kernel_rfl) rfl rfl ?_
        refine a_off (i := 39) hok rfl rfl rfl rfl rfl (by kernel_rfl) rfl rfl ?_
        refine a_off (i := 40) hok rfl rfl rfl rfl rfl (by kernel_rfl) rfl rfl ?_
        refine a_off (i := 41) hok rfl rfl rfl rfl rfl (by kernel_rfl) rfl rfl ?_
        refine a_next hok 38 [] (by kernel_rfl) ?_ trivial
        refine a_stOff (i := 38) hok rfl rfl rfl rfl rfl rfl (by intro _ h; cases h; rfl) ⟨trivial, ⟨trivial, ⟨trivial, ⟨trivial, ⟨trivial, ⟨trivial, ⟨trivial, ⟨trivial, ⟨trivial, ⟨trivial, ⟨trivial, ⟨⟨⟨rfl, rfl⟩, trivial⟩, ⟨trivial, ⟨trivial, ⟨⟨⟨rfl, rfl⟩, trivial⟩, ⟨trivial, ⟨trivial, ⟨trivial, ⟨trivial, ⟨trivial, ⟨⟨⟨rfl, rfl⟩, trivial⟩, ⟨trivial, ⟨trivial, ⟨⟨⟨rfl, rfl⟩, trivial⟩, ⟨trivial, ⟨trivial, ⟨trivial, ⟨trivial, ⟨⟨⟨rfl, rfl⟩, trivial⟩, ⟨trivial, ⟨trivial, ⟨⟨⟨rfl, rfl⟩, trivial⟩, trivial⟩⟩⟩⟩⟩⟩⟩⟩⟩⟩⟩⟩⟩⟩⟩⟩⟩⟩⟩⟩⟩⟩⟩⟩⟩⟩⟩⟩⟩⟩⟩⟩ ?_
        refine a_next hok 42 [] (by kernel_rfl) ?_ trivial
        refine a_stOff (i := 42) hok rfl rfl rfl rfl rfl rfl (by intro _ h; cases h; rfl) ⟨trivial, ⟨trivial, ⟨trivial, ⟨trivial, ⟨trivial, ⟨trivial, ⟨trivial, ⟨trivial, ⟨trivial, ⟨trivial, ⟨trivial, ⟨⟨⟨rfl, rfl⟩, trivial⟩, ⟨trivial, ⟨trivial, ⟨⟨⟨rfl, rfl⟩, trivial⟩, ⟨trivial, ⟨trivial, ⟨trivial, ⟨trivial, ⟨trivial, ⟨⟨⟨rfl, rfl⟩, trivial⟩, ⟨trivial, ⟨trivial, ⟨⟨⟨rfl, rfl⟩, trivial⟩, ⟨trivial, ⟨trivial, ⟨trivial, ⟨trivial, ⟨⟨⟨rfl, rfl⟩, trivial⟩, ⟨trivial, ⟨trivial, ⟨⟨⟨rfl, rfl⟩, trivial⟩, trivial⟩⟩⟩⟩⟩⟩⟩⟩⟩⟩⟩⟩⟩⟩⟩⟩⟩⟩⟩⟩⟩⟩⟩⟩⟩⟩⟩⟩⟩⟩⟩⟩ ?_
        refine a_off (i := 43) hok rfl rfl rfl rfl rfl (by kernel_rfl) rfl rfl ?_
        refine a_rd (i := 44) hok rfl (by kernel_rfl) rfl (r_pickT rfl rfl) rfl ?_
        refine a_fin hok (by kernel_rfl) ?_
        refine b_of (nrm [oc b5 [slv rT_api_Premise t3.1.Premises, slv rT_api_Rule t3.1.Rules, slv rT_api_Promotion t3.1.Promotions], oa (rI .i64) x40.1 x40.2 t39, oa (rI .i64) x42.1 x42.2 t41, oa (rI .i64) x45.1 x45.2 t44, oa (rI .i64) x47.1 x47.2 t46, oa (rI .i64) x50.1 x50.2 t49, oa (rI .i64) x52.1 x52.2 t51] rfl) ?_
        refine n_then ?_
        refine ref_condT rfl rfl ?_
        refine ref_seq (ref_region ?_)
        refine as1 rfl rfl ?_
        refine l_nil (n_then (ref_ret (r_block (r_then ?_))))
        refine retX ?_
        refine r_block (r_then ?_)
        exact fin1 (.inl rfl) () [] rfl trivial rfl (rv_tmp rfl)
      refine a_rdOn (i := 35) hok rfl rfl rfl rfl (by kernel_rfl) rfl (r_cloadS Try.isAgg34 Try.sizeOf34 rfl (j := 0) rfl rfl rfl) rfl ?_
      refine a_rdOn (i := 36) hok rfl rfl rfl rfl (by kernel_rfl) rfl (r_move rfl) rfl ?_
      refine a_rdOn (i := 37) hok rfl rfl rfl rfl (by kernel_rfl) rfl (r_move rfl) rfl ?_
      refine a_rdOn (i := 39) hok rfl rfl rfl rfl (by kernel_rfl) rfl (r_cloadS Try.isAgg34 Try.sizeOf34 rfl (j := 0) rfl rfl rfl) rfl ?_
      refine a_rdOn (i := 40) hok rfl rfl rfl rfl (by kernel_rfl) rfl (r_move rfl) rfl ?_
      refine a_rdOn (i := 41) hok rfl rfl rfl rfl (by kernel_rfl) rfl (r_move rfl) rfl ?_
      refine pull fun t54 h_t54 => ?_
      refine a_next hok 38 [] (by kernel_rfl) ?_ trivial
      refine a_stOn (i := 38) hok rfl rfl rfl rfl rfl (s_call (ψ := fun (_ : Unit) => bv t54) (args := [.tmp 65, .tmp 66, .tmp 67]) Try.call21 rfl (lift_Assumes_ok h_t54) ⟨arg rfl, arg rfl, arg rfl, trivial⟩ (fun _ _ _ _ h => h)) (by intro _ h; cases h; rfl) (fun _ => ⟨trivial, ⟨trivial, ⟨⟨⟨rfl, rfl⟩, trivial⟩, ⟨trivial, ⟨trivial, ⟨trivial, ⟨trivial, ⟨trivial, ⟨trivial, ⟨trivial, ⟨trivial, ⟨⟨⟨rfl, rfl⟩, trivial⟩, ⟨trivial, ⟨trivial, ⟨⟨⟨rfl, rfl⟩, trivial⟩, ⟨trivial, ⟨trivial, ⟨trivial, ⟨trivial, ⟨trivial, ⟨⟨⟨rfl, rfl⟩, trivial⟩, ⟨trivial, ⟨trivial, ⟨⟨⟨rfl, rfl⟩, trivial⟩, ⟨trivial, ⟨trivial, ⟨trivial, ⟨trivial, ⟨⟨⟨rfl, rfl⟩, trivial⟩, ⟨trivial, ⟨trivial, ⟨⟨⟨rfl, rfl⟩, trivial⟩, trivial⟩⟩⟩⟩⟩⟩⟩⟩⟩⟩⟩⟩⟩⟩⟩⟩⟩⟩⟩⟩⟩⟩⟩⟩⟩⟩⟩⟩⟩⟩⟩⟩) (fun _ => ?_)
      refine pull fun t55 h_t55 => ?_
      refine a_next hok 42 [] (by kernel_rfl) ?_ trivial
      refine a_stOn (i := 42) hok rfl rfl rfl rfl rfl (s_call (ψ := fun (_ : Unit) => bv t55) (args := [.tmp 69, .tmp 70, .tmp 71]) Try.call22 rfl (ref08_Assumes_ok h_t55) ⟨arg rfl, arg rfl, arg rfl, trivial⟩ (fun _ _ _ _ h => h)) (by intro _ h; cases h; rfl) (fun _ => ⟨trivial, ⟨trivial, ⟨trivial, ⟨trivial, ⟨trivial, ⟨⟨⟨rfl, rfl⟩, trivial⟩, ⟨trivial, ⟨trivial, ⟨trivial, ⟨trivial, ⟨trivial, ⟨⟨⟨rfl, rfl⟩, trivial⟩, ⟨trivial, ⟨trivial, ⟨⟨⟨rfl, rfl⟩, trivial⟩, ⟨trivial, ⟨trivial, ⟨trivial, ⟨trivial, ⟨trivial, ⟨⟨⟨rfl, rfl⟩, trivial⟩, ⟨trivial, ⟨trivial, ⟨⟨⟨rfl, rfl⟩, trivial⟩, ⟨trivial, ⟨trivial, ⟨trivial, ⟨trivial, ⟨⟨⟨rfl, rfl⟩, trivial⟩, ⟨trivial, ⟨trivial, ⟨⟨⟨rfl, rfl⟩, trivial⟩, trivial⟩⟩⟩⟩⟩⟩⟩⟩⟩⟩⟩⟩⟩⟩⟩⟩⟩⟩⟩⟩⟩⟩⟩⟩⟩⟩⟩⟩⟩⟩⟩⟩) (fun _ => ?_)
      refine a_rdOn (i := 43) hok rfl rfl rfl rfl (by kernel_rfl) rfl (r_bneq Try.underlying4 rfl rfl) rfl ?_
      refine a_rd (i := 44) hok rfl (by kernel_rfl) rfl (r_pickF rfl rfl) rfl ?_
      refine a_fin hok (by kernel_rfl) ?_
      refine b_of (nrm [oc b5 [slv rT_api_Premise t3.1.Premises, slv rT_api_Rule t3.1.Rules, slv rT_api_Promotion t3.1.Promotions], oa (rI .i64) x40.1 x40.2 t39, oa (rI .i64) x42.1 x42.2 t41, oa (rI .i64) x45.1 x45.2 t44, oa (rI .i64) x47.1 x47.2 t46, oa (rI .i64) x50.1 x50.2 t49, oa (rI .i64) x52.1 x52.2 t51] rfl) ?_
      refine n_then ?_
      refine ref_cond rfl (fun hb56 => ?_) (fun hb56 => ?_)
      · refine ref_seq (ref_region ?_)
        refine as1 rfl rfl ?_
        refine l_nil (n_then (ref_ret (r_block (r_then ?_))))
        refine retX ?_
        refine r_block (r_then ?_)
        exact fin1 (.inl rfl) () [] rfl trivial rfl (rv_tmp rfl)
      refine ref_skip (n_block (n_then (ref_region ?_)))
      refine mv1 rfl rfl ?_
      refine s_rd (r_add rfl rfl) rfl ?_
      refine as1 rfl rfl ?_
      refine b_let (f := iv .i64) (t := 8) rfl fun i57 => ?_
      refine l_nil ?_
      exact goX () (weak [0] ⟨rfl, rfl, rfl, rfl, trivial⟩ ⟨rfl, trivial⟩)
    refine ref_exit (x_then ?_)
    exact brkX () (weak [] trivial trivial)
  refine n_then (ref_seq (ref_region ?_))
  refine pull fun t60 h_t60 => ?_
  refine s_st (s_call (ψ := fun (_ : Unit) => bv t60) (args := []) Try.call12 rfl (law08_awake_ok h_t60) trivial (fun _ _ _ _ h => h)) rfl (fun _ => ?_)
  refine as1 rfl rfl ?_
  refine l_nil (n_then (ref_ret ?_))
  exact fin1 (.inl rfl) () [] rfl trivial rfl (rv_tmp rfl)

/-! deliberation/deliberationkeep.Orderings -/
noncomputable def keep_Orderings_m  : Option (List T_api_Ordering) :=
  some [(T_api_Ordering.mk 1 1), (T_api_Ordering.mk 1 2), (T_api_Ordering.mk 2 1), (T_api_Ordering.mk 2 2)]

theorem keep_Orderings_ok  {r : List T_api_Ordering} (hm : keep_Orderings_m  = some r) :
    FnOk prog 23 [] [] (fun (x : (Value × List Nat)) => [pv x.1]) (fun (x : (Value × List Nat)) => [oa rT_api_Ordering x.1 x.2 r]) := by
  refine fn_ok (X := (Value × List Nat)) (fn := Try.f23) (N := 6) (res := fun r x => [pv x.1]) (Ω1 := fun r x => [oa rT_api_Ordering x.1 x.2 r]) Try.func23 rfl rfl hm rfl (fun E hM => ?_)
  unfold keep_Orderings_m
  refine ref_seq (ref_region ?_)
  refine as1 rfl rfl ?_
  refine l_nil (n_then (ref_seq (ref_region ?_)))
  refine s_rd (r_build (ps := [(0, .const (.int .i64 (1))), (1, .const (.int .i64 (1)))]) (rs := [(0, [iv .i64 1]), (1, [iv .i64 1])]) st_43 zs_43 ⟨rfl, (part_at rfl iv_at), ⟨rfl, (part_at rfl iv_at), trivial⟩⟩ rfl rfl) rfl ?_
  refine s_rd (r_build (ps := [(0, .const (.int .i64 (1))), (1, .const (.int .i64 (2)))]) (rs := [(0, [iv .i64 1]), (1, [iv .i64 2])]) st_43 zs_43 ⟨rfl, (part_at rfl iv_at), ⟨rfl, (part_at rfl iv_at), trivial⟩⟩ rfl rfl) rfl ?_
  refine s_rd (r_build (ps := [(0, .const (.int .i64 (2))), (1, .const (.int .i64 (1)))]) (rs := [(0, [iv .i64 2]), (1, [iv .i64 1])]) st_43 zs_43 ⟨rfl, (part_at rfl iv_at), ⟨rfl, (part_at rfl iv_at), trivial⟩⟩ rfl rfl) rfl ?_
  refine s_rd (r_build (ps := [(0, .const (.int .i64 (2))), (1, .const (.int .i64 (2)))]) (rs := [(0, [iv .i64 2]), (1, [iv .i64 2])]) st_43 zs_43 ⟨rfl, (part_at rfl iv_at), ⟨rfl, (part_at rfl iv_at), trivial⟩⟩ rfl rfl) rfl ?_
  refine s_st (s_bsliceO (xs := [.tmp 1, .tmp 2, .tmp 3, .tmp 4]) (ds := [(T_api_Ordering.mk 1 1), (T_api_Ordering.mk 1 2), (T_api_Ordering.mk 2 1), (T_api_Ordering.mk 2 2)]) Try.underlying44 el_43 rfl (Nat.le_of_ble_eq_true rfl) ⟨(part_agO (ψs := [iv .i64 1, iv .i64 1]) rfl ⟨.inl iv_at, .inl iv_at, trivial⟩), ⟨(part_agO (ψs := [iv .i64 1, iv .i64 2]) rfl ⟨.inl iv_at, .inl iv_at, trivial⟩), ⟨(part_agO (ψs := [iv .i64 2, iv .i64 1]) rfl ⟨.inl iv_at, .inl iv_at, trivial⟩), ⟨(part_agO (ψs := [iv .i64 2, iv .i64 2]) rfl ⟨.inl iv_at, .inl iv_at, trivial⟩), trivial⟩⟩⟩⟩) rfl (fun o1 => ?_)
  refine as1 rfl rfl ?_
  refine l_nil (n_then (ref_ret ?_))
  exact fin1 (.inl rfl) o1 [0] rfl ⟨rfl, trivial⟩ rfl (rv_tmp rfl)

/-! deliberation/deliberationref08.Less -/
noncomputable def ref08_Less_m (b_0 : T_api_Base) (l_1 : (List T_api_Argument)) (i_2 : Int) (k_3 : Int) (o_4 : T_api_Ordering) : Option (Bool) :=
  bif decide (i_2 < 0) then
    some false
  else
    bif decide (i_2 ≥ (l_1.length : Int)) then
      some false
    else
      bif decide (k_3 < 0) then
        some false
      else
        bif decide (k_3 ≥ (l_1.length : Int)) then
          some false
        else
          Option.bind (ref08_Assumes_m b_0 l_1 k_3) fun t3 =>
          bif t3 then
            some false
          else
            Option.bind (ref08_PremiseRanks_m b_0 l_1 i_2) fun t5 =>
            Option.bind (ref08_PremiseRanks_m b_0 l_1 k_3) fun t7 =>
            Option.bind (ref08_SetLess_m t5 t7 o_4.Lift) fun premises9 =>
            bif o_4.Link == 1 then
              Option.bind (ref08_LastRanks_m b_0 l_1 i_2) fun x11 =>
              Option.bind (ref08_LastRanks_m b_0 l_1 k_3) fun y13 =>
              Option.bind (ref08_SetLess_m x11 y13 o_4.Lift) fun t15 =>
              bif t15 then
                some true
              else
                bif (x11.length : Int) == 0 then
                  bif (y13.length : Int) == 0 then
                    some premises9
                  else
                    some false
                else
                  some false
            else
              bif o_4.Link == 2 then
                Option.bind (ref08_RuleRanks_m b_0 l_1 i_2) fun x17 =>
                Option.bind (ref08_RuleRanks_m b_0 l_1 k_3) fun y19 =>
                joinM (fun j22 : Unit =>
                    Option.bind (ref08_SetLess_m x17 y19 o_4.Lift) fun rules25 =>
                    Option.bind (ref08_PremiseRanks_m b_0 l_1 i_2) fun t26 =>
                    bif (t26.length : Int) == 0 then
                      Option.bind (ref08_PremiseRanks_m b_0 l_1 k_3) fun t28 =>
                      bif (t28.length : Int) == 0 then
                        some rules25
                      else
                        bif premises9 then
                          some rules25
                        else
                          some false
                    else
                      bif premises9 then
                        some rules25
                      else
                        some false) fun k24 =>
                bif (x17.length : Int) == 0 then
                  bif (y19.length : Int) == 0 then
                    some premises9
                  else
                    k24 ()
                else
                  k24 ()
              else
                some false

theorem ref08_Less_ok {b_0 : T_api_Base} {l_1 : (List T_api_Argument)} {i_2 : Int} {k_3 : Int} {o_4 : T_api_Ordering} {r : Bool} (hm : ref08_Less_m b_0 l_1 i_2 k_3 o_4 = some r) :
    FnOk prog 25 [ag [slv rT_api_Premise b_0.Premises, slv rT_api_Rule b_0.Rules, slv rT_api_Promotion b_0.Promotions], slv rT_api_Argument l_1, iv .i64 i_2, iv .i64 k_3, ag [iv .i64 o_4.Link, iv .i64 o_4.Lift]] [] (fun (x : Unit) => [bv r]) (fun (x : Unit) => []) := by
  refine fn_ok (fn := Try.f25) (N := 125) (res := fun r x => [bv r]) (Ω1 := fun r x => []) Try.func25 rfl rfl hm rfl (fun E hM => ?_)
  unfold ref08_Less_m
  refine ref_seq (ref_region ?_)
  refine s_st (s_box (part_agO (ψs := [slv rT_api_Premise b_0.Premises, slv rT_api_Rule b_0.Rules, slv rT_api_Promotion b_0.Promotions]) rfl ⟨.inl slv_at, .inl slv_at, .inl slv_at, trivial⟩)) rfl (fun b1 => ?_)
  refine s_st (s_box (part_agO (ψs := [iv .i64 o_4.Link, iv .i64 o_4.Lift]) rfl ⟨.inl iv_at, .inl iv_at, trivial⟩)) rfl (fun b2 => ?_)
  refine as1 rfl rfl ?_
  refine l_nil (n_then (ref_seq (ref_seq (ref_region ?_))))
  refine mv1 rfl rfl ?_
  refine s_rd (r_lss rfl rfl) rfl ?_
  refine mv1 rfl rfl ?_
  refine b_split (t := 19) rfl (fun _ => ?_) (fun _ => ?_)
  · refine s_off rfl rfl rfl rfl rfl ?_
    refine s_off rfl rfl rfl rfl rfl ?_
    refine s_off rfl rfl rfl rfl rfl ?_
    refine s_off rfl rfl rfl rfl rfl ?_
    refine s_rd (r_pickT rfl rfl) rfl ?_
    refine mv1 rfl rfl ?_
    refine s_off rfl rfl rfl rfl rfl ?_
    refine s_off rfl rfl rfl rfl rfl ?_
    refine s_rd (r_pickT rfl rfl) rfl ?_
    refine mv1 rfl rfl ?_
    refine s_off rfl rfl rfl rfl rfl ?_
    refine s_off rfl rfl rfl rfl rfl ?_
    refine s_off rfl rfl rfl rfl rfl ?_
    refine s_off rfl rfl rfl rfl rfl ?_
    refine s_rd (r_pickT rfl rfl) rfl ?_
    refine mv1 rfl rfl ?_
    refine s_off rfl rfl rfl rfl rfl ?_
    refine s_off rfl rfl rfl rfl rfl ?_
    refine s_off rfl rfl rfl rfl rfl ?_
    refine s_off rfl rfl rfl rfl rfl ?_
    refine s_rd (r_pickT rfl rfl) rfl ?_
    refine l_nil (n_then ?_)
    refine ref_condT rfl rfl ?_
    refine ref_seq (ref_region ?_)
    refine as1 rfl rfl ?_
    refine l_nil (n_then (ref_ret (r_then ?_)))
    exact fin1 (.inl rfl) () [] rfl trivial rfl (rv_tmp rfl)
  refine s_on rfl rfl rfl ?_
  refine mv1 rfl rfl ?_
  refine s_on rfl rfl rfl ?_
  refine mv1 rfl rfl ?_
  refine s_on rfl rfl rfl ?_
  refine s_rd (r_len Try.underlying35 rfl) rfl ?_
  refine s_on rfl rfl rfl ?_
  refine s_rd (r_geq rfl rfl) rfl ?_
  refine s_rd (r_pickF rfl rfl) rfl ?_
  refine mv1 rfl rfl ?_
  refine b_split (t := 25) rfl (fun _ => ?_) (fun _ => ?_)
  · refine s_off rfl rfl rfl rfl rfl ?_
    refine s_off rfl rfl rfl rfl rfl ?_
    refine s_rd (r_pickT rfl rfl) rfl ?_
    refine mv1 rfl rfl ?_
    refine s_off rfl rfl rfl rfl rfl ?_
    refine s_off rfl rfl rfl rfl rfl ?_
    refine s_off rfl rfl rfl rfl rfl ?_
    refine s_off rfl rfl rfl rfl rfl ?_
    refine s_rd (r_pickT rfl rfl) rfl ?_
    refine mv1 rfl rfl ?_
    refine s_off rfl rfl rfl rfl rfl ?_
    refine s_off rfl rfl rfl rfl rfl ?_
    refine s_off rfl rfl rfl rfl rfl ?_
    refine s_off rfl rfl rfl rfl rfl ?_
    refine s_rd (r_pickT rfl rfl) rfl ?_
    refine l_nil (n_then ?_)
    refine ref_condT rfl rfl ?_
    refine ref_seq (ref_region ?_)
    refine as1 rfl rfl ?_
    refine l_nil (n_then (ref_ret (r_then ?_)))
    exact fin1 (.inl rfl) () [] rfl trivial rfl (rv_tmp rfl)
  refine s_on rfl rfl rfl ?_
  refine mv1 rfl rfl ?_
  refine s_on rfl rfl rfl ?_
  refine s_rd (r_lss rfl rfl) rfl ?_
  refine s_rd (r_pickF rfl rfl) rfl ?_
  refine mv1 rfl rfl ?_
  refine b_split (t := 29) rfl (fun _ => ?_) (fun _ => ?_)
  · refine s_off rfl rfl rfl rfl rfl ?_
    refine s_off rfl rfl rfl rfl rfl ?_
    refine s_off rfl rfl rfl rfl rfl ?_
    refine s_off rfl rfl rfl rfl rfl ?_
    refine s_rd (r_pickT rfl rfl) rfl ?_
    refine mv1 rfl rfl ?_
    refine s_off rfl rfl rfl rfl rfl ?_
    refine s_off rfl rfl rfl rfl rfl ?_
    refine s_off rfl rfl rfl rfl rfl ?_
    refine s_off rfl rfl rfl rfl rfl ?_
    refine s_rd (r_pickT rfl rfl) rfl ?_
    refine l_nil (n_then ?_)
    refine ref_condT rfl rfl ?_
    refine ref_seq (ref_region ?_)
    refine as1 rfl rfl ?_
    refine l_nil (n_then (ref_ret (r_then ?_)))
    exact fin1 (.inl rfl) () [] rfl trivial rfl (rv_tmp rfl)
  refine s_on rfl rfl rfl ?_
  refine mv1 rfl rfl ?_
  refine s_on rfl rfl rfl ?_
  refine mv1 rfl rfl ?_
  refine s_on rfl rfl rfl ?_
  refine s_rd (r_len Try.underlying35 rfl) rfl ?_
  refine s_on rfl rfl rfl ?_
  refine s_rd (r_geq rfl rfl) rfl ?_
  refine s_rd (r_pickF rfl rfl) rfl ?_
  refine mv1 rfl rfl ?_
  refine b_split (t := 35) rfl (fun _ => ?_) (fun _ => ?_)
  · refine s_off rfl rfl rfl rfl rfl ?_
    refine s_off rfl rfl rfl rfl rfl ?_
    refine s_off rfl rfl rfl rfl rfl ?_
    refine s_off rfl rfl rfl rfl rfl ?_
    refine s_rd (r_pickT rfl rfl) rfl ?_
    refine l_nil (n_then ?_)
    refine ref_condT rfl rfl ?_
    refine ref_seq (ref_region ?_)
    refine as1 rfl rfl ?_
    refine l_nil (n_then (ref_ret (r_then ?_)))
    exact fin1 (.inl rfl) () [] rfl trivial rfl (rv_tmp rfl)
  refine s_on rfl rfl rfl ?_
  refine s_rd (r_cloadS Try.isAgg34 Try.sizeOf34 rfl (j := 0) rfl rfl rfl) rfl ?_
  refine s_on rfl rfl rfl ?_
  refine mv1 rfl rfl ?_
  refine s_on rfl rfl rfl ?_
  refine mv1 rfl rfl ?_
  refine s_on rfl rfl rfl ?_
  refine pull fun t3 h_t3 => ?_
  refine s_st (s_call (ψ := fun (_ : Unit) => bv t3) (args := [.tmp 36, .tmp 37, .tmp 38]) Try.call22 rfl (ref08_Assumes_ok h_t3) ⟨arg rfl, arg rfl, arg rfl, trivial⟩ (fun _ _ _ _ h => h)) rfl (fun _ => ?_)
  refine s_rd (r_pickF rfl rfl) rfl ?_
  refine l_nil (n_then ?_)
  refine ref_cond rfl (fun hb4 => ?_) (fun hb4 => ?_)
  · refine ref_seq (ref_region ?_)
    refine as1 rfl rfl ?_
    refine l_nil (n_then (ref_ret (r_then ?_)))
    exact fin1 (.inl rfl) () [] rfl trivial rfl (rv_tmp rfl)
  refine ref_skip (n_then (ref_seq ?_))
  refine ref_draw [0, 1, 2, 4, 5, 6, 8, 9] rfl (by kernel_rfl) (fun hok => ?_)
  refine a_rd (i := 0) hok rfl (by kernel_rfl) rfl (r_cloadS Try.isAgg34 Try.sizeOf34 rfl (j := 0) rfl rfl rfl) rfl ?_
  refine a_rd (i := 1) hok rfl (by kernel_rfl) rfl (r_move rfl) rfl ?_
  refine a_rd (i := 2) hok rfl (by kernel_rfl) rfl (r_move rfl) rfl ?_
  refine a_rd (i := 4) hok rfl (by kernel_rfl) rfl (r_cloadS Try.isAgg34 Try.sizeOf34 rfl (j := 0) rfl rfl rfl) rfl ?_
  refine a_rd (i := 5) hok rfl (by kernel_rfl) rfl (r_move rfl) rfl ?_
  refine a_rd (i := 6) hok rfl (by kernel_rfl) rfl (r_move rfl) rfl ?_
  refine a_rd (i := 8) hok rfl (by kernel_rfl) rfl (r_faddr (fo := 1) Try.underlying43 rfl rfl Try.sizeOf3 rfl) rfl ?_
  refine a_rd (i := 9) hok rfl (by kernel_rfl) rfl (r_cload Try.isAgg3 rfl (j := 1) rfl rfl) rfl ?_
  refine pull fun t5 h_t5 => ?_
  refine a_next hok 3 [] (by kernel_rfl) ?_ trivial
  refine a_st (i := 3) hok rfl rfl (s_call (ψ := fun (x6 : (Value × List Nat)) => pv x6.1) (args := [.tmp 41, .tmp 42, .tmp 43]) Try.call16 rfl (ref08_PremiseRanks_ok h_t5) ⟨arg rfl, arg rfl, arg rfl, trivial⟩ (fun _ _ _ _ h => h)) (by intro _ h; cases h; rfl) (fun _ => ⟨⟨⟨rfl, rfl⟩, trivial⟩, ⟨trivial, ⟨trivial, ⟨trivial, ⟨⟨⟨rfl, rfl⟩, trivial⟩, ⟨trivial, ⟨trivial, ⟨trivial, trivial⟩⟩⟩⟩⟩⟩⟩⟩) (fun x6 => ?_)
  refine pull fun t7 h_t7 => ?_
  refine a_next hok 7 [] (by kernel_rfl) ?_ trivial
  refine a_st (i := 7) hok rfl rfl (s_call (ψ := fun (x8 : (Value × List Nat)) => pv x8.1) (args := [.tmp 45, .tmp 46, .tmp 47]) Try.call16 rfl (ref08_PremiseRanks_ok h_t7) ⟨arg rfl, arg rfl, arg rfl, trivial⟩ (fun _ _ _ _ h => h)) (by intro _ h; cases h; rfl) (fun _ => ⟨⟨⟨rfl, rfl⟩, trivial⟩, ⟨trivial, ⟨trivial, ⟨trivial, ⟨trivial, ⟨trivial, ⟨trivial, ⟨⟨⟨rfl, rfl⟩, trivial⟩, trivial⟩⟩⟩⟩⟩⟩⟩⟩) (fun x8 => ?_)
  refine pull fun premises9 h_premises9 => ?_
  refine a_next hok 10 [] (by kernel_rfl) ?_ trivial
  refine a_st (i := 10) hok rfl rfl (s_callB (ψ := fun (_ : Unit) => bv premises9) (args := [.tmp 44, .tmp 48, .tmp 50]) Try.call11 rfl (ref08_SetLess_ok h_premises9) ⟨argO rfl (j := 2) rfl, argO rfl (j := 3) rfl, argB rfl, trivial⟩ (fun _ _ _ _ _ h => h)) (by intro _ h; cases h; rfl) (fun _ => ⟨trivial, ⟨trivial, ⟨trivial, ⟨trivial, ⟨⟨⟨rfl, rfl⟩, trivial⟩, ⟨trivial, ⟨trivial, ⟨⟨⟨rfl, rfl⟩, trivial⟩, trivial⟩⟩⟩⟩⟩⟩⟩⟩) (fun _ => ?_)
  refine a_next hok 11 [] (by kernel_rfl) ?_ trivial
  refine a_st (i := 11) hok rfl rfl (St.ofRd (r_assign rfl)) (by intro _ h; cases h; rfl) (fun _ => ⟨trivial, ⟨trivial, ⟨trivial, ⟨trivial, ⟨trivial, ⟨trivial, ⟨trivial, ⟨trivial, trivial⟩⟩⟩⟩⟩⟩⟩⟩) (fun _ => ?_)
  refine a_fin hok (by kernel_rfl) ?_
  refine b_of (nrm [oc b1 [slv rT_api_Premise b_0.Premises, slv rT_api_Rule b_0.Rules, slv rT_api_Promotion b_0.Promotions], oc b2 [iv .i64 o_4.Link, iv .i64 o_4.Lift], oa (rI .i64) x6.1 x6.2 t5, oa (rI .i64) x8.1 x8.2 t7] rfl) ?_
  refine n_then (ref_seq (ref_seq (ref_region ?_)))
  refine s_rd (r_faddr (fo := 0) Try.underlying43 rfl rfl Try.sizeOf3 rfl) rfl ?_
  refine s_rd (r_cload Try.isAgg3 rfl (j := 1) rfl rfl) rfl ?_
  refine l_nil (n_then (ref_block (ref_seq (ref_region ?_))))
  refine s_rd (r_eql rfl rfl) rfl ?_
  refine as1 rfl rfl ?_
  refine l_nil (n_then ?_)
  refine ref_cond rfl (fun hb10 => ?_) (fun hb10 => ?_)
  · refine ref_seq ?_
    refine ref_draw [0, 1, 2, 4, 5, 6] rfl (by kernel_rfl) (fun hok => ?_)
    refine a_rd (i := 0) hok rfl (by kernel_rfl) rfl (r_cloadS Try.isAgg34 Try.sizeOf34 rfl (j := 0) rfl rfl rfl) rfl ?_
    refine a_rd (i := 1) hok rfl (by kernel_rfl) rfl (r_move rfl) rfl ?_
    refine a_rd (i := 2) hok rfl (by kernel_rfl) rfl (r_move rfl) rfl ?_
    refine a_rd (i := 4) hok rfl (by kernel_rfl) rfl (r_cloadS Try.isAgg34 Try.sizeOf34 rfl (j := 0) rfl rfl rfl) rfl ?_
    refine a_rd (i := 5) hok rfl (by kernel_rfl) rfl (r_move rfl) rfl ?_
    refine a_rd (i := 6) hok rfl (by kernel_rfl) rfl (r_move rfl) rfl ?_
    refine pull fun x11 h_x11 => ?_
    refine a_next hok 3 [] (by kernel_rfl) ?_ trivial
    refine a_st (i := 3) hok rfl rfl (s_call (ψ := fun (x12 : (Value × List Nat)) => pv x12.1) (args := [.tmp 56, .tmp 57, .tmp 58]) Try.call20 rfl (ref08_LastRanks_ok h_x11) ⟨arg rfl, arg rfl, arg rfl, trivial⟩ (fun _ _ _ _ h => h)) (by intro _ h; cases h; rfl) (fun _ => ⟨trivial, ⟨trivial, ⟨⟨⟨rfl, rfl⟩, trivial⟩, ⟨trivial, ⟨trivial, ⟨trivial, trivial⟩⟩⟩⟩⟩⟩) (fun x12 => ?_)
    refine pull fun y13 h_y13 => ?_
    refine a_next hok 7 [] (by kernel_rfl) ?_ trivial
    refine a_st (i := 7) hok rfl rfl (s_call (ψ := fun (x14 : (Value × List Nat)) => pv x14.1) (args := [.tmp 60, .tmp 61, .tmp 62]) Try.call20 rfl (ref08_LastRanks_ok h_y13) ⟨arg rfl, arg rfl, arg rfl, trivial⟩ (fun _ _ _ _ h => h)) (by intro _ h; cases h; rfl) (fun _ => ⟨trivial, ⟨trivial, ⟨trivial, ⟨trivial, ⟨trivial, ⟨⟨⟨rfl, rfl⟩, trivial⟩, trivial⟩⟩⟩⟩⟩⟩) (fun x14 => ?_)
    refine a_next hok 8 [] (by kernel_rfl) ?_ trivial
    refine a_st (i := 8) hok rfl rfl (St.ofRd (r_assign rfl)) (by intro _ h; cases h; rfl) (fun _ => ⟨trivial, ⟨trivial, ⟨⟨⟨rfl, rfl⟩, trivial⟩, ⟨trivial, ⟨trivial, ⟨trivial, trivial⟩⟩⟩⟩⟩⟩) (fun _ => ?_)
    refine a_next hok 9 [] (by kernel_rfl) ?_ trivial
    refine a_st (i := 9) hok rfl rfl (St.ofRd (r_assign rfl)) (by intro _ h; cases h; rfl) (fun _ => ⟨trivial, ⟨trivial, ⟨trivial, ⟨trivial, ⟨trivial, ⟨trivial, trivial⟩⟩⟩⟩⟩⟩) (fun _ => ?_)
    refine a_fin hok (by kernel_rfl) ?_
    refine b_of (nrm [oc b1 [slv rT_api_Premise b_0.Premises, slv rT_api_Rule b_0.Rules, slv rT_api_Promotion b_0.Promotions], oc b2 [iv .i64 o_4.Link, iv .i64 o_4.Lift], oa (rI .i64) x6.1 x6.2 t5, oa (rI .i64) x8.1 x8.2 t7, oa (rI .i64) x12.1 x12.2 x11, oa (rI .i64) x14.1 x14.2 y13] rfl) ?_
    refine n_then (ref_seq (ref_region ?_))
    refine mv1 rfl rfl ?_
    refine mv1 rfl rfl ?_
    refine s_rd (r_faddr (fo := 1) Try.underlying43 rfl rfl Try.sizeOf3 rfl) rfl ?_
    refine s_rd (r_cload Try.isAgg3 rfl (j := 1) rfl rfl) rfl ?_
    refine pull fun t15 h_t15 => ?_
    refine s_st (s_callB (ψ := fun (_ : Unit) => bv t15) (args := [.tmp 64, .tmp 65, .tmp 67]) Try.call11 rfl (ref08_SetLess_ok h_t15) ⟨argO rfl (j := 4) rfl, argO rfl (j := 5) rfl, argB rfl, trivial⟩ (fun _ _ _ _ _ h => h)) rfl (fun _ => ?_)
    refine mv1 rfl rfl ?_
    refine b_split (t := 69) rfl (fun _ => ?_) (fun _ => ?_)
    · refine s_off rfl rfl rfl rfl rfl ?_
      refine s_off rfl rfl rfl rfl rfl ?_
      refine s_off rfl rfl rfl rfl rfl ?_
      refine s_off rfl rfl rfl rfl rfl ?_
      refine s_offU rfl rfl rfl ?_
      refine s_offU rfl rfl rfl ?_
      refine s_offU rfl rfl rfl ?_
      refine s_off rfl rfl rfl rfl rfl ?_
      refine s_off rfl rfl rfl rfl rfl ?_
      refine s_offU rfl rfl rfl ?_
      refine s_off rfl rfl rfl rfl rfl ?_
      refine s_rd (r_pickT rfl rfl) rfl ?_
      refine as1 rfl rfl ?_
      refine l_nil (n_then (ref_ret (r_block (r_then ?_))))
      exact fin1 (.inl rfl) () [] rfl trivial rfl (rv_tmp rfl)
    refine s_on rfl rfl rfl ?_
    refine mv1 rfl rfl ?_
    refine s_on rfl rfl rfl ?_
    refine s_rd (r_olen Try.underlying22 rfl (j := 4) rfl) rfl ?_
    refine s_on rfl rfl rfl ?_
    refine s_rd (r_eql rfl rfl) rfl ?_
    refine s_on rfl rfl rfl ?_
    refine mv1 rfl rfl ?_
    refine b_split (t := 73) rfl (fun _ => ?_) (fun _ => ?_)
    · refine s_on rfl rfl rfl ?_
      refine mv1 rfl rfl ?_
      refine s_on rfl rfl rfl ?_
      refine s_rd (r_olen Try.underlying22 rfl (j := 5) rfl) rfl ?_
      refine s_on rfl rfl rfl ?_
      refine s_rd (r_eql rfl rfl) rfl ?_
      refine s_on rfl rfl rfl ?_
      refine s_rd (r_pickT rfl rfl) rfl ?_
      refine s_on rfl rfl rfl ?_
      refine mv1 rfl rfl ?_
      refine b_split (t := 78) rfl (fun _ => ?_) (fun _ => ?_)
      · refine s_on rfl rfl rfl ?_
        refine mv1 rfl rfl ?_
        refine s_on rfl rfl rfl ?_
        refine s_rd (r_pickT rfl rfl) rfl ?_
        refine s_rd (r_pickF rfl rfl) rfl ?_
        refine as1 rfl rfl ?_
        refine l_nil (n_then (ref_ret (r_block (r_then ?_))))
        exact fin1 (.inl rfl) () [] rfl trivial rfl (rv_tmp rfl)
      refine s_off rfl rfl rfl rfl rfl ?_
      refine s_on rfl rfl rfl ?_
      refine s_rd (r_pickF rfl rfl) rfl ?_
      refine s_rd (r_pickF rfl rfl) rfl ?_
      refine as1 rfl rfl ?_
      refine l_nil (n_then (ref_ret (r_block (r_then ?_))))
      exact fin1 (.inl rfl) () [] rfl trivial rfl (rv_tmp rfl)
    refine s_off rfl rfl rfl rfl rfl ?_
    refine s_off rfl rfl rfl rfl rfl ?_
    refine s_off rfl rfl rfl rfl rfl ?_
    refine s_on rfl rfl rfl ?_
    refine s_rd (r_pickF rfl rfl) rfl ?_
    refine s_on rfl rfl rfl ?_
    refine mv1 rfl rfl ?_
    refine s_off rfl rfl rfl rfl rfl ?_
    refine s_on rfl rfl rfl ?_
    refine s_rd (r_pickF rfl rfl) rfl ?_
    refine s_rd (r_pickF rfl rfl) rfl ?_
    refine as1 rfl rfl ?_
    refine l_nil (n_then (ref_ret (r_block (r_then ?_))))
    exact fin1 (.inl rfl) () [] rfl trivial rfl (rv_tmp rfl)
  refine ref_seq (ref_region ?_)
  refine s_rd (r_eql rfl rfl) rfl ?_
  refine as1 rfl rfl ?_
  refine l_nil (n_then ?_)
  refine ref_cond rfl (fun hb16 => ?_) (fun hb16 => ?_)
  · refine ref_seq ?_
    refine ref_draw [0, 1, 2, 4, 5, 6] rfl (by kernel_rfl) (fun hok => ?_)
    refine a_rd (i := 0) hok rfl (by kernel_rfl) rfl (r_cloadS Try.isAgg34 Try.sizeOf34 rfl (j := 0) rfl rfl rfl) rfl ?_
    refine a_rd (i := 1) hok rfl (by kernel_rfl) rfl (r_move rfl) rfl ?_
    refine a_rd (i := 2) hok rfl (by kernel_rfl) rfl (r_move rfl) rfl ?_
    refine a_rd (i := 4) hok rfl (by kernel_rfl) rfl (r_cloadS Try.isAgg34 Try.sizeOf34 rfl (j := 0) rfl rfl rfl) rfl ?_
    refine a_rd (i := 5) hok rfl (by kernel_rfl) rfl (r_move rfl) rfl ?_
    refine a_rd (i := 6) hok rfl (by kernel_rfl) rfl (r_move rfl) rfl ?_
    refine pull fun x17 h_x17 => ?_
    refine a_next hok 3 [] (by kernel_rfl) ?_ trivial
    refine a_st (i := 3) hok rfl rfl (s_call (ψ := fun (x18 : (Value × List Nat)) => pv x18.1) (args := [.tmp 84, .tmp 85, .tmp 86]) Try.call18 rfl (ref08_RuleRanks_ok h_x17) ⟨arg rfl, arg rfl, arg rfl, trivial⟩ (fun _ _ _ _ h => h)) (by intro _ h; cases h; rfl) (fun _ => ⟨trivial, ⟨trivial, ⟨⟨⟨rfl, rfl⟩, trivial⟩, ⟨trivial, ⟨trivial, ⟨trivial, trivial⟩⟩⟩⟩⟩⟩) (fun x18 => ?_)
    refine pull fun y19 h_y19 => ?_
    refine a_next hok 7 [] (by kernel_rfl) ?_ trivial
    refine a_st (i := 7) hok rfl rfl (s_call (ψ := fun (x20 : (Value × List Nat)) => pv x20.1) (args := [.tmp 88, .tmp 89, .tmp 90]) Try.call18 rfl (ref08_RuleRanks_ok h_y19) ⟨arg rfl, arg rfl, arg rfl, trivial⟩ (fun _ _ _ _ h => h)) (by intro _ h; cases h; rfl) (fun _ => ⟨trivial, ⟨trivial, ⟨trivial, ⟨trivial, ⟨trivial, ⟨⟨⟨rfl, rfl⟩, trivial⟩, trivial⟩⟩⟩⟩⟩⟩) (fun x20 => ?_)
    refine a_next hok 8 [] (by kernel_rfl) ?_ trivial
    refine a_st (i := 8) hok rfl rfl (St.ofRd (r_assign rfl)) (by intro _ h; cases h; rfl) (fun _ => ⟨trivial, ⟨trivial, ⟨⟨⟨rfl, rfl⟩, trivial⟩, ⟨trivial, ⟨trivial, ⟨trivial, trivial⟩⟩⟩⟩⟩⟩) (fun _ => ?_)
    refine a_next hok 9 [] (by kernel_rfl) ?_ trivial
    refine a_st (i := 9) hok rfl rfl (St.ofRd (r_assign rfl)) (by intro _ h; cases h; rfl) (fun _ => ⟨trivial, ⟨trivial, ⟨trivial, ⟨trivial, ⟨trivial, ⟨trivial, trivial⟩⟩⟩⟩⟩⟩) (fun _ => ?_)
    refine a_fin hok (by kernel_rfl) ?_
    refine b_of (nrm [oc b1 [slv rT_api_Premise b_0.Premises, slv rT_api_Rule b_0.Rules, slv rT_api_Promotion b_0.Promotions], oc b2 [iv .i64 o_4.Link, iv .i64 o_4.Lift], oa (rI .i64) x6.1 x6.2 t5, oa (rI .i64) x8.1 x8.2 t7, oa (rI .i64) x18.1 x18.2 x17, oa (rI .i64) x20.1 x20.2 y19] rfl) ?_
    refine n_then (ref_seq ?_)
    refine ref_join (fun (j22 : Unit) (x23 : Unit) => [(1, slv rT_api_Argument l_1), (2, iv .i64 i_2), (3, iv .i64 k_3), (5, pv (ptr b1 0)), (9, pv (ptr b2 0)), (11, bv premises9), (14, pv x18.1), (15, pv x20.1)]) (fun (j22 : Unit) (x23 : Unit) => [oc b1 [slv rT_api_Premise b_0.Premises, slv rT_api_Rule b_0.Rules, slv rT_api_Promotion b_0.Promotions], oc b2 [iv .i64 o_4.Link, iv .i64 o_4.Lift], oa (rI .i64) x18.1 x18.2 x17, oa (rI .i64) x20.1 x20.2 y19]) (fun k24 hk24 => ?_) (fun j22 x23 => ?_)
    · refine ref_seq (ref_region ?_)
      refine mv1 rfl rfl ?_
      refine s_rd (r_olen Try.underlying22 rfl (j := 4) rfl) rfl ?_
      refine s_rd (r_eql rfl rfl) rfl ?_
      refine mv1 rfl rfl ?_
      refine b_split (t := 95) rfl (fun _ => ?_) (fun _ => ?_)
      · refine s_on rfl rfl rfl ?_
        refine mv1 rfl rfl ?_
        refine s_on rfl rfl rfl ?_
        refine s_rd (r_olen Try.underlying22 rfl (j := 5) rfl) rfl ?_
        refine s_on rfl rfl rfl ?_
        refine s_rd (r_eql rfl rfl) rfl ?_
        refine s_rd (r_pickT rfl rfl) rfl ?_
        refine l_nil (n_then ?_)
        refine ref_cond rfl (fun hb21 => ?_) (fun hb21 => ?_)
        · refine ref_seq (ref_region ?_)
          refine mv1 rfl rfl ?_
          refine as1 rfl rfl ?_
          refine l_nil (n_then (ref_ret (r_then (r_block (r_then ?_)))))
          exact fin1 (.inl rfl) () [] rfl trivial rfl (rv_tmp rfl)
        refine ref_skip ?_
        exact b_to (hk24 () ()) (weak [0, 1, 4, 5] ⟨rfl, rfl, rfl, rfl, rfl, rfl, rfl, rfl, trivial⟩ ⟨rfl, rfl, rfl, rfl, trivial⟩)
      refine s_off rfl rfl rfl rfl rfl ?_
      refine s_off rfl rfl rfl rfl rfl ?_
      refine s_off rfl rfl rfl rfl rfl ?_
      refine s_rd (r_pickF rfl rfl) rfl ?_
      refine l_nil (n_then ?_)
      refine ref_condF rfl rfl ?_
      refine ref_skip ?_
      exact b_to (hk24 () ()) (weak [0, 1, 4, 5] ⟨rfl, rfl, rfl, rfl, rfl, rfl, rfl, rfl, trivial⟩ ⟨rfl, rfl, rfl, rfl, trivial⟩)
    refine n_then (ref_seq (ref_region ?_))
    refine mv1 rfl rfl ?_
    refine mv1 rfl rfl ?_
    refine s_rd (r_faddr (fo := 1) Try.underlying43 rfl rfl Try.sizeOf3 rfl) rfl ?_
    refine s_rd (r_cload Try.isAgg3 rfl (j := 1) rfl rfl) rfl ?_
    refine pull fun rules25 h_rules25 => ?_
    refine s_st (s_callB (ψ := fun (_ : Unit) => bv rules25) (args := [.tmp 101, .tmp 102, .tmp 104]) Try.call11 rfl (ref08_SetLess_ok h_rules25) ⟨argO rfl (j := 2) rfl, argO rfl (j := 3) rfl, argB rfl, trivial⟩ (fun _ _ _ _ _ h => h)) rfl (fun _ => ?_)
    refine as1 rfl rfl ?_
    refine l_nil (n_then (ref_seq (ref_seq (ref_region ?_))))
    refine s_rd (r_cloadS Try.isAgg34 Try.sizeOf34 rfl (j := 0) rfl rfl rfl) rfl ?_
    refine mv1 rfl rfl ?_
    refine mv1 rfl rfl ?_
    refine pull fun t26 h_t26 => ?_
    refine s_st (s_call (ψ := fun (x27 : (Value × List Nat)) => pv x27.1) (args := [.tmp 106, .tmp 107, .tmp 108]) Try.call16 rfl (ref08_PremiseRanks_ok h_t26) ⟨arg rfl, arg rfl, arg rfl, trivial⟩ (fun _ _ _ _ h => h)) rfl (fun x27 => ?_)
    refine s_rd (r_olen Try.underlying22 rfl (j := 4) rfl) rfl ?_
    refine s_rd (r_eql rfl rfl) rfl ?_
    refine mv1 rfl rfl ?_
    refine b_split (t := 112) rfl (fun _ => ?_) (fun _ => ?_)
    · refine s_on rfl rfl rfl ?_
      refine s_rd (r_cloadS Try.isAgg34 Try.sizeOf34 rfl (j := 0) rfl rfl rfl) rfl ?_
      refine s_on rfl rfl rfl ?_
      refine mv1 rfl rfl ?_
      refine s_on rfl rfl rfl ?_
      refine mv1 rfl rfl ?_
      refine s_on rfl rfl rfl ?_
      refine pull fun t28 h_t28 => ?_
      refine s_st (s_call (ψ := fun (x29 : (Value × List Nat)) => pv x29.1) (args := [.tmp 113, .tmp 114, .tmp 115]) Try.call16 rfl (ref08_PremiseRanks_ok h_t28) ⟨arg rfl, arg rfl, arg rfl, trivial⟩ (fun _ _ _ _ h => h)) rfl (fun x29 => ?_)
      refine s_on rfl rfl rfl ?_
      refine s_rd (r_olen Try.underlying22 rfl (j := 5) rfl) rfl ?_
      refine s_on rfl rfl rfl ?_
      refine s_rd (r_eql rfl rfl) rfl ?_
      refine s_rd (r_pickT rfl rfl) rfl ?_
      refine l_nil (n_then ?_)
      refine ref_cond rfl (fun hb30 => ?_) (fun hb30 => ?_)
      · refine ref_seq (ref_region ?_)
        refine mv1 rfl rfl ?_
        refine as1 rfl rfl ?_
        refine l_nil (n_then (ref_ret (r_then (r_block (r_then ?_)))))
        exact fin1 (.inl rfl) () [] rfl trivial rfl (rv_tmp rfl)
      refine ref_skip (n_then (ref_seq (ref_region ?_)))
      refine mv1 rfl rfl ?_
      refine mv1 rfl rfl ?_
      refine b_split (t := 122) rfl (fun _ => ?_) (fun _ => ?_)
      · refine s_on rfl rfl rfl ?_
        refine mv1 rfl rfl ?_
        refine s_rd (r_pickT rfl rfl) rfl ?_
        refine as1 rfl rfl ?_
        refine l_nil (n_then (ref_ret (r_block (r_then ?_))))
        exact fin1 (.inl rfl) () [] rfl trivial rfl (rv_tmp rfl)
      refine s_off rfl rfl rfl rfl rfl ?_
      refine s_rd (r_pickF rfl rfl) rfl ?_
      refine as1 rfl rfl ?_
      refine l_nil (n_then (ref_ret (r_block (r_then ?_))))
      exact fin1 (.inl rfl) () [] rfl trivial rfl (rv_tmp rfl)
    refine s_off rfl rfl rfl rfl rfl ?_
    refine s_off rfl rfl rfl rfl rfl ?_
    refine s_off rfl rfl rfl rfl rfl ?_
    refine s_off rfl rfl rfl rfl rfl ?_
    refine s_off rfl rfl rfl rfl rfl ?_
    refine s_off rfl rfl rfl rfl rfl ?_
    refine s_rd (r_pickF rfl rfl) rfl ?_
    refine l_nil (n_then ?_)
    refine ref_condF rfl rfl ?_
    refine ref_skip (n_then (ref_seq (ref_region ?_)))
    refine mv1 rfl rfl ?_
    refine mv1 rfl rfl ?_
    refine b_split (t := 122) rfl (fun _ => ?_) (fun _ => ?_)
    · refine s_on rfl rfl rfl ?_
      refine mv1 rfl rfl ?_
      refine s_rd (r_pickT rfl rfl) rfl ?_
      refine as1 rfl rfl ?_
      refine l_nil (n_then (ref_ret (r_block (r_then ?_))))
      exact fin1 (.inl rfl) () [] rfl trivial rfl (rv_tmp rfl)
    refine s_off rfl rfl rfl rfl rfl ?_
    refine s_rd (r_pickF rfl rfl) rfl ?_
    refine as1 rfl rfl ?_
    refine l_nil (n_then (ref_ret (r_block (r_then ?_))))
    exact fin1 (.inl rfl) () [] rfl trivial rfl (rv_tmp rfl)
  refine ref_skip (n_block (n_then (ref_seq (ref_region ?_))))
  refine as1 rfl rfl ?_
  refine l_nil (n_then (ref_ret ?_))
  exact fin1 (.inl rfl) () [] rfl trivial rfl (rv_tmp rfl)

/-! deliberation/deliberationlaw08.LiftCompares -/
noncomputable def law08_LiftCompares_l3 (t4 : T_api_Base × List T_api_Argument × T_deliberationkeep_Src) (t61 : T_api_Ordering) (s80 : Int) (s89 : Int) : Option (Sum ((Sum (Bool) (Unit))) (Int)) :=
  bif decide (s89 < (t4.2.1.length : Int)) then
    Option.bind (lift_Less_m t4.1 t4.2.1 s80 s89 t61) fun t92 =>
    Option.bind (ref08_Less_m t4.1 t4.2.1 s80 s89 t61) fun t93 =>
    bif !(t92 == t93) then
      some (Sum.inl (Sum.inl false))
    else
      some (Sum.inr (iadd .i64 s89 1))
  else
    some (Sum.inl (Sum.inr ()))

noncomputable def law08_LiftCompares_l2 (t4 : T_api_Base × List T_api_Argument × T_deliberationkeep_Src) (t61 : T_api_Ordering) (s80 : Int) : Option (Sum ((Sum (Bool) (Unit))) (Int)) :=
  bif decide (s80 < (t4.2.1.length : Int)) then
    Option.bind (loopC (law08_LiftCompares_l3 t4 t61 s80) 0) (sumK (fun a : Bool => some (Sum.inl (Sum.inl a))) fun q95 : Unit =>
      some (Sum.inr (iadd .i64 s80 1)))
  else
    some (Sum.inl (Sum.inr ()))

noncomputable def law08_LiftCompares_l1 (i_2 : Int) (k_3 : Int) (t4 : T_api_Base × List T_api_Argument × T_deliberationkeep_Src) (t10 : (List T_api_Ordering)) (s58 : Int) : Option (Sum ((Sum (Bool) (Unit))) (Int)) :=
  bif decide (s58 < (t10.length : Int)) then
    Option.bind (idxM t10 s58) fun t61 =>
    Option.bind (loopC (law08_LiftCompares_l2 t4 t61) 0) (sumK (fun a : Bool => some (Sum.inl (Sum.inl a))) fun q97 : Unit =>
      Option.bind (lift_Less_m t4.1 t4.2.1 i_2 k_3 t61) fun t99 =>
      Option.bind (ref08_Less_m t4.1 t4.2.1 i_2 k_3 t61) fun t100 =>
      bif !(t99 == t100) then
        some (Sum.inl (Sum.inl false))
      else
        Option.bind (lift_Less_m t4.1 t4.2.1 (-1) 0 t61) fun t101 =>
        bif t101 then
          some (Sum.inl (Sum.inl false))
        else
          Option.bind (lift_Less_m t4.1 t4.2.1 0 (t4.2.1.length : Int) t61) fun t102 =>
          bif t102 then
            some (Sum.inl (Sum.inl false))
          else
            some (Sum.inr (iadd .i64 s58 1)))
  else
    some (Sum.inl (Sum.inr ()))

noncomputable def law08_LiftCompares_m (l_0 : (List Int)) (o_1 : T_api_Ordering) (i_2 : Int) (k_3 : Int) : Option (Bool) :=
  Option.bind (keep_New_m l_0) fun s2 =>
  Option.bind (law08_built_m s2 4 6 8) fun t4 =>
  Option.bind (keep_Orderings_m ) fun t8 =>
  Option.bind (appM 16 t8 [o_1]) fun t10 =>
  Option.bind (loopC (law08_LiftCompares_l1 i_2 k_3 t4 t10) 0) (sumK (fun a : Bool => some a) fun q104 : Unit =>
    Option.bind (law08_awake_m ) fun t106 =>
    some t106)

theorem law08_LiftCompares_ok {l_0 : (List Int)} {o_1 : T_api_Ordering} {i_2 : Int} {k_3 : Int} {r : Bool} (hm : law08_LiftCompares_m l_0 o_1 i_2 k_3 = some r) :
    FnOk prog 5 [slv (rI .i64) l_0, ag [iv .i64 o_1.Link, iv .i64 o_1.Lift], iv .i64 i_2, iv .i64 k_3] [] (fun (x : Unit) => [bv r]) (fun (x : Unit) => []) := by
  refine fn_ok (fn := Try.f5) (N := 86) (res := fun r x => [bv r]) (Ω1 := fun r x => []) Try.func5 rfl rfl hm rfl (fun E hM => ?_)
  unfold law08_LiftCompares_m
  refine ref_seq (ref_region ?_)
  refine s_st (s_box (part_agO (ψs := [iv .i64 o_1.Link, iv .i64 o_1.Lift]) rfl ⟨.inl iv_at, .inl iv_at, trivial⟩)) rfl (fun b1 => ?_)
  refine as1 rfl rfl ?_
  refine l_nil (n_then (ref_seq (ref_region ?_)))
  refine mv1 rfl rfl ?_
  refine pull fun s2 h_s2 => ?_
  refine s_st (s_call (ψ := fun (x3 : Nat) => pv (ptr x3 0)) (args := [.tmp 16]) Try.call8 rfl (keep_New_ok h_s2) ⟨arg rfl, trivial⟩ (fun _ _ _ _ h => h)) rfl (fun x3 => ?_)
  refine as1 rfl rfl ?_
  refine l_nil (n_then (ref_seq (ref_region ?_)))
  refine mv1 rfl rfl ?_
  refine pull fun t4 h_t4 => ?_
  refine s_st (s_callC [1] [true] (fun (x5 : (Value × List Nat)) => [oc x3 [slv (rI .i64) t4.2.2.L, iv .i64 t4.2.2.At]]) (fun (x5 : (Value × List Nat)) => [oa rT_api_Argument x5.1 x5.2 t4.2.1]) (fun (x5 : (Value × List Nat)) => tup [ag [slv rT_api_Premise t4.1.Premises, slv rT_api_Rule t4.1.Rules, slv rT_api_Promotion t4.1.Promotions], pv x5.1]) (args := [.tmp 19, .const (.int .i64 (4)), .const (.int .i64 (6)), .const (.int .i64 (8))]) (caps := []) Try.call13 rfl (law08_built_ok h_t4) ⟨rfl, rfl, trivial⟩ (fun _ => rfl) (fun _ => trivial) (fun _ => rfl) ⟨arg rfl, arg rfl, arg rfl, arg rfl, trivial⟩ (fun _ _ _ _ h => h)) rfl (fun x5 => ?_)
  refine mv1 rfl rfl ?_
  refine s_rd (r_extract rfl rfl) rfl ?_
  refine s_rd (r_extract rfl rfl) rfl ?_
  refine s_st (s_alloc zt_34) rfl (fun b6 => ?_)
  refine s_st0 (s_cstore (out := [slv rT_api_Premise t4.1.Premises, slv rT_api_Rule t4.1.Rules, slv rT_api_Promotion t4.1.Promotions]) Try.sizeOf34 rfl (j := 3) rfl (part_agO (ψs := [slv rT_api_Premise t4.1.Premises, slv rT_api_Rule t4.1.Rules, slv rT_api_Promotion t4.1.Promotions]) rfl ⟨.inl slv_at, .inl slv_at, .inl slv_at, trivial⟩) rfl rfl rfl) (fun _ => ?_)
  refine as1 rfl rfl ?_
  refine l_nil ?_
  refine b_of (nrm [oc b1 [iv .i64 o_1.Link, iv .i64 o_1.Lift], oc x3 [slv (rI .i64) t4.2.2.L, iv .i64 t4.2.2.At], oa rT_api_Argument x5.1 x5.2 t4.2.1, oc b6 [slv rT_api_Premise t4.1.Premises, slv rT_api_Rule t4.1.Rules, slv rT_api_Promotion t4.1.Promotions]] rfl) ?_
  refine n_then (ref_seq (ref_seq ?_))
  refine pull fun t8 h_t8 => ?_
  refine pull fun t10 h_t10 => ?_
  refine ref_drawI 1 [⟨[], [], [4], [4], [], fun us u => pv u.V.1, fun us u => [oa rT_api_Ordering u.V.1 u.V.2 t8]⟩, ⟨[], [], [], [0], [], fun us u => ag [iv .i64 o_1.Link, iv .i64 o_1.Lift], fun us u => []⟩, ⟨[1], [], [], [], [], fun us u => slv rT_api_Ordering [o_1], fun us u => []⟩, ⟨[0, 1, 2], [], [4], [4], [4], fun us u => pv u.V.1, fun us u => [oa rT_api_Ordering u.V.1 u.V.2 t10]⟩, ⟨[0, 1, 2, 3], [], [], [4], [], fun us u => iv .i64 (t10.length : Int), fun us u => []⟩, ⟨[], [], [], [], [], fun us u => iv .i64 0, fun us u => []⟩] (fun χ7 => [(2, iv .i64 i_2), (3, iv .i64 k_3), (10, pv (ptr b6 0)), (11, pv x5.1), (26, pv (χ7 3).V.1), (27, iv .i64 (t10.length : Int)), (28, iv .i64 0)]) (fun χ7 => [oc b1 [iv .i64 o_1.Link, iv .i64 o_1.Lift], oc x3 [slv (rI .i64) t4.2.2.L, iv .i64 t4.2.2.At], oa rT_api_Argument x5.1 x5.2 t4.2.1, oc b6 [slv rT_api_Premise t4.1.Premises, slv rT_api_Rule t4.1.Rules, slv rT_api_Promotion t4.1.Promotions], oa rT_api_Ordering (χ7 3).V.1 (χ7 3).V.2 t10]) rfl (by kernel_rfl) ⟨fun χ7 Ω ⟨h4, _⟩ => St.to XU.V XU.hV (St.placeL [4] (s_call (ψ := fun (x9 : (Value × List Nat)) => pv x9.1) (args := []) Try.call23 rfl (keep_Orderings_ok h_t8) trivial (fun _ _ _ _ h => h)) (fun _ => rfl) (fun _ => ⟨h4, rfl, trivial⟩)) (fun _ => rfl) (fun _ => rfl), (by intro _ h; cases h; rfl), ⟨fun χ7 Ω ⟨h0, _⟩ => St.toR (r_cloadS Try.isAgg43 Try.sizeOf43 rfl (j := 0) h0 rfl rfl) (fun _ => rfl) (fun _ => rfl), (by intro _ h; cases h; rfl), ⟨fun χ7 Ω _ => St.to XU.U XU.hU (s_bslice (xs := [.tmp 24]) (ds := [o_1]) Try.underlying44 el_43 rfl (Nat.le_of_ble_eq_true rfl) ⟨(part_agO (ψs := [iv .i64 o_1.Link, iv .i64 o_1.Lift]) rfl ⟨.inl iv_at, .inl iv_at, trivial⟩), trivial⟩) (fun _ => rfl) (fun _ => rfl), (by intro _ h; cases h; rfl), ⟨fun χ7 Ω ⟨h4, _⟩ => St.to XU.V XU.hV (s_append h_t10 Try.underlying44 el_43 rfl (j := 4) h4 rfl) (fun _ => rfl) (fun _ => rfl), (by intro _ h; cases h; rfl), ⟨fun χ7 Ω ⟨h4, _⟩ => St.toR (r_olen Try.underlying44 rfl (j := 4) h4) (fun _ => rfl) (fun _ => rfl), (by intro _ h; cases h; rfl), ⟨fun χ7 Ω _ => St.toR (r_move rfl) (fun _ => rfl) (fun _ => rfl), (by intro _ h; cases h; rfl), trivial⟩⟩⟩⟩⟩⟩ (fun _ => ⟨rfl, rfl, rfl, rfl, rfl, rfl, rfl, trivial⟩) (fun _ => rfl) (fun χ7 => ?_)
  refine n_then ?_
  refine ref_loopX (f := (law08_LiftCompares_l1 i_2 k_3 t4 t10)) (Γl := (fun (s58 : Int) (x59 : Unit) => [(2, iv .i64 i_2), (3, iv .i64 k_3), (10, pv (ptr b6 0)), (11, pv x5.1), (26, pv (χ7 3).V.1), (27, iv .i64 (t10.length : Int)), (28, iv .i64 s58)])) (Ωl := (fun (s58 : Int) (x59 : Unit) => [oc b6 [slv rT_api_Premise t4.1.Premises, slv rT_api_Rule t4.1.Rules, slv rT_api_Promotion t4.1.Promotions], oa rT_api_Argument x5.1 x5.2 t4.2.1, oa rT_api_Ordering (χ7 3).V.1 (χ7 3).V.2 t10])) (Γb := (fun (q104 : Unit) (y105 : Unit) => [])) (Ωb := (fun (q104 : Unit) (y105 : Unit) => [])) (kr := (fun a : Bool => some a)) 0 () (weak [3, 2, 4] ⟨rfl, rfl, rfl, rfl, rfl, rfl, rfl, trivial⟩ ⟨rfl, rfl, rfl, trivial⟩) (fun s58 x59 => ?_) (fun q104 y105 => ?_)
  · unfold law08_LiftCompares_l1
    refine ref_seq (ref_region ?_)
    refine s_rd (r_lss rfl rfl) rfl ?_
    refine l_nil (n_then (ref_seq ?_))
    refine ref_cond rfl (fun hb60 => ?_) (fun hb60 => ?_)
    · refine ref_skip (n_then (ref_seq (ref_block (ref_seq (ref_region ?_)))))
      refine pull fun t61 h_t61 => ?_
      refine s_rd (r_oindex h_t61 Try.underlying44 el_43 rfl (j := 2) rfl rfl) rfl ?_
      refine s_rd (r_oload h_t61 el_43 rfl (j := 2) rfl) rfl ?_
      refine s_st (s_alloc zt_43) rfl (fun b62 => ?_)
      refine s_st0 (s_cstore (out := [iv .i64 t61.Link, iv .i64 t61.Lift]) Try.sizeOf43 rfl (j := 3) rfl (part_agO (ψs := [iv .i64 t61.Link, iv .i64 t61.Lift]) rfl ⟨.inl iv_at, .inl iv_at, trivial⟩) rfl rfl rfl) (fun _ => ?_)
      refine l_nil (n_then (ref_seq (ref_seq (ref_region ?_))))
      refine mv1 rfl rfl ?_
      refine s_rd (r_olen Try.underlying35 rfl (j := 1) rfl) rfl ?_
      refine mv1 rfl rfl ?_
      refine l_nil (n_then ?_)
      refine ref_loopX (f := (law08_LiftCompares_l2 t4 t61)) (Γl := (fun (s80 : Int) (x81 : Unit) => [(2, iv .i64 i_2), (3, iv .i64 k_3), (10, pv (ptr b6 0)), (11, pv x5.1), (13, pv (ptr b62 0)), (26, pv (χ7 3).V.1), (27, iv .i64 (t10.length : Int)), (28, iv .i64 s58), (33, iv .i64 (t4.2.1.length : Int)), (34, iv .i64 s80)])) (Ωl := (fun (s80 : Int) (x81 : Unit) => [oc b6 [slv rT_api_Premise t4.1.Premises, slv rT_api_Rule t4.1.Rules, slv rT_api_Promotion t4.1.Promotions], oa rT_api_Argument x5.1 x5.2 t4.2.1, oc b62 [iv .i64 t61.Link, iv .i64 t61.Lift], oa rT_api_Ordering (χ7 3).V.1 (χ7 3).V.2 t10])) (Γb := (fun (q97 : Unit) (y98 : Unit) => [(2, iv .i64 i_2), (3, iv .i64 k_3), (10, pv (ptr b6 0)), (11, pv x5.1), (13, pv (ptr b62 0)), (26, pv (χ7 3).V.1), (27, iv .i64 (t10.length : Int)), (28, iv .i64 s58)])) (Ωb := (fun (q97 : Unit) (y98 : Unit) => [oc b6 [slv rT_api_Premise t4.1.Premises, slv rT_api_Rule t4.1.Rules, slv rT_api_Promotion t4.1.Promotions], oa rT_api_Argument x5.1 x5.2 t4.2.1, oc b62 [iv .i64 t61.Link, iv .i64 t61.Lift], oa rT_api_Ordering (χ7 3).V.1 (χ7 3).V.2 t10])) (kr := (fun a : Bool => some (Sum.inl (Sum.inl a)))) 0 () (weak [0, 1, 3, 2] ⟨rfl, rfl, rfl, rfl, rfl, rfl, rfl, rfl, rfl, rfl, trivial⟩ ⟨rfl, rfl, rfl, rfl, trivial⟩) (fun s80 x81 => ?_) (fun q97 y98 => ?_)
      · unfold law08_LiftCompares_l2
        refine ref_seq (ref_region ?_)
        refine s_rd (r_lss rfl rfl) rfl ?_
        refine l_nil (n_then (ref_seq ?_))
        refine ref_cond rfl (fun hb82 => ?_) (fun hb82 => ?_)
        · refine ref_skip (n_then (ref_seq (ref_block (ref_seq (ref_region ?_)))))
          refine mv1 rfl rfl ?_
          refine as1 rfl rfl ?_
          refine l_nil (n_then (ref_seq (ref_region ?_)))
          refine mv1 rfl rfl ?_
          refine s_rd (r_olen Try.underlying35 rfl (j := 1) rfl) rfl ?_
          refine mv1 rfl rfl ?_
          refine l_nil (n_then ?_)
          refine ref_loopX (f := (law08_LiftCompares_l3 t4 t61 s80)) (Γl := (fun (s89 : Int) (x90 : Unit) => [(2, iv .i64 i_2), (3, iv .i64 k_3), (10, pv (ptr b6 0)), (11, pv x5.1), (13, pv (ptr b62 0)), (14, iv .i64 s80), (26, pv (χ7 3).V.1), (27, iv .i64 (t10.length : Int)), (28, iv .i64 s58), (33, iv .i64 (t4.2.1.length : Int)), (34, iv .i64 s80), (38, iv .i64 (t4.2.1.length : Int)), (39, iv .i64 s89)])) (Ωl := (fun (s89 : Int) (x90 : Unit) => [oc b6 [slv rT_api_Premise t4.1.Premises, slv rT_api_Rule t4.1.Rules, slv rT_api_Promotion t4.1.Promotions], oa rT_api_Argument x5.1 x5.2 t4.2.1, oc b62 [iv .i64 t61.Link, iv .i64 t61.Lift], oa rT_api_Ordering (χ7 3).V.1 (χ7 3).V.2 t10])) (Γb := (fun (q95 : Unit) (y96 : Unit) => [(2, iv .i64 i_2), (3, iv .i64 k_3), (10, pv (ptr b6 0)), (11, pv x5.1), (13, pv (ptr b62 0)), (26, pv (χ7 3).V.1), (27, iv .i64 (t10.length : Int)), (28, iv .i64 s58), (33, iv .i64 (t4.2.1.length : Int)), (34, iv .i64 s80)])) (Ωb := (fun (q95 : Unit) (y96 : Unit) => [oc b6 [slv rT_api_Premise t4.1.Premises, slv rT_api_Rule t4.1.Rules, slv rT_api_Promotion t4.1.Promotions], oa rT_api_Argument x5.1 x5.2 t4.2.1, oc b62 [iv .i64 t61.Link, iv .i64 t61.Lift], oa rT_api_Ordering (χ7 3).V.1 (χ7 3).V.2 t10])) (kr := (fun a : Bool => some (Sum.inl (Sum.inl a)))) 0 () (weak [0, 1, 2, 3] ⟨rfl, rfl, rfl, rfl, rfl, rfl, rfl, rfl, rfl, rfl, rfl, rfl, rfl, trivial⟩ ⟨rfl, rfl, rfl, rfl, trivial⟩) (fun s89 x90 => ?_) (fun q95 y96 => ?_)
          · unfold law08_LiftCompares_l3
            refine ref_seq (ref_region ?_)
            refine s_rd (r_lss rfl rfl) rfl ?_
            refine l_nil (n_then (ref_seq ?_))
            refine ref_cond rfl (fun hb91 => ?_) (fun hb91 => ?_)
            · refine ref_skip (n_then (ref_seq (ref_block (ref_seq (ref_region ?_)))))
              refine mv1 rfl rfl ?_
              refine as1 rfl rfl ?_
              refine l_nil (n_then (ref_seq ?_))
              refine ref_draw [0, 1, 2, 3, 4, 6, 7, 8, 9, 10, 12] rfl (by kernel_rfl) (fun hok => ?_)
              refine a_rd (i := 0) hok rfl (by kernel_rfl) rfl (r_cloadS Try.isAgg34 Try.sizeOf34 rfl (j := 0) rfl rfl rfl) rfl ?_
              refine a_rd (i := 1) hok rfl (by kernel_rfl) rfl (r_move rfl) rfl ?_
              refine a_rd (i := 2) hok rfl (by kernel_rfl) rfl (r_move rfl) rfl ?_
              refine a_rd (i := 3) hok rfl (by kernel_rfl) rfl (r_move rfl) rfl ?_
              refine a_rd (i := 4) hok rfl (by kernel_rfl) rfl (r_cloadS Try.isAgg43 Try.sizeOf43 rfl (j := 2) rfl rfl rfl) rfl ?_
              refine a_rd (i := 6) hok rfl (by kernel_rfl) rfl (r_cloadS Try.isAgg34 Try.sizeOf34 rfl (j := 0) rfl rfl rfl) rfl ?_
              refine a_rd (i := 7) hok rfl (by kernel_rfl) rfl (r_move rfl) rfl ?_
              refine a_rd (i := 8) hok rfl (by kernel_rfl) rfl (r_move rfl) rfl ?_
              refine a_rd (i := 9) hok rfl (by kernel_rfl) rfl (r_move rfl) rfl ?_
              refine a_rd (i := 10) hok rfl (by kernel_rfl) rfl (r_cloadS Try.isAgg43 Try.sizeOf43 rfl (j := 2) rfl rfl rfl) rfl ?_
              refine pull fun t92 h_t92 => ?_
              refine a_next hok 5 [] (by kernel_rfl) ?_ trivial
              refine a_st (i := 5) hok rfl rfl (s_callB (ψ := fun (_ : Unit) => bv t92) (args := [.tmp 42, .tmp 43, .tmp 44, .tmp 45, .tmp 46]) Try.call24 rfl (lift_Less_ok h_t92) ⟨argB rfl, argO rfl (j := 1) rfl, argB rfl, argB rfl, argB rfl, trivial⟩ (fun _ _ _ _ _ h => h)) (by intro _ h; cases h; rfl) (fun _ => ⟨⟨⟨rfl, rfl⟩, trivial⟩, ⟨trivial, ⟨trivial, ⟨trivial, ⟨⟨⟨rfl, rfl⟩, trivial⟩, ⟨trivial, ⟨trivial, ⟨trivial, ⟨trivial, ⟨trivial, trivial⟩⟩⟩⟩⟩⟩⟩⟩⟩⟩) (fun _ => ?_)
              refine pull fun t93 h_t93 => ?_
              refine a_next hok 11 [] (by kernel_rfl) ?_ trivial
              refine a_st (i := 11) hok rfl rfl (s_callB (ψ := fun (_ : Unit) => bv t93) (args := [.tmp 48, .tmp 49, .tmp 50, .tmp 51, .tmp 52]) Try.call25 rfl (ref08_Less_ok h_t93) ⟨argB rfl, argO rfl (j := 1) rfl, argB rfl, argB rfl, argB rfl, trivial⟩ (fun _ _ _ _ _ h => h)) (by intro _ h; cases h; rfl) (fun _ => ⟨trivial, ⟨trivial, ⟨trivial, ⟨trivial, ⟨trivial, ⟨⟨⟨rfl, rfl⟩, trivial⟩, ⟨trivial, ⟨trivial, ⟨trivial, ⟨⟨⟨rfl, rfl⟩, trivial⟩, trivial⟩⟩⟩⟩⟩⟩⟩⟩⟩⟩) (fun _ => ?_)
              refine a_rd (i := 12) hok rfl (by kernel_rfl) rfl (r_bneq Try.underlying4 rfl rfl) rfl ?_
              refine a_fin hok (by kernel_rfl) ?_
              refine b_of (nrm [oc b6 [slv rT_api_Premise t4.1.Premises, slv rT_api_Rule t4.1.Rules, slv rT_api_Promotion t4.1.Promotions], oa rT_api_Argument x5.1 x5.2 t4.2.1, oc b62 [iv .i64 t61.Link, iv .i64 t61.Lift], oa rT_api_Ordering (χ7 3).V.1 (χ7 3).V.2 t10] rfl) ?_
              refine n_then ?_
              refine ref_cond rfl (fun hb94 => ?_) (fun hb94 => ?_)
              · refine ref_seq (ref_region ?_)
                refine as1 rfl rfl ?_
                refine l_nil (n_then (ref_ret (r_block (r_then ?_))))
                refine retX ?_
                refine r_block (r_block (r_then ?_))
                refine retX ?_
                refine r_block (r_then (r_block (r_then ?_)))
                refine retX ?_
                refine r_block (r_then ?_)
                exact fin1 (.inl rfl) () [] rfl trivial rfl (rv_tmp rfl)
              refine ref_skip (n_block (n_then (ref_region ?_)))
              refine s_rd (r_add rfl rfl) rfl ?_
              refine mv1 rfl rfl ?_
              refine l_nil ?_
              exact goX () (weak [0, 1, 2, 3] ⟨rfl, rfl, rfl, rfl, rfl, rfl, rfl, rfl, rfl, rfl, rfl, rfl, rfl, trivial⟩ ⟨rfl, rfl, rfl, rfl, trivial⟩)
            refine ref_exit (x_then ?_)
            exact brkX () (weak [0, 1, 2, 3] ⟨rfl, rfl, rfl, rfl, rfl, rfl, rfl, rfl, rfl, rfl, trivial⟩ ⟨rfl, rfl, rfl, rfl, trivial⟩)
          refine n_block (n_then (ref_region ?_))
          refine s_rd (r_add rfl rfl) rfl ?_
          refine mv1 rfl rfl ?_
          refine l_nil ?_
          exact goX () (weak [0, 1, 2, 3] ⟨rfl, rfl, rfl, rfl, rfl, rfl, rfl, rfl, rfl, rfl, trivial⟩ ⟨rfl, rfl, rfl, rfl, trivial⟩)
        refine ref_exit (x_then ?_)
        exact brkX () (weak [0, 1, 2, 3] ⟨rfl, rfl, rfl, rfl, rfl, rfl, rfl, rfl, trivial⟩ ⟨rfl, rfl, rfl, rfl, trivial⟩)
      refine n_then (ref_seq ?_)
      refine ref_draw [0, 1, 2, 3, 4, 6, 7, 8, 9, 10, 12, 13, 14, 15, 16, 18, 19, 20, 21, 22, 23, 24, 26] rfl (by kernel_rfl) (fun hok => ?_)
      refine a_rd (i := 0) hok rfl (by kernel_rfl) rfl (r_cloadS Try.isAgg34 Try.sizeOf34 rfl (j := 0) rfl rfl rfl) rfl ?_
      refine a_rd (i := 1) hok rfl (by kernel_rfl) rfl (r_move rfl) rfl ?_
      refine a_rd (i := 2) hok rfl (by kernel_rfl) rfl (r_move rfl) rfl ?_
      refine a_rd (i := 3) hok rfl (by kernel_rfl) rfl (r_move rfl) rfl ?_
      refine a_rd (i := 4) hok rfl (by kernel_rfl) rfl (r_cloadS Try.isAgg43 Try.sizeOf43 rfl (j := 2) rfl rfl rfl) rfl ?_
      refine a_rd (i := 6) hok rfl (by kernel_rfl) rfl (r_cloadS Try.isAgg34 Try.sizeOf34 rfl (j := 0) rfl rfl rfl) rfl ?_
      refine a_rd (i := 7) hok rfl (by kernel_rfl) rfl (r_move rfl) rfl ?_
      refine a_rd (i := 8) hok rfl (by kernel_rfl) rfl (r_move rfl) rfl ?_
      refine a_rd (i := 9) hok rfl (by kernel_rfl) rfl (r_move rfl) rfl ?_
      refine a_rd (i := 10) hok rfl (by kernel_rfl) rfl (r_cloadS Try.isAgg43 Try.sizeOf43 rfl (j := 2) rfl rfl rfl) rfl ?_
      refine pull fun t99 h_t99 => ?_
      refine a_next hok 5 [] (by kernel_rfl) ?_ trivial
      refine a_st (i := 5) hok rfl rfl (s_callB (ψ := fun (_ : Unit) => bv t99) (args := [.tmp 57, .tmp 58, .tmp 59, .tmp 60, .tmp 61]) Try.call24 rfl (lift_Less_ok h_t99) ⟨argB rfl, argO rfl (j := 1) rfl, argB rfl, argB rfl, argB rfl, trivial⟩ (fun _ _ _ _ _ h => h)) (by intro _ h; cases h; rfl) (fun _ => ⟨⟨⟨rfl, rfl⟩, trivial⟩, ⟨trivial, ⟨trivial, ⟨trivial, ⟨⟨⟨rfl, rfl⟩, trivial⟩, ⟨trivial, ⟨trivial, ⟨trivial, ⟨trivial, ⟨trivial, trivial⟩⟩⟩⟩⟩⟩⟩⟩⟩⟩) (fun _ => ?_)
      refine pull fun t100 h_t100 => ?_
      refine a_next hok 11 [] (by kernel_rfl) ?_ trivial
      refine a_st (i := 11) hok rfl rfl (s_callB (ψ := fun (_ : Unit) => bv t100) (args := [.tmp 63, .tmp 64, .tmp 65, .tmp 66, .tmp 67]) Try.call25 rfl (ref08_Less_ok h_t100) ⟨argB rfl, argO rfl (j := 1) rfl, argB rfl, argB rfl, argB rfl, trivial⟩ (fun _ _ _ _ _ h => h)) (by intro _ h; cases h; rfl) (fun _ => ⟨trivial, ⟨trivial, ⟨trivial, ⟨trivial, ⟨trivial, ⟨⟨⟨rfl, rfl⟩, trivial⟩, ⟨trivial, ⟨trivial, ⟨trivial, ⟨⟨⟨rfl, rfl⟩, trivial⟩, trivial⟩⟩⟩⟩⟩⟩⟩⟩⟩⟩) (fun _ => ?_)
      refine a_rd (i := 12) hok rfl (by kernel_rfl) rfl (r_bneq Try.underlying4 rfl rfl) rfl ?_
      refine a_rd (i := 13) hok rfl (by kernel_rfl) rfl (r_move rfl) rfl ?_
      refine b_split (t := 70) rfl (fun _ => ?_) (fun _ => ?_)
      · refine a_off (i := 14) hok rfl rfl rfl rfl rfl (by kernel_rfl) rfl rfl ?_
        refine a_off (i := 15) hok rfl rfl rfl rfl rfl (by kernel_rfl) rfl rfl ?_
        refine a_off (i := 16) hok rfl rfl rfl rfl rfl (by kernel_rfl) rfl rfl ?_
        refine a_next hok 17 [] (by kernel_rfl) ?_ trivial
        refine a_stOff (i := 17) hok rfl rfl rfl rfl rfl rfl (by intro _ h; cases h; rfl) ⟨trivial, ⟨trivial, ⟨trivial, ⟨trivial, ⟨trivial, ⟨⟨⟨rfl, rfl⟩, trivial⟩, ⟨trivial, ⟨trivial, ⟨trivial, ⟨⟨⟨rfl, rfl⟩, trivial⟩, ⟨⟨⟨rfl, rfl⟩, trivial⟩, ⟨trivial, ⟨trivial, ⟨trivial, ⟨⟨⟨rfl, rfl⟩, trivial⟩, trivial⟩⟩⟩⟩⟩⟩⟩⟩⟩⟩⟩⟩⟩⟩⟩ ?_
        refine a_rd (i := 18) hok rfl (by kernel_rfl) rfl (r_pickT rfl rfl) rfl ?_
        refine a_rd (i := 19) hok rfl (by kernel_rfl) rfl (r_move rfl) rfl ?_
        refine a_off (i := 20) hok rfl rfl rfl rfl rfl (by kernel_rfl) rfl rfl ?_
        refine a_off (i := 21) hok rfl rfl rfl rfl rfl (by kernel_rfl) rfl rfl ?_
        refine a_off (i := 22) hok rfl rfl rfl rfl rfl (by kernel_rfl) rfl rfl ?_
        refine a_off (i := 23) hok rfl rfl rfl rfl rfl (by kernel_rfl) rfl rfl ?_
        refine a_off (i := 24) hok rfl rfl rfl rfl rfl (by kernel_rfl) rfl rfl ?_
        refine a_next hok 25 [] (by kernel_rfl) ?_ trivial
        refine a_stOff (i := 25) hok rfl rfl rfl rfl rfl rfl (by intro _ h; cases h; rfl) ⟨trivial, ⟨trivial, ⟨trivial, ⟨trivial, ⟨trivial, ⟨trivial, ⟨trivial, ⟨trivial, ⟨trivial, ⟨trivial, ⟨trivial, ⟨trivial, ⟨⟨⟨rfl, rfl⟩, trivial⟩, ⟨trivial, ⟨trivial, ⟨trivial, ⟨⟨⟨rfl, rfl⟩, trivial⟩, ⟨⟨⟨rfl, rfl⟩, trivial⟩, ⟨trivial, ⟨trivial, ⟨trivial, ⟨⟨⟨rfl, rfl⟩, trivial⟩, trivial⟩⟩⟩⟩⟩⟩⟩⟩⟩⟩⟩⟩⟩⟩⟩⟩⟩⟩⟩⟩⟩⟩ ?_
        refine a_rd (i := 26) hok rfl (by kernel_rfl) rfl (r_pickT rfl rfl) rfl ?_
        refine a_fin hok (by kernel_rfl) ?_
        refine n_then ?_
        refine ref_condT rfl rfl ?_
        refine ref_seq (ref_region ?_)
        refine as1 rfl rfl ?_
        refine l_nil (n_then (ref_ret (r_block (r_then ?_))))
        refine retX ?_
        refine r_block (r_then ?_)
        exact fin1 (.inl rfl) () [] rfl trivial rfl (rv_tmp rfl)
      refine a_rdOn (i := 14) hok rfl rfl rfl rfl (by kernel_rfl) rfl (r_cloadS Try.isAgg34 Try.sizeOf34 rfl (j := 0) rfl rfl rfl) rfl ?_
      refine a_rdOn (i := 15) hok rfl rfl rfl rfl (by kernel_rfl) rfl (r_move rfl) rfl ?_
      refine a_rdOn (i := 16) hok rfl rfl rfl rfl (by kernel_rfl) rfl (r_cloadS Try.isAgg43 Try.sizeOf43 rfl (j := 2) rfl rfl rfl) rfl ?_
      refine pull fun t101 h_t101 => ?_
      refine a_next hok 17 [] (by kernel_rfl) ?_ trivial
      refine a_stOn (i := 17) hok rfl rfl rfl rfl rfl (s_callB (ψ := fun (_ : Unit) => bv t101) (args := [.tmp 71, .tmp 72, .const (.int .i64 (-1)), .const (.int .i64 (0)), .tmp 73]) Try.call24 rfl (lift_Less_ok h_t101) ⟨argB rfl, argO rfl (j := 1) rfl, argB rfl, argB rfl, argB rfl, trivial⟩ (fun _ _ _ _ _ h => h)) (by intro _ h; cases h; rfl) (fun _ => ⟨trivial, ⟨trivial, ⟨trivial, ⟨trivial, ⟨trivial, ⟨⟨⟨rfl, rfl⟩, trivial⟩, ⟨trivial, ⟨trivial, ⟨trivial, ⟨⟨⟨rfl, rfl⟩, trivial⟩, ⟨⟨⟨rfl, rfl⟩, trivial⟩, ⟨trivial, ⟨trivial, ⟨trivial, ⟨⟨⟨rfl, rfl⟩, trivial⟩, trivial⟩⟩⟩⟩⟩⟩⟩⟩⟩⟩⟩⟩⟩⟩⟩) (fun _ => ?_)
      refine a_rd (i := 18) hok rfl (by kernel_rfl) rfl (r_pickF rfl rfl) rfl ?_
      refine a_rd (i := 19) hok rfl (by kernel_rfl) rfl (r_move rfl) rfl ?_
      refine b_split (t := 76) rfl (fun _ => ?_) (fun _ => ?_)
      · refine a_off (i := 20) hok rfl rfl rfl rfl rfl (by kernel_rfl) rfl rfl ?_
        refine a_off (i := 21) hok rfl rfl rfl rfl rfl (by kernel_rfl) rfl rfl ?_
        refine a_off (i := 22) hok rfl rfl rfl rfl rfl (by kernel_rfl) rfl rfl ?_
        refine a_off (i := 23) hok rfl rfl rfl rfl rfl (by kernel_rfl) rfl rfl ?_
        refine a_off (i := 24) hok rfl rfl rfl rfl rfl (by kernel_rfl) rfl rfl ?_
        refine a_next hok 25 [] (by kernel_rfl) ?_ trivial
        refine a_stOff (i := 25) hok rfl rfl rfl rfl rfl rfl (by intro _ h; cases h; rfl) ⟨trivial, ⟨trivial, ⟨trivial, ⟨trivial, ⟨trivial, ⟨trivial, ⟨trivial, ⟨⟨⟨rfl, rfl⟩, trivial⟩, ⟨trivial, ⟨⟨⟨rfl, rfl⟩, trivial⟩, ⟨trivial, ⟨trivial, ⟨⟨⟨rfl, rfl⟩, trivial⟩, ⟨trivial, ⟨trivial, ⟨trivial, ⟨⟨⟨rfl, rfl⟩, trivial⟩, ⟨⟨⟨rfl, rfl⟩, trivial⟩, ⟨trivial, ⟨trivial, ⟨trivial, ⟨⟨⟨rfl, rfl⟩, trivial⟩, trivial⟩⟩⟩⟩⟩⟩⟩⟩⟩⟩⟩⟩⟩⟩⟩⟩⟩⟩⟩⟩⟩⟩ ?_
        refine a_rd (i := 26) hok rfl (by kernel_rfl) rfl (r_pickT rfl rfl) rfl ?_
        refine a_fin hok (by kernel_rfl) ?_
        refine n_then ?_
        refine ref_condT rfl rfl ?_
        refine ref_seq (ref_region ?_)
        refine as1 rfl rfl ?_
        refine l_nil (n_then (ref_ret (r_block (r_then ?_))))
        refine retX ?_
        refine r_block (r_then ?_)
        exact fin1 (.inl rfl) () [] rfl trivial rfl (rv_tmp rfl)
      refine a_rdOn (i := 20) hok rfl rfl rfl rfl (by kernel_rfl) rfl (r_cloadS Try.isAgg34 Try.sizeOf34 rfl (j := 0) rfl rfl rfl) rfl ?_
      refine a_rdOn (i := 21) hok rfl rfl rfl rfl (by kernel_rfl) rfl (r_move rfl) rfl ?_
      refine a_rdOn (i := 22) hok rfl rfl rfl rfl (by kernel_rfl) rfl (r_move rfl) rfl ?_
      refine a_rdOn (i := 23) hok rfl rfl rfl rfl (by kernel_rfl) rfl (r_olen Try.underlying35 rfl (j := 1) rfl) rfl ?_
      refine a_rdOn (i := 24) hok rfl rfl rfl rfl (by kernel_rfl) rfl (r_cloadS Try.isAgg43 Try.sizeOf43 rfl (j := 2) rfl rfl rfl) rfl ?_
      refine pull fun t102 h_t102 => ?_
      refine a_next hok 25 [] (by kernel_rfl) ?_ trivial
      refine a_stOn (i := 25) hok rfl rfl rfl rfl rfl (s_callB (ψ := fun (_ : Unit) => bv t102) (args := [.tmp 77, .tmp 78, .const (.int .i64 (0)), .tmp 80, .tmp 81]) Try.call24 rfl (lift_Less_ok h_t102) ⟨argB rfl, argO rfl (j := 1) rfl, argB rfl, argB rfl, argB rfl, trivial⟩ (fun _ _ _ _ _ h => h)) (by intro _ h; cases h; rfl) (fun _ => ⟨trivial, ⟨trivial, ⟨trivial, ⟨trivial, ⟨trivial, ⟨trivial, ⟨trivial, ⟨⟨⟨rfl, rfl⟩, trivial⟩, ⟨trivial, ⟨⟨⟨rfl, rfl⟩, trivial⟩, ⟨trivial, ⟨trivial, ⟨⟨⟨rfl, rfl⟩, trivial⟩, ⟨trivial, ⟨trivial, ⟨trivial, ⟨⟨⟨rfl, rfl⟩, trivial⟩, ⟨⟨⟨rfl, rfl⟩, trivial⟩, ⟨trivial, ⟨trivial, ⟨trivial, ⟨⟨⟨rfl, rfl⟩, trivial⟩, trivial⟩⟩⟩⟩⟩⟩⟩⟩⟩⟩⟩⟩⟩⟩⟩⟩⟩⟩⟩⟩⟩⟩) (fun _ => ?_)
      refine a_rd (i := 26) hok rfl (by kernel_rfl) rfl (r_pickF rfl rfl) rfl ?_
      refine a_fin hok (by kernel_rfl) ?_
      refine b_of (nrm [oc b6 [slv rT_api_Premise t4.1.Premises, slv rT_api_Rule t4.1.Rules, slv rT_api_Promotion t4.1.Promotions], oa rT_api_Argument x5.1 x5.2 t4.2.1, oc b62 [iv .i64 t61.Link, iv .i64 t61.Lift], oa rT_api_Ordering (χ7 3).V.1 (χ7 3).V.2 t10] rfl) ?_
      refine n_then ?_
      refine ref_cond rfl (fun hb103 => ?_) (fun hb103 => ?_)
      · refine ref_seq (ref_region ?_)
        refine as1 rfl rfl ?_
        refine l_nil (n_then (ref_ret (r_block (r_then ?_))))
        refine retX ?_
        refine r_block (r_then ?_)
        exact fin1 (.inl rfl) () [] rfl trivial rfl (rv_tmp rfl)
      refine ref_skip (n_block (n_then (ref_region ?_)))
      refine s_rd (r_add rfl rfl) rfl ?_
      refine mv1 rfl rfl ?_
      refine l_nil ?_
      exact goX () (weak [0, 1, 3] ⟨rfl, rfl, rfl, rfl, rfl, rfl, rfl, trivial⟩ ⟨rfl, rfl, rfl, trivial⟩)
    refine ref_exit (x_then ?_)
    exact brkX () (weak [] trivial trivial)
  refine n_then (ref_seq (ref_region ?_))
  refine pull fun t106 h_t106 => ?_
  refine s_st (s_call (ψ := fun (_ : Unit) => bv t106) (args := []) Try.call12 rfl (law08_awake_ok h_t106) trivial (fun _ _ _ _ h => h)) rfl (fun _ => ?_)
  refine as1 rfl rfl ?_
  refine l_nil (n_then (ref_ret ?_))
  exact fin1 (.inl rfl) () [] rfl trivial rfl (rv_tmp rfl)

end Go.Dc
