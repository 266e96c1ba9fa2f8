/- Part P26.Fin of a proof: lemmas. -/
import Derived.Test.YtmejeobfjojfeaaLAW26F
import Derived.Test.YtmejeobfjojfeaaMFuelM
import Derived.Test.YtmejeobfjojfeaaDcLend
namespace Go.Dc
theorem awake26 : law26_awake_m = some true := law26_awake_f_le (k_ := 60) _ (by decide +kernel)
end Go.Dc

set_option linter.unusedVariables false
set_option linter.unusedSimpArgs false
set_option linter.unusedSectionVars false
namespace Go.Dc

variable {L : List Sl}
theorem awake_T : T law26_awake_m fun r => r = true := ⟨true, awake26, rfl⟩

theorem has_r {L : List Sl} (hO : OkA L) {w : Nat} (hw : w < L.length) (x : Li) : ref26_Has_m ⟨L⟩ (w : Int) x = some (hasC L[w] x) := by
 unfold ref26_Has_m
 have hm : memB (w : Int) L = true := by unfold memB; rw [decide_eq_true (by omega), decide_eq_true (by omega)]; rfl
 rw [refVal hO.bd, some_bind, vcode_zero.2 hO, beq_self_eq_true, cond_true, mem_r, some_bind, hm, cond_true]
 dsimp only
 rw [idxM_nat hw, some_bind, refFind_eq (asc_at hO hw) (len_at hO hw), some_bind, find_ge]
theorem support_T (l : List Int) : T (law26_CommitmentSupport_m l) fun r => r = true := by
 unfold law26_CommitmentSupport_m
 refine T.bind New_plain fun s1 h1 => ?_
 refine T.bind (Range_plain h1 (by omega) (by omega) (by omega)) fun m2 ⟨h2, n1, n2⟩ => ?_
 refine T.bind (made_plain h2 (by omega) (by omega)) fun t3 ⟨h3, hM⟩ => ?_
 refine T.bind (N_plain h3 (by omega)) fun who ⟨h4, hb⟩ => ?_
 have hb := hb (by omega)
 obtain ⟨⟨L⟩, s3⟩ := t3
 dsimp only at hM h3 ⊢
 have hl2 := hM.len
 have hmem : memB who.1 L = true := by unfold memB; rw [decide_eq_true (by omega), decide_eq_true (by omega)]; rfl
 obtain ⟨w, ew, hw⟩ := mem_nat hmem
 have hO := hM.ok
 have hd := defP_ok L[w].length (hO.ok _ (List.getElem_mem hw)) (Nat.le_refl _)
 rw [default_p hO.bd, some_bind, ew, defA_nat hO hw]
 revert hd
 generalize defP L[w].length L[w] = r
 intro hd
 have hr := set_okS hO hd.ok (w := w)
 dsimp only
 have hw2 : w < (L.set w r).length := by simpa using hw
 have hat : (L.set w r)[w] = r := by simp
 rw [bne_self_eq_false, cond_false, refVal hr.bd, some_bind, vcode_zero.2 hr, bne_self_eq_false, cond_false, List.length_set, hl2, bne_self_eq_false, cond_false, burdens_r hr.bd, bur_ok hr hw2, some_bind, hat, hd.bur]
 rw [show decide ((([] : List Li).length : Int) > 0) = false from rfl, cond_false, idxSet hw, some_bind]
 have hrok : Ok r := hd.ok
 have hrlen := hrok.len
 have hsup := hd.sup (hM.sup _ (List.getElem_mem hw))
 have hloop : loopC (law26_CommitmentSupport_l2 (⟨L⟩, s3) who (⟨L.set w r⟩, 0) r) 0 = some (.inr ()) := by
  refine all_loop (n := r.length) (fun i hi => ?_) ?_
  ·have hm := List.getElem_mem hi
   have hg6 := hrok.g6 _ hm
   have e2 : loopC (law26_CommitmentSupport_l1 who (⟨L.set w r⟩, 0) r[i]) 0 = some (.inr ()) := by
    refine all_loop (n := r[i].Grounds.length) (fun j hj => ?_) ?_
    ·unfold law26_CommitmentSupport_l1
     dsimp only
     rw [decide_eq_true (by omega), cond_true, idxM_nat hj, some_bind, ew, has_r hr hw2, some_bind, hat, hsup _ hm _ (List.getElem_mem hj), Bool.not_true, cond_false, iaddS (by omega)]
    ·unfold law26_CommitmentSupport_l1
     rw [decide_eq_false (by omega), cond_false]
   unfold law26_CommitmentSupport_l2
   dsimp only
   rw [decide_eq_true (by omega), cond_true, idxM_nat hi, some_bind, ew, has_r hO hw, some_bind, hd.sub _ hm, Bool.not_true, cond_false, e2, some_bind, sumK_inr, iaddS (by omega)]
  ·unfold law26_CommitmentSupport_l2
   rw [decide_eq_false (by omega), cond_false]
 rw [hloop, some_bind, sumK_inr]
 exact T.bind awake_T fun t ht => .ret ht
theorem support_plain (l : List Int) : law26_CommitmentSupport_m l = some true := (support_T l).eq

end Go.Dc

namespace Go.Dc
theorem law26_CommitmentSupport_plain (l : List Int) {p0 : Prop} (_ : p0) : law26_CommitmentSupport_m l = some true := support_plain l
end Go.Dc
