/- Part P26.Fin of a proof: lemmas. -/
import Derived.Test.YtmejeobfjojfeaaLAW26F
import Derived.Test.YtmejeobfjojfeaaMFuelM
import Derived.Test.YtmejeobfjojfeaaDcLend
namespace Go.Dc
theorem awake26 : law26_awake_m = some true := law26_awake_f_le (k_ := 60) _ (by decide +kernel)
end Go.Dc

set_option linter.unusedVariables false
set_option linter.unusedSimpArgs false
set_option linter.unusedSectionVars false
namespace Go.Dc

variable {L : List Sl}
theorem say_nil {sp : T_api_Speech} (h : (sayP L sp).1 ≠ 0) : (sayP L sp).2 = [] := by
 unfold sayP at h ⊢
 split
 ·rfl
 split
 ·rfl
 split
 ·rfl
 split
 ·rfl
 unfold doneP at h ⊢
 split
 ·rename_i q1 q2 q3 q4 q5
  rw [if_neg q1, if_neg q2, if_neg q3, if_neg q4, if_pos q5] at h; exact absurd rfl h
 ·rfl
theorem awake_T : T law26_awake_m fun r => r = true := ⟨true, awake26, rfl⟩

theorem one_at {i : Nat} (h : i < L.length) : slM L (i : Int) (iadd .i64 (i : Int) 1) = some [L[i]] ∨ ¬ L.length ≤ 1000 := by
 by_cases h2 : L.length ≤ 1000
 ·refine .inl ?_
  rw [iaddS (by omega), slM_eq (by omega) (by omega) (by omega)]
  congr 1
  show (L.take (i + 1)).drop i = _
  have e : i - (L.take i).length = 0 := by rw [List.length_take]; omega
  rw [take_succ' h, List.drop_append, List.drop_eq_nil_of_le (by rw [List.length_take]; omega), e]; rfl
 ·exact .inr h2
theorem local_T (l : List Int) : T (law26_CommitmentLocal_m l) fun r => r = true := by
 unfold law26_CommitmentLocal_m
 refine T.bind New_plain fun s1 h1 => ?_
 refine T.bind (Range_plain h1 (by omega) (by omega) (by omega)) fun m2 ⟨h2, n1, n2⟩ => ?_
 refine T.bind (made_plain h2 (by omega) (by omega)) fun t3 ⟨h3, hM⟩ => ?_
 refine T.bind (speech_plain h3 (by omega) (by omega)) fun t4 ⟨h4, hx⟩ => ?_
 have hg := hx.g
 obtain ⟨⟨L⟩, s3⟩ := t3
 dsimp only at hM h3 ⊢
 rw [say_p hM.ok.bd (by omega), some_bind]
 dsimp only
 by_cases hz : (sayP L t4.1).1 = 0
 ·obtain ⟨_, hA⟩ := say_act hz
  have hlen := hA.len
  have hl2 := hM.len
  have h6 := hM.ok.n
  rw [hz, bne_self_eq_false, cond_false, refVal hA.ok.bd, some_bind, vcode_zero.2 hA.ok, bne_self_eq_false, cond_false]
  have e : (((sayP L t4.1).2.length : Nat) : Int) = m2.1 := by rw [hlen]; exact hl2
  rw [e, bne_self_eq_false, cond_false]
  refine T.joinP (fun j => j = if t4.1.Kind = 2 then t4.1.To else t4.1.By) (fun j hj => ?_) fun kk hkk => ?_
  rotate_left
  ·refine T.cond (fun c => hkk _ ?_) fun c => hkk _ ?_
   ·rw [if_pos (by simpa using c)]
   ·rw [if_neg (by simpa using c)]
  rw [← hj] at hA
  have hj0 : 0 ≤ j := by
   rw [hj]; split
   ·exact hx.t0
   ·exact hx.b0
  have hloop : loopC (law26_CommitmentLocal_l1 m2 (⟨L⟩, s3) (⟨(sayP L t4.1).2⟩, 0) j) 0 = some (.inr ()) := by
   refine all_loop (n := L.length) (fun i hi => ?_) ?_
   ·unfold law26_CommitmentLocal_l1
    dsimp only
    rw [decide_eq_true (by omega), cond_true]
    by_cases hij : (i : Int) = j
    ·rw [hij, bne_self_eq_false, cond_false, ← hij, iaddS (by omega)]
    ·rw [bne_iff_ne.2 hij, cond_true]
     have ho := hA.out i (by omega)
     rw [List.getElem?_eq_getElem hi, List.getElem?_eq_getElem (show i < (sayP L t4.1).2.length by omega)] at ho
     have ho := Option.some.inj ho
     rw [(one_at (show i < (sayP L t4.1).2.length by omega)).resolve_right (by omega), some_bind, (one_at hi).resolve_right (by omega), some_bind, ho, same_self ?_, some_bind, Bool.not_true, cond_false, iaddS (by omega)]
     have hm := List.getElem_mem hi
     exact ⟨by simp, fun l hl => by rw [List.mem_singleton.1 hl]; exact hM.ok.bd.l1 _ hm, fun l hl c hc => hM.ok.bd.l2 _ hm c (by rw [← List.mem_singleton.1 hl]; exact hc)⟩
   ·unfold law26_CommitmentLocal_l1
    dsimp only
    rw [decide_eq_false (by omega), cond_false]
  rw [hloop, some_bind, sumK_inr]
  exact T.bind awake_T fun t ht => .ret ht
 ·rw [bne_iff_ne.2 hz, cond_true, say_nil hz]
  exact T.bind awake_T fun t ht => .ret ht
theorem local_plain (l : List Int) : law26_CommitmentLocal_m l = some true := (local_T l).eq

end Go.Dc

namespace Go.Dc
theorem law26_CommitmentLocal_plain (l : List Int) {p0 : Prop} (_ : p0) : law26_CommitmentLocal_m l = some true := local_plain l
end Go.Dc
