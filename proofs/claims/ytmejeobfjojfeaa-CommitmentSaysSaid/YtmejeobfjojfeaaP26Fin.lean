/- Part P26.Fin of a proof: lemmas. -/
import Derived.Test.YtmejeobfjojfeaaLAW26F
import Derived.Test.YtmejeobfjojfeaaMFuelM
import Derived.Test.YtmejeobfjojfeaaDcLend
namespace Go.Dc
theorem awake26 : law26_awake_m = some true := law26_awake_f_le (k_ := 60) _ (by decide +kernel)
end Go.Dc

set_option linter.unusedVariables false
set_option linter.unusedSimpArgs false
set_option linter.unusedSectionVars false
namespace Go.Dc

variable {L : List Sl}
theorem say_nil {sp : T_api_Speech} (h : (sayP L sp).1 ≠ 0) : (sayP L sp).2 = [] := by
 unfold sayP at h ⊢
 split
 ·rfl
 split
 ·rfl
 split
 ·rfl
 split
 ·rfl
 unfold doneP at h ⊢
 split
 ·rename_i q1 q2 q3 q4 q5
  rw [if_neg q1, if_neg q2, if_neg q3, if_neg q4, if_pos q5] at h; exact absurd rfl h
 ·rfl
theorem say_bd {sp : T_api_Speech} : OkA (sayP L sp).2 := by
 by_cases h : (sayP L sp).1 = 0
 ·exact (say_act h).2.ok
 ·rw [say_nil h]; exact ok_none
theorem awake_T : T law26_awake_m fun r => r = true := ⟨true, awake26, rfl⟩

theorem small_T (h : Bd L) : T (law26_small_m ⟨L⟩) fun _ => True := by
 have h0 := h.l0
 unfold law26_small_m
 refine T.bind (P := fun _ => True) ?_ fun q _ => .ret trivial
 refine T.loopK L.length (fun k s => s.2 = (k : Int) ∧ k ≤ L.length) ⟨rfl, by omega⟩ ?_
 rintro k ⟨a, _⟩ ⟨rfl, hk⟩
 unfold law26_small_l2
 dsimp only
 refine T.cond (fun c => ?_) fun c => .ret trivial
 have hk2 : k < L.length := by have := of_decide_eq_true c; omega
 have h1 := h.l1 _ (List.getElem_mem hk2)
 rw [idxM_nat hk2, some_bind]
 refine T.bind (P := fun _ => True) ?_ fun q _ => by rw [iaddS (by omega)]; exact .ret ⟨hk2, rfl, hk2⟩
 refine T.loopK L[k].length (fun j s => s.2 = (j : Int) ∧ j ≤ L[k].length) ⟨rfl, by omega⟩ ?_
 rintro j ⟨b, _⟩ ⟨rfl, hj⟩
 unfold law26_small_l1
 dsimp only
 rw [idxM_nat hk2, some_bind]
 refine T.cond (fun c => ?_) fun c => .ret trivial
 have hj2 : j < L[k].length := by have := of_decide_eq_true c; omega
 rw [some_bind, idxM_nat hj2, some_bind, iaddS (by omega)]
 exact .ret ⟨hj2, rfl, hj2⟩
theorem def_bd {n : Int} {a : T_api_Stores × Int} (h : DefA L n a) : OkA a.1.L := by
 rcases h with ⟨_, rfl⟩ | ⟨_, _, rfl⟩ | ⟨_, w, hw, _, r, hr, _, rfl⟩
 ·exact ok_none
 ·exact ok_none
 ·exact hr
theorem says_T {raw : T_api_Stores} {x : T_api_Speech} {l : List Int} {n : Int} (hB : Bd raw.L) (hg : x.Grounds.length ≤ 9223372036854775807) : T (law26_CommitmentSays_m raw x l n) fun r => r = true := by
 obtain ⟨R⟩ := raw
 dsimp only at hB
 unfold law26_CommitmentSays_m
 refine T.bind (small_T hB) fun t4 _ => ?_
 refine T.cond (fun _ => T.bind awake_T fun t ht => .ret ht) fun _ => ?_
 refine T.cond (fun _ => T.bind awake_T fun t ht => .ret ht) fun _ => ?_
 refine T.bind New_plain fun s7 h7 => ?_
 refine T.bind (Range_plain h7 (by omega) (by omega) (by omega)) fun t21 ⟨h21, n1, n2⟩ => ?_
 have hl1 : loopC (law26_CommitmentSays_l1 n t21) 0 = some (.inr ()) := by
  refine all_loop (n := 2) (fun i hi => ?_) rfl
  unfold law26_CommitmentSays_l1
  rw [decide_eq_true (by simp only [List.length_cons, List.length_nil]; omega), cond_true, idxM_nat (by simpa using hi), some_bind, new_same]
  obtain ⟨a, ea, ha, _⟩ := new_T ([n, t21.1][i]'(by simpa using hi))
  rw [ea, some_bind, some_bind, bne_self_eq_false, cond_false]
  obtain ⟨⟨A⟩, c⟩ := a
  rw [same_self ha.bd, some_bind, Bool.not_true, cond_false, iaddS (by omega)]
 rw [hl1, some_bind, sumK_inr]
 refine T.bind (Range_plain h21 (by omega) (by omega) (by omega)) fun m38 ⟨h38, m1, m2⟩ => ?_
 rw [new_same]
 refine T.bind (new_T m38.1) fun t39 ⟨a1, _, _⟩ => ?_
 refine T.bind (P := fun o => match o with | .inl r => r = true | .inr q => SrcK ⟨q.1, q.2⟩) ?_ fun o ho => ?_
 ·refine T.loopK 30 (fun k z => z.1 = (k : Int) ∧ k ≤ 30 ∧ SrcK ⟨z.2.1, z.2.2.1⟩ ∧ OkA z.2.2.2) ⟨rfl, by omega, h38, a1⟩ ?_
  rintro k ⟨_, a, b, S⟩ ⟨rfl, hk, hs, hS⟩
  dsimp only at hs hS
  unfold law26_CommitmentSays_l2
  refine T.joinP (fun _ => k < 30) (fun j h30 => ?_) fun kk hkk => ?_
  rotate_left
  ·dsimp only
   refine T.cond (fun c => ?_) fun c => .ret hs
   have h30 : k < 30 := by have := of_decide_eq_true c; omega
   refine T.cond (fun c2 => hkk _ h30) fun c2 => ?_
   exact T.bind (More_plain _) fun t _ => T.cond (fun _ => hkk _ h30) fun _ => .ret hs
  dsimp only
  refine T.bind (speech_plain hs (by omega) (by omega)) fun t ⟨ht, hx⟩ => ?_
  refine T.joinP (fun j => j.2.2.2.2.2.length ≤ 9223372036854775807) (fun j2 hj2 => ?_) fun kk hkk => ?_
  rotate_left
  ·exact T.cond (fun _ => hkk _ hg) fun _ => hkk _ (by have := hx.g; dsimp only; omega)
  rw [say_p hS.bd hj2, some_bind, say_r hS.bd hj2, some_bind]
  obtain ⟨d, e1, e2, hD⟩ := default_both hS.bd (isub .i64 (irem .i64 (k : Int) 5) 1)
  rw [e1, some_bind, e2, some_bind]
  have hdb := def_bd hD
  obtain ⟨⟨D⟩, dc⟩ := d
  dsimp only at hdb ⊢
  rw [bne_self_eq_false, cond_false, bne_self_eq_false, cond_false, same_self say_bd.bd, some_bind, Bool.not_true, cond_false, same_self hdb.bd, some_bind, Bool.not_true, cond_false, progVal hS.bd, some_bind, refVal hS.bd, some_bind, bne_self_eq_false, cond_false, iaddS (by omega)]
  exact T.cond (fun c => .ret ⟨h30, rfl, h30, ht, say_bd⟩) fun c => .ret ⟨h30, rfl, h30, ht, hS⟩
 ·rcases o with r | q
  ·exact .ret ho
  ·rw [sumK_inr]
   refine T.bind (speech_plain ho (by omega) (by omega)) fun t138 ⟨ht, hx⟩ => ?_
   have hl3 : loopC (law26_CommitmentSays_l3 ⟨R⟩ x t138) 0 = some (.inr ()) := by
    refine all_loop (n := 2) (fun i hi => ?_) rfl
    unfold law26_CommitmentSays_l3
    have hgi : ([x, t138.1][i]'(by simpa using hi)).Grounds.length ≤ 9223372036854775807 := by
     have : i = 0 ∨ i = 1 := by omega
     rcases this with e | e <;> subst e
     ·exact hg
     ·exact Nat.le_trans hx.g (by omega)
    rw [decide_eq_true (by simp only [List.length_cons, List.length_nil]; omega), cond_true, idxM_nat (by simpa using hi), some_bind, say_p hB hgi, some_bind, say_r hB hgi, some_bind, bne_self_eq_false, cond_false, same_self say_bd.bd, some_bind, Bool.not_true, cond_false, iaddS (by omega)]
   rw [hl3, some_bind, sumK_inr]
   obtain ⟨d, e1, e2, hD⟩ := default_both hB n
   rw [e1, some_bind, e2, some_bind]
   have hdb := def_bd hD
   obtain ⟨⟨D⟩, dc⟩ := d
   dsimp only at hdb ⊢
   rw [beq_self_eq_true, cond_true, same_self hdb.bd, some_bind, cond_true, progVal hB, some_bind, refVal hB, some_bind, beq_self_eq_true, cond_true]
   exact T.bind awake_T fun t ht => .ret ht
theorem says_plain {raw : T_api_Stores} {x : T_api_Speech} {l : List Int} {n : Int} (hB : Bd raw.L) (hg : x.Grounds.length ≤ 9223372036854775807) : law26_CommitmentSays_m raw x l n = some true := (says_T hB hg).eq
end Go.Dc

namespace Go.Dc
theorem law26_CommitmentSays_plain (raw : T_api_Stores) (x : T_api_Speech) (l : List Int) (n : Int) {p0 p1 p2 p3 p4 p5 : Prop}
  (g0 : raw.L.length ≤ maxLen ∧ ∀ l ∈ raw.L, l.length ≤ maxLen ∧ ∀ c ∈ l, (True ∧ c.Claim.Name.size ≤ maxLen) ∧ True ∧ True ∧ c.Grounds.length ≤ maxLen ∧ ∀ x ∈ c.Grounds, True ∧ x.Name.size ≤ maxLen)
  (g1 : p0 ∧ p1 ∧ p2 ∧ p3 ∧ x.Grounds.length ≤ maxLen ∧ p4) (_ : p5) {p6 : Prop} (_ : p6) : law26_CommitmentSays_m raw x l n = some true :=
 says_plain ⟨g0.1, fun l hl => (g0.2 l hl).1, fun l hl c hc => ((g0.2 l hl).2 c hc).2.2.2.1⟩ g1.2.2.2.2.1
end Go.Dc
