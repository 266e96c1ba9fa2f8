/- Part P26Z.Fin of a proof: lemmas. -/
import Derived.Test.YtmejeobfjojfeaaGreatLAW26ZF
import Derived.Test.YtmejeobfjojfeaaGreatMFuelM
import Derived.Test.YtmejeobfjojfeaaGreatDcLend
namespace Go.Dc
theorem awake26 : law26_awake_m = some true := law26_awake_f_le (k_ := 60) _ (by decide +kernel)
end Go.Dc

set_option linter.unusedVariables false
set_option linter.unusedSimpArgs false
set_option linter.unusedSectionVars false
namespace Go.Dc

variable {L : List Sl}
theorem awake_T : T law26_awake_m fun r => r = true := ⟨true, awake26, rfl⟩
theorem small_T (h : Bd L) : T (law26_small_m ⟨L⟩) fun _ => True := by
 have h0 := h.l0
 unfold law26_small_m
 refine T.bind (P := fun _ => True) ?_ fun q _ => .ret trivial
 refine T.loopK L.length (fun k s => s.2 = (k : Int) ∧ k ≤ L.length) ⟨rfl, by omega⟩ ?_
 rintro k ⟨a, _⟩ ⟨rfl, hk⟩
 unfold law26_small_l2
 dsimp only
 refine T.cond (fun c => ?_) fun c => .ret trivial
 have hk2 : k < L.length := by have := of_decide_eq_true c; omega
 have h1 := h.l1 _ (List.getElem_mem hk2)
 rw [idxM_nat hk2, some_bind]
 refine T.bind (P := fun _ => True) ?_ fun q _ => by rw [iaddS (by omega)]; exact .ret ⟨hk2, rfl, hk2⟩
 refine T.loopK L[k].length (fun j s => s.2 = (j : Int) ∧ j ≤ L[k].length) ⟨rfl, by omega⟩ ?_
 rintro j ⟨b, _⟩ ⟨rfl, hj⟩
 unfold law26_small_l1
 dsimp only
 rw [idxM_nat hk2, some_bind]
 refine T.cond (fun c => ?_) fun c => .ret trivial
 have hj2 : j < L[k].length := by have := of_decide_eq_true c; omega
 rw [some_bind, idxM_nat hj2, some_bind, iaddS (by omega)]
 exact .ret ⟨hj2, rfl, hj2⟩

theorem lits2 : net_Literals_s2_m = net_Literals_s1_m := rfl
theorem asks_T {raw : T_api_Stores} {l : List Int} {who : Int} {x : Li} (hB : Bd raw.L) : T (law26_CommitmentAsks_m raw l who x) fun r => r = true := by
 obtain ⟨R⟩ := raw
 dsimp only at hB
 unfold law26_CommitmentAsks_m
 refine T.bind (small_T hB) fun t4 _ => ?_
 refine T.cond (fun _ => T.bind awake_T fun t ht => .ret ht) fun _ => ?_
 refine T.bind New_plain fun s5 h5 => ?_
 refine T.bind (Range_plain h5 (by omega) (by omega) (by omega)) fun t6 ⟨h6, n1, n2⟩ => ?_
 refine T.bind (made_plain h6 (by omega) (by omega)) fun t7 ⟨h7, hM⟩ => ?_
 obtain ⟨⟨A⟩, s7⟩ := t7
 dsimp only at hM h7 ⊢
 refine T.bind (P := fun o : Sum Bool Unit => match o with | .inl r => r = true | .inr _ => True) ?_ fun o ho => ?_
 ·refine T.loopK 2 (fun k s => s.1 = (k : Int) ∧ k ≤ 2 ∧ SrcK ⟨s.2.1, s.2.2⟩) ⟨rfl, by omega, h7⟩ ?_
  rintro k ⟨_, a, b⟩ ⟨rfl, hk, hs⟩
  dsimp only at hs
  unfold law26_CommitmentAsks_l3
  dsimp only
  refine T.cond (fun g => ?_) fun g => .ret trivial
  have hk2 : k < 2 := by have := of_decide_eq_true g; simp only [List.length_cons, List.length_nil] at this; omega
  rw [idxM_nat (by simpa using hk2), some_bind]
  have hb : Bd ([⟨R⟩, ⟨A⟩][k]'(by simpa using hk2) : T_api_Stores).L := by
   have : k = 0 ∨ k = 1 := by omega
   rcases this with e | e <;> subst e
   ·exact hB
   ·exact hM.ok.bd
  revert hb
  generalize ([⟨R⟩, ⟨A⟩][k]'(by simpa using hk2) : T_api_Stores) = S
  obtain ⟨S⟩ := S
  intro hb
  dsimp only at hb
  refine T.bind (N_plain hs (by omega)) fun t ⟨ht, _⟩ => ?_
  refine T.bind (P := fun o => match o with | .inl r => False | .inr q => SrcK ⟨q.1, q.2⟩) ?_ fun o ho => ?_
  ·refine T.loopK 3 (fun j s => s.1 = (j : Int) ∧ j ≤ 3 ∧ SrcK ⟨s.2.1, s.2.2⟩) ⟨rfl, by omega, ht⟩ ?_
   rintro j ⟨_, a2, b2⟩ ⟨rfl, hj, hs2⟩
   dsimp only at hs2
   unfold law26_CommitmentAsks_l2
   dsimp only
   refine T.cond (fun g => ?_) fun g => .ret hs2
   have hj2 : j < 3 := by have := of_decide_eq_true g; simp only [List.length_cons, List.length_nil] at this; omega
   rw [idxM_nat (by simpa using hj2), some_bind]
   generalize ([who, t.1, -1][j]'(by simpa using hj2) : Int) = n
   refine T.bind (Literal_plain hs2) fun t4 h4 => ?_
   have hl1 : loopC (law26_CommitmentAsks_l1 x ⟨S⟩ n t4) 0 = some (.inr ()) := by
    refine all_loop (n := 2) (fun i hi => ?_) rfl
    unfold law26_CommitmentAsks_l1
    rw [decide_eq_true (by simp only [List.length_cons, List.length_nil]; omega), cond_true, idxM_nat (by simpa using hi), some_bind, has_p hb, some_bind, has_rr hb, some_bind, beq_self_eq_true, Bool.not_true, cond_false, iaddS (by omega)]
   have hbl : (burdensP S n).length ≤ 9223372036854775807 := by
    unfold burdensP
    split
    ·rename_i q
     rw [Bool.and_eq_true] at q
     obtain ⟨w, rfl, hw⟩ := mem_nat q.2
     rw [toNat_n, getD_at hw]
     exact Nat.le_trans bur_len (hb.l1 _ (List.getElem_mem hw))
    ·simp
   rw [hl1, some_bind, sumK_inr, burdens_p hb, some_bind, burdens_r hb, some_bind, lits_self hbl, some_bind, Bool.not_true, cond_false, iaddS (by omega)]
   exact .ret ⟨hj2, rfl, hj2, h4⟩
  ·rcases o with r | q
   ·exact absurd ho id
   ·rw [sumK_inr]
    refine T.bind (common_p hb) fun c1 hc1 => ?_
    refine T.bind (common_r hb) fun c2 hc2 => ?_
    have ec : c1 = c2 ∧ c1.length ≤ 240 := by
     rcases hc1 with ⟨q1, q2⟩ | ⟨q1, q2⟩
     ·rcases hc2 with ⟨q3, q4⟩ | ⟨q3, q4⟩
      ·rw [q2, q4]; simp
      ·exact absurd (vcode_zero.2 q3) q1
     ·rcases hc2 with ⟨q3, q4⟩ | ⟨q3, q4⟩
      ·exact absurd (vcode_zero.2 q1) q3
      ·exact ⟨q2.eq q4, q2.len⟩
    rw [← ec.1, lits2, lits_self (by have := ec.2; omega), some_bind, Bool.not_true, cond_false]
    refine T.bind (disp_p hb) fun d1 hd1 => ?_
    refine T.bind (disp_r hb) fun d2 hd2 => ?_
    have ed : d1 = d2 ∧ d1.length ≤ 240 := by
     rcases hd1 with ⟨q1, q2⟩ | ⟨q1, q2⟩
     ·rcases hd2 with ⟨q3, q4⟩ | ⟨q3, q4⟩
      ·rw [q2, q4]; simp
      ·exact absurd (vcode_zero.2 q3) q1
     ·rcases hd2 with ⟨q3, q4⟩ | ⟨q3, q4⟩
      ·exact absurd (vcode_zero.2 q1) q3
      ·exact ⟨q2.eq q4, q2.len⟩
    rw [← ed.1, lits_self (by have := ed.2; omega), some_bind, Bool.not_true, cond_false, iaddS (by omega)]
    exact .ret ⟨hk2, rfl, hk2, ho⟩
 ·rcases o with r | u
  ·exact .ret ho
  ·exact T.bind awake_T fun t ht => .ret ht
theorem asks_plain {raw : T_api_Stores} {l : List Int} {who : Int} {x : Li} (hB : Bd raw.L) : law26_CommitmentAsks_m raw l who x = some true := (asks_T hB).eq

end Go.Dc

namespace Go.Dc
theorem law26_CommitmentAsks_plain (raw : T_api_Stores) (l : List Int) (who : Int) (x : Li) {p1 p2 p3 : Prop}
  (g0 : raw.L.length ≤ maxLen ∧ ∀ l ∈ raw.L, l.length ≤ maxLen ∧ ∀ c ∈ l, (True ∧ c.Claim.Name.size ≤ maxLen) ∧ True ∧ True ∧ c.Grounds.length ≤ maxLen ∧ ∀ x ∈ c.Grounds, True ∧ x.Name.size ≤ maxLen)
  (_ : p1) (_ : p2) (_ : p3) : law26_CommitmentAsks_m raw l who x = some true :=
 asks_plain ⟨g0.1, fun l hl => (g0.2 l hl).1, fun l hl c hc => ((g0.2 l hl).2 c hc).2.2.2.1⟩
end Go.Dc
