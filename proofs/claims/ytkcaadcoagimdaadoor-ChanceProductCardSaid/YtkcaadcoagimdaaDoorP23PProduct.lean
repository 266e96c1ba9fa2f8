/- Part P23P.Product of a proof: lemmas. -/
import Derived.Test.YtkcaadcoagimdaaDoorP23PArgs
import Derived.Test.YtkcaadcoagimdaaDoorP23PAwake
set_option linter.unusedVariables false
set_option linter.unusedSimpArgs false
set_option linter.unusedSectionVars false
/-! The law ChanceProduct, in plain words. -/
namespace Go.Dc

section
variable {N : Nat} {g : T_api_Graph} {o : T_api_Odds} (h : OOk N g o)
include h

theorem jc_sub {S B : Nat} {q : Int} (hs : SubB B S) : J (frs o) (jc g S q) ≤ J (frs o) (jc g B q) := J_mono fun has _ hc => by
  unfold jc at hc ⊢
  simp only [decide_eq_true_eq] at hc ⊢
  exact ⟨hs.trans hc.1, fun x hx => hc.2 x (hs x hx)⟩

theorem jc_grd {S : Nat} : J (frs o) (jc g S 4) ≤ J (frs o) (jc g S 1) := J_mono fun has hl hc => by
  have hw := (wn_spec h.gg (has := has) (by rw [hl, h.len])).2
  unfold jc at hc ⊢
  simp only [decide_eq_true_eq] at hc ⊢
  exact ⟨hc.1, fun x hx => ans_grd hw.ok (hc.2 x hx)⟩

theorem less_plain {X Y D n1 d1 n2 d2 : Nat} (hD : 0 < D) (hXY : X ≤ Y) (p1 : n1 * D = X * d1) (p2 : n2 * D = Y * d2) : n1 * d2 ≤ n2 * d1 := by
  refine Nat.le_of_mul_le_mul_right ?_ hD
  calc n1 * d2 * D = (n1 * D) * d2 := by ac_rfl
    _ = X * (d1 * d2) := by rw [p1]; ac_rfl
    _ ≤ Y * (d1 * d2) := Nat.mul_le_mul_right _ hXY
    _ = (n2 * D) * d1 := by rw [p2]; ac_rfl
    _ = n2 * d1 * D := by ac_rfl
end

theorem law23_ChanceProduct_plain (l : List Int) (_ : l.length ≤ maxLen ∧ ∀ x ∈ l, (Lit.int .i64 x).wf = true) : law23_ChanceProduct_m l = some true := by
  refine T.eq ?_
  unfold law23_ChanceProduct_m
  refine T.bind New_plain fun s1 hs1 => ?_
  refine T.bind (Graph_plain hs1 (by omega) (by omega)) ?_
  rintro ⟨g, s2⟩ ⟨hg, hn1, hn5, hgl, hs2⟩
  simp only at *
  obtain ⟨N, hN⟩ : ∃ N : Nat, g.N = (N : Int) := ⟨g.N.toNat, by omega⟩
  refine T.bind (Odds_plain (m := 5) hs2 hg hN (by omega) (by omega) (by omega)) ?_
  rintro ⟨o, s3⟩ ⟨h, hs3, hD⟩
  simp only at *
  rw [hN]
  refine T.bind (Some_plain hs3 (by omega)) ?_
  rintro ⟨a, s4⟩ ⟨ha, hs4⟩
  refine T.bind (Some_plain hs4 (by omega)) ?_
  rintro ⟨b, s5⟩ ⟨hb, hs5⟩
  simp only at *
  have hla := ha.len; have hlb := hb.len
  have hD0 : 0 < dn (frs o) := dn_pos h.fr
  have hD5 : dn (frs o) ≤ 3125 := hD
  clear hD
  refine T.bind (P := fun c : List Int => Asc N c ∧ ∀ x : Int, x ∈ c ↔ x ∈ a ∨ x ∈ b) ?_ ?_
  · refine T.loopK N (fun k s => k ≤ N ∧ s.1 = (k : Int) ∧ Asc k s.2 ∧ ∀ x : Int, x ∈ s.2 ↔ (x ∈ a ∨ x ∈ b) ∧ x < k) ⟨by omega, rfl, by simp [Asc], fun x => ?_⟩ ?_
    · simp only [List.not_mem_nil, false_iff]
      rintro ⟨h1 | h1, h2⟩
      · have := ha.2 x h1; omega
      · have := hb.2 x h1; omega
    · rintro k ⟨_, c⟩ ⟨hk, rfl, hc, hm⟩
      dsimp only [law23_ChanceProduct_l1] at *
      have hlc := hc.len
      rw [hN]
      refine T.cond (fun g1 => ?_) fun g1 => ?_
      · simp at g1
        refine T.join ?_
        have key : ∀ bb : Bool, (bb = true ↔ (k : Int) ∈ a ∨ (k : Int) ∈ b) → T ((fun j40 : Bool =>
            bif j40 then
              Option.bind (appM 8 c [(k : Int)]) fun both44 =>
              letM (iadd .i64 (k : Int) 1) fun i46 =>
              some (Sum.inr (i46, both44))
            else
              letM (iadd .i64 (k : Int) 1) fun i47 =>
              some (Sum.inr (i47, c))) bb : Option (Sum (List Int) (Int × List Int))) (onO (fun c : List Int => Asc N c ∧ ∀ x : Int, x ∈ c ↔ x ∈ a ∨ x ∈ b) fun s => k < N ∧ k + 1 ≤ N ∧ s.1 = ((k + 1 : Nat) : Int) ∧ Asc ((k + 1 : Nat) : Int) s.2 ∧ ∀ x : Int, x ∈ s.2 ↔ (x ∈ a ∨ x ∈ b) ∧ x < ((k + 1 : Nat) : Int)) := by
          intro bb hbb
          dsimp only
          rw [iadd1 (by omega)]
          refine T.cond (fun g2 => ?_) fun g2 => ?_
          · rw [appM_eq (by simp; omega), some_bind]
            have hsn := hc.snoc (n := 0) (x := 0) (by omega)
            rw [show (k : Int) + 1 = ((k + 1 : Nat) : Int) by omega] at hsn
            refine .letM (.ret ⟨g1, by omega, rfl, hsn, fun x => ?_⟩)
            rw [List.mem_append, hm, List.mem_singleton]
            constructor
            · rintro (⟨h1, h2⟩ | rfl)
              · exact ⟨h1, by omega⟩
              · exact ⟨hbb.1 g2, by omega⟩
            · rintro ⟨h1, h2⟩
              by_cases e : x = (k : Int)
              · exact .inr e
              · exact .inl ⟨h1, by omega⟩
          · refine .letM (.ret ⟨g1, by omega, rfl, hc.up (by omega), fun x => ?_⟩)
            rw [hm]
            constructor
            · rintro ⟨h1, h2⟩; exact ⟨h1, by omega⟩
            · rintro ⟨h1, h2⟩
              by_cases e : x = (k : Int)
              · subst e; rw [hbb.2 h1] at g2; cases g2
              · exact ⟨h1, by omega⟩
        rw [In_plain (by omega), some_bind]
        refine T.cond (fun g2 => key true ?_) fun g2 => ?_
        · simp at g2; simp [g2]
        · simp at g2
          rw [In_plain (by omega), some_bind]
          exact key _ (by simp [g2])
      · simp at g1
        have e : k = N := by omega
        refine .ret ⟨e ▸ hc, fun x => ?_⟩
        rw [hm]
        constructor
        · exact fun h => h.1
        · rintro (h1 | h1)
          · have := ha.2 x h1; exact ⟨.inl h1, by omega⟩
          · have := hb.2 x h1; exact ⟨.inr h1, by omega⟩
  · rintro c ⟨hc, hcm⟩
    have hS : setOf (nl c) = setOf (nl a) ||| setOf (nl b) := eq_of_bits fun i => by
      rw [Bool.eq_iff_iff, Nat.testBit_or, Bool.or_eq_true, setOf_bit, setOf_bit, setOf_bit, nl_mem h hc, nl_mem h ha, nl_mem h hb, hcm]
    have hsub : SubB (setOf (nl b)) (setOf (nl c)) := fun i hi => by rw [hS, Nat.testBit_or, hi]; simp
    have l2 : loopC (law23_ChanceProduct_l2 (g, s2) (o, s3) (a, s4) (b, s5) c) 0 = some (.inr ()) := by
      refine T.eq (T.loopK 3 (fun k s => s = (k : Int) ∧ k ≤ 3) ⟨rfl, by omega⟩ ?_)
      rintro k _ ⟨rfl, hk⟩
      dsimp only [law23_ChanceProduct_l2] at *
      refine T.cond (fun g1 => ?_) fun g1 => .ret rfl
      simp at g1
      obtain ⟨q, hq, hq1, hq4⟩ : ∃ q : Int, idxM ([1, 4, 2] : List Int) (k : Int) = some q ∧ 1 ≤ q ∧ q ≤ 4 := by
        have : k = 0 ∨ k = 1 ∨ k = 2 := by omega
        rcases this with rfl | rfl | rfl
        · exact ⟨1, rfl, by decide, by decide⟩
        · exact ⟨4, rfl, by decide, by decide⟩
        · exact ⟨2, rfl, by decide, by decide⟩
      have hXY := jc_sub h (q := q) hsub
      have hYD : J (frs o) (jc g (setOf (nl b)) q) ≤ dn (frs o) := J_le
      rw [hq, some_bind, Joint_plain h hc hq1 hq4, some_bind, Joint_plain h hb hq1 hq4, some_bind, Given_plain h ha hb hq1 hq4, some_bind, ← hS, iadd1 (by omega)]
      generalize J (frs o) (jc g (setOf (nl c)) q) = X at *
      generalize J (frs o) (jc g (setOf (nl b)) q) = Y at *
      generalize dn (frs o) = D at *
      obtain ⟨n1, d1, e1, hd1, p1, q1, r1, z1⟩ := rd_parts (a := X) hD0
      obtain ⟨n2, d2, e2, hd2, p2, q2, r2, z2⟩ := rd_parts (a := Y) hD0
      have hless := less_plain h hD0 hXY p1 p2
      have m1 : n1 * d2 ≤ 3125 * 3125 := Nat.mul_le_mul (by omega) (by omega)
      have m2 : n2 * d1 ≤ 3125 * 3125 := Nat.mul_le_mul (by omega) (by omega)
      rw [e2]
      have e1' := e1
      rw [e1]
      simp only
      rw [imul_n (by omega), imul_n (by omega)]
      refine T.cond (fun g2 => by cases g2) fun _ => T.cond (fun g2 => by cases g2) fun _ => T.cond (fun g2 => by simp at g2; omega) fun _ => T.cond (fun g2 => by simp at g2; omega) fun _ => T.cond (fun g2 => by simp only [decide_eq_true_eq] at g2; omega) fun _ => ?_
      refine T.cond (fun g3 => ?_) fun g3 => ?_
      · have : Y = 0 := z2.1 (by simpa using g3)
        rw [if_pos this]
        exact T.cond (fun g4 => by cases g4) fun _ => .ret ⟨by omega, rfl, by omega⟩
      · have hY : Y ≠ 0 := fun e => by rw [z2.2 e] at g3; cases g3
        rw [if_neg hY]
        obtain ⟨n3, d3, e3, hd3, p3, q3, r3, _⟩ := rd_parts (a := X) (show 0 < Y by omega)
        have m3 : n3 * n2 ≤ 3125 * 3125 := Nat.mul_le_mul (by omega) (by omega)
        have m4 : d3 * d2 ≤ 3125 * 3125 := Nat.mul_le_mul (by omega) (by omega)
        rw [e3]
        simp only
        rw [imul_n (by omega), imul_n (by omega), Reduced_plain (Nat.mul_pos hd3 hd2) (by omega) (by omega)]
        have hrd : rd (n3 * n2) (d3 * d2) = ⟨(n1 : Int), (d1 : Int)⟩ := by
          rw [← e1']
          refine rd_eq (Nat.mul_pos hd3 hd2) hD0 ?_
          calc n3 * n2 * D = n3 * (n2 * D) := by ac_rfl
            _ = (n3 * Y) * d2 := by rw [p2]; ac_rfl
            _ = X * (d3 * d2) := by rw [p3]; ac_rfl
        refine T.join ?_
        refine T.cond (fun g4 => by cases g4) fun _ => T.cond (fun g2 => by simp at g2; omega) fun _ => T.cond (fun g2 => by simp at g2; omega) fun _ => T.cond (fun g2 => by simp at g2; omega) fun _ => ?_
        rw [show decide ((d2 : Int) > 1048576) = false from decide_eq_false (by omega)]
        refine T.cond (fun g4 => by cases g4) fun _ => ?_
        rw [some_bind, hrd]
        exact T.cond (fun g4 => by simp at g4) fun _ => .ret ⟨by omega, rfl, by omega⟩
    have l3 : loopC (law23_ChanceProduct_l3 (g, s2) (o, s3)) 0 = some (.inr ()) := by
      refine T.eq (T.loopK N (fun k s => s = (k : Int) ∧ k ≤ N) ⟨rfl, by omega⟩ ?_)
      rintro k _ ⟨rfl, hk⟩
      dsimp only [law23_ChanceProduct_l3] at *
      rw [hN]
      refine T.cond (fun g1 => ?_) fun g1 => .ret rfl
      simp at g1
      have hone : Asc N [(k : Int)] := ⟨List.pairwise_singleton _ _, fun x hx => by rw [List.mem_singleton.1 hx]; omega⟩
      have hXY := jc_grd h (S := setOf (nl [(k : Int)]))
      have hYD : J (frs o) (jc g (setOf (nl [(k : Int)])) 1) ≤ dn (frs o) := J_le
      rw [Joint_plain h hone (by omega) (by omega), some_bind, Joint_plain h hone (by omega) (by omega), some_bind, iadd1 (by omega)]
      generalize J (frs o) (jc g (setOf (nl [(k : Int)])) 4) = X at *
      generalize J (frs o) (jc g (setOf (nl [(k : Int)])) 1) = Y at *
      generalize dn (frs o) = D at *
      obtain ⟨n1, d1, e1, hd1, p1, q1, r1, z1⟩ := rd_parts (a := X) hD0
      obtain ⟨n2, d2, e2, hd2, p2, q2, r2, z2⟩ := rd_parts (a := Y) hD0
      have hless := less_plain h hD0 hXY p1 p2
      have m1 : n1 * d2 ≤ 3125 * 3125 := Nat.mul_le_mul (by omega) (by omega)
      have m2 : n2 * d1 ≤ 3125 * 3125 := Nat.mul_le_mul (by omega) (by omega)
      rw [e1, e2]
      simp only
      rw [imul_n (by omega), imul_n (by omega)]
      exact T.cond (fun g2 => by cases g2) fun _ => T.cond (fun g2 => by cases g2) fun _ => T.cond (fun g2 => by simp only [decide_eq_true_eq] at g2; omega) fun _ => .letM (.ret ⟨g1, rfl, by omega⟩)
    rw [l2, some_bind, sumK_inr, l3, some_bind, sumK_inr, awake_plain, some_bind]
    exact .ret rfl
end Go.Dc
