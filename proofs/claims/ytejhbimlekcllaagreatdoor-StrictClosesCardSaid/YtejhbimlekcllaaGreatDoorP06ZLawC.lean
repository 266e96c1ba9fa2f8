/- Part P06Z.LawC of a proof: lemmas. -/
import Derived.Test.YtejhbimlekcllaaGreatDoorP06ZRTr
import Derived.Test.YtejhbimlekcllaaGreatDoorP06ZAwake
set_option linter.unusedVariables false
set_option linter.unusedSimpArgs false
set_option linter.unusedSectionVars false
set_option maxHeartbeats 1000000
/-! Contraposition. -/
namespace Go.Dc
theorem Has_eq {l : List Li} {x : Li} (hl : l.length ≤ 1000000) : literal_Has_m l x = some (decide (x ∈ l)) := by
  unfold literal_Has_m slices_Contains_api_Literal_api_Literal_m slices_Index_api_Literal_api_Literal_m
  rw [ix_eq (s := l) (g := fun t => some (decide (x = t))) (p := fun t => decide (x = t)) hl (fun _ _ => rfl) (by
    funext k
    simp only [some_bind, slices_Index_api_Literal_api_Literal_l1])]
  rw [some_bind, letM_eq, any_ix, some_bind]
  congr 1
  rw [Bool.eq_iff_iff]
  simp [List.any_eq_true]
theorem compl_eq (x : Li) : literal_Complement_m x = some (cmpl x) := rfl
/-- Derives in plain words -/
theorem Derives_plain {b : T_api_Base} {l : List Li} {x : Li} (hl : l.length ≤ 10000) (hR : b.Rules.length ≤ 10000) (hB : ∀ r ∈ b.Rules, r.Body.length ≤ 10000) : T (strict_Derives_m b l x) fun r => r = true ↔ Cl b l x := by
  unfold strict_Derives_m
  refine T.bind (Closure_plain (by omega) (by omega) fun r hr => by have := hB r hr; omega) ?_
  rintro c ⟨c1, c2, c3⟩
  rw [Has_eq (by omega), some_bind]
  exact .ret (by rw [decide_eq_true_iff, c2])
theorem rDerives_plain {b : T_api_Base} {l : List Li} {x : Li} (hl : l.length ≤ 10000) (hR : b.Rules.length ≤ 10000) (hB : ∀ r ∈ b.Rules, r.Body.length ≤ 10000) : T (ref06_Derives_m b l x) fun r => r = true ↔ Cl b l x := by
  unfold ref06_Derives_m
  refine T.bind (rClosure_plain (by omega) fun r hr => by have := hB r hr; omega) ?_
  rintro c ⟨c1, c2, c3⟩
  rw [rHas_eq (by omega), some_bind]
  exact .ret (by rw [decide_eq_true_iff, c2])

theorem StrictContraposes_T (l : List Int) : T (law06_StrictContraposes_m l) (· = true) := by
  unfold law06_StrictContraposes_m
  refine T.bind New_plain fun s hs => ?_
  refine T.bind (closed_plain hs (by omega) (by omega) (by omega) (by omega)) ?_
  rintro ⟨b, s1⟩ ⟨hb, hct, hs1⟩
  dsimp only at hb hct hs1 ⊢
  have hR := hb.rules
  have hB : ∀ r ∈ b.Rules, r.Body.length ≤ 10000 := fun r hr => by have := hb.body r hr; omega
  have hB2 : ∀ r ∈ b.Rules, r.Body.length ≤ 100000 := fun r hr => by have := hb.body r hr; omega
  refine T.bind (LiteralsG_plain hs1 3 (by omega) (by omega) (by omega)) ?_
  rintro ⟨x, s2⟩ ⟨hs2, hx⟩
  dsimp only at hx hs2 ⊢
  refine T.bind (Literal_plain hs2 (by omega) (by omega)) ?_
  rintro ⟨y, s3⟩ hs3
  dsimp only at hs3 ⊢
  rw [appM_eq (by simp; omega), some_bind]
  refine T.bind (Closure_plain (by simp; omega) (by omega) hB2) ?_
  rintro c ⟨c1, c2, c3⟩
  have hc : c.length ≤ 100 := by simp at c3; omega
  refine T.bind (P := fun o => o = Sum.inr ()) ?_ fun o ho => ?_
  · refine T.loopK c.length (fun k z => k ≤ c.length ∧ z = (k : Int)) ⟨by omega, rfl⟩ ?_
    rintro k _ ⟨hk, rfl⟩
    unfold law06_StrictContraposes_l1
    dsimp only
    refine T.cond (fun g => ?_) fun g => .ret rfl
    have hk2 : k < c.length := by have := of_decide_eq_true g; omega
    rw [idxM_nat hk2, some_bind, iadd1 (by omega)]
    refine T.bind (Derives_plain (by omega) (by omega) hB) fun r hr => ?_
    refine T.cond (fun _ => .ret ⟨hk2, hk2, rfl⟩) fun e => ?_
    have hn : ¬ Cl b x c[k] := fun h => by rw [hr.2 h] at e; cases e
    rw [compl_eq, some_bind, appM_eq (by simp; omega), some_bind, compl_eq, some_bind]
    refine T.bind (Derives_plain (by simp; omega) (by omega) hB) fun r2 hr2 => ?_
    rw [hr2.2 (contra hct ((c2 _).1 (List.getElem_mem hk2)) hn)]
    exact .ret ⟨hk2, hk2, rfl⟩
  subst ho
  rw [sumK_inr, awake_plain, some_bind]
  exact .ret rfl
theorem law06_StrictContraposes_plain (l : List Int) {p0 : Prop} (_ : p0) : law06_StrictContraposes_m l = some true := (StrictContraposes_T l).eq

/-- no literal is there with its complement -/
theorem Consistent_plain {l : List Li} (hl : l.length ≤ 100000) : T (literal_Consistent_m l) fun r => r = false ↔ ∃ z, z ∈ l ∧ cmpl z ∈ l := by
  unfold literal_Consistent_m
  refine T.bind (P := fun o => match o with | .inl r => r = false ∧ ∃ z, z ∈ l ∧ cmpl z ∈ l | .inr _ => ¬ ∃ z, z ∈ l ∧ cmpl z ∈ l) ?_ fun o ho => ?_
  · refine T.loopK l.length (fun k s => s.1 = (k : Int) ∧ k ≤ l.length ∧ Filled s.2 (l.take k) ∧ ∀ i j (hi : i < l.length) (hj : j < l.length), i < k → j < k → l[j] ≠ cmpl l[i]) ⟨rfl, by omega, Filled.nil, fun _ _ _ _ h => absurd h (by omega)⟩ ?_
    rintro k ⟨_, d⟩ ⟨rfl, hk, hd, hn⟩
    dsimp only at hd hn
    unfold literal_Consistent_l1
    dsimp only
    refine T.cond (fun g => ?_) fun g => ?_
    · have hk2 : k < l.length := by have := of_decide_eq_true g; omega
      rw [idxM_nat hk2, some_bind, compl_eq, some_bind, letM_eq, mapHas_iff, iadd1 (by omega)]
      have hd2 := hd.put l[k] (T_anon71.mk)
      have ht : l.take (k + 1) = l.take k ++ [l[k]] := by rw [List.take_add_one, List.getElem?_eq_getElem hk2]; rfl
      refine T.cond (fun c => .ret ⟨rfl, l[k], List.getElem_mem hk2, ?_⟩) fun c => .ret ⟨hk2, rfl, hk2, ht ▸ hd2, ?_⟩
      · have h1 := (hd2.mem _).1 (of_decide_eq_true c)
        rw [← ht] at h1
        exact List.mem_of_mem_take h1
      · have h1 : cmpl l[k] ∉ l.take (k + 1) := fun h => (of_decide_eq_false c) ((hd2.mem _).2 (ht ▸ h))
        have h2 : ∀ i (hi : i < l.length), i < k + 1 → l[i] ≠ cmpl l[k] := fun i hi hik e => h1 (by
          rw [← e, List.mem_take_iff_getElem]
          exact ⟨i, by omega, rfl⟩)
        intro i j hi hj hik hjk e
        rcases Nat.lt_or_ge i k with h3 | h3
        · rcases Nat.lt_or_ge j k with h4 | h4
          · exact hn i j hi hj h3 h4 e
          · have : j = k := by omega
            subst this
            exact h2 i hi hik (by rw [e, cmpl_cmpl])
        · have : i = k := by omega
          subst this
          exact h2 j hj hjk e
    · have hk2 : k = l.length := by have := of_decide_eq_false g; omega
      refine .ret ?_
      rintro ⟨z, h1, h2⟩
      obtain ⟨i, hi, rfl⟩ := List.getElem_of_mem h1
      obtain ⟨j, hj, e⟩ := List.getElem_of_mem h2
      exact hn i j hi hj (by omega) (by omega) e
  · match o, ho with
    | .inl r, ⟨h1, h2⟩ => exact .ret ⟨fun _ => h2, fun _ => h1⟩
    | .inr _, h => exact .ret ⟨(fun e => by cases e), fun h2 => absurd h2 h⟩
end Go.Dc
