/- Part P06Z.LawB of a proof: lemmas. -/
import Derived.Test.YtejhbimlekcllaaGreatDoorP06ZLawC
set_option linter.unusedVariables false
set_option linter.unusedSimpArgs false
set_option linter.unusedSectionVars false
set_option maxHeartbeats 1000000
/-! The complements of a least set that is not consistent follow. -/
namespace Go.Dc
/-- literals follow that are complements of one another -/
def Bad (b : T_api_Base) (l : List Li) : Prop := ∃ z, Cl b l z ∧ Cl b l (cmpl z)
theorem StrictBlames_T (l : List Int) : T (law06_StrictBlames_m l) (· = true) := by
  unfold law06_StrictBlames_m
  refine T.bind New_plain fun s hs => ?_
  refine T.bind (closed_plain hs (by omega) (by omega) (by omega) (by omega)) ?_
  rintro ⟨b, s1⟩ ⟨hb, hct, hs1⟩
  dsimp only at hb hct hs1 ⊢
  have hR := hb.rules
  have hB2 : ∀ r ∈ b.Rules, r.Body.length ≤ 100000 := fun r hr => by have := hb.body r hr; omega
  refine T.bind (LiteralsG_plain hs1 6 (by omega) (by omega) (by omega)) ?_
  rintro ⟨x, s2⟩ ⟨hs2, hx⟩
  dsimp only at hx hs2 ⊢
  refine T.bind (rNormal_plain (by omega)) fun y hy => ?_
  have hyl := hy.len
  have hcons : ∀ l : List Li, l.length ≤ 100 → ∀ {R : Type} (k : List Li → Bool → Option R) (Q : R → Prop), (∀ c r, c.length ≤ 200 → (∀ z, z ∈ c ↔ Cl b l z) → (r = false ↔ Bad b l) → T (k c r) Q) → T (Option.bind (strict_Closure_m b l) fun t31 => Option.bind (literal_Consistent_m t31) fun t32 => k t31 t32) Q := by
    intro l hl R k Q hk
    refine T.bind (Closure_plain (by omega) (by omega) hB2) ?_
    rintro c ⟨c1, c2, c3⟩
    refine T.bind (Consistent_plain (by omega)) fun r hr => ?_
    refine hk c r (by omega) c2 (hr.trans ⟨?_, ?_⟩)
    · rintro ⟨z, h1, h2⟩; exact ⟨z, (c2 z).1 h1, (c2 _).1 h2⟩
    · rintro ⟨z, h1, h2⟩; exact ⟨z, (c2 z).2 h1, (c2 _).2 h2⟩
  have mono : ∀ {l l' : List Li}, (∀ x ∈ l, x ∈ l') → Bad b l → Bad b l' := fun h ⟨z, h1, h2⟩ => ⟨z, h1.mono h, h2.mono h⟩
  -- the rest without an element
  have drop_sub : ∀ {l : List Li} {i : Nat} (hi : i < l.length), ∀ x ∈ l.take i ++ l.drop (i + 1), x ∈ l := fun hi x hx => by
    rcases List.mem_append.1 hx with h | h
    · exact List.mem_of_mem_take h
    · exact List.mem_of_mem_drop h
  refine T.bind (P := fun q => q.length ≤ 6 ∧ ∀ i (hi : i < q.length), ¬ Bad b (q.take i ++ q.drop (i + 1))) ?_ ?_
  · refine T.loopM (fun s => s.1.length ≤ 6 ∧ ∃ k : Nat, s.2 = (k : Int) ∧ k ≤ s.1.length ∧ ∀ i (hi : i < s.1.length), i < k → ¬ Bad b (s.1.take i ++ s.1.drop (i + 1))) (fun s => 2 * s.1.length - s.2.toNat) ⟨by dsimp only; omega, 0, rfl, by omega, fun _ _ h => absurd h (by omega)⟩ ?_
    rintro ⟨q, _⟩ ⟨hq, k, rfl, hk, hn⟩
    dsimp only at hq hk hn
    unfold law06_StrictBlames_l1
    dsimp only
    refine T.cond (fun g => ?_) fun g => ?_
    · have hk2 : k < q.length := by have := of_decide_eq_true g; omega
      rw [slM_eq (by omega) (by omega) (by omega), some_bind, iadd1 (by omega), slM_eq (by omega) (by omega) (by omega), some_bind, appM_eq (by simp; omega), some_bind, appM_eq (by simp; omega), some_bind]
      have e : ([] ++ List.drop (Int.toNat 0) (List.take (Int.toNat (k : Int)) q)) ++ List.drop (Int.toNat ((k + 1 : Nat) : Int)) (List.take (Int.toNat (q.length : Int)) q) = q.take k ++ q.drop (k + 1) := by
        simp only [List.nil_append, Int.toNat_natCast, Int.toNat_zero, List.drop_zero, List.take_length]
      have hlen : (q.take k ++ q.drop (k + 1)).length = q.length - 1 := by simp; omega
      rw [e]
      refine hcons _ (by omega) _ _ fun c r hc1 hc2 hr => ?_
      refine T.cond (fun e1 => ?_) fun e1 => ?_
      · rw [letM_eq]
        refine .ret ⟨⟨hq, k + 1, rfl, hk2, fun i hi hik => ?_⟩, by dsimp only; omega⟩
        rcases Nat.lt_or_ge i k with h | h
        · exact hn i hi h
        · have : i = k := by omega
          subst this
          intro hbad
          rw [hr.2 hbad] at e1; cases e1
      · refine .ret ⟨⟨by dsimp only; omega, k, rfl, by dsimp only; omega, fun i hi hik hbad => ?_⟩, by dsimp only; omega⟩
        dsimp only at hi hbad
        refine hn i (by omega) hik (mono (fun x hx => ?_) hbad)
        -- an element of the rest of the rest is one of the rest
        have e2 : (q.take k ++ q.drop (k + 1)).take i = q.take i := by rw [List.take_append_of_le_length (by simp; omega), List.take_take]; congr 1; omega
        rcases List.mem_append.1 hx with h | h
        · exact List.mem_append_left _ (e2 ▸ h)
        · refine List.mem_append_right _ ?_
          rw [List.drop_append] at h
          rcases List.mem_append.1 h with h | h
          · rw [List.drop_take] at h
            exact List.mem_of_mem_take h
          · rw [List.drop_drop] at h
            have : (k + 1) + (i + 1 - (q.take k).length) = (i + 1) + (k - i) := by simp; omega
            rw [this, ← List.drop_drop] at h
            exact List.mem_of_mem_drop h
    · have hk2 : k = q.length := by have := of_decide_eq_false g; omega
      exact .ret ⟨hq, fun i hi => hn i hi (by omega)⟩
  rintro q ⟨hq, hmin⟩
  refine hcons q (by omega) _ _ fun c r hc1 hc2 hr => ?_
  rw [awake_plain]
  refine T.cond (fun _ => .ret rfl) fun e => ?_
  have hbad := hr.1 e
  refine T.bind (P := fun o => o = Sum.inr ()) ?_ fun o ho => by subst ho; exact .ret rfl
  refine T.loopK q.length (fun k z => k ≤ q.length ∧ z = (k : Int)) ⟨by omega, rfl⟩ ?_
  rintro k _ ⟨hk, rfl⟩
  unfold law06_StrictBlames_l2
  refine T.cond (fun g => ?_) fun g => .ret rfl
  have hk2 : k < q.length := by have := of_decide_eq_true g; omega
  rw [idxM_nat hk2, some_bind, compl_eq, some_bind, Has_eq (by omega), some_bind, iadd1 (by omega)]
  have : cmpl q[k] ∈ c := (hc2 _).2 (blame hct (S := q.take k ++ q.drop (k + 1)) (y := q[k]) (fun x => by
    conv => lhs; rw [← List.take_append_drop k q, List.drop_eq_getElem_cons hk2]
    simp only [List.mem_append, List.mem_cons, List.not_mem_nil, or_false]
    constructor
    · rintro (h | h | h)
      · exact .inl (.inl h)
      · exact .inr h
      · exact .inl (.inr h)
    · rintro ((h | h) | h)
      · exact .inl h
      · exact .inr (.inr h)
      · exact .inr (.inl h)) hbad (hmin k hk2))
  rw [decide_eq_true this]
  exact .ret ⟨hk2, hk2, rfl⟩
theorem law06_StrictBlames_plain (l : List Int) {p0 : Prop} (_ : p0) : law06_StrictBlames_m l = some true := (StrictBlames_T l).eq
end Go.Dc
