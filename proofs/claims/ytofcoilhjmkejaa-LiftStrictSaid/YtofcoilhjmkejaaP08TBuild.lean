/- Part P08T.Build of a proof: lemmas. -/
import Derived.Test.YtofcoilhjmkejaaP08TParts
import Derived.Test.YtofcoilhjmkejaaP08TBase
set_option linter.unusedVariables false
set_option linter.unusedSimpArgs false
set_option linter.unusedSectionVars false
/-! The arguments that the document builds. -/
namespace Go.Dc

theorem sidx_ok {s : ByteArray} {k : Nat} (h : k < s.size) : ∃ v, sidxM s (k : Int) = some v := by
  unfold sidxM
  rw [if_pos (by omega)]
  exact ⟨((s[k]).toNat : Int), by rw [show ((k : Int).toNat) = k from rfl, getElem?_pos s k h]; rfl⟩

theorem ValidName_plain {s : ByteArray} : T (ref01_ValidName_m s) fun _ => True := by
  unfold ref01_ValidName_m
  refine T.cond (fun _ => .ret trivial) fun g1 => T.cond (fun _ => .ret trivial) fun g2 => ?_
  have h1 := of_decide_eq_false g1; have h2 := of_decide_eq_false g2
  obtain ⟨v, hv⟩ := sidx_ok (s := s) (k := 0) (by omega)
  rw [show sidxM s 0 = some v from hv, some_bind, some_bind]
  refine T.cond (fun _ => .ret trivial) fun _ => T.cond (fun _ => .ret trivial) fun _ => ?_
  refine T.bind (P := fun _ => True) (T.count s.size fun k hk => ?_) fun o _ => ?_
  · dsimp only [ref01_ValidName_l1]
    refine T.cond (fun g => ?_) fun g => .ret trivial
    have hk2 : k < s.size := by have := of_decide_eq_true g; omega
    obtain ⟨v, hv⟩ := sidx_ok hk2
    simp only [hv, some_bind, letM_eq]
    rw [iadd1 (by omega)]
    have y : T (some (Sum.inr (((k + 1 : Nat) : Int))) : Option (Sum (Sum Bool Unit) Int)) (onO (fun _ => True) fun s' => k < s.size ∧ s' = ((k + 1 : Nat) : Int)) := .ret ⟨hk2, rfl⟩
    have n : T (some (Sum.inl (Sum.inl false)) : Option (Sum (Sum Bool Unit) Int)) (onO (fun _ => True) fun s' => k < s.size ∧ s' = ((k + 1 : Nat) : Int)) := .ret trivial
    repeat' (refine T.cond (fun _ => ?_) fun _ => ?_)
    all_goals first | exact y | exact n
  · rcases o with b | u
    · exact .ret trivial
    · exact .ret trivial
theorem Valid_plain {x : T_api_Literal} : T (ref01_Valid_m x) fun _ => True := by
  unfold ref01_Valid_m
  exact T.bind ValidName_plain fun _ _ => .ret trivial
theorem rank_plain {n : Int} : T (ref05_rank_m n) fun _ => True := by
  unfold ref05_rank_m
  exact T.cond (fun _ => .letM (.ret trivial)) fun _ => .ret trivial
theorem premise_plain {p : T_api_Premise} : T (ref05_premise_m p) fun _ => True := by
  unfold ref05_premise_m
  have e : T (bif !(p.Source.toList == (ByteArray.mk #[]).toList) then Option.bind (ref01_ValidName_m p.Source) fun t5 => bif !t5 then some (1 : Int) else some 0 else some 0) fun _ => True :=
    T.cond (fun _ => T.bind ValidName_plain fun _ _ => T.cond (fun _ => .ret trivial) fun _ => .ret trivial) fun _ => .ret trivial
  refine T.cond (fun _ => .ret trivial) fun _ => T.cond (fun _ => .ret trivial) fun _ => ?_
  refine T.bind Valid_plain fun _ _ => T.cond (fun _ => .ret trivial) fun _ => ?_
  refine T.bind rank_plain fun _ _ => T.cond (fun _ => .ret trivial) fun _ => ?_
  exact T.cond (fun _ => T.cond (fun _ => .ret trivial) fun _ => e) fun _ => e
theorem Premise_plain {b : T_api_Base} {x : T_api_Literal} (h : b.Premises.length ≤ 100) : T (ref05_Premise_m b x) fun _ => True := by
  unfold ref05_Premise_m
  refine T.bind (P := fun _ => True) (T.count b.Premises.length fun k hk => ?_) fun o _ => ?_
  · dsimp only [ref05_Premise_l1]
    refine T.cond (fun g => ?_) fun g => .ret trivial
    have hk2 : k < b.Premises.length := by have := of_decide_eq_true g; omega
    rw [idxM_nat hk2, some_bind, iadd1 (by omega)]
    exact T.cond (fun _ => .ret trivial) fun _ => .ret ⟨hk2, rfl⟩
  · rcases o with b | u <;> exact .ret trivial
theorem Compare_plain {x y : T_api_Literal} : T (ref01_Compare_m x y) fun _ => True := by
  unfold ref01_Compare_m
  rw [letM_eq]
  exact T.cond (fun _ => .ret trivial) fun _ => T.cond (fun _ => .ret trivial) fun _ => T.cond (fun _ => T.cond (fun _ => .ret trivial) fun _ => .ret trivial) fun _ => .ret trivial
theorem rule_plain {r : T_api_Rule} : T (ref05_rule_m r) fun _ => True := by
  unfold ref05_rule_m
  refine T.cond (fun _ => .ret trivial) fun g0 => ?_
  have hb := of_decide_eq_false g0
  refine T.joinP (fun _ => True) (fun j _ => ?_) fun kk hkk => ?_
  · refine T.bind (P := fun _ => True) ?_ fun q _ => T.cond (fun _ => .ret trivial) fun _ => ?_
    · refine T.loopK r.Body.length (fun k s => k ≤ r.Body.length ∧ s.2 = (k : Int)) ⟨by omega, rfl⟩ ?_
      rintro k ⟨s, _⟩ ⟨hk, rfl⟩
      dsimp only [ref05_rule_l1]
      refine T.cond (fun g => ?_) fun g => .ret trivial
      have hk2 : k < r.Body.length := by have := of_decide_eq_true g; omega
      rw [letM_eq, iadd1 (by omega)]
      refine T.cond (fun _ => ?_) fun _ => .ret ⟨hk2, hk2, rfl⟩
      rw [idxM_nat hk2, some_bind]
      exact T.bind Valid_plain fun _ _ => .letM (.ret ⟨hk2, hk2, rfl⟩)
    · refine T.bind (P := fun _ => True) ?_ fun o _ => ?_
      · refine T.loopK r.Body.length (fun k s => k ≤ r.Body.length + 1 ∧ s = ((k + 1 : Nat) : Int)) ⟨by omega, rfl⟩ ?_
        rintro k _ ⟨hk, rfl⟩
        dsimp only [ref05_rule_l2]
        refine T.cond (fun g => ?_) fun g => .ret trivial
        have hk2 : k + 1 < r.Body.length := by have := of_decide_eq_true g; omega
        rw [isub64 (by omega) (by omega), show ((k + 1 : Nat) : Int) - 1 = (k : Int) by omega, idxM_nat (show k < r.Body.length by omega), some_bind, idxM_nat hk2, some_bind]
        refine T.bind Compare_plain fun _ _ => T.cond (fun _ => .ret trivial) fun _ => ?_
        rw [letM_eq, iadd1 (by omega)]
        exact .ret ⟨by omega, by omega, rfl⟩
      · rcases o with b | u <;> exact .ret trivial
  · refine T.bind ValidName_plain fun _ _ => T.cond (fun _ => ?_) fun _ => hkk _ trivial
    refine T.bind rank_plain fun _ _ => T.cond (fun _ => ?_) fun _ => hkk _ trivial
    refine T.cond (fun _ => T.bind Valid_plain fun _ _ => hkk _ trivial) fun _ => ?_
    exact T.cond (fun _ => T.bind Valid_plain fun _ _ => hkk _ trivial) fun _ => hkk _ trivial
theorem Find_plain {b : T_api_Base} {x : ByteArray} (h : b.Rules.length ≤ 100) : T (ref05_Find_m b x) fun r => r < b.Rules.length := by
  unfold ref05_Find_m
  refine T.bind (P := fun o : Sum Int Unit => match o with | .inl r => r < b.Rules.length | .inr _ => True) (T.count b.Rules.length fun k hk => ?_) fun o ho => ?_
  · dsimp only [ref05_Find_l1]
    refine T.cond (fun g => ?_) fun g => .ret trivial
    have hk2 : k < b.Rules.length := by have := of_decide_eq_true g; omega
    rw [idxM_nat hk2, some_bind, iadd1 (by omega)]
    exact T.cond (fun _ => .ret (show (k : Int) < b.Rules.length by omega)) fun _ => .ret ⟨hk2, rfl⟩
  · rcases o with r | u
    · exact .ret ho
    · exact .ret (show (-1 : Int) < b.Rules.length by omega)
theorem Validate_plain {b : T_api_Base} (h : BaseOk b) : T (ref05_Validate_m b) fun _ => True := by
  have h1 := h.prem; have h2 := h.rules; have h3 := h.prom
  unfold ref05_Validate_m
  refine T.cond (fun _ => .ret trivial) fun _ => T.cond (fun _ => .ret trivial) fun _ => T.cond (fun _ => .ret trivial) fun _ => ?_
  refine T.bind (P := fun _ => True) (T.count b.Premises.length fun k hk => ?_) fun o _ => ?_
  · dsimp only [ref05_Validate_l1]
    refine T.cond (fun g => ?_) fun g => .ret trivial
    have hk2 : k < b.Premises.length := by have := of_decide_eq_true g; omega
    rw [idxM_nat hk2, some_bind]
    refine T.bind premise_plain fun _ _ => T.cond (fun _ => .ret trivial) fun _ => ?_
    rw [some_bind]
    refine T.bind (Premise_plain (by omega)) fun _ _ => T.cond (fun _ => .ret trivial) fun _ => ?_
    rw [letM_eq, iadd1 (by omega)]
    exact .ret ⟨hk2, rfl⟩
  rcases o with e | u
  · exact .ret trivial
  rw [sumK_inr]
  refine T.bind (P := fun _ => True) (T.count b.Rules.length fun k hk => ?_) fun o _ => ?_
  · dsimp only [ref05_Validate_l2]
    refine T.cond (fun g => ?_) fun g => .ret trivial
    have hk2 : k < b.Rules.length := by have := of_decide_eq_true g; omega
    rw [idxM_nat hk2, some_bind]
    refine T.bind rule_plain fun _ _ => T.cond (fun _ => .ret trivial) fun _ => ?_
    rw [some_bind]
    refine T.bind (Find_plain (by omega)) fun _ _ => T.cond (fun _ => .ret trivial) fun _ => ?_
    rw [letM_eq, iadd1 (by omega)]
    exact .ret ⟨hk2, rfl⟩
  rcases o with e | u
  · exact .ret trivial
  rw [sumK_inr]
  refine T.bind (P := fun _ => True) (T.count b.Promotions.length fun k hk => ?_) fun o _ => ?_
  · dsimp only [ref05_Validate_l3]
    refine T.cond (fun g => ?_) fun g => .ret trivial
    have hk2 : k < b.Promotions.length := by have := of_decide_eq_true g; omega
    rw [idxM_nat hk2, some_bind]
    refine T.bind rank_plain fun _ _ => T.cond (fun _ => .ret trivial) fun _ => ?_
    refine T.bind Valid_plain fun _ _ => T.cond (fun _ => .ret trivial) fun _ => ?_
    refine T.bind (Find_plain (by omega)) fun r hr => T.cond (fun _ => .ret trivial) fun g => ?_
    rw [idx_rul (by have := of_decide_eq_false g; omega) hr, some_bind]
    refine T.cond (fun _ => .ret trivial) fun _ => ?_
    rw [letM_eq, iadd1 (by omega)]
    exact .ret ⟨hk2, rfl⟩
  rcases o with e | u <;> exact .ret trivial

/-! ### choices -/
def ChOk (n : Int) (m : Nat) (R : List (List Int)) : Prop := ∀ r ∈ R, r.length ≤ m ∧ ∀ x ∈ r, 0 ≤ x ∧ x < n
theorem ChOk.app {n : Int} {m : Nat} {R R' : List (List Int)} (h : ChOk n m R) (h' : ChOk n m R') : ChOk n m (R ++ R') := fun r hr => by
  rcases List.mem_append.1 hr with hr | hr
  · exact h r hr
  · exact h' r hr

theorem choices_n {L : List T_api_Argument} {n : Nat} (hn : n ≤ L.length) (hn2 : n ≤ 40) {body : List T_api_Literal} (hb : body.length ≤ 2) :
    ∀ (k : Nat) (so : List Int), so.length + k = body.length → (∀ x ∈ so, 0 ≤ x ∧ x < n) → T (ref07_choices_1_n (k + 1) L n body so) fun R => R.length ≤ 40 ^ k ∧ ChOk n 2 R := by
  intro k
  induction k with
  | zero =>
    intro so hs hx
    show T (ref07_choices_1_b _ L n body so) _
    unfold ref07_choices_1_b
    rw [show ((so.length : Int) == (body.length : Int)) = true by simp; omega, cond_true, appM_eq (by simp; omega), some_bind]
    exact .ret ⟨by simp, fun r hr => by simp at hr; subst hr; exact ⟨by omega, hx⟩⟩
  | succ k ih =>
    intro so hs hx
    show T (ref07_choices_1_b _ L n body so) _
    unfold ref07_choices_1_b
    rw [show ((so.length : Int) == (body.length : Int)) = false by simp; omega, cond_false]
    refine T.bind (P := fun R => R.length ≤ 40 ^ (k + 1) ∧ ChOk n 2 R) ?_ fun R hR => .ret hR
    have hpow : 40 ^ k ≤ 40 ^ 2 := Nat.pow_le_pow_right (by omega) (by omega)
    refine T.loopK n (fun j s => j ≤ n ∧ s.1 = (j : Int) ∧ s.2.length ≤ j * 40 ^ k ∧ ChOk n 2 s.2) ⟨by omega, rfl, by simp, fun r hr => by simp at hr⟩ ?_
    rintro j ⟨_, R⟩ ⟨hj, rfl, hl, hc⟩
    dsimp only [ref07_choices_1_l1] at hl hc ⊢
    have hlR : R.length ≤ 40 * 40 ^ k := Nat.le_trans hl (Nat.mul_le_mul_right _ (by omega))
    refine T.cond (fun g => ?_) fun g => .ret ⟨by rw [Nat.pow_succ]; omega, hc⟩
    have hj2 : j < n := by have := of_decide_eq_true g; omega
    rw [idxM_nat (show j < L.length by omega), some_bind, idxM_nat (show so.length < body.length by omega), some_bind, letM_eq, iadd1 (by omega)]
    refine T.cond (fun _ => ?_) fun _ => .ret ⟨hj2, hj2, rfl, by simp only [Nat.succ_mul]; omega, hc⟩
    rw [appM_eq (by simp; omega), some_bind]
    refine T.bind (ih (so ++ [(j : Int)]) (by simp; omega) (fun x h => by
      rcases List.mem_append.1 h with h | h
      · exact hx x h
      · simp at h; omega)) ?_
    rintro R' ⟨r1, r2⟩
    rw [appM_eq (by omega), some_bind]
    exact .ret ⟨hj2, hj2, rfl, by simp only [List.length_append, Nat.succ_mul]; omega, hc.app r2⟩

theorem choices_plain {L : List T_api_Argument} {n : Nat} (hn : n ≤ L.length) (hn2 : n ≤ 40) {body : List T_api_Literal} (hb : body.length ≤ 2) : T (ref07_choices_m L n body []) fun R => R.length ≤ 10000 ∧ ChOk n 2 R := by
  unfold ref07_choices_m
  refine T.cond (fun _ => ?_) fun g => ?_
  · rw [appM_eq (by simp), some_bind]
    exact .ret ⟨by simp, fun r hr => by simp at hr; subst hr; simp⟩
  have hb0 : 1 ≤ body.length := by
    rcases Nat.eq_zero_or_pos body.length with h | h
    · rw [h] at g; simp at g
    · exact h
  refine T.bind (P := fun R => R.length ≤ 10000 ∧ ChOk n 2 R) ?_ fun R hR => .ret hR
  refine T.loopK n (fun j s => j ≤ n ∧ s.1 = (j : Int) ∧ s.2.length ≤ j * 40 ∧ ChOk n 2 s.2) ⟨by omega, rfl, by simp, fun r hr => by simp at hr⟩ ?_
  rintro j ⟨_, R⟩ ⟨hj, rfl, hl, hc⟩
  dsimp only [ref07_choices_l1] at hl hc ⊢
  refine T.cond (fun g => ?_) fun g => .ret ⟨by omega, hc⟩
  have hj2 : j < n := by have := of_decide_eq_true g; omega
  rw [idxM_nat (show j < L.length by omega), some_bind, idxM_nat (show ([] : List Int).length < body.length from hb0), some_bind, letM_eq, iadd1 (by omega)]
  refine T.cond (fun _ => ?_) fun _ => .ret ⟨hj2, hj2, rfl, by simp only; omega, hc⟩
  rw [appM_eq (by simp), some_bind]
  have : T (ref07_choices_1_m L n body ([] ++ [(j : Int)])) fun R => R.length ≤ 40 ^ (body.length - 1) ∧ ChOk n 2 R := by
    unfold ref07_choices_1_m
    exact T.recC (fun m => ref07_choices_1_n_le m _ _ _ _) (choices_n hn hn2 hb (body.length - 1) _ (by simp; omega) (fun x h => by simp at h; omega))
  refine T.bind this ?_
  rintro R' ⟨r1, r2⟩
  have hpow : 40 ^ (body.length - 1) ≤ 40 ^ 1 := Nat.pow_le_pow_right (by omega) (by omega)
  rw [appM_eq (by omega), some_bind]
  exact .ret ⟨hj2, hj2, rfl, by simp only [List.length_append]; omega, hc.app r2⟩
end Go.Dc
