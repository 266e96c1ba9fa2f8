/- Part P06Z.RVal of a proof: lemmas. -/
import Derived.Test.YtejhbimlekcllaaGreatDoorP06ZName
set_option linter.unusedVariables false
set_option linter.unusedSimpArgs false
set_option linter.unusedSectionVars false
/-! The reference's Validate has a value. -/
namespace Go.Dc
abbrev Tt {α : Type} (m : Option α) : Prop := T m fun _ => True
theorem loopT {ρ : Type} {f : Int → Option (Sum ρ Int)} (n : Nat) (h : ∀ k, k ≤ n → T (f (k : Int)) (onO (fun _ => True) fun s' => k < n ∧ s' = ((k + 1 : Nat) : Int))) : Tt (loopC f 0) := by
  refine T.loopK n (fun k s => k ≤ n ∧ s = (k : Int)) ⟨by omega, rfl⟩ ?_
  rintro k _ ⟨hk, rfl⟩
  refine (h k hk).mono fun o ho => ?_
  match o, ho with
  | .inl _, _ => trivial
  | .inr _, ⟨h1, h2⟩ => exact ⟨h1, h1, h2⟩
theorem Tt.sumK {A B R : Type} {m : Option (Sum A B)} (h : Tt m) {k : B → Option R} {kr : A → Option R} (hr : ∀ a, Tt (kr a)) (hk : ∀ b, Tt (k b)) : Tt (Option.bind m (sumK kr k)) :=
  T.bind h fun o _ => match o with
    | .inl a => hr a
    | .inr b => hk b
theorem sidxM_nat {s : ByteArray} {k : Nat} (h : k < s.size) : sidxM s (k : Int) = some ((s[k]'h).toNat : Int) := by
  unfold sidxM
  rw [if_pos (by omega), Int.toNat_natCast, getElem?_pos s k h]; rfl
theorem rVN_T (s : ByteArray) : Tt (ref01_ValidName_m s) := by
  unfold ref01_ValidName_m
  refine T.cond (fun _ => .ret trivial) fun h1 => T.cond (fun _ => .ret trivial) fun h2 => ?_
  have hs : 0 < s.size := by have := of_decide_eq_false h1; omega
  have hs2 : s.size ≤ 12 := by have := of_decide_eq_false h2; omega
  have e0 : sidxM s 0 = some ((s[0]'hs).toNat : Int) := sidxM_nat (k := 0) hs
  rw [e0, some_bind, some_bind]
  refine T.cond (fun _ => .ret trivial) fun _ => T.cond (fun _ => .ret trivial) fun _ => ?_
  refine Tt.sumK (loopT s.size fun k hk => ?_) (fun _ => .ret trivial) fun _ => .ret trivial
  unfold ref01_ValidName_l1
  refine T.cond (fun g => ?_) fun g => .ret trivial
  have hk2 : k < s.size := by have := of_decide_eq_true g; omega
  simp only [sidxM_nat hk2, some_bind, iadd1 (show k ≤ 4611686018427387904 by omega), letM_eq]
  have y : T (some (Sum.inr ((k + 1 : Nat) : Int)) : Option (Sum (Sum Bool Unit) Int)) (onO (fun _ => True) fun s' => k < s.size ∧ s' = ((k + 1 : Nat) : Int)) := .ret ⟨hk2, rfl⟩
  have z : T (some (Sum.inl (Sum.inl false)) : Option (Sum (Sum Bool Unit) Int)) (onO (fun _ => True) fun s' => k < s.size ∧ s' = ((k + 1 : Nat) : Int)) := .ret trivial
  repeat' first | exact y | exact z | refine T.cond (fun _ => ?_) fun _ => ?_
theorem rV_T (x : Li) : Tt (ref01_Valid_m x) := T.bind (rVN_T _) fun _ _ => .ret trivial
theorem rrank_T (n : Int) : Tt (ref05_rank_m n) := T.cond (fun _ => .ret trivial) fun _ => .ret trivial
theorem rpremise_T (p : T_api_Premise) : Tt (ref05_premise_m p) := by
  unfold ref05_premise_m
  repeat' first | exact .ret trivial | exact rVN_T _ | exact rV_T _ | exact rrank_T _ | refine T.cond (fun _ => ?_) fun _ => ?_ | refine T.bind (P := fun _ => True) ?_ fun _ _ => ?_
theorem rPremise_T (b : T_api_Base) (x : Li) (hb : b.Premises.length ≤ 1000) : Tt (ref05_Premise_m b x) := by
  unfold ref05_Premise_m
  refine Tt.sumK (loopT b.Premises.length fun k hk => ?_) (fun _ => .ret trivial) fun _ => .ret trivial
  unfold ref05_Premise_l1
  refine T.cond (fun g => ?_) fun g => .ret trivial
  have hk2 : k < b.Premises.length := by have := of_decide_eq_true g; omega
  rw [idxM_nat hk2, some_bind, iadd1 (by omega)]
  exact T.cond (fun _ => .ret trivial) fun _ => .ret ⟨hk2, rfl⟩
theorem rrule_T (r : T_api_Rule) : Tt (ref05_rule_m r) := by
  unfold ref05_rule_m
  refine T.cond (fun _ => .ret trivial) fun g => ?_
  have hl : r.Body.length ≤ 4 := by have := of_decide_eq_false g; omega
  refine T.joinP (fun _ => True) (fun j _ => ?_) fun k hk => ?_
  · refine T.bind (P := fun _ => True) ?_ fun q _ => T.cond (fun _ => .ret trivial) fun _ => ?_
    · refine T.loopK r.Body.length (fun k s => s.2 = (k : Int) ∧ k ≤ r.Body.length) ⟨rfl, by omega⟩ ?_
      rintro k ⟨f, _⟩ ⟨rfl, hk⟩
      unfold ref05_rule_l1
      refine T.cond (fun g => ?_) fun g => .ret trivial
      have hk2 : k < r.Body.length := by have := of_decide_eq_true g; dsimp only at this; omega
      dsimp only
      refine T.cond (fun _ => ?_) fun _ => ?_
      · rw [idxM_nat hk2, some_bind, iadd1 (by omega)]
        exact T.bind (rV_T _) fun _ _ => .ret ⟨hk2, rfl, hk2⟩
      · rw [iadd1 (by omega)]
        exact .ret ⟨hk2, rfl, hk2⟩
    · refine Tt.sumK ?_ (fun _ => .ret trivial) fun _ => .ret trivial
      refine T.loopK r.Body.length (fun k s => s = ((k + 1 : Nat) : Int) ∧ k ≤ r.Body.length) ⟨rfl, by omega⟩ ?_
      rintro k _ ⟨rfl, hk⟩
      unfold ref05_rule_l2
      refine T.cond (fun g => ?_) fun g => .ret trivial
      have hk2 : k + 1 < r.Body.length := by have := of_decide_eq_true g; omega
      rw [isub64 (by omega) (by omega), show (((k + 1 : Nat) : Int) - 1) = (k : Int) by omega, idxM_nat (by omega), some_bind, idxM_nat hk2, some_bind, rcmp_eq, some_bind, iadd1 (by omega)]
      exact T.cond (fun _ => .ret trivial) fun _ => .ret ⟨by omega, rfl, by omega⟩
  · refine T.bind (rVN_T _) fun _ _ => T.cond (fun _ => T.bind (rrank_T _) fun _ _ => T.cond (fun _ => T.cond (fun _ => T.bind (rV_T _) fun _ _ => hk _ trivial) fun _ => T.cond (fun _ => T.bind (rV_T _) fun _ _ => hk _ trivial) fun _ => hk _ trivial) fun _ => hk _ trivial) fun _ => hk _ trivial
theorem rValidate_T (b : T_api_Base) : Tt (ref05_Validate_m b) := by
  unfold ref05_Validate_m
  refine T.cond (fun _ => .ret trivial) fun g1 => T.cond (fun _ => .ret trivial) fun g2 => T.cond (fun _ => .ret trivial) fun g3 => ?_
  have h1 : b.Premises.length ≤ 16 := by have := of_decide_eq_false g1; omega
  have h2 : b.Rules.length ≤ 24 := by have := of_decide_eq_false g2; omega
  have h3 : b.Promotions.length ≤ 8 := by have := of_decide_eq_false g3; omega
  refine Tt.sumK (loopT b.Premises.length fun k hk => ?_) (fun _ => .ret trivial) fun _ => Tt.sumK (loopT b.Rules.length fun k hk => ?_) (fun _ => .ret trivial) fun _ => Tt.sumK (loopT b.Promotions.length fun k hk => ?_) (fun _ => .ret trivial) fun _ => .ret trivial
  · unfold ref05_Validate_l1
    refine T.cond (fun g => ?_) fun g => .ret trivial
    have hk2 : k < b.Premises.length := by have := of_decide_eq_true g; omega
    rw [idxM_nat hk2, some_bind, iadd1 (by omega)]
    refine T.bind (rpremise_T _) fun _ _ => T.cond (fun _ => .ret trivial) fun _ => ?_
    rw [some_bind]
    exact T.bind (rPremise_T _ _ (by omega)) fun _ _ => T.cond (fun _ => .ret trivial) fun _ => .ret ⟨hk2, rfl⟩
  · unfold ref05_Validate_l2
    refine T.cond (fun g => ?_) fun g => .ret trivial
    have hk2 : k < b.Rules.length := by have := of_decide_eq_true g; omega
    rw [idxM_nat hk2, some_bind, iadd1 (by omega)]
    refine T.bind (rrule_T _) fun _ _ => T.cond (fun _ => .ret trivial) fun _ => ?_
    rw [some_bind, rFind_eq (by omega), some_bind]
    exact T.cond (fun _ => .ret trivial) fun _ => .ret ⟨hk2, rfl⟩
  · unfold ref05_Validate_l3
    refine T.cond (fun g => ?_) fun g => .ret trivial
    have hk2 : k < b.Promotions.length := by have := of_decide_eq_true g; omega
    rw [idxM_nat hk2, some_bind, iadd1 (by omega)]
    refine T.bind (rrank_T _) fun _ _ => T.cond (fun _ => .ret trivial) fun _ => T.bind (rV_T _) fun _ _ => T.cond (fun _ => .ret trivial) fun _ => ?_
    rw [rFind_eq (by omega), some_bind]
    refine T.cond (fun _ => .ret trivial) fun g4 => ?_
    cases h : b.Rules.findIdx? (fun r => decide (r.Name = b.Promotions[k].Rule)) with
    | none => rw [h] at g4; simp at g4
    | some i =>
      rw [List.findIdx?_eq_some_iff_getElem] at h
      obtain ⟨hi, _⟩ := h
      rw [idxM_nat hi, some_bind]
      exact T.cond (fun _ => .ret trivial) fun _ => .ret ⟨hk2, rfl⟩
theorem rCopy_eq {b : T_api_Base} (h1 : b.Premises.length ≤ 1000) (h2 : b.Rules.length ≤ 1000) (h3 : b.Promotions.length ≤ 1000) (hB : ∀ r ∈ b.Rules, r.Body.length ≤ 100000) : ref05_Copy_m b = some b := by
  unfold ref05_Copy_m
  rw [appM_eq (by simp; omega), some_bind, appM_eq (by simp; omega), some_bind]
  refine T.eq (T.bind (P := fun q => q = b.Rules) ?_ fun q hq => ?_)
  · refine T.loopK b.Rules.length (fun k s => s.1 = (k : Int) ∧ k ≤ b.Rules.length ∧ s.2 = b.Rules.take k) ⟨rfl, by omega, by simp⟩ ?_
    rintro k ⟨_, o⟩ ⟨rfl, hk, rfl⟩
    unfold ref05_Copy_l1
    refine T.cond (fun g => ?_) fun g => ?_
    · have hk2 : k < b.Rules.length := by have := of_decide_eq_true g; dsimp only at this; omega
      have := hB _ (List.getElem_mem hk2)
      dsimp only
      rw [idxM_nat hk2, some_bind, appM_eq (by simp; omega), some_bind, appM_eq (by simp; omega), some_bind, iadd1 (by omega), letM_eq]
      refine .ret ⟨hk2, rfl, hk2, ?_⟩
      show _ = _
      rw [List.take_add_one, List.getElem?_eq_getElem hk2]; rfl
    · have hk2 : k = b.Rules.length := by have := of_decide_eq_false g; dsimp only at this; omega
      refine .ret ?_
      show List.take k _ = _
      rw [hk2, List.take_length]
  · subst hq; exact .ret rfl
end Go.Dc
