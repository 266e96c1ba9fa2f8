/- Part M.FuelM of a proof: lemmas. -/
import Derived.Test.YtcopohboenimpaaGreatDoorP18Chk
import Derived.Test.YtcopohboenimpaaGreatDoorDcSub
import Derived.Test.YtcopohboenimpaaGreatDoorDcCpt
set_option linter.unusedVariables false
set_option linter.unusedSimpArgs false
set_option linter.unusedSectionVars false
/-! The reference's resolvents. -/
namespace Go.Dc

theorem in_plain {l : List Int} {x : Int} (hl : l.length ≤ 4611686018427387904) : ref04_in_m l x = some (decide (x ∈ l)) := by
  unfold ref04_in_m
  rw [any_bind (l := l) (p := fun y => y == x) (fun i hi => by
    unfold ref04_in_l1
    rw [show decide ((i : Int) < (l.length : Int)) = true by simp [hi], cond_true, idxM_nat hi, iadd64 (by omega) (by omega)]
    show (bif l[i] == x then _ else _) = _
    cases (l[i] == x) <;> rfl) (by unfold ref04_in_l1; simp)]
  congr 1
  rw [List.any_beq']
  simp

theorem rres_step {a b out : List Int} {p : Int} {v : Nat} (ha : a.length ≤ 50) (hb : b.length ≤ 50) (ho : out.length ≤ 200) (hv : v ≤ 200) :
    ref04_Resolve_l1 a b p ((v : Int), out) = some (if (v : Int) = p then .inr (((v + 1 : Nat) : Int), out) else
      if ((v : Int) ∈ a ∨ (v : Int) ∈ b) ∧ (-(v : Int) ∈ a ∨ -(v : Int) ∈ b) then .inl (.inl (false, [])) else
      if (v : Int) ∈ a ∨ (v : Int) ∈ b then .inr (((v + 1 : Nat) : Int), out ++ [(v : Int)]) else
      if -(v : Int) ∈ a ∨ -(v : Int) ∈ b then .inr (((v + 1 : Nat) : Int), out ++ [-(v : Int)]) else .inr (((v + 1 : Nat) : Int), out)) := by
  have e1 : iadd .i64 (v : Int) 1 = ((v + 1 : Nat) : Int) := by rw [iadd64 (by omega) (by omega)]; rfl
  have e2 : ineg .i64 (v : Int) = -(v : Int) := ineg64 (by omega) (by omega)
  have e3 : ∀ x : Int, appM 8 out [x] = some (out ++ [x]) := fun x => appM_eq (by simp; omega)
  have ia : ∀ x, ref04_in_m a x = some (decide (x ∈ a)) := fun x => in_plain (by omega)
  have ib : ∀ x, ref04_in_m b x = some (decide (x ∈ b)) := fun x => in_plain (by omega)
  unfold ref04_Resolve_l1
  dsimp only
  rw [show decide ((v : Int) ≤ 200) = true by simp; omega, cond_true]
  simp only [joinM_eq, ia, ib, Option.bind_some, e1, e2, e3]
  have hp : ((v : Int) == p) = decide ((v : Int) = p) := by cases h : decide ((v : Int) = p) <;> simp at h <;> simp [h]
  by_cases h0 : (v : Int) = p <;> by_cases h1 : (v : Int) ∈ a <;> by_cases h2 : (v : Int) ∈ b <;> by_cases h3 : -(v : Int) ∈ a <;> by_cases h4 : -(v : Int) ∈ b <;> simp [hp, h0, h1, h2, h3, h4] <;> simp_all

theorem rres_loop {a b : List Int} {p : Int} (ha : COk 200 a) (hb : COk 200 b) :
    loopC (ref04_Resolve_l1 a b p) (1, []) = some (if tautR (litsR a b p) = true then .inl (false, []) else .inr (outR (litsR a b p))) := by
  refine T.eq (T.loopK 201 (fun k s => k ≤ 200 ∧ s.1 = ((k + 1 : Nat) : Int) ∧ s.2 = (List.range' 1 k).filterMap (pickV (litsR a b p)) ∧ ∀ v : Nat, 1 ≤ v → v ≤ k → ¬ ((v : Int) ∈ litsR a b p ∧ -(v : Int) ∈ litsR a b p)) ⟨by omega, rfl, rfl, fun v _ _ => by omega⟩ fun k s hs => ?_)
  obtain ⟨i, o⟩ := s
  obtain ⟨hk, e1, e2, e3⟩ := hs
  dsimp only at e1 e2
  subst e1
  have hol : o.length ≤ 200 := by rw [e2]; exact Nat.le_trans (List.length_filterMap_le _ _) (by simp; omega)
  by_cases hk2 : k = 200
  · subst hk2
    have : ref04_Resolve_l1 a b p (((200 + 1 : Nat) : Int), o) = some (.inl (.inr o)) := rfl
    rw [this]
    refine .ret ?_
    show _ = _
    have ht : tautR (litsR a b p) = false := by
      cases h : tautR (litsR a b p) with
      | false => rfl
      | true =>
        obtain ⟨x, hx, hy⟩ := tautR_iff.1 h
        have := lits_rng ha hb hx
        by_cases hp : 0 < x
        · have e : ((x.natAbs : Nat) : Int) = x := by omega
          exact absurd ⟨by rw [e]; exact hx, by rw [e]; exact hy⟩ (e3 x.natAbs (by omega) (by omega))
        · have e : ((x.natAbs : Nat) : Int) = -x := by omega
          exact absurd ⟨by rw [e]; exact hy, by rw [e, Int.neg_neg]; exact hx⟩ (e3 x.natAbs (by omega) (by omega))
    rw [ht, e2]; rfl
  · rw [rres_step ha.len hb.len hol (by omega)]
    refine .ret ?_
    have er : List.range' 1 (k + 1) = List.range' 1 k ++ [k + 1] := by rw [List.range'_concat, Nat.add_comm 1]; simp [Nat.add_comm]
    have hnp : ∀ x : Int, x ∈ litsR a b p ↔ (x ∈ a ∨ x ∈ b) ∧ (x.natAbs : Int) ≠ p := fun x => mem_lits
    have hn1 : (((k + 1 : Nat) : Int).natAbs : Int) = ((k + 1 : Nat) : Int) := by omega
    have hn2 : ((-((k + 1 : Nat) : Int)).natAbs : Int) = ((k + 1 : Nat) : Int) := by omega
    have keep : ∀ o', (pickV (litsR a b p) (k + 1)).toList = o' → o ++ o' = (List.range' 1 (k + 1)).filterMap (pickV (litsR a b p)) := fun o' h => by
      rw [er, List.filterMap_append, ← e2]
      congr 1
      rw [← h]
      cases hq : pickV (litsR a b p) (k + 1) <;> simp [hq]
    have next : ¬ (((k + 1 : Nat) : Int) ∈ litsR a b p ∧ -((k + 1 : Nat) : Int) ∈ litsR a b p) → ∀ v : Nat, 1 ≤ v → v ≤ k + 1 → ¬ ((v : Int) ∈ litsR a b p ∧ -(v : Int) ∈ litsR a b p) := fun h v h1 h2 => by
      by_cases e : v = k + 1
      · rw [e]; exact h
      · exact e3 v h1 (by omega)
    by_cases h0 : ((k + 1 : Nat) : Int) = p
    · rw [if_pos h0]
      have n1 : ((k + 1 : Nat) : Int) ∉ litsR a b p := fun h => ((hnp _).1 h).2 (by rw [hn1]; exact h0)
      have n2 : -((k + 1 : Nat) : Int) ∉ litsR a b p := fun h => ((hnp _).1 h).2 (by rw [hn2]; exact h0)
      refine ⟨by omega, by omega, rfl, ?_, next fun h => n1 h.1⟩
      have := keep [] (by unfold pickV; rw [if_neg n1, if_neg n2]; rfl)
      rwa [List.append_nil] at this
    · rw [if_neg h0]
      have m1 : ((k + 1 : Nat) : Int) ∈ litsR a b p ↔ ((k + 1 : Nat) : Int) ∈ a ∨ ((k + 1 : Nat) : Int) ∈ b := by rw [hnp, hn1]; exact ⟨fun h => h.1, fun h => ⟨h, h0⟩⟩
      have m2 : -((k + 1 : Nat) : Int) ∈ litsR a b p ↔ -((k + 1 : Nat) : Int) ∈ a ∨ -((k + 1 : Nat) : Int) ∈ b := by rw [hnp, hn2]; exact ⟨fun h => h.1, fun h => ⟨h, h0⟩⟩
      by_cases h1 : ((k + 1 : Nat) : Int) ∈ litsR a b p
      · by_cases h2 : -((k + 1 : Nat) : Int) ∈ litsR a b p
        · rw [if_pos (show (((k + 1 : Nat) : Int) ∈ a ∨ ((k + 1 : Nat) : Int) ∈ b) ∧ (-((k + 1 : Nat) : Int) ∈ a ∨ -((k + 1 : Nat) : Int) ∈ b) from ⟨m1.1 h1, m2.1 h2⟩)]
          show _ = _
          rw [if_pos (tautR_iff.2 ⟨_, h1, h2⟩)]
        · rw [if_neg (show ¬ ((((k + 1 : Nat) : Int) ∈ a ∨ ((k + 1 : Nat) : Int) ∈ b) ∧ (-((k + 1 : Nat) : Int) ∈ a ∨ -((k + 1 : Nat) : Int) ∈ b)) from fun h => h2 (m2.2 h.2)), if_pos (m1.1 h1)]
          exact ⟨by omega, by omega, rfl, keep _ (by unfold pickV; rw [if_pos h1]; rfl), next fun h => h2 h.2⟩
      · rw [if_neg (show ¬ ((((k + 1 : Nat) : Int) ∈ a ∨ ((k + 1 : Nat) : Int) ∈ b) ∧ (-((k + 1 : Nat) : Int) ∈ a ∨ -((k + 1 : Nat) : Int) ∈ b)) from fun h => h1 (m1.2 h.1)), if_neg (show ¬ (((k + 1 : Nat) : Int) ∈ a ∨ ((k + 1 : Nat) : Int) ∈ b) from fun h => h1 (m1.2 h))]
        by_cases h2 : -((k + 1 : Nat) : Int) ∈ litsR a b p
        · rw [if_pos (m2.1 h2)]
          exact ⟨by omega, by omega, rfl, keep _ (by unfold pickV; rw [if_neg h1, if_pos h2]; rfl), next fun h => h1 h.1⟩
        · rw [if_neg (show ¬ (-((k + 1 : Nat) : Int) ∈ a ∨ -((k + 1 : Nat) : Int) ∈ b) from fun h => h2 (m2.2 h))]
          refine ⟨by omega, by omega, rfl, ?_, next fun h => h1 h.1⟩
          have := keep [] (by unfold pickV; rw [if_neg h1, if_neg h2]; rfl)
          rwa [List.append_nil] at this

theorem rResolve_plain {a b : List Int} {p : Int} : ref04_Resolve_m a b p = some (ResolveP a b p) := by
  unfold ref04_Resolve_m ResolveP
  by_cases h1 : p < 1
  · rw [if_pos (.inl h1), decide_eq_true h1]; rfl
  rw [decide_eq_false h1, cond_false, rclause_plain (by omega) (by omega), Option.bind_some]
  by_cases h2 : clauseP 200 a = 0
  rotate_left
  · rw [if_pos (.inr (.inl h2)), show (clauseP 200 a != 0) = true by simp [h2]]; rfl
  rw [h2, rclause_plain (by omega) (by omega)]
  simp only [bne_self_eq_false, cond_false, Option.bind_some]
  by_cases h3 : clauseP 200 b = 0
  rotate_left
  · rw [if_pos (.inr (.inr (.inl h3))), show (clauseP 200 b != 0) = true by simp [h3]]; rfl
  have ha := clauseP_ok.1 h2
  have hb := clauseP_ok.1 h3
  rw [h3, in_plain (by have := ha.len; omega)]
  simp only [bne_self_eq_false, cond_false, Option.bind_some]
  by_cases h4 : p ∈ a
  rotate_left
  · rw [if_pos (.inr (.inr (.inr (.inl h4)))), decide_eq_false h4]; rfl
  have hp := ha.rng p h4
  rw [decide_eq_true h4, in_plain (by have := hb.len; omega), ineg64 (by omega) (by omega)]
  simp only [Bool.not_true, cond_false, Option.bind_some]
  by_cases h5 : -p ∈ b
  rotate_left
  · rw [if_pos (.inr (.inr (.inr (.inr h5)))), decide_eq_false h5]; rfl
  have hc : ¬ (p < 1 ∨ (0 : Int) ≠ 0 ∨ (0 : Int) ≠ 0 ∨ p ∉ a ∨ -p ∉ b) := by simp only [not_or, Classical.not_not]; exact ⟨h1, trivial, trivial, h4, h5⟩
  rw [if_neg hc, decide_eq_true h5, rres_loop ha hb]
  simp only [Bool.not_true, cond_false, Option.bind_some]
  by_cases ht : tautR (litsR a b p) = true
  · rw [if_pos ht, if_pos ht]; rfl
  · rw [if_neg ht, if_neg ht, sumK_inr]
    by_cases hl : 50 < (outR (litsR a b p)).length
    · rw [if_pos hl, show decide (((outR (litsR a b p)).length : Int) > 50) = true by simp; omega]; rfl
    · rw [if_neg hl, show decide (((outR (litsR a b p)).length : Int) > 50) = false by simp; omega]; rfl
end Go.Dc

set_option linter.unusedVariables false
set_option maxHeartbeats 1000000
set_option linter.unusedSimpArgs false
set_option linter.unusedSectionVars false
/-! The reference looks at answers. -/
namespace Go.Dc

theorem rrun_plain {l : List (List Int)} {x : T_api_Answer} (hl : l.length ≤ 4000) (hs : x.Steps.length ≤ 20000) :
    loopC (ref04_Check_s1_l2 x) (0, l) = some (match runP l x.Steps with | none => .inl 11 | some a => .inr a) := by
  refine T.eq (T.loopK x.Steps.length (fun k s => s.1 = (k : Int) ∧ k ≤ x.Steps.length ∧ runP l (x.Steps.take k) = some s.2) ⟨rfl, by omega, rfl⟩ ?_)
  rintro k ⟨i, all⟩ ⟨e, hk, hI⟩
  dsimp only at e hI
  subst e
  have hal := runP_len hI
  simp only [List.length_take] at hal
  unfold ref04_Check_s1_l2
  dsimp only
  refine T.cond (fun h => ?_) fun h => .ret ?_
  · have hk2 : k < x.Steps.length := by simpa using h
    rw [idxM_nat hk2, some_bind, iadd1 (by omega)]
    have hsn := runP_snoc hk2 hI
    generalize x.Steps[k] = s at hsn ⊢
    have bad : stepP all s = none → T (some (Sum.inl (Sum.inl 11)) : Option (Sum (Sum Int (List (List Int))) (Int × List (List Int)))) (onO (fun o => o = match runP l x.Steps with | none => .inl 11 | some a => .inr a) fun s' => k < x.Steps.length ∧ s'.1 = ((k + 1 : Nat) : Int) ∧ k + 1 ≤ x.Steps.length ∧ runP l (x.Steps.take (k + 1)) = some s'.2) := fun hn => by
      refine .ret ?_
      rw [hn] at hsn
      show _ = _
      rw [runP_none (by omega) hsn]
    refine T.cond (fun h1 => bad ?_) fun h1 => T.cond (fun h2 => bad ?_) fun h2 => T.cond (fun h3 => bad ?_) fun h3 => T.cond (fun h4 => bad ?_) fun h4 => ?_
    · have := of_decide_eq_true h1; unfold stepP; rw [if_pos (by omega)]
    · have := of_decide_eq_true h2; unfold stepP; rw [if_pos (by omega)]
    · have := of_decide_eq_true h3; unfold stepP; rw [if_pos (by omega)]
    · have := of_decide_eq_true h4; unfold stepP; rw [if_pos (by omega)]
    have h1 := of_decide_eq_false h1
    have h2 := of_decide_eq_false h2
    have h3 := of_decide_eq_false h3
    have h4 := of_decide_eq_false h4
    rw [idxM_getD' [] (by omega) (by omega), some_bind, idxM_getD' [] (by omega) (by omega), some_bind, rResolve_plain, some_bind]
    have hst := stepP_of (all := all) (s := s) (by omega) (by omega) (by omega) (by omega)
    refine T.cond (fun h5 => bad ?_) fun h5 => ?_
    · rw [hst, if_neg (by simpa using h5)]
    · rw [hst, if_pos (by simpa using h5)] at hsn
      rw [appM_eq (by simp; omega), some_bind]
      exact .ret ⟨hk2, rfl, hk2, hsn⟩
  · have : k = x.Steps.length := by simp at h; omega
    subst this
    rw [List.take_length] at hI
    show _ = _
    rw [hI]


theorem rValidate1_plain {n : Int} {l : List (List Int)} : ref04_Validate_s1_m n l = some (ValidP n l) := by
  unfold ref04_Validate_s1_m ValidP
  by_cases h1 : n < 0
  · rw [if_pos (.inl h1), decide_eq_true h1]; rfl
  · by_cases h2 : 200 < n
    · rw [if_pos (.inr h2), decide_eq_false h1, show decide (n > 200) = true by simp [h2]]; rfl
    · rw [if_neg (by omega), decide_eq_false h1, show decide (n > 200) = false by simp; omega]
      by_cases h3 : 4000 < l.length
      · rw [if_pos h3, show decide ((l.length : Int) > 4000) = true by simp; omega]; rfl
      · rw [if_neg h3, show decide ((l.length : Int) > 4000) = false by simp; omega]
        simp only [cond_false]
        rw [find_bind (l := l) (fun c => if clauseP n c = 0 then none else some (clauseP n c)) (fun i hi => by
          unfold ref04_Validate_s1_l1
          rw [show decide ((i : Int) < (l.length : Int)) = true by simp [hi], cond_true, idxM_nat hi, iadd64 (by omega) (by omega)]
          simp only [Option.bind_some]
          rw [rclause_plain (by omega) (by omega)]
          simp only [Option.bind_some]
          by_cases h : clauseP n l[i] = 0
          · rw [if_pos h, h]; rfl
          · rw [if_neg h, show (clauseP n l[i] != 0) = true by simp [h]]; rfl) (by unfold ref04_Validate_s1_l1; simp)]
        cases l.findSome? fun c => if clauseP n c = 0 then none else some (clauseP n c) <;> rfl
theorem Satisfied1_plain {m : List Bool} {c : List Int} (hc : c.length ≤ 1000) (hr : ∀ x ∈ c, x ≠ 0 ∧ (x.natAbs : Int) ≤ m.length) (hm : m.length ≤ 1000) : ref04_Satisfied_s1_m m c = some (c.any (litT m)) := by
  unfold ref04_Satisfied_s1_m
  rw [any_bind (l := c) (p := litT m) (fun i hi => by
    have h1 := hr _ (List.getElem_mem hi)
    unfold ref04_Satisfied_s1_l1
    rw [show decide ((i : Int) < (c.length : Int)) = true by simp [hi], cond_true, idxM_nat hi, iadd64 (by omega) (by omega), rabs_eq]
    simp only [Option.bind_some]
    rw [abs_plain (by omega) (by omega), some_bind, isub64 (by omega) (by omega), show (c[i].natAbs : Int) - 1 = ((c[i].natAbs - 1 : Nat) : Int) by omega, idxM_getD (z := false) (by omega), some_bind]
    show (bif litT m c[i] then _ else _) = _
    cases litT m c[i] <;> rfl) (by unfold ref04_Satisfied_s1_l1; simp)]

theorem satP1_any {l : List (List Int)} {m : List Bool} {n : Int} (hl : ∀ c ∈ l, COk n c) (hm : (m.length : Int) = n) (hn : n ≤ 200) {c : List Int} (hc : c ∈ l) : ref04_Satisfied_s1_m m c = some (c.any (litT m)) :=
  Satisfied1_plain (by have := (hl c hc).len; omega) (fun x hx => by have := (hl c hc).rng x hx; omega) (by omega)
theorem rCheck_plain {n : Int} {l : List (List Int)} {x : T_api_Answer} : ref04_Check_s1_m n l x = some (CheckP n l x) := by
  unfold ref04_Check_s1_m CheckP
  rw [rValidate1_plain, some_bind]
  by_cases hv : ValidP n l = 0
  rotate_left
  · rw [if_pos hv, show (ValidP n l != 0) = true by simp [hv]]; rfl
  rw [if_neg (by simp [hv]), hv, bne_self_eq_false, cond_false]
  obtain ⟨n0, n1, hlen, hcl⟩ := ValidP_ok.1 hv
  cases hS : x.Sat with
  | true =>
    rw [cond_true, if_pos rfl]
    by_cases h1 : x.Steps = []
    rotate_left
    · rw [if_pos (.inl h1), show decide ((x.Steps.length : Int) > 0) = true by simp; exact List.length_pos_iff.2 h1]; rfl
    rw [h1, show decide ((([] : List T_api_Step).length : Int) > 0) = false by simp, cond_false]
    by_cases h2 : (x.Model.length : Int) = n
    rotate_left
    · rw [if_pos (.inr h2), show ((x.Model.length : Int) != n) = true by simp [h2]]; rfl
    rw [if_neg (by simp [h2]), show ((x.Model.length : Int) != n) = false by simp [h2], cond_false]
    rw [find_bind (l := l) (fun c => if c.any (litT x.Model) = true then none else some 11) (fun i hi => by
      unfold ref04_Check_s1_l1
      rw [show decide ((i : Int) < (l.length : Int)) = true by simp [hi], cond_true, idxM_nat hi, iadd64 (by omega) (by omega)]
      simp only [Option.bind_some]
      rw [satP1_any hcl h2 n1 (List.getElem_mem hi), some_bind]
      cases l[i].any (litT x.Model) <;> rfl) (by unfold ref04_Check_s1_l1; simp)]
    unfold satP
    by_cases h3 : (l.all fun c => c.any (litT x.Model)) = true
    · rw [if_pos h3]
      have : (l.findSome? fun c => if c.any (litT x.Model) = true then none else some (11 : Int)) = none := by
        rw [List.findSome?_eq_none_iff]; intro c hc; rw [if_pos (List.all_eq_true.1 h3 c hc)]
      rw [this]
    · rw [if_neg h3]
      obtain ⟨c, hc, hc2⟩ := List.all_eq_false.1 (Bool.eq_false_iff.2 h3)
      cases hf : (l.findSome? fun c => if c.any (litT x.Model) = true then none else some (11 : Int)) with
      | none => rw [List.findSome?_eq_none_iff] at hf; have := hf c hc; rw [if_neg hc2] at this; cases this
      | some r =>
        obtain ⟨y, _, hy⟩ := List.exists_of_findSome?_eq_some hf
        split at hy
        · cases hy
        · cases hy; rfl
  | false =>
    rw [cond_false, if_neg (by simp)]
    by_cases h1 : x.Model = []
    rotate_left
    · rw [if_pos h1, show decide ((x.Model.length : Int) > 0) = true by simp; exact List.length_pos_iff.2 h1]; rfl
    rw [if_neg (by simp [h1]), h1, show decide ((([] : List Bool).length : Int) > 0) = false by simp, cond_false]
    by_cases h2 : 20000 < x.Steps.length
    · rw [if_pos h2, show decide ((x.Steps.length : Int) > 20000) = true by simp; omega]; rfl
    rw [if_neg h2, show decide ((x.Steps.length : Int) > 20000) = false by simp; omega, cond_false, appM_eq (by simp; omega), some_bind, List.nil_append, rrun_plain hlen (by omega)]
    simp only [Option.bind_some]
    cases hr : runP l x.Steps with
    | none =>
      have e : refP l x.Steps = false := by unfold refP; rw [hr]
      rw [e]; rfl
    | some a =>
      have hal := runP_len hr
      simp only [sumK_inr]
      by_cases h3 : x.Steps = []
      · have e : refP l x.Steps = l.any List.isEmpty := by unfold refP; rw [hr]; simp [h3]
        rw [e, h3, show decide ((([] : List T_api_Step).length : Int) > 0) = false by simp, cond_false]
        rw [find_bind (l := l) (fun c => if c.isEmpty = true then some 0 else none) (fun i hi => by
          unfold ref04_Check_s1_l3
          rw [show decide ((i : Int) < (l.length : Int)) = true by simp [hi], cond_true, idxM_nat hi, iadd64 (by omega) (by omega)]
          simp only [Option.bind_some]
          cases hq : l[i] with
          | nil => simp
          | cons y ys => simp; rw [show ((ys.length : Int) + 1 == 0) = false from beq_false_of_ne (by omega)]; rfl) (by unfold ref04_Check_s1_l3; simp)]
        by_cases h4 : l.any List.isEmpty = true
        · rw [if_pos h4]
          obtain ⟨c, hc, hc2⟩ := List.any_eq_true.1 h4
          cases hf : (l.findSome? fun c => if c.isEmpty = true then some (0 : Int) else none) with
          | none => rw [List.findSome?_eq_none_iff] at hf; have := hf c hc; rw [if_pos hc2] at this; cases this
          | some r =>
            obtain ⟨y, _, hy⟩ := List.exists_of_findSome?_eq_some hf
            split at hy
            · cases hy; rfl
            · cases hy
        · rw [if_neg h4]
          have : (l.findSome? fun c => if c.isEmpty = true then some (0 : Int) else none) = none := by
            rw [List.findSome?_eq_none_iff]; intro c hc; rw [if_neg fun h => h4 (List.any_eq_true.2 ⟨c, hc, h⟩)]
          rw [this]
      · have hp := List.length_pos_iff.2 h3
        have e : refP l x.Steps = (a.getD (a.length - 1) [1]).isEmpty := by unfold refP; rw [hr]; simp [h3]
        rw [e, show decide ((x.Steps.length : Int) > 0) = true by simp; exact hp, cond_true, isub64 (by omega) (by omega), show (a.length : Int) - 1 = ((a.length - 1 : Nat) : Int) by omega, idxM_getD (z := [1]) (by omega), some_bind]
        cases a.getD (a.length - 1) [1] with
        | nil => rfl
        | cons y ys => simp


end Go.Dc

set_option linter.unusedVariables false
set_option linter.unusedSimpArgs false
set_option linter.unusedSectionVars false
/-! The program's own labellings. -/
namespace Go.Dc
open Go.Proofs Go.Sort

def badL (y : List Int) : Bool := y.any fun x => decide (¬ (1 ≤ x ∧ x ≤ 3))
end Go.Dc

set_option linter.unusedVariables false
/-! Keys tell clauses apart; maps. -/
namespace Go.Dc
section
variable {α β : Type} [DecidableEq α]
theorem mapGet_mem {d : List (α × β)} {x : α} {z : β} (h : mapHas d x = true) : (x, mapGet d x z) ∈ d := by
  unfold mapHas at h
  unfold mapGet
  cases e : mapIx d x with
  | none => rw [e] at h; cases h
  | some i =>
    have e' := e
    unfold mapIx at e'
    rw [List.findIdx?_eq_some_iff_getElem] at e'
    obtain ⟨hlt, hp, _⟩ := e'
    simp only [List.getElem?_eq_getElem hlt, Option.map_some, Option.getD_some]
    have : d[i].1 = x := by simpa using hp
    rw [← this]
    exact List.getElem_mem hlt
theorem mapPut_mem {d : List (α × β)} {x : α} {y : β} {p : α × β} (h : p ∈ mapPut d x y) : p ∈ d ∨ p = (x, y) := by
  unfold mapPut at h
  split at h
  · exact List.mem_or_eq_of_mem_set h
  · simpa using h
end

theorem decDigits_three {i : Nat} (h1 : ¬ i < 100) (h2 : i < 1000) : Lib.decDigits i = [UInt8.ofNat (48 + i / 10 / 10), UInt8.ofNat (48 + i / 10 % 10), UInt8.ofNat (48 + i % 10)] := by
  rw [Lib.decDigits, dif_neg (by omega), Lib.decDigits_two (by omega) (by omega)]
  rfl
def digS (u : Nat) : List UInt8 := if u < 10 then [UInt8.ofNat (48 + u)] else if u < 100 then [UInt8.ofNat (48 + u / 10), UInt8.ofNat (48 + u % 10)] else [UInt8.ofNat (48 + u / 10 / 10), UInt8.ofNat (48 + u / 10 % 10), UInt8.ofNat (48 + u % 10)]
theorem digS_eq {u : Nat} (h : u < 1000) : Lib.decDigits u = digS u := by
  unfold digS
  by_cases h1 : u < 10
  · rw [if_pos h1, Lib.decDigits_one h1]
  · by_cases h2 : u < 100
    · rw [if_neg h1, if_pos h2, Lib.decDigits_two h1 h2]
    · rw [if_neg h1, if_neg h2, decDigits_three h2 h]
/-- a number's text, by its natAbs and sign -/
def itoS (s : Bool) (u : Nat) : List UInt8 := if s then 45 :: digS u else digS u
theorem itoa_S {x : Int} (h : x.natAbs < 1000) : Lib.itoa x = itoS (decide (x < 0)) x.natAbs := by
  unfold Lib.itoa itoS
  by_cases hx : x < 0
  · rw [if_pos hx, decide_eq_true hx, if_pos rfl, digS_eq h]
  · rw [if_neg hx, decide_eq_false hx, show x.toNat = x.natAbs by omega, digS_eq h]; rfl
/-- what a text says -/
def rdS (l : List UInt8) : Bool × Nat := match l with
  | 45 :: r => (true, r.foldl (fun a d => a * 10 + (d.toNat - 48)) 0)
  | r => (false, r.foldl (fun a d => a * 10 + (d.toNat - 48)) 0)
theorem rdS_ok : ∀ u : Nat, u < 201 → ∀ s : Bool, rdS (itoS s u) = (s, u) ∧ (itoS s u).all (fun d => d != 32) = true := by decide +kernel

theorem split32 : ∀ {a b r s : List UInt8}, a.all (fun d => d != 32) = true → b.all (fun d => d != 32) = true → a ++ 32 :: r = b ++ 32 :: s → a = b ∧ r = s
  | [], [], r, s, _, _, h => ⟨rfl, by simpa using h⟩
  | [], y :: b, r, s, _, hb, h => by
    simp only [List.nil_append, List.cons_append, List.cons.injEq] at h
    rw [← h.1] at hb; simp at hb
  | x :: a, [], r, s, ha, _, h => by
    simp only [List.nil_append, List.cons_append, List.cons.injEq] at h
    rw [h.1] at ha; simp at ha
  | x :: a, y :: b, r, s, ha, hb, h => by
    simp only [List.cons_append, List.cons.injEq] at h
    simp only [List.all_cons, Bool.and_eq_true] at ha hb
    obtain ⟨h1, h2⟩ := split32 ha.2 hb.2 h.2
    exact ⟨by rw [h.1, h1], h2⟩

theorem keyBytes_inj : ∀ {a b : List Int}, (∀ x ∈ a, x.natAbs ≤ 200) → (∀ x ∈ b, x.natAbs ≤ 200) → keyBytes a = keyBytes b → a = b
  | [], [], _, _, _ => rfl
  | [], y :: b, _, _, h => by simp [keyBytes] at h
  | x :: a, [], _, _, h => by simp [keyBytes] at h
  | x :: a, y :: b, ha, hb, h => by
    have hx := ha x (by simp)
    have hy := hb y (by simp)
    have e : ∀ (z : Int) (l : List Int), keyBytes (z :: l) = Lib.itoa z ++ 32 :: keyBytes l := fun z l => by simp [keyBytes]
    rw [e, e, itoa_S (by omega), itoa_S (by omega)] at h
    have h1 := rdS_ok x.natAbs (by omega) (decide (x < 0))
    have h2 := rdS_ok y.natAbs (by omega) (decide (y < 0))
    obtain ⟨h3, h4⟩ := split32 h1.2 h2.2 h
    have h5 := h1.1
    rw [h3, h2.1] at h5
    simp only [Prod.mk.injEq, decide_eq_decide] at h5
    have hxy : x = y := by omega
    rw [hxy, keyBytes_inj (fun z hz => ha z (by simp [hz])) (fun z hz => hb z (by simp [hz])) h4]

theorem keyM_some {c : List Int} (hl : c.length ≤ 50) (h : ∀ x ∈ c, x.natAbs ≤ 200) : keyM c = some ⟨(keyBytes c).toArray⟩ := by
  unfold keyM
  rw [if_pos ⟨by omega, List.all_eq_true.2 fun x hx => by have := h x hx; simp [i64Ok]; omega⟩]
theorem keyM_inj {a b : List Int} {t : ByteArray} (la : a.length ≤ 50) (lb : b.length ≤ 50) (ha : ∀ x ∈ a, x.natAbs ≤ 200) (hb : ∀ x ∈ b, x.natAbs ≤ 200) (h1 : keyM a = some t) (h2 : keyM b = some t) : a = b := by
  rw [keyM_some la ha] at h1
  rw [keyM_some lb hb] at h2
  rw [← h2] at h1
  simp only [Option.some.injEq, ByteArray.mk.injEq] at h1
  exact keyBytes_inj ha hb (by simpa using congrArg Array.toList h1)
end Go.Dc

set_option linter.unusedVariables false
set_option linter.unusedSimpArgs false
set_option linter.unusedSectionVars false
/-! What a search sees under its values. -/
namespace Go.Dc

/-- values: 1, -1 or 0 -/
structure VV (n : Int) (V : List Int) : Prop where
  len : (V.length : Int) = n
  val : ∀ i, V.getD i 0 = 1 ∨ V.getD i 0 = -1 ∨ V.getD i 0 = 0
/-- the value of an element -/
def valP (V : List Int) (x : Int) : Int := if 0 < x then V.getD (x.natAbs - 1) 0 else -V.getD (x.natAbs - 1) 0
theorem valP_neg {V : List Int} {x : Int} (h : x ≠ 0) : valP V (-x) = -valP V x := by
  unfold valP
  rw [Int.natAbs_neg]
  by_cases h1 : 0 < x
  · rw [if_pos h1, if_neg (by omega)]
  · rw [if_neg h1, if_pos (by omega)]; omega
theorem VV.valP {n : Int} {V : List Int} (h : VV n V) (x : Int) : valP V x = 1 ∨ valP V x = -1 ∨ valP V x = 0 := by
  unfold Go.Dc.valP
  have := h.val (x.natAbs - 1)
  split <;> omega

section
variable {n : Int} {V : List Int} {C : List (List Int)} {K : List (ByteArray × Int)} {S : List T_api_Step} {nd : Int} {st : Bool}
theorem value_plain (hV : VV n V) (hn : n ≤ 200) {x : Int} (h0 : x ≠ 0) (h1 : -n ≤ x) (h2 : x ≤ n) : proof_search_value_m V C K S nd st x = some (valP V x) := by
  have hl := hV.len
  unfold proof_search_value_m valP
  by_cases hx : 0 < x
  · rw [if_pos hx, show decide (x > 0) = true by simp [hx], cond_true, isub64 (by omega) (by omega), show x - 1 = ((x.natAbs - 1 : Nat) : Int) by omega, idxM_getD (z := 0) (by omega), some_bind]
  · rw [if_neg hx, show decide (x > 0) = false by simp; omega, cond_false, ineg64 (by omega) (by omega), isub64 (by omega) (by omega), show -x - 1 = ((x.natAbs - 1 : Nat) : Int) by omega, idxM_getD (z := 0) (by omega), some_bind]
    have := hV.val (x.natAbs - 1)
    rw [ineg64 (by omega) (by omega)]

/-- a clause that is false -/
def FalC (V : List Int) (c : List Int) : Prop := ∀ y ∈ c, valP V y = -1
/-- a clause with one open element -/
def UniC (V : List Int) (c : List Int) (x : Int) : Prop := x ∈ c ∧ valP V x = 0 ∧ ∀ y ∈ c, y = x ∨ valP V y = -1
/-- a clause that is neither -/
def OpnC (V : List Int) (c : List Int) : Prop := ∃ y ∈ c, valP V y = 1 ∨ valP V y = 0

theorem look_l1 (hV : VV n V) (hn : n ≤ 200) {c : List Int} (hc : COk n c) :
    T (loopC (proof_search_look_l1 V C K S nd st c) (0, 0)) fun r => match r with
      | .inl (.inl _) => False
      | .inl (.inr _) => OpnC V c
      | .inr x => x = 0 ∧ FalC V c ∨ x ≠ 0 ∧ UniC V c x := by
  have hcl := hc.len
  refine T.loopK c.length (fun k s => s.2 = (k : Int) ∧ k ≤ c.length ∧ (s.1 = 0 ∧ FalC V (c.take k) ∨ s.1 ≠ 0 ∧ UniC V (c.take k) s.1)) ⟨rfl, by omega, .inl ⟨rfl, by simp [FalC]⟩⟩ ?_
  rintro k ⟨o, i⟩ ⟨e, hk, hI⟩
  dsimp only at e hI
  subst e
  unfold proof_search_look_l1
  dsimp only
  refine T.cond (fun h => ?_) fun h => .ret ?_
  · have hk2 : k < c.length := by simpa using h
    have hr := hc.rng _ (List.getElem_mem hk2)
    have hm : c[k] ∈ c := List.getElem_mem hk2
    rw [idxM_nat hk2, some_bind, value_plain hV hn hr.1 hr.2.1 hr.2.2, some_bind, iadd1 (by omega)]
    have e5 : c.take (k + 1) = c.take k ++ [c[k]] := (List.take_append_getElem hk2).symm
    have hv := hV.valP c[k]
    simp only [joinM_eq]
    by_cases g1 : valP V c[k] > 0
    · rw [decide_eq_true g1, cond_true, cond_true]
      exact .ret ⟨_, hm, .inl (by omega)⟩
    · rw [decide_eq_false g1, cond_false]
      by_cases g2 : valP V c[k] = 0
      · rw [g2, show ((0 : Int) == 0) = true from rfl, cond_true]
        rcases hI with ⟨rfl, hF⟩ | ⟨ho, hU⟩
        · rw [show ((0 : Int) != 0) = false from rfl, cond_false, cond_true]
          refine .ret ⟨hk2, rfl, hk2, .inr ⟨hr.1, by rw [e5]; exact List.mem_append_right _ (List.mem_singleton.2 rfl), g2, fun y hy => ?_⟩⟩
          rw [e5] at hy
          rcases List.mem_append.1 hy with h2 | h2
          · exact .inr (hF y h2)
          · exact .inl (List.mem_singleton.1 h2)
        · rw [show (o != 0) = true by simp [ho], cond_true]
          exact .ret ⟨_, hm, .inr g2⟩
      · rw [show (valP V c[k] == 0) = false from beq_false_of_ne g2, cond_false, cond_false, cond_false]
        have g3 : valP V c[k] = -1 := by omega
        refine .ret ⟨hk2, rfl, hk2, ?_⟩
        rcases hI with ⟨rfl, hF⟩ | ⟨ho, hU⟩
        · refine .inl ⟨rfl, fun y hy => ?_⟩
          rw [e5] at hy
          rcases List.mem_append.1 hy with h2 | h2
          · exact hF y h2
          · rw [List.mem_singleton.1 h2]; exact g3
        · refine .inr ⟨ho, by rw [e5]; exact List.mem_append_left _ hU.1, hU.2.1, fun y hy => ?_⟩
          rw [e5] at hy
          rcases List.mem_append.1 hy with h2 | h2
          · exact hU.2.2 y h2
          · rw [List.mem_singleton.1 h2]; exact .inr g3
  · have : k = c.length := by simp at h; omega
    subst this
    rw [List.take_length] at hI
    exact hI

/-- what look returns -/
def LookR (V : List Int) (C : List (List Int)) (r : Int × Int) : Prop :=
  r.1 = -1 ∧ r.2 = 0 ∧ (∀ c ∈ C, OpnC V c) ∨ 0 ≤ r.1 ∧ r.1 < C.length ∧ (r.2 = 0 ∧ FalC V (C.getD r.1.toNat []) ∨ r.2 ≠ 0 ∧ UniC V (C.getD r.1.toNat []) r.2)

theorem look_plain (hV : VV n V) (hn : n ≤ 200) (hC : ∀ c ∈ C, COk n c) (hl : C.length ≤ 100000) : T (proof_search_look_m V C K S nd st) (LookR V C) := by
  unfold proof_search_look_m
  refine T.bind (P := fun r => match r with | .inl r => LookR V C r | .inr r => LookR V C r) ?_ fun r hr => by
    match r, hr with
    | .inl r, hr => exact .ret hr
    | .inr r, hr => exact .ret hr
  refine T.loopK C.length (fun k (s : Int × Int × Int) => s.2.2 = (k : Int) ∧ k ≤ C.length ∧ (s.1 = -1 ∧ s.2.1 = 0 ∧ (∀ c ∈ C.take k, OpnC V c) ∨ 0 ≤ s.1 ∧ s.1 < C.length ∧ s.2.1 ≠ 0 ∧ UniC V (C.getD s.1.toNat []) s.2.1)) ⟨rfl, by omega, .inl ⟨rfl, rfl, by simp⟩⟩ ?_
  rintro k ⟨u, x, i⟩ ⟨e, hk, hI⟩
  dsimp only at e hI
  subst e
  unfold proof_search_look_l2
  dsimp only
  refine T.cond (fun h => ?_) fun h => .ret ?_
  · have hk2 : k < C.length := by simpa using h
    rw [idxM_nat hk2, some_bind, iadd1 (by omega)]
    have hg : C.getD k [] = C[k] := by simp [List.getD, hk2]
    refine T.bind (look_l1 hV hn (hC _ (List.getElem_mem hk2))) fun r hr => ?_
    match r, hr with
    | .inl (.inr _), hr =>
      refine .ret ⟨hk2, rfl, hk2, ?_⟩
      rcases hI with ⟨h1, h2, h3⟩ | hI
      · refine .inl ⟨h1, h2, fun c hc => ?_⟩
        rw [← List.take_append_getElem hk2] at hc
        rcases List.mem_append.1 hc with h4 | h4
        · exact h3 c h4
        · rw [List.mem_singleton.1 h4]; exact hr
      · exact .inr hI
    | .inr y, hr =>
      simp only [sumK_inr]
      rcases hr with ⟨rfl, hF⟩ | ⟨hy, hU⟩
      · refine .ret ?_
        exact .inr ⟨by simp, by simpa using hk2, .inl ⟨rfl, by show FalC V (C.getD (Int.toNat (k : Int)) []); rw [Int.toNat_natCast, hg]; exact hF⟩⟩
      · rw [show (y == 0) = false from beq_false_of_ne hy, cond_false]
        refine T.cond (fun h5 => .ret ⟨hk2, rfl, hk2, .inr ⟨by simp, by simpa using hk2, hy, by show UniC V (C.getD (Int.toNat (k : Int)) []) y; rw [Int.toNat_natCast, hg]; exact hU⟩⟩) fun h5 => .ret ⟨hk2, rfl, hk2, ?_⟩
        simp only [decide_eq_false_iff_not] at h5
        rcases hI with ⟨h1, _⟩ | hI
        · omega
        · exact .inr hI
  · have : k = C.length := by simp at h; omega
    subst this
    rcases hI with ⟨h1, h2, h3⟩ | ⟨h1, h2, h3, h4⟩
    · exact .inl ⟨h1, h2, by simpa using h3⟩
    · exact .inr ⟨h1, h2, .inr ⟨h3, h4⟩⟩

theorem branch_l1 (hV : VV n V) (hn : n ≤ 200) {c : List Int} (hc : COk n c) :
    T (loopC (proof_search_branch_l1 V C K S nd st c) (0, 0)) fun r => match r with
      | .inl (.inl _) => False
      | .inl (.inr _) => ∃ y ∈ c, valP V y = 1
      | .inr x => x = 0 ∧ FalC V c ∨ x ≠ 0 ∧ x ∈ c ∧ valP V x = 0 := by
  have hcl := hc.len
  refine T.loopK c.length (fun k s => s.2 = (k : Int) ∧ k ≤ c.length ∧ (s.1 = 0 ∧ FalC V (c.take k) ∨ s.1 ≠ 0 ∧ s.1 ∈ c ∧ valP V s.1 = 0)) ⟨rfl, by omega, .inl ⟨rfl, by simp [FalC]⟩⟩ ?_
  rintro k ⟨o, i⟩ ⟨e, hk, hI⟩
  dsimp only at e hI
  subst e
  unfold proof_search_branch_l1
  dsimp only
  refine T.cond (fun h => ?_) fun h => .ret ?_
  · have hk2 : k < c.length := by simpa using h
    have hr := hc.rng _ (List.getElem_mem hk2)
    have hm : c[k] ∈ c := List.getElem_mem hk2
    rw [idxM_nat hk2, some_bind, value_plain hV hn hr.1 hr.2.1 hr.2.2, some_bind, iadd1 (by omega)]
    have e5 : c.take (k + 1) = c.take k ++ [c[k]] := (List.take_append_getElem hk2).symm
    have hv := hV.valP c[k]
    refine T.cond (fun g1 => .ret ⟨_, hm, eq_of_beq g1⟩) fun g1 => ?_
    refine T.cond (fun g2 => ?_) fun g2 => ?_
    · have g2 := eq_of_beq g2
      refine T.cond (fun g3 => .ret ⟨hk2, rfl, hk2, .inr ⟨hr.1, hm, g2⟩⟩) fun g3 => .ret ⟨hk2, rfl, hk2, ?_⟩
      rcases hI with ⟨rfl, _⟩ | hI
      · cases g3
      · exact .inr hI
    · have g3 : valP V c[k] = -1 := by
        have a1 : valP V c[k] ≠ 1 := fun e => by rw [e] at g1; cases g1
        have a2 : valP V c[k] ≠ 0 := fun e => by rw [e] at g2; cases g2
        omega
      refine .ret ⟨hk2, rfl, hk2, ?_⟩
      rcases hI with ⟨rfl, hF⟩ | hI
      · refine .inl ⟨rfl, fun y hy => ?_⟩
        rw [e5] at hy
        rcases List.mem_append.1 hy with h2 | h2
        · exact hF y h2
        · rw [List.mem_singleton.1 h2]; exact g3
      · exact .inr hI
  · have : k = c.length := by simp at h; omega
    subst this
    rw [List.take_length] at hI
    exact hI

/-- where look found nothing, branch gives an open element or all clauses are true -/
theorem branch_plain (hV : VV n V) (hn : n ≤ 200) (hC : ∀ c ∈ C, COk n c) (hl : C.length ≤ 100000) (ho : ∀ c ∈ C, OpnC V c) :
    T (proof_search_branch_m V C K S nd st) fun x => x = 0 ∧ (∀ c ∈ C, ∃ y ∈ c, valP V y = 1) ∨ x ≠ 0 ∧ valP V x = 0 ∧ ∃ c ∈ C, x ∈ c := by
  unfold proof_search_branch_m
  refine T.bind (P := fun r => match r with | .inl x => x ≠ 0 ∧ valP V x = 0 ∧ ∃ c ∈ C, x ∈ c | .inr _ => ∀ c ∈ C, ∃ y ∈ c, valP V y = 1) ?_ fun r hr => by
    match r, hr with
    | .inl r, hr => exact .ret (.inr hr)
    | .inr r, hr => exact .ret (.inl ⟨rfl, hr⟩)
  refine T.loopK C.length (fun k s => s = (k : Int) ∧ k ≤ C.length ∧ ∀ c ∈ C.take k, ∃ y ∈ c, valP V y = 1) ⟨rfl, by omega, by simp⟩ ?_
  rintro k _ ⟨rfl, hk, hI⟩
  unfold proof_search_branch_l2
  refine T.cond (fun h => ?_) fun h => .ret ?_
  · have hk2 : k < C.length := by simpa using h
    rw [idxM_nat hk2, some_bind, iadd1 (by omega)]
    refine T.bind (branch_l1 hV hn (hC _ (List.getElem_mem hk2))) fun r hr => ?_
    match r, hr with
    | .inl (.inr _), hr =>
      refine .ret ⟨hk2, rfl, hk2, fun c hc => ?_⟩
      rw [← List.take_append_getElem hk2] at hc
      rcases List.mem_append.1 hc with h4 | h4
      · exact hI c h4
      · rw [List.mem_singleton.1 h4]; exact hr
    | .inr y, hr =>
      simp only [sumK_inr]
      refine .ret ?_
      rcases hr with ⟨rfl, hF⟩ | ⟨hy, hm, hv⟩
      · obtain ⟨z, hz, h5⟩ := ho _ (List.getElem_mem hk2)
        have := hF z hz
        omega
      · exact ⟨hy, hv, _, List.getElem_mem hk2, hm⟩
  · have : k = C.length := by simp at h; omega
    subst this
    simpa using hI

/-- values with the element x made b -/
def setP (V : List Int) (x b : Int) : List Int := V.set (x.natAbs - 1) (if x < 0 then -b else b)
theorem set_plain (hl : (V.length : Int) = n) (hn : n ≤ 200) {x b : Int} (h0 : x ≠ 0) (h1 : -n ≤ x) (h2 : x ≤ n) (hb : b = 0 ∨ b = 1) : proof_search_set_m V C K S nd st x b = some (setP V x b) := by
  unfold proof_search_set_m setP
  by_cases hx : x < 0
  · rw [decide_eq_true hx, if_pos hx, cond_true, ineg64 (by omega) (by omega), isub64 (by omega) (by omega), show -x - 1 = ((x.natAbs - 1 : Nat) : Int) by omega, idxM_nat (show x.natAbs - 1 < V.length by omega), some_bind, ineg64 (by omega) (by omega)]
    rfl
  · rw [decide_eq_false hx, if_neg hx, cond_false, isub64 (by omega) (by omega), show x - 1 = ((x.natAbs - 1 : Nat) : Int) by omega, idxM_nat (show x.natAbs - 1 < V.length by omega), some_bind]
    rfl

theorem setP_len {x b : Int} : (setP V x b).length = V.length := by simp [setP]
theorem setP_VV (hV : VV n V) {x b : Int} (hb : b = 0 ∨ b = 1) : VV n (setP V x b) := by
  refine ⟨by rw [setP_len]; exact hV.len, fun i => ?_⟩
  unfold setP
  by_cases hi : x.natAbs - 1 < V.length
  · rw [getD_set hi]
    split
    · split <;> omega
    · exact hV.val i
  · rw [List.set_eq_of_length_le (by omega)]; exact hV.val i
theorem setP_val (hl : (V.length : Int) = n) {x y b : Int} (h0 : x ≠ 0) (h1 : -n ≤ x) (h2 : x ≤ n) (hy : y ≠ 0) :
    valP (setP V x b) y = if y = x then b else if y = -x then -b else valP V y := by
  unfold valP setP
  rw [getD_set (by omega)]
  by_cases e1 : y = x
  · subst e1
    rw [if_pos rfl, if_pos rfl]
    split <;> split <;> omega
  · by_cases e2 : y = -x
    · subst e2
      rw [if_neg e1, if_pos rfl, Int.natAbs_neg, if_pos rfl]
      split <;> split <;> omega
    · rw [if_neg e1, if_neg e2, if_neg (show ¬ (x.natAbs - 1 = y.natAbs - 1) by omega)]
theorem setP_back (hl : (V.length : Int) = n) {x : Int} (h0 : x ≠ 0) (h1 : -n ≤ x) (h2 : x ≤ n) (hv : valP V x = 0) : setP (setP V x 1) x 0 = V := by
  unfold setP
  rw [List.set_set]
  unfold valP at hv
  have : V.getD (x.natAbs - 1) 0 = 0 := by split at hv <;> omega
  have hi : x.natAbs - 1 < V.length := by omega
  have e : (if x < 0 then -(0 : Int) else 0) = V[x.natAbs - 1] := by
    have h3 : V.getD (x.natAbs - 1) 0 = V[x.natAbs - 1] := by simp [List.getD, hi]
    rw [← h3, this]; split <;> rfl
  rw [e]; exact List.set_getElem_self hi
end
end Go.Dc

set_option linter.unusedVariables false
set_option linter.unusedSimpArgs false
set_option linter.unusedSectionVars false
/-! What a search has learned. -/
namespace Go.Dc

def occ (L : List (List Int)) (v : Nat) : Bool := L.any fun c => c.contains (v : Int) || c.contains (-(v : Int))
theorem occ_of {L : List (List Int)} {c : List Int} {x : Int} (hc : c ∈ L) (hx : x ∈ c) : occ L x.natAbs = true := by
  unfold occ
  refine List.any_eq_true.2 ⟨c, hc, ?_⟩
  simp only [Bool.or_eq_true, List.contains_iff_mem]
  by_cases h : 0 ≤ x
  · left; rw [show ((x.natAbs : Nat) : Int) = x by omega]; exact hx
  · right; rw [show -((x.natAbs : Nat) : Int) = x by omega]; exact hx
/-- how many variables there are -/
def nvs (L : List (List Int)) (n : Int) : Nat := ((List.range' 1 200).filter fun v : Nat => decide ((v : Int) ≤ n) && occ L v).length
/-- how many of them are open -/
def opn (L : List (List Int)) (V : List Int) : Nat := ((List.range' 1 200).filter fun v => decide (V.getD (v - 1) 1 = 0) && occ L v).length

theorem filter_le {α : Type} {p q : α → Bool} : ∀ {l : List α}, (∀ a ∈ l, p a = true → q a = true) → (l.filter p).length ≤ (l.filter q).length
  | [], _ => by simp
  | a :: l, h => by
    have ih := filter_le (p := p) (q := q) (l := l) fun b hb => h b (by simp [hb])
    have ha := h a (by simp)
    cases hp : p a <;> cases hq : q a
    · rw [List.filter_cons_of_neg (by simp [hp]), List.filter_cons_of_neg (by simp [hq])]; exact ih
    · rw [List.filter_cons_of_neg (by simp [hp]), List.filter_cons_of_pos (by simp [hq]), List.length_cons]; omega
    · rw [ha hp] at hq; cases hq
    · rw [List.filter_cons_of_pos (by simp [hp]), List.filter_cons_of_pos (by simp [hq]), List.length_cons, List.length_cons]; omega
theorem filter_lt {α : Type} {p q : α → Bool} : ∀ {l : List α}, (∀ a ∈ l, p a = true → q a = true) → (∃ a ∈ l, q a = true ∧ p a = false) → (l.filter p).length < (l.filter q).length
  | [], _, ⟨a, h, _⟩ => by simp at h
  | a :: l, h, ⟨b, hb, h1, h2⟩ => by
    have hr : ∀ c ∈ l, p c = true → q c = true := fun c hc => h c (by simp [hc])
    have ih := filter_le hr
    have ha := h a (by simp)
    rcases List.mem_cons.1 hb with e | hb
    · subst e
      rw [List.filter_cons_of_neg (by simp [h2]), List.filter_cons_of_pos (by simp [h1]), List.length_cons]; omega
    · have ih2 := filter_lt hr ⟨b, hb, h1, h2⟩
      cases hp : p a <;> cases hq : q a
      · rw [List.filter_cons_of_neg (by simp [hp]), List.filter_cons_of_neg (by simp [hq])]; exact ih2
      · rw [List.filter_cons_of_neg (by simp [hp]), List.filter_cons_of_pos (by simp [hq]), List.length_cons]; omega
      · rw [ha hp] at hq; cases hq
      · rw [List.filter_cons_of_pos (by simp [hp]), List.filter_cons_of_pos (by simp [hq]), List.length_cons, List.length_cons]; omega

theorem opn_le {L : List (List Int)} {V : List Int} {n : Int} (h : (V.length : Int) = n) : opn L V ≤ nvs L n := by
  unfold opn nvs
  refine filter_le fun v hv h1 => ?_
  simp only [Bool.and_eq_true, decide_eq_true_eq] at h1 ⊢
  refine ⟨?_, h1.2⟩
  by_cases hl : v - 1 < V.length
  · omega
  · have : V.getD (v - 1) 1 = 1 := by simp [List.getD, List.getElem?_eq_none (show V.length ≤ v - 1 by omega)]
    rw [this] at h1
    exact absurd h1.1 (by decide)
theorem opn_lt {L : List (List Int)} {V : List Int} {n x : Int} (hl : (V.length : Int) = n) (hn : n ≤ 200) (h0 : x ≠ 0) (h1 : -n ≤ x) (h2 : x ≤ n) (ho : occ L x.natAbs = true) (hv : valP V x = 0) : opn L (setP V x 1) < opn L V := by
  unfold opn
  have hi : x.natAbs - 1 < V.length := by omega
  have hg : ∀ z : Int, V.getD (x.natAbs - 1) z = 0 := fun z => by
    unfold valP at hv
    have : V.getD (x.natAbs - 1) 0 = 0 := by split at hv <;> omega
    simpa [List.getD, hi] using this
  refine filter_lt (fun v _ h => ?_) ⟨x.natAbs, List.mem_range'_1.2 ⟨by omega, by omega⟩, ?_, ?_⟩
  · simp only [Bool.and_eq_true, decide_eq_true_eq] at h ⊢
    refine ⟨?_, h.2⟩
    have h3 := h.1
    unfold setP at h3
    rw [getD_set hi] at h3
    split at h3
    · rename_i e; rw [← e]; exact hg 1
    · exact h3
  · simp only [Bool.and_eq_true, decide_eq_true_eq]; exact ⟨hg 1, ho⟩
  · unfold setP
    rw [getD_set hi, if_pos rfl]
    have : (if x < 0 then -(1 : Int) else 1) ≠ 0 := by split <;> omega
    simp [this]

/-! ### steps -/
def StepOk (m : Nat) (C : List (List Int)) (j : Nat) (s : T_api_Step) : Prop :=
  0 ≤ s.Left ∧ s.Left < ((m + j : Nat) : Int) ∧ 0 ≤ s.Right ∧ s.Right < ((m + j : Nat) : Int) ∧ ResolveP (C.getD s.Left.toNat []) (C.getD s.Right.toNat []) s.Pivot = (true, C.getD (m + j) [])
structure CInv (n : Int) (L C : List (List Int)) (K : List (ByteArray × Int)) (S : List T_api_Step) : Prop where
  n0 : 0 ≤ n
  n1 : n ≤ 200
  lenL : L.length ≤ 4000
  lenC : C.length = L.length + S.length
  lenS : S.length ≤ 20000
  pre : ∀ i, i < L.length → C.getD i [] = L.getD i []
  ok : ∀ c ∈ C, COk n c
  oc : ∀ c ∈ C, ∀ x ∈ c, occ L x.natAbs = true
  stp : ∀ j (hj : j < S.length), StepOk L.length C j S[j]
  kn : ∀ p ∈ K, 0 ≤ p.2 ∧ p.2 < C.length ∧ keyM (C.getD p.2.toNat []) = some p.1

theorem getD_app {α : Type} {C : List α} {c z : α} {i : Nat} (h : i < C.length) : (C ++ [c]).getD i z = C.getD i z := by
  simp [List.getD, List.getElem?_append_left h]
theorem getD_last {α : Type} {C : List α} {c z : α} : (C ++ [c]).getD C.length z = c := by simp [List.getD]
theorem getD_mem {α : Type} {C : List α} {z : α} {i : Nat} (h : i < C.length) : C.getD i z ∈ C := by
  simp only [List.getD, List.getElem?_eq_getElem h, Option.getD_some]; exact List.getElem_mem h

theorem COk.abs {n : Int} {c : List Int} (h : COk n c) (hn : n ≤ 200) {x : Int} (hx : x ∈ c) : x.natAbs ≤ 200 := by have := h.rng x hx; omega

theorem CInv.add {n : Int} {L C : List (List Int)} {K : List (ByteArray × Int)} {S : List T_api_Step} (h : CInv n L C K S) (hs : S.length < 20000) {i k p : Int} {c : List Int} {t : ByteArray}
    (hi0 : 0 ≤ i) (hi : i < C.length) (hk0 : 0 ≤ k) (hk : k < C.length) (hr : ResolveP (C.getD i.toNat []) (C.getD k.toNat []) p = (true, c)) (ht : keyM c = some t) :
    CInv n L (C ++ [c]) (mapPut K t (C.length : Int)) (S ++ [⟨i, k, p⟩]) := by
  obtain ⟨r1, r2, r3, r4, r5, r6, r7⟩ := ResolveP_true hr
  have hic : C.getD i.toNat [] ∈ C := getD_mem (by omega)
  have hkc : C.getD k.toNat [] ∈ C := getD_mem (by omega)
  have hcm : ∀ x ∈ c, x ∈ C.getD i.toNat [] ∨ x ∈ C.getD k.toNat [] := fun x hx => (mem_lits.1 ((r7 x).1 hx)).1
  have hcok : COk n c := ⟨r6.len, fun x hx => by
    rcases hcm x hx with h1 | h1
    · exact (h.ok _ hic).rng x h1
    · exact (h.ok _ hkc).rng x h1, r6.asc⟩
  have hlC := h.lenC
  refine ⟨h.n0, h.n1, h.lenL, by simp; omega, by simp; omega, fun j hj => by rw [getD_app (by omega)]; exact h.pre j hj, fun d hd => ?_, fun d hd x hx => ?_, fun j hj => ?_, fun q hq => ?_⟩
  · rcases List.mem_append.1 hd with h1 | h1
    · exact h.ok d h1
    · rw [List.mem_singleton.1 h1]; exact hcok
  · rcases List.mem_append.1 hd with h1 | h1
    · exact h.oc d h1 x hx
    · rw [List.mem_singleton.1 h1] at hx
      rcases hcm x hx with h2 | h2
      · exact h.oc _ hic x h2
      · exact h.oc _ hkc x h2
  · by_cases e : j < S.length
    · rw [List.getElem_append_left e]
      obtain ⟨q1, q2, q3, q4, q5⟩ := h.stp j e
      refine ⟨q1, q2, q3, q4, ?_⟩
      rw [getD_app (by omega), getD_app (by omega), getD_app (by omega)]; exact q5
    · have e2 : j = S.length := by simp at hj; omega
      subst e2
      rw [List.getElem_append_right (Nat.le_refl _)]
      simp only [Nat.sub_self, List.getElem_cons_zero]
      refine ⟨hi0, by dsimp only; omega, hk0, by dsimp only; omega, ?_⟩
      dsimp only
      rw [getD_app (by omega), getD_app (by omega), ← hlC, getD_last]; exact hr
  · rcases mapPut_mem hq with h1 | h1
    · obtain ⟨q1, q2, q3⟩ := h.kn q h1
      refine ⟨q1, by simp; omega, ?_⟩
      rw [getD_app (by omega)]; exact q3
    · subst h1
      refine ⟨by dsimp only; omega, by dsimp only; simp only [List.length_append, List.length_cons, List.length_nil]; omega, ?_⟩
      dsimp only
      rw [Int.toNat_natCast, getD_last]; exact ht

theorem outR_nvs {n : Int} {L : List (List Int)} {X : List Int} (h : ∀ x ∈ X, (x.natAbs : Int) ≤ n ∧ occ L x.natAbs = true) : (outR X).length ≤ nvs L n := by
  unfold outR nvs
  suffices hh : ∀ l : List Nat, (l.filterMap (pickV X)).length ≤ (l.filter fun v : Nat => decide ((v : Int) ≤ n) && occ L v).length from hh _
  intro l
  induction l with
  | nil => simp
  | cons v l ih =>
    cases hp : pickV X v with
    | none =>
      rw [List.filterMap_cons_none hp]
      refine Nat.le_trans ih ?_
      cases hq : (decide ((v : Int) ≤ n) && occ L v) with
      | true => rw [List.filter_cons_of_pos (by simpa using hq), List.length_cons]; omega
      | false => rw [List.filter_cons_of_neg (by simpa using hq)]; exact Nat.le_refl _
    | some x =>
      obtain ⟨h1, h2⟩ := pickV_abs hp
      have h3 := h x h2
      rw [h1] at h3
      rw [List.filterMap_cons_some hp, List.filter_cons_of_pos (by simp [h3]), List.length_cons, List.length_cons]
      omega

/-- what learn returns -/
structure LPost (n : Int) (L : List (List Int)) (V : List Int) (C : List (List Int)) (S : List T_api_Step) (nd : Int) (r : Int × List (ByteArray × Int) × Int × Bool × List (List Int) × List T_api_Step) : Prop where
  inv : CInv n L r.2.2.2.2.1 r.2.1 r.2.2.2.2.2
  nd : r.2.2.1 = nd
  lenC : C.length ≤ r.2.2.2.2.1.length
  lenS : r.2.2.2.2.2.length ≤ S.length + 1
  ext : ∀ i, i < C.length → r.2.2.2.2.1.getD i [] = C.getD i []
  sure : S.length < 20000 → nvs L n ≤ 50 → r.2.2.2.1 = false
  res : r.2.2.2.1 = false → 0 ≤ r.1 ∧ r.1 < r.2.2.2.2.1.length ∧ FalC V (r.2.2.2.2.1.getD r.1.toNat []) ∧ ∀ i, i < r.2.2.2.2.1.length → r.2.2.2.2.1.getD i [] = [] → (i : Int) = r.1 ∧ i + 1 = r.2.2.2.2.1.length

theorem learn_plain {n : Int} {L : List (List Int)} {V : List Int} {C : List (List Int)} {K : List (ByteArray × Int)} {S : List T_api_Step} {nd : Int} (hI : CInv n L C K S) (hV : VV n V) (hne : ∀ c ∈ C, c ≠ [])
    {i k x : Int} (h0 : x ≠ 0) (hi0 : 0 ≤ i) (hi : i < C.length) (hk0 : 0 ≤ k) (hk : k < C.length) (hix : x ∈ C.getD i.toNat []) (hkx : -x ∈ C.getD k.toNat [])
    (hiF : ∀ y ∈ C.getD i.toNat [], y = x ∨ valP V y = -1) (hkF : ∀ y ∈ C.getD k.toNat [], y = -x ∨ valP V y = -1) :
    T (proof_search_learn_m V C K S nd false i k x) (LPost n L V C S nd) := by
  have hn0 := hI.n0
  have hn1 := hI.n1
  have hlC := hI.lenC
  have hlL := hI.lenL
  have hlS := hI.lenS
  have hxr := (hI.ok _ (getD_mem (z := []) (show i.toNat < C.length by omega))).rng x hix
  unfold proof_search_learn_m
  -- the two ways
  refine T.joinP (P := fun j => 0 ≤ j.1 ∧ j.1 < C.length ∧ 0 ≤ j.2.1 ∧ j.2.1 < C.length ∧ 0 < j.2.2 ∧ j.2.2 ∈ C.getD j.1.toNat [] ∧ -j.2.2 ∈ C.getD j.2.1.toNat [] ∧ (∀ y ∈ C.getD j.1.toNat [], y = j.2.2 ∨ valP V y = -1) ∧ (∀ y ∈ C.getD j.2.1.toNat [], y = -j.2.2 ∨ valP V y = -1)) ?_ ?_
  rotate_left
  · intro kk hkk
    refine T.cond (fun h => hkk _ ?_) fun h => hkk _ ?_
    · have h := of_decide_eq_true h
      rw [ineg64 (by omega) (by omega)]
      refine ⟨hk0, hk, hi0, hi, by dsimp only; omega, hkx, by dsimp only; rw [Int.neg_neg]; exact hix, hkF, fun y hy => ?_⟩
      dsimp only; rw [Int.neg_neg]; exact hiF y hy
    · have h := of_decide_eq_false h
      exact ⟨hi0, hi, hk0, hk, by dsimp only; omega, hix, hkx, hiF, hkF⟩
  rintro ⟨a, b, p⟩ ⟨a0, a1, b0, b1, p0, pa, pb, fa, fb⟩
  dsimp only at a0 a1 b0 b1 p0 pa pb fa fb ⊢
  have hac : C.getD a.toNat [] ∈ C := getD_mem (by omega)
  have hbc : C.getD b.toNat [] ∈ C := getD_mem (by omega)
  rw [idxM_getD' [] a0 a1, some_bind, idxM_getD' [] b0 b1, some_bind, Resolve_plain, some_bind]
  generalize hA : C.getD a.toNat [] = A at *
  generalize hB : C.getD b.toNat [] = B at *
  have c200 : ∀ c ∈ C, COk 200 c := fun c hc => ⟨(hI.ok c hc).len, fun x hx => by have := (hI.ok c hc).rng x hx; omega, (hI.ok c hc).asc⟩
  have hlit : ∀ y ∈ litsR A B p, valP V y = -1 ∧ y ≠ 0 ∧ (y.natAbs : Int) ≤ n ∧ occ L y.natAbs = true := fun y hy => by
    obtain ⟨h1, h2⟩ := mem_lits.1 hy
    rcases h1 with h1 | h1
    · have h3 := (hI.ok _ hac).rng y h1
      refine ⟨(fa y h1).resolve_left (by omega), by omega, by omega, hI.oc _ hac y h1⟩
    · have h3 := (hI.ok _ hbc).rng y h1
      refine ⟨(fb y h1).resolve_left (by omega), by omega, by omega, hI.oc _ hbc y h1⟩
  have htaut : ∀ y ∈ litsR A B p, -y ∉ litsR A B p := fun y hy hy2 => by
    have h1 := hlit y hy
    have h2 := (hlit _ hy2).1
    rw [valP_neg h1.2.1] at h2
    omega
  have hshort : (outR (litsR A B p)).length ≤ nvs L n := outR_nvs fun y hy => (hlit y hy).2.2
  refine T.joinP (P := fun j => (j = true → S.length = 20000 ∨ 50 < nvs L n) ∧ (j = false → S.length < 20000 ∧ ResolveP A B p = (true, (ResolveP A B p).2))) ?_ ?_
  rotate_left
  · intro kk hkk
    refine T.cond (fun h => hkk _ ⟨fun _ => .inr ?_, fun h => by cases h⟩) fun h => hkk _ ⟨fun h1 => .inl ?_, fun h1 => ⟨?_, ?_⟩⟩
    · refine Nat.lt_of_not_le fun hle => ?_
      rw [ResolveP_some (by omega) (c200 _ hac) (c200 _ hbc) pa pb htaut (by omega)] at h
      cases h
    · have := eq_of_beq h1; omega
    · have : ¬ (S.length : Int) = 20000 := fun e => by rw [e] at h1; cases h1
      omega
    · have h2 : (ResolveP A B p).1 = true := by cases hh : (ResolveP A B p).1 <;> rw [hh] at h <;> first | rfl | cases h
      rw [← h2]
  rintro j ⟨j1, j2⟩
  refine T.cond (fun h => .ret ?_) fun h => ?_
  · refine ⟨hI, rfl, Nat.le_refl _, by dsimp only; omega, fun i hi => rfl, fun h1 h2 => ?_, fun h => by cases h⟩
    rcases j1 h with h3 | h3
    · omega
    · omega
  obtain ⟨hS, hR⟩ := j2 h
  generalize (ResolveP A B p).2 = c at hR ⊢
  rw [← hA, ← hB] at hR
  have hR' := ResolveP_true hR
  rw [hA, hB] at hR'
  obtain ⟨r1, r2, r3, r4, r5, r6, r7⟩ := hR'
  have hcF : FalC V c := fun y hy => (hlit y ((r7 y).1 hy)).1
  have hcabs : ∀ y ∈ c, y.natAbs ≤ 200 := fun y hy => by have := (hlit y ((r7 y).1 hy)).2.2.1; omega
  obtain ⟨t, ht⟩ : ∃ t, keyM c = some t := ⟨_, keyM_some r6.len hcabs⟩
  rw [ht, some_bind]
  refine T.joinP (P := fun _ => True) ?_ ?_
  · intro _ _
    rw [appM_eq (by simp; omega), some_bind, appM_eq (by simp; omega), some_bind]
    have hlen : isub .i64 (((C ++ [c]).length : Nat) : Int) 1 = (C.length : Int) := by
      have e : (((C ++ [c]).length : Nat) : Int) = C.length + 1 := by simp
      rw [e, isub64 (by omega) (by omega)]; omega
    rw [hlen]
    refine .ret ⟨hI.add hS a0 a1 b0 b1 hR ht, rfl, by simp, by simp, fun i hi => getD_app hi, fun _ _ => rfl, fun _ => ⟨by dsimp only; omega, by dsimp only; simp only [List.length_append, List.length_cons, List.length_nil]; omega, ?_, fun i hi he => ?_⟩⟩
    · dsimp only; rw [Int.toNat_natCast, getD_last]; exact hcF
    · dsimp only at hi he ⊢
      by_cases e : i < C.length
      · rw [getD_app e] at he
        exact absurd he (hne _ (getD_mem e))
      · have : i = C.length := by simp at hi; omega
        subst this
        exact ⟨rfl, by simp⟩
  · intro kk hkk
    refine T.cond (fun h1 => T.cond (fun h2 => .ret ?_) fun _ => hkk _ trivial) fun _ => hkk _ trivial
    obtain ⟨q1, q2, q3⟩ := hI.kn _ (mapGet_mem (z := 0) h1)
    dsimp only at q1 q2 q3
    have hqc : C.getD (mapGet K t 0).toNat [] ∈ C := getD_mem (by omega)
    have he : C.getD (mapGet K t 0).toNat [] = c := keyM_inj (hI.ok _ hqc).len r6.len (fun y hy => (hI.ok _ hqc).abs hn1 hy) hcabs q3 ht
    refine ⟨hI, rfl, Nat.le_refl _, by dsimp only; omega, fun i hi => rfl, fun _ _ => rfl, fun _ => ⟨q1, q2, ?_, fun i hi he2 => absurd he2 (hne _ (getD_mem hi))⟩⟩
    dsimp only; rw [he]; exact hcF
end Go.Dc

set_option linter.unusedVariables false
/-! Models with a bound on the rounds of their loops, which can be computed. -/
namespace Go.Dc
variable {α β σ ρ S A B R : Type}

def Le (m m' : Option α) : Prop := ∀ r, m = some r → m' = some r
def loopF (k : Nat) (f : σ → Option (Sum ρ σ)) (s : σ) : Option ρ := loopN f k s

theorem Le.refl (m : Option α) : Le m m := fun _ h => h
theorem Le.bind {m m' : Option α} {f f' : α → Option β} (h : Le m m') (hf : ∀ a, Le (f a) (f' a)) : Le (m.bind f) (m'.bind f') := by
  intro r hr
  cases hm : m with
  | none => rw [hm] at hr; cases hr
  | some a => rw [hm] at hr; rw [h a hm]; exact hf a r hr
theorem Le.cond {b : Bool} {x y x' y' : Option α} (h1 : Le x x') (h2 : Le y y') : Le (bif b then x else y) (bif b then x' else y') := by
  cases b
  · exact h2
  · exact h1
theorem Le.letM {x : S} {k k' : S → Option α} (h : ∀ a, Le (k a) (k' a)) : Le (letM x k) (letM x k') := h x
theorem Le.join {f f' : S → Option R} {g g' : (S → Option R) → Option R} (h1 : ∀ x, Le (f x) (f' x)) (h2 : ∀ k k' : S → Option R, (∀ x, Le (k x) (k' x)) → Le (g k) (g' k')) :
    Le (joinM f g) (joinM f' g') := h2 f f' h1
theorem Le.sumK {kr : A → Option R} {kb kb' : B → Option R} (h : ∀ b, Le (kb b) (kb' b)) : ∀ a, Le (sumK kr kb a) (sumK kr kb' a)
  | .inl a => .refl _
  | .inr b => h b
theorem Le.loop {k : Nat} {f f' : σ → Option (Sum ρ σ)} {s : σ} (h : ∀ s, Le (f s) (f' s)) : Le (loopF k f s) (loopC f' s) := by
  intro r hr
  refine loopC_iff.2 ⟨k, ?_⟩
  unfold loopF at hr
  induction k generalizing s with
  | zero => simp [loopN] at hr
  | succ k ih =>
    simp only [loopN] at hr ⊢
    cases hf : f s with
    | none => rw [hf] at hr; cases hr
    | some o =>
      rw [hf] at hr
      rw [h s o hf]
      cases o with
      | inl q => exact hr
      | inr s' => exact ih hr
end Go.Dc

/-! More of models that can be computed. -/
namespace Go.Dc
variable {α β σ ρ S A B C R : Type}
def meetF [DecidableEq A] (x y : Option A) : Option A := match x, y with
  | some a, some b => if a = b then some a else none
  | _, _ => none
theorem Le.meetO {m1 m2 m1' m2' : Option A} (h1 : Le m1 m1') (h2 : Le m2 m2') : Le (meetO m1 m2) (meetO m1' m2') := fun r h => by
  obtain ⟨a, b⟩ := meetO_some h
  rw [h1 r a, h2 r b, meetO_self]
theorem Le.meet [DecidableEq A] {m1 m2 m1' m2' : Option A} (h1 : Le m1 m1') (h2 : Le m2 m2') : Le (meetF m1 m2) (Go.Dc.meetO m1' m2') := fun r h => by
  cases m1 with
  | none => simp [meetF] at h
  | some a =>
    cases m2 with
    | none => simp [meetF] at h
    | some b =>
      unfold meetF at h
      simp only at h
      by_cases e : a = b
      · rw [if_pos e] at h
        subst e; cases h
        rw [h1 _ rfl, h2 _ rfl, meetO_self]
      · rw [if_neg e] at h; cases h
theorem Le.sumKK {k1 k1' : A → Option R} {k2 k2' : B → Option R} (h1 : ∀ a, Le (k1 a) (k1' a)) (h2 : ∀ b, Le (k2 b) (k2' b)) : ∀ a, Le (Go.Dc.sumK k1 k2 a) (Go.Dc.sumK k1' k2' a)
  | .inl a => h1 a
  | .inr b => h2 b
theorem Le.loopC {f f' : σ → Option (Sum ρ σ)} {s : σ} (h : ∀ s, Le (f s) (f' s)) : Le (Go.Dc.loopC f s) (Go.Dc.loopC f' s) := by
  intro r hr
  obtain ⟨n, hn⟩ := loopC_iff.1 hr
  exact Le.loop (k := n) h r hn
end Go.Dc
