/- Part P28C.Pick of a proof: lemmas. -/
import Derived.Test.YtodnndlcnignbaaP28CRefEnd
set_option linter.unusedVariables false
set_option linter.unusedSimpArgs false
/-! What a player picks among the legal attacks. -/
namespace Go.Dc
abbrev Pl := T_api_Player

theorem index_loop {α : Type} {l : List α} {p : α → Bool} {f : Int → Option (Sum (Sum Int Unit) Int)}
    (h : ∀ i (hi : i < l.length), f (i : Int) = some (bif p l[i] then .inl (.inl (i : Int)) else .inr ((i : Int) + 1)))
    (hend : f (l.length : Int) = some (.inl (.inr ()))) : loopC f 0 = some (match l.findIdx? p with | some k => .inl (k : Int) | none => .inr ()) := by
  suffices hh : ∀ m i, l.length - i ≤ m → i ≤ l.length → loopC f (i : Int) = some (match (l.drop i).findIdx? p with | some k => .inl ((i + k : Nat) : Int) | none => .inr ()) by
    have := hh _ 0 (Nat.le_refl _) (Nat.zero_le _)
    simpa using this
  intro m
  induction m with
  | zero =>
    intro i h1 h2
    have e : i = l.length := by omega
    subst e
    rw [loopC_eq, hend]; simp
  | succ m ih =>
    intro i h1 h2
    by_cases e : i = l.length
    · subst e; rw [loopC_eq, hend]; simp
    · have hi : i < l.length := by omega
      rw [loopC_eq, h i hi, List.drop_eq_getElem_cons hi, List.findIdx?_cons]
      cases hp : p l[i] with
      | true => simp
      | false =>
        simp only [cond_false, Option.bind_some]
        rw [show ((i : Int) + 1) = ((i + 1 : Nat) : Int) from rfl, ih (i + 1) (by omega) (by omega)]
        cases (l.drop (i + 1)).findIdx? p with
        | none => simp
        | some k => simp; omega

theorem containsI {l : List Int} {x : Int} (hl : l.length ≤ 4611686018427387904) : slices_Contains_int_int_m l x = some (decide (x ∈ l)) := by
  unfold slices_Contains_int_int_m slices_Index_int_int_m
  rw [index_loop (l := l) (p := fun y => x == y) (fun i hi => ?_) ?_]
  · cases hf : l.findIdx? (fun y => x == y) with
    | none =>
      have : x ∉ l := fun hx => by
        have := List.findIdx?_eq_none_iff.1 hf x hx
        simp at this
      simp [sumK, letM, this]
    | some k =>
      obtain ⟨hk, h1, _⟩ := List.findIdx?_eq_some_iff_getElem.1 hf
      have : x ∈ l := by simp at h1; rw [h1]; exact List.getElem_mem hk
      simp [sumK, letM, this]
  · simp only [slices_Index_int_int_l1]
    rw [show decide ((l.length : Int) < l.length) = false from decide_eq_false (by omega)]
    rfl
  · simp only [slices_Index_int_int_l1]
    rw [show decide ((i : Int) < l.length) = true from decide_eq_true (by omega), idxM_nat hi, some_bind, iadd1 (by omega)]
    cases x == l[i] <;> rfl

/-- the attacks that a player may make -/
def keepF (p : Pl) (x : Mv) : Bool := decide (x.Node ∈ p.Pool) && !decide (x.Node ∈ p.Withheld)

/-- the lists of a player are no longer than the program can bear -/
structure Len (p : Pl) : Prop where
  po : p.Pool.length ≤ 100000000
  wi : p.Withheld.length ≤ 100000000
  sc : p.Script.length ≤ 100000000

theorem Choose1 {p : Pl} (hp : Len p) {x : Mv} : participant_Choose_1_m x p = some (!keepF p x) := by
  have := hp.po; have := hp.wi
  unfold participant_Choose_1_m keepF
  rw [containsI (by omega), some_bind]
  by_cases h : x.Node ∈ p.Pool
  · rw [decide_eq_true h, containsI (by omega)]; simp
  · rw [decide_eq_false h]; simp

theorem Delete_plain {p : Pl} (hp : Len p) {s : List Mv} (hs : s.length ≤ 100000000) : slices_DeleteFunc_api_Move_api_Move_m s p = some (s.filter (keepF p)) := by
  unfold slices_DeleteFunc_api_Move_api_Move_m slices_IndexFunc_api_Move_api_Move_m
  rw [index_loop (l := s) (p := fun y => !keepF p y) (fun i hi => ?_) ?_]
  · cases hf : s.findIdx? (fun y => !keepF p y) with
    | none =>
      have : s.filter (keepF p) = s := List.filter_eq_self.2 fun x hx => by
        have := List.findIdx?_eq_none_iff.1 hf x hx
        simpa using this
      simp [sumK, this]
    | some k =>
      obtain ⟨hk, h1, h2⟩ := List.findIdx?_eq_some_iff_getElem.1 hf
      simp only [sumK, Option.bind_some]
      rw [show (((k : Nat) : Int) == -1) = false from by simp, iadd1 (by omega)]
      simp only [cond_false]
      have hpre : (s.take k).filter (keepF p) = s.take k := List.filter_eq_self.2 fun x hx => by
        obtain ⟨j, hj, rfl⟩ := List.mem_iff_getElem.1 hx
        have := h2 j (by simp at hj; omega)
        simpa using this
      refine T.eq (T.bind (P := fun r => r.1.length = s.length ∧ r.2 = ((s.filter (keepF p)).length : Int) ∧ r.1.take (s.filter (keepF p)).length = s.filter (keepF p)) ?_ ?_)
      · refine T.loopK (s.length - (k + 1)) (fun n r => r.2.1 = ((k + 1 + n : Nat) : Int) ∧ k + 1 + n ≤ s.length ∧ r.2.2.length = s.length ∧ r.1 = (((s.take (k + 1 + n)).filter (keepF p)).length : Int) ∧ r.2.2.take ((s.take (k + 1 + n)).filter (keepF p)).length = (s.take (k + 1 + n)).filter (keepF p) ∧ r.2.2.drop (k + 1 + n) = s.drop (k + 1 + n) ∧ ((s.take (k + 1 + n)).filter (keepF p)).length < k + 1 + n) ?_ ?_
        · have e : (s.take (k + 1)).filter (keepF p) = s.take k := by
            rw [List.take_succ_eq_append_getElem hk, List.filter_append, hpre]
            have : keepF p s[k] = false := by simpa using h1
            simp [this]
          refine ⟨rfl, by omega, rfl, ?_, ?_, rfl, ?_⟩
          · simp only [Nat.add_zero]; rw [e]; simp; omega
          · simp only [Nat.add_zero]; rw [e]; simp
          · simp only [Nat.add_zero]; rw [e]; simp; omega
        · rintro n ⟨_, _, q⟩ ⟨rfl, hn, hq, rfl, ht, hd, hlt⟩
          dsimp only [slices_DeleteFunc_api_Move_api_Move_l1] at *
          refine T.cond (fun g => ?_) fun g => ?_
          · simp only [decide_eq_true_eq] at g
            have g' : k + 1 + n < s.length := by omega
            have hx : q[k + 1 + n]'(by omega) = s[k + 1 + n] := by
              have e := congrArg (fun l : List Mv => l[0]?) hd
              simp only [List.getElem?_drop, Nat.add_zero] at e
              rw [List.getElem?_eq_getElem (by omega), List.getElem?_eq_getElem g'] at e
              exact Option.some.inj e
            have hd' : q.drop (k + 1 + (n + 1)) = s.drop (k + 1 + (n + 1)) := by
              have e := congrArg (fun l : List Mv => l.drop 1) hd
              simpa [List.drop_drop, Nat.add_assoc] using e
            have htk : s.take (k + 1 + (n + 1)) = s.take (k + 1 + n) ++ [s[k + 1 + n]] := List.take_succ_eq_append_getElem g'
            rw [idxM_nat (by omega), some_bind, hx, Choose1 hp, some_bind]
            cases hkp : keepF p s[k + 1 + n] with
            | true =>
              simp only [Bool.not_true, Bool.not_false, cond_true]
              rw [idxM_nat (by omega), some_bind, iadd1 (by omega), iadd1 (by omega)]
              have e2 : (s.take (k + 1 + (n + 1))).filter (keepF p) = (s.take (k + 1 + n)).filter (keepF p) ++ [s[k + 1 + n]] := by rw [htk, List.filter_append]; simp [hkp]
              refine .letM (.letM (.ret ⟨by omega, rfl, by omega, by simp [hq], ?_, ?_, ?_, ?_⟩))
              · dsimp only; rw [e2]; simp
              · dsimp only
                rw [e2, List.length_append, List.length_singleton, Int.toNat_natCast]
                rw [List.take_succ_eq_append_getElem (by simp; omega), List.take_set_of_le (Nat.le_refl _), ht]
                simp
              · dsimp only
                rw [Int.toNat_natCast, List.drop_set_of_lt (by omega)]
                exact hd'
              · rw [e2]; simp; omega
            | false =>
              simp only [Bool.not_true, Bool.not_false, cond_false]
              rw [iadd1 (by omega)]
              have e2 : (s.take (k + 1 + (n + 1))).filter (keepF p) = (s.take (k + 1 + n)).filter (keepF p) := by rw [htk, List.filter_append]; simp [hkp]
              refine .letM (.ret ⟨by omega, rfl, by omega, hq, ?_, ?_, hd', ?_⟩)
              · dsimp only; rw [e2]
              · dsimp only; rw [e2]; exact ht
              · rw [e2]; omega
          · simp only [decide_eq_false_iff_not] at g
            have e : s.take (k + 1 + n) = s := List.take_of_length_le (by omega)
            rw [e] at ht
            refine .ret ⟨hq, ?_, ht⟩
            rw [e]
      · rintro ⟨q, i⟩ ⟨hq, rfl, ht⟩
        dsimp only at *
        have hle := List.length_filter_le (keepF p) s
        rw [slM_eq (by omega) (by omega) (by omega), some_bind, slM_eq (by omega) (by omega) (by simp; omega), some_bind]
        refine .ret ?_
        simp only [Int.toNat_natCast, Int.toNat_zero, List.drop_zero]
        rw [List.append_assoc, List.take_append_of_le_length (by simp; omega), List.take_take, Nat.min_self, ht]
  · simp only [slices_IndexFunc_api_Move_api_Move_l1]
    rw [show decide ((s.length : Int) < s.length) = false from decide_eq_false (by omega)]
    rfl
  · simp only [slices_IndexFunc_api_Move_api_Move_l1]
    rw [show decide ((i : Int) < s.length) = true from decide_eq_true (by omega), idxM_nat hi, some_bind, Choose1 hp, some_bind, iadd1 (by omega)]
    cases !keepF p s[i] <;> rfl
end Go.Dc
