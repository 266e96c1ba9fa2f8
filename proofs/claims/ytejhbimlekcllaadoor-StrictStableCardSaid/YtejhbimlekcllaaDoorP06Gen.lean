/- Part P06.Gen of a proof: lemmas. -/
import Derived.Test.YtejhbimlekcllaaDoorDcCut4
import Derived.Test.YtejhbimlekcllaaDoorDcBa
set_option linter.unusedVariables false
set_option linter.unusedSimpArgs false
set_option linter.unusedSectionVars false
/-! Loops over lists that look for something. -/
namespace Go.Dc
section
variable {α : Type}

/-- an index that a function finds -/
theorem ix_loop {s : List α} {g : α → Option Bool} {p : α → Bool} (hl : s.length ≤ 1000000) (hg : ∀ x ∈ s, g x = some (p x)) {F : Int → Option (Sum (Sum Int Unit) Int)}
    (hF : F = fun k => bif decide (k < (s.length : Int)) then (idxM s k).bind fun t => (g t).bind fun b => bif b then some (.inl (.inl k)) else some (.inr (iadd .i64 k 1)) else some (.inl (.inr ()))) :
    T (loopC F 0) fun o => match o with | .inl r => ∃ k : Nat, r = k ∧ s.findIdx? p = some k | .inr _ => s.findIdx? p = none := by
  subst hF
  refine T.loopK s.length (fun k z => k ≤ s.length ∧ z = (k : Int) ∧ ∀ i, i < k → ∀ (hi : i < s.length), p s[i] = false) ⟨by omega, rfl, by omega⟩ ?_
  rintro k _ ⟨hk, rfl, hn⟩
  refine T.cond (fun c => ?_) fun c => ?_
  · have hk2 : k < s.length := by have := of_decide_eq_true c; omega
    rw [idxM_nat hk2, some_bind, hg _ (List.getElem_mem hk2), some_bind, iadd1 (by omega)]
    refine T.cond (fun c2 => .ret ⟨k, rfl, ?_⟩) fun c2 => .ret ⟨hk2, hk2, rfl, fun i hi h => ?_⟩
    · exact List.findIdx?_eq_some_iff_getElem.2 ⟨hk2, c2, fun j hj => by simp [hn j hj (by omega)]⟩
    · rcases Nat.lt_or_ge i k with h2 | h2
      · exact hn i h2 h
      · have : i = k := by omega
        subst this; exact c2
  · have hk2 : k = s.length := by have := of_decide_eq_false c; omega
    refine .ret ?_
    show s.findIdx? p = none
    rw [List.findIdx?_eq_none_iff]
    intro x hx
    obtain ⟨i, hi, rfl⟩ := List.getElem_of_mem hx
    exact hn i (by omega) hi
theorem ix_eq {s : List α} {g : α → Option Bool} {p : α → Bool} (hl : s.length ≤ 1000000) (hg : ∀ x ∈ s, g x = some (p x)) {F : Int → Option (Sum (Sum Int Unit) Int)}
    (hF : F = fun k => bif decide (k < (s.length : Int)) then (idxM s k).bind fun t => (g t).bind fun b => bif b then some (.inl (.inl k)) else some (.inr (iadd .i64 k 1)) else some (.inl (.inr ()))) :
    (Option.bind (loopC F 0) (sumK (fun a : Int => some a) fun _ : Unit => some (-1))) = some (match s.findIdx? p with | some k => (k : Int) | none => -1) := by
  refine T.eq (T.bind (ix_loop hl hg hF) fun o ho => ?_)
  rcases o with r | u
  · obtain ⟨k, rfl, h⟩ := ho
    exact .ret (by rw [h])
  · exact .ret (by rw [show s.findIdx? p = none from ho])
theorem any_ix {s : List α} {p : α → Bool} : decide ((match s.findIdx? p with | some k => (k : Int) | none => -1) ≥ 0) = s.any p := by
  cases h : s.findIdx? p with
  | none =>
    rw [List.findIdx?_eq_none_iff] at h
    have : s.any p = false := by rw [List.any_eq_false]; intro x hx; simp [h x hx]
    rw [this]; rfl
  | some k =>
    rw [List.findIdx?_eq_some_iff_getElem] at h
    obtain ⟨hk, hp, _⟩ := h
    have : s.any p = true := List.any_eq_true.2 ⟨_, List.getElem_mem hk, hp⟩
    rw [this]; exact decide_eq_true (show (k : Int) ≥ 0 by omega)
theorem cf_eq {s : List α} {g : α → Option Bool} {p : α → Bool} (hl : s.length ≤ 1000000) (hg : ∀ x ∈ s, g x = some (p x)) {F : Int → Option (Sum (Sum Int Unit) Int)}
    (hF : F = fun k => bif decide (k < (s.length : Int)) then (idxM s k).bind fun t => (g t).bind fun b => bif b then some (.inl (.inl k)) else some (.inr (iadd .i64 k 1)) else some (.inl (.inr ()))) :
    (Option.bind (Option.bind (loopC F 0) (sumK (fun a : Int => some a) fun _ : Unit => some (-1))) fun t1 => letM (decide (t1 ≥ 0)) fun t2 => some t2) = some (s.any p) := by
  rw [ix_eq hl hg hF, some_bind, letM_eq, any_ix]

/-- a test of all -/
theorem all_eq {s : List α} {g : α → Option Bool} {p : α → Bool} (hl : s.length ≤ 1000000) (hg : ∀ x ∈ s, g x = some (p x)) {F : Int → Option (Sum (Sum Bool Unit) Int)}
    (hF : F = fun k => bif decide (k < (s.length : Int)) then (idxM s k).bind fun t => (g t).bind fun b => bif !b then some (.inl (.inl false)) else some (.inr (iadd .i64 k 1)) else some (.inl (.inr ()))) :
    (Option.bind (loopC F 0) (sumK (fun a : Bool => some a) fun _ : Unit => some true)) = some (s.all p) := by
  subst hF
  refine T.eq (T.bind (P := fun o => match o with | .inl r => r = false ∧ s.all p = false | .inr _ => s.all p = true) ?_ fun o ho => ?_)
  · refine T.loopK s.length (fun k z => k ≤ s.length ∧ z = (k : Int) ∧ ∀ i, i < k → ∀ (hi : i < s.length), p s[i] = true) ⟨by omega, rfl, by omega⟩ ?_
    rintro k _ ⟨hk, rfl, hn⟩
    refine T.cond (fun c => ?_) fun c => ?_
    · have hk2 : k < s.length := by have := of_decide_eq_true c; omega
      rw [idxM_nat hk2, some_bind, hg _ (List.getElem_mem hk2), some_bind, iadd1 (by omega)]
      refine T.cond (fun c2 => .ret ⟨rfl, ?_⟩) fun c2 => .ret ⟨hk2, hk2, rfl, fun i hi h => ?_⟩
      · rw [List.all_eq_false]; exact ⟨_, List.getElem_mem hk2, by simpa using c2⟩
      · rcases Nat.lt_or_ge i k with h2 | h2
        · exact hn i h2 h
        · have : i = k := by omega
          subst this; simpa using c2
    · have hk2 : k = s.length := by have := of_decide_eq_false c; omega
      refine .ret ?_
      show s.all p = true
      rw [List.all_eq_true]
      intro x hx
      obtain ⟨i, hi, rfl⟩ := List.getElem_of_mem hx
      exact hn i (by omega) hi
  · rcases o with r | u
    · exact .ret (by rw [ho.1, ho.2])
    · exact .ret (by rw [show s.all p = true from ho])

/-- slices.DeleteFunc -/
theorem df_eq {s : List α} {g : α → Option Bool} {p : α → Bool} {z : α} (hl : s.length ≤ 1000000) (hg : ∀ x ∈ s, g x = some (p x)) {ix : Option Int} (hix : ix = some (match s.findIdx? p with | some k => (k : Int) | none => -1))
    {F : Int × Int × List α → Option (Sum (List α × Int) (Int × Int × List α))}
    (hF : F = fun st => bif decide (st.2.1 < (st.2.2.length : Int)) then (idxM st.2.2 st.2.1).bind fun v => (g v).bind fun b => bif !b then (idxM st.2.2 st.1).bind fun _ => letM (iadd .i64 st.1 1) fun i29 => letM (iadd .i64 st.2.1 1) fun j30 => some (.inr (i29, j30, st.2.2.set (Int.toNat st.1) v)) else letM (iadd .i64 st.2.1 1) fun j31 => some (.inr (st.1, j31, st.2.2)) else some (.inl (st.2.2, st.1))) :
    (ix.bind fun i1 => bif i1 == (-1) then some s else (loopC F (i1, iadd .i64 i1 1, s)).bind fun q32 => (slM q32.1 q32.2 (q32.1.length : Int)).bind fun _ =>
      (slM (q32.1.take (Int.toNat q32.2) ++ List.replicate (Int.toNat (q32.1.length : Int) - Int.toNat q32.2) z ++ q32.1.drop (Int.toNat (q32.1.length : Int))) 0 q32.2).bind fun t35 => some t35) = some (s.filter fun x => !p x) := by
  subst hix; subst hF
  rw [some_bind]
  cases h : s.findIdx? p with
  | none =>
    rw [List.findIdx?_eq_none_iff] at h
    show (bif ((-1 : Int) == -1) then some s else _) = _
    rw [beq_self_eq_true, cond_true]
    congr 1
    refine (List.filter_eq_self.2 fun x hx => ?_).symm
    simp [h x hx]
  | some n =>
    rw [List.findIdx?_eq_some_iff_getElem] at h
    obtain ⟨hn, hp, hb⟩ := h
    show (bif ((n : Int) == -1) then some s else _) = _
    rw [show ((n : Int) == -1) = false by simp, cond_false, iadd1 (by omega)]
    have hpre : (s.take n).filter (fun x => !p x) = s.take n := List.filter_eq_self.2 fun x hx => by
      obtain ⟨i, hi, rfl⟩ := List.getElem_of_mem hx
      have hi2 : i < n := by rw [List.length_take] at hi; omega
      rw [List.getElem_take]
      have := hb i hi2
      simpa using this
    refine T.eq (T.bind (P := fun q => ∃ i : Nat, q.2 = (i : Int) ∧ q.1.length = s.length ∧ i ≤ s.length ∧ q.1.take i = s.filter fun x => !p x) ?_ ?_)
    · refine T.loopK s.length (fun k st => ∃ i j : Nat, st.1 = (i : Int) ∧ st.2.1 = (j : Int) ∧ j = n + 1 + k ∧ j ≤ s.length ∧ i < j ∧ st.2.2.length = s.length ∧ st.2.2.take i = (s.take j).filter (fun x => !p x) ∧ st.2.2.drop j = s.drop j) ⟨n, n + 1, rfl, rfl, rfl, by omega, by omega, rfl, ?_, rfl⟩ ?_
      · rw [List.take_add_one, List.getElem?_eq_getElem hn, List.filter_append, hpre]
        simp [hp]
      · rintro k ⟨_, _, d⟩ ⟨i, j, rfl, rfl, hj, hjs, hij, hd, ht, hr⟩
        dsimp only at hd ht hr ⊢
        refine T.cond (fun c => ?_) fun c => ?_
        · have hj2 : j < s.length := by have := of_decide_eq_true c; omega
          have hjd : d[j]'(by omega) = s[j] := by
            have e : (d.drop j)[0]? = (s.drop j)[0]? := by rw [hr]
            rw [List.getElem?_drop, List.getElem?_drop, Nat.add_zero, List.getElem?_eq_getElem (by omega), List.getElem?_eq_getElem hj2] at e
            exact Option.some.inj e
          rw [idxM_nat (show j < d.length by omega), some_bind, hjd, hg _ (List.getElem_mem hj2), some_bind, idxM_nat (show i < d.length by omega), some_bind, letM_eq, letM_eq, letM_eq, iadd1 (by omega), iadd1 (by omega)]
          have htj : (s.take (j + 1)).filter (fun x => !p x) = (s.take j).filter (fun x => !p x) ++ (if p s[j] then [] else [s[j]]) := by
            rw [List.take_add_one, List.getElem?_eq_getElem hj2, List.filter_append]
            congr 1; cases hh : p s[j] <;> simp [hh]
          have hrj : d.drop (j + 1) = s.drop (j + 1) := by
            have := congrArg (List.drop 1) hr
            rwa [List.drop_drop, List.drop_drop] at this
          refine T.cond (fun c2 => .ret ⟨by omega, i + 1, j + 1, rfl, rfl, by omega, by omega, by omega, by simp [hd], ?_, ?_⟩) fun c2 => .ret ⟨by omega, i, j + 1, rfl, rfl, by omega, by omega, by omega, hd, ?_, hrj⟩
          · have c2' : p s[j] = false := by simpa using c2
            rw [htj, c2', ← ht]
            simp only [Int.toNat_natCast, Bool.false_eq_true, if_false]
            rw [List.take_add_one, List.getElem?_set_self (by omega), List.take_set_of_le (Nat.le_refl _)]; rfl
          · simp only [Int.toNat_natCast]
            rw [List.drop_set_of_lt (by omega)]; exact hrj
          · have c2' : p s[j] = true := by simpa using c2
            rw [htj, c2', ht]; simp
        · have hj2 : j = s.length := by have := of_decide_eq_false c; omega
          refine .ret ⟨i, rfl, hd, by omega, ?_⟩
          rw [ht, hj2, List.take_length]
    · rintro ⟨d, _⟩ ⟨i, rfl, hd, hi, ht⟩
      dsimp only at hd ht ⊢
      rw [slM_eq (by omega) (by omega) (by omega), some_bind, slM_eq (by omega) (by omega) (by simp; omega), some_bind]
      refine .ret ?_
      simp only [Int.toNat_natCast, Int.toNat_zero, List.drop_zero]
      rw [List.append_assoc, List.take_append_of_le_length (by simp; omega), List.take_take, Nat.min_self, ht]
end

end Go.Dc
