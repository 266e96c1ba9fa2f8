/- Part P38Z.Made of a proof: lemmas. -/
import Derived.Test.YtcpkdjlfgfikcaaGreatDoorP38ZAwake
import Derived.Test.YtcpkdjlfgfikcaaGreatDoorDcBa
import Derived.Test.YtcpkdjlfgfikcaaGreatDoorDcMap
import Derived.Test.YtcpkdjlfgfikcaaGreatDoorLAW38ZF
set_option linter.unusedVariables false
set_option linter.unusedSimpArgs false
set_option linter.unusedSectionVars false
/-! Lists of strings: what the functions on them compute. -/
namespace Go.Dc
/-- is the string in the list? -/
def memB (x : ByteArray) (s : List ByteArray) : Bool := s.any fun t => decide (t = x)
theorem memB_iff {x : ByteArray} {s : List ByteArray} : memB x s = true ↔ x ∈ s := by
  unfold memB; rw [List.any_eq_true]
  exact ⟨fun ⟨t, ht, e⟩ => of_decide_eq_true e ▸ ht, fun h => ⟨x, h, decide_eq_true rfl⟩⟩
section
variable {α : Type}

/-- an index that a function finds -/
theorem ix_loop {s : List α} {g : α → Option Bool} {p : α → Bool} (hl : s.length ≤ 1000000) (hg : ∀ x ∈ s, g x = some (p x)) {F : Int → Option (Sum (Sum Int Unit) Int)}
    (hF : F = fun k => bif decide (k < (s.length : Int)) then (idxM s k).bind fun t => (g t).bind fun b => bif b then some (.inl (.inl k)) else some (.inr (iadd .i64 k 1)) else some (.inl (.inr ()))) :
    T (loopC F 0) fun o => match o with | .inl r => ∃ k : Nat, r = k ∧ s.findIdx? p = some k | .inr _ => s.findIdx? p = none := by
  subst hF
  refine T.loopK s.length (fun k z => k ≤ s.length ∧ z = (k : Int) ∧ ∀ i, i < k → ∀ (hi : i < s.length), p s[i] = false) ⟨by omega, rfl, by omega⟩ ?_
  rintro k _ ⟨hk, rfl, hn⟩
  refine T.cond (fun c => ?_) fun c => ?_
  · have hk2 : k < s.length := by have := of_decide_eq_true c; omega
    rw [idxM_nat hk2, some_bind, hg _ (List.getElem_mem hk2), some_bind, iadd1 (by omega)]
    refine T.cond (fun c2 => .ret ⟨k, rfl, ?_⟩) fun c2 => .ret ⟨hk2, hk2, rfl, fun i hi h => ?_⟩
    · exact List.findIdx?_eq_some_iff_getElem.2 ⟨hk2, c2, fun j hj => by simp [hn j hj (by omega)]⟩
    · rcases Nat.lt_or_ge i k with h2 | h2
      · exact hn i h2 h
      · have : i = k := by omega
        subst this; exact c2
  · have hk2 : k = s.length := by have := of_decide_eq_false c; omega
    refine .ret ?_
    show s.findIdx? p = none
    rw [List.findIdx?_eq_none_iff]
    intro x hx
    obtain ⟨i, hi, rfl⟩ := List.getElem_of_mem hx
    exact hn i (by omega) hi
theorem ix_eq {s : List α} {g : α → Option Bool} {p : α → Bool} (hl : s.length ≤ 1000000) (hg : ∀ x ∈ s, g x = some (p x)) {F : Int → Option (Sum (Sum Int Unit) Int)}
    (hF : F = fun k => bif decide (k < (s.length : Int)) then (idxM s k).bind fun t => (g t).bind fun b => bif b then some (.inl (.inl k)) else some (.inr (iadd .i64 k 1)) else some (.inl (.inr ()))) :
    (Option.bind (loopC F 0) (sumK (fun a : Int => some a) fun _ : Unit => some (-1))) = some (match s.findIdx? p with | some k => (k : Int) | none => -1) := by
  refine T.eq (T.bind (ix_loop hl hg hF) fun o ho => ?_)
  rcases o with r | u
  · obtain ⟨k, rfl, h⟩ := ho
    exact .ret (by rw [h])
  · exact .ret (by rw [show s.findIdx? p = none from ho])
theorem any_ix {s : List α} {p : α → Bool} : decide ((match s.findIdx? p with | some k => (k : Int) | none => -1) ≥ 0) = s.any p := by
  cases h : s.findIdx? p with
  | none =>
    rw [List.findIdx?_eq_none_iff] at h
    have : s.any p = false := by rw [List.any_eq_false]; intro x hx; simp [h x hx]
    rw [this]; rfl
  | some k =>
    rw [List.findIdx?_eq_some_iff_getElem] at h
    obtain ⟨hk, hp, _⟩ := h
    have : s.any p = true := List.any_eq_true.2 ⟨_, List.getElem_mem hk, hp⟩
    rw [this]; exact decide_eq_true (show (k : Int) ≥ 0 by omega)
theorem cf_eq {s : List α} {g : α → Option Bool} {p : α → Bool} (hl : s.length ≤ 1000000) (hg : ∀ x ∈ s, g x = some (p x)) {F : Int → Option (Sum (Sum Int Unit) Int)}
    (hF : F = fun k => bif decide (k < (s.length : Int)) then (idxM s k).bind fun t => (g t).bind fun b => bif b then some (.inl (.inl k)) else some (.inr (iadd .i64 k 1)) else some (.inl (.inr ()))) :
    (Option.bind (Option.bind (loopC F 0) (sumK (fun a : Int => some a) fun _ : Unit => some (-1))) fun t1 => letM (decide (t1 ≥ 0)) fun t2 => some t2) = some (s.any p) := by
  rw [ix_eq hl hg hF, some_bind, letM_eq, any_ix]

/-- a test of all -/
theorem all_eq {s : List α} {g : α → Option Bool} {p : α → Bool} (hl : s.length ≤ 1000000) (hg : ∀ x ∈ s, g x = some (p x)) {F : Int → Option (Sum (Sum Bool Unit) Int)}
    (hF : F = fun k => bif decide (k < (s.length : Int)) then (idxM s k).bind fun t => (g t).bind fun b => bif !b then some (.inl (.inl false)) else some (.inr (iadd .i64 k 1)) else some (.inl (.inr ()))) :
    (Option.bind (loopC F 0) (sumK (fun a : Bool => some a) fun _ : Unit => some true)) = some (s.all p) := by
  subst hF
  refine T.eq (T.bind (P := fun o => match o with | .inl r => r = false ∧ s.all p = false | .inr _ => s.all p = true) ?_ fun o ho => ?_)
  · refine T.loopK s.length (fun k z => k ≤ s.length ∧ z = (k : Int) ∧ ∀ i, i < k → ∀ (hi : i < s.length), p s[i] = true) ⟨by omega, rfl, by omega⟩ ?_
    rintro k _ ⟨hk, rfl, hn⟩
    refine T.cond (fun c => ?_) fun c => ?_
    · have hk2 : k < s.length := by have := of_decide_eq_true c; omega
      rw [idxM_nat hk2, some_bind, hg _ (List.getElem_mem hk2), some_bind, iadd1 (by omega)]
      refine T.cond (fun c2 => .ret ⟨rfl, ?_⟩) fun c2 => .ret ⟨hk2, hk2, rfl, fun i hi h => ?_⟩
      · rw [List.all_eq_false]; exact ⟨_, List.getElem_mem hk2, by simpa using c2⟩
      · rcases Nat.lt_or_ge i k with h2 | h2
        · exact hn i h2 h
        · have : i = k := by omega
          subst this; simpa using c2
    · have hk2 : k = s.length := by have := of_decide_eq_false c; omega
      refine .ret ?_
      show s.all p = true
      rw [List.all_eq_true]
      intro x hx
      obtain ⟨i, hi, rfl⟩ := List.getElem_of_mem hx
      exact hn i (by omega) hi
  · rcases o with r | u
    · exact .ret (by rw [ho.1, ho.2])
    · exact .ret (by rw [show s.all p = true from ho])

/-- slices.DeleteFunc -/
theorem df_eq {s : List α} {g : α → Option Bool} {p : α → Bool} {z : α} (hl : s.length ≤ 1000000) (hg : ∀ x ∈ s, g x = some (p x)) {ix : Option Int} (hix : ix = some (match s.findIdx? p with | some k => (k : Int) | none => -1))
    {F : Int × Int × List α → Option (Sum (List α × Int) (Int × Int × List α))}
    (hF : F = fun st => bif decide (st.2.1 < (st.2.2.length : Int)) then (idxM st.2.2 st.2.1).bind fun v => (g v).bind fun b => bif !b then (idxM st.2.2 st.1).bind fun _ => letM (iadd .i64 st.1 1) fun i29 => letM (iadd .i64 st.2.1 1) fun j30 => some (.inr (i29, j30, st.2.2.set (Int.toNat st.1) v)) else letM (iadd .i64 st.2.1 1) fun j31 => some (.inr (st.1, j31, st.2.2)) else some (.inl (st.2.2, st.1))) :
    (ix.bind fun i1 => bif i1 == (-1) then some s else (loopC F (i1, iadd .i64 i1 1, s)).bind fun q32 => (slM q32.1 q32.2 (q32.1.length : Int)).bind fun _ =>
      (slM (q32.1.take (Int.toNat q32.2) ++ List.replicate (Int.toNat (q32.1.length : Int) - Int.toNat q32.2) z ++ q32.1.drop (Int.toNat (q32.1.length : Int))) 0 q32.2).bind fun t35 => some t35) = some (s.filter fun x => !p x) := by
  subst hix; subst hF
  rw [some_bind]
  cases h : s.findIdx? p with
  | none =>
    rw [List.findIdx?_eq_none_iff] at h
    show (bif ((-1 : Int) == -1) then some s else _) = _
    rw [beq_self_eq_true, cond_true]
    congr 1
    refine (List.filter_eq_self.2 fun x hx => ?_).symm
    simp [h x hx]
  | some n =>
    rw [List.findIdx?_eq_some_iff_getElem] at h
    obtain ⟨hn, hp, hb⟩ := h
    show (bif ((n : Int) == -1) then some s else _) = _
    rw [show ((n : Int) == -1) = false by simp, cond_false, iadd1 (by omega)]
    have hpre : (s.take n).filter (fun x => !p x) = s.take n := List.filter_eq_self.2 fun x hx => by
      obtain ⟨i, hi, rfl⟩ := List.getElem_of_mem hx
      have hi2 : i < n := by rw [List.length_take] at hi; omega
      rw [List.getElem_take]
      have := hb i hi2
      simpa using this
    refine T.eq (T.bind (P := fun q => ∃ i : Nat, q.2 = (i : Int) ∧ q.1.length = s.length ∧ i ≤ s.length ∧ q.1.take i = s.filter fun x => !p x) ?_ ?_)
    · refine T.loopK s.length (fun k st => ∃ i j : Nat, st.1 = (i : Int) ∧ st.2.1 = (j : Int) ∧ j = n + 1 + k ∧ j ≤ s.length ∧ i < j ∧ st.2.2.length = s.length ∧ st.2.2.take i = (s.take j).filter (fun x => !p x) ∧ st.2.2.drop j = s.drop j) ⟨n, n + 1, rfl, rfl, rfl, by omega, by omega, rfl, ?_, rfl⟩ ?_
      · rw [List.take_add_one, List.getElem?_eq_getElem hn, List.filter_append, hpre]
        simp [hp]
      · rintro k ⟨_, _, d⟩ ⟨i, j, rfl, rfl, hj, hjs, hij, hd, ht, hr⟩
        dsimp only at hd ht hr ⊢
        refine T.cond (fun c => ?_) fun c => ?_
        · have hj2 : j < s.length := by have := of_decide_eq_true c; omega
          have hjd : d[j]'(by omega) = s[j] := by
            have e : (d.drop j)[0]? = (s.drop j)[0]? := by rw [hr]
            rw [List.getElem?_drop, List.getElem?_drop, Nat.add_zero, List.getElem?_eq_getElem (by omega), List.getElem?_eq_getElem hj2] at e
            exact Option.some.inj e
          rw [idxM_nat (show j < d.length by omega), some_bind, hjd, hg _ (List.getElem_mem hj2), some_bind, idxM_nat (show i < d.length by omega), some_bind, letM_eq, letM_eq, letM_eq, iadd1 (by omega), iadd1 (by omega)]
          have htj : (s.take (j + 1)).filter (fun x => !p x) = (s.take j).filter (fun x => !p x) ++ (if p s[j] then [] else [s[j]]) := by
            rw [List.take_add_one, List.getElem?_eq_getElem hj2, List.filter_append]
            congr 1; cases hh : p s[j] <;> simp [hh]
          have hrj : d.drop (j + 1) = s.drop (j + 1) := by
            have := congrArg (List.drop 1) hr
            rwa [List.drop_drop, List.drop_drop] at this
          refine T.cond (fun c2 => .ret ⟨by omega, i + 1, j + 1, rfl, rfl, by omega, by omega, by omega, by simp [hd], ?_, ?_⟩) fun c2 => .ret ⟨by omega, i, j + 1, rfl, rfl, by omega, by omega, by omega, hd, ?_, hrj⟩
          · have c2' : p s[j] = false := by simpa using c2
            rw [htj, c2', ← ht]
            simp only [Int.toNat_natCast, Bool.false_eq_true, if_false]
            rw [List.take_add_one, List.getElem?_set_self (by omega), List.take_set_of_le (Nat.le_refl _)]; rfl
          · simp only [Int.toNat_natCast]
            rw [List.drop_set_of_lt (by omega)]; exact hrj
          · have c2' : p s[j] = true := by simpa using c2
            rw [htj, c2', ht]; simp
        · have hj2 : j = s.length := by have := of_decide_eq_false c; omega
          refine .ret ⟨i, rfl, hd, by omega, ?_⟩
          rw [ht, hj2, List.take_length]
    · rintro ⟨d, _⟩ ⟨i, rfl, hd, hi, ht⟩
      dsimp only at hd ht ⊢
      rw [slM_eq (by omega) (by omega) (by omega), some_bind, slM_eq (by omega) (by omega) (by simp; omega), some_bind]
      refine .ret ?_
      simp only [Int.toNat_natCast, Int.toNat_zero, List.drop_zero]
      rw [List.append_assoc, List.take_append_of_le_length (by simp; omega), List.take_take, Nat.min_self, ht]
end

theorem Contains_eq {s : List ByteArray} {x : ByteArray} (hl : s.length ≤ 1000000) : sC_S_m s x = some (memB x s) := by
  unfold sC_S_m sI_S_m
  rw [cf_eq (g := fun t => some (x.toList == t.toList)) (p := fun t => decide (t = x)) hl (fun t _ => by rw [ba_beq]; congr 1; exact decide_eq_decide.2 eq_comm) (by funext k; rfl)]
  rfl
theorem rIn_eq {s : List ByteArray} {x : ByteArray} (hl : s.length ≤ 1000000) : ref38_In_m s x = some (memB x s) := by
  unfold ref38_In_m
  rw [any_bind (p := fun t => decide (t = x)) (l := s)]
  · rfl
  · intro i hi
    dsimp only [ref38_In_l1]
    rw [decide_eq_true (by omega), cond_true, idxM_nat hi, some_bind, iadd1 (by omega), ba_beq]
    cases decide (s[i] = x) <;> rfl
  · dsimp only [ref38_In_l1]
    rw [decide_eq_false (by omega)]; rfl
theorem within_eq {a b : List ByteArray} (ha : a.length ≤ 1000000) (hb : b.length ≤ 1000000) : pc_within_m a b = some (a.all fun x => memB x b) := by
  unfold pc_within_m sCF_S_1_m sIF_S_1_m
  rw [cf_eq (g := fun t => pc_within_1_m t b) (p := fun t => !memB t b) ha (fun t _ => by unfold pc_within_1_m; rw [Contains_eq hb]; rfl) (by funext k; rfl), some_bind]
  congr 1
  rw [List.any_eq_not_all_not]; simp
theorem Clone_eq {a : List ByteArray} (ha : a.length ≤ 1000000) : slices_Clone_S_m a = some a := by
  unfold slices_Clone_S_m
  rw [appM_eq (by simp; omega)]; rfl

theorem Concat_eq {a b : List ByteArray} (ha : a.length ≤ 1000000) (hb : b.length ≤ 1000000) : sCo_S_m [a, b] = some (a ++ b) := by
  have e0 : idxM [a, b] (0 : Int) = some a := rfl
  have e1 : idxM [a, b] (1 : Int) = some b := rfl
  have h0 : iadd .i64 0 (a.length : Int) = (a.length : Int) := by rw [iadd64 (by omega) (by omega)]; omega
  have h1 : iadd .i64 (a.length : Int) (b.length : Int) = (a.length : Int) + b.length := iadd64 (by omega) (by omega)
  have i1 : iadd .i64 0 1 = 1 := rfl
  have i2 : iadd .i64 1 1 = 2 := rfl
  unfold sCo_S_m
  rw [show loopC (sCo_S_l1 [a, b]) (0, 0) = some ((a.length : Int) + b.length) by
    rw [loopC_eq]
    simp only [sCo_S_l1, List.length_cons, List.length_nil, e0, some_bind, letM_eq, h0, i1]
    rw [show decide ((a.length : Int) < 0) = false from decide_eq_false (by omega)]
    simp only [cond_false, cond_true]
    simp only [show decide ((0 : Int) < ((0 + 1 + 1 : Nat) : Int)) = true from rfl, cond_true, some_bind]
    rw [loopC_eq]
    simp only [sCo_S_l1, List.length_cons, List.length_nil, e1, some_bind, letM_eq, h1, i2]
    rw [show decide ((a.length : Int) + b.length < 0) = false from decide_eq_false (by omega)]
    simp only [show decide ((1 : Int) < ((0 + 1 + 1 : Nat) : Int)) = true from rfl, cond_true, cond_false, some_bind]
    rw [loopC_eq]
    simp only [sCo_S_l1, List.length_cons, List.length_nil, show decide ((2 : Int) < ((0 + 1 + 1 : Nat) : Int)) = false from rfl, cond_false, some_bind], some_bind]
  have hg : slices_Grow_S_m ((a.length : Int) + b.length) = some [] := by
    unfold slices_Grow_S_m
    rw [decide_eq_false (by omega), cond_false, letM_eq, show isub .i64 0 0 = 0 from rfl, isub64 (by omega) (by omega), Int.sub_zero]
    by_cases hp : (a.length : Int) + b.length > 0
    · rw [decide_eq_true hp, cond_true, mkM_eq (by omega) (by omega), some_bind, slM_eq (by omega) (by omega) (by omega)]; simp
    · rw [decide_eq_false hp]; rfl
  rw [hg, some_bind]
  rw [show loopC (sCo_S_l2 [a, b]) (0, []) = some (a ++ b) by
    rw [loopC_eq]
    simp only [sCo_S_l2, List.length_cons, List.length_nil, e0, some_bind, i1, show decide ((0 : Int) < ((0 + 1 + 1 : Nat) : Int)) = true from rfl, cond_true]
    rw [appM_eq (by simp; omega)]
    simp only [some_bind, List.nil_append]
    rw [loopC_eq]
    simp only [sCo_S_l2, List.length_cons, List.length_nil, e1, some_bind, i2, show decide ((1 : Int) < ((0 + 1 + 1 : Nat) : Int)) = true from rfl, cond_true]
    rw [appM_eq (by omega)]
    simp only [some_bind]
    rw [loopC_eq]
    simp only [sCo_S_l2, List.length_cons, List.length_nil, show decide ((2 : Int) < ((0 + 1 + 1 : Nat) : Int)) = false from rfl, cond_false, some_bind], some_bind]
end Go.Dc

set_option linter.unusedVariables false
set_option linter.unusedSectionVars false
/-! A map that is filled: its keys. -/
namespace Go.Dc
variable {α β : Type} [DecidableEq α]

theorem mapIx_none {d : List (α × β)} {x : α} : mapIx d x = none ↔ x ∉ d.map (·.1) := by
  unfold mapIx
  rw [List.findIdx?_eq_none_iff]
  simp only [decide_eq_false_iff_not, List.mem_map, not_exists, not_and]
theorem mapIx_some {d : List (α × β)} {x : α} {i : Nat} (h : mapIx d x = some i) : (d.map (·.1))[i]? = some x := by
  unfold mapIx at h
  rw [List.findIdx?_eq_some_iff_getElem] at h
  obtain ⟨hlt, hp, _⟩ := h
  rw [List.getElem?_map, List.getElem?_eq_getElem hlt]
  simpa using hp
theorem mapPut_keys (d : List (α × β)) (x : α) (y : β) : (mapPut d x y).map (·.1) = if x ∈ d.map (·.1) then d.map (·.1) else d.map (·.1) ++ [x] := by
  unfold mapPut
  cases h : mapIx d x with
  | none => rw [if_neg (mapIx_none.1 h)]; simp
  | some i =>
    have h1 := mapIx_some h
    rw [if_pos (List.mem_of_getElem? h1), List.map_set]
    apply List.ext_getElem?
    intro n
    by_cases e : i = n
    · subst e
      rw [List.getElem?_set_self (List.getElem?_eq_some_iff.1 h1).1, h1]
    · rw [List.getElem?_set_ne e]
theorem mapHas_iff {d : List (α × β)} {x : α} : mapHas d x = decide (x ∈ d.map (·.1)) := by
  unfold mapHas
  cases h : mapIx d x with
  | none => rw [decide_eq_false (mapIx_none.1 h)]; rfl
  | some i => rw [decide_eq_true (List.mem_of_getElem? (mapIx_some h))]; rfl

/-- what we know of a map that has been filled with the keys of a list -/
structure Filled (d : List (α × β)) (l : List α) : Prop where
  mem : ∀ x, x ∈ d.map (·.1) ↔ x ∈ l
  nd : (d.map (·.1)).Nodup
  len : d.length ≤ l.length
  iff : d.length = l.length ↔ l.Nodup
theorem Filled.nil : Filled ([] : List (α × β)) [] := ⟨by simp, by simp, by simp, by simp⟩
theorem Filled.put {d : List (α × β)} {l : List α} (h : Filled d l) (x : α) (y : β) : Filled (mapPut d x y) (l ++ [x]) := by
  have hk := mapPut_keys d x y
  have hl : (mapPut d x y).length = ((mapPut d x y).map (·.1)).length := by simp
  by_cases c : x ∈ d.map (·.1)
  · rw [if_pos c] at hk
    have hx := (h.mem x).1 c
    rw [hk] at hl
    refine ⟨fun z => ?_, by rw [hk]; exact h.nd, by rw [hl]; have := h.len; simp; omega, ?_⟩
    · rw [hk, h.mem, List.mem_append, List.mem_singleton]
      exact ⟨.inl, fun q => q.elim id fun e => e ▸ hx⟩
    · rw [hl]
      have := h.len
      refine ⟨fun e => by simp at e; omega, fun e => absurd hx ?_⟩
      have := (List.nodup_append.1 e).2.2
      exact fun q => this x q x (by simp) rfl
  · rw [if_neg c] at hk
    have hx : x ∉ l := fun q => c ((h.mem x).2 q)
    rw [hk] at hl
    refine ⟨fun z => ?_, ?_, by rw [hl]; have := h.len; simp; omega, ?_⟩
    · rw [hk, List.mem_append, List.mem_append, h.mem]
    · rw [hk]
      exact List.nodup_append.2 ⟨h.nd, by simp, fun p hp q hq e => c (by simp at hq; rw [← hq, ← e]; exact hp)⟩
    · rw [hl, List.length_append, List.length_append, List.length_map]
      have := h.iff
      constructor
      · intro e
        have e2 : d.length = l.length := by simpa using e
        exact List.nodup_append.2 ⟨this.1 e2, by simp, fun p hp q hq e => hx (by simp at hq; rw [← hq, ← e]; exact hp)⟩
      · intro e
        rw [this.2 (List.nodup_append.1 e).1]
end Go.Dc

set_option linter.unusedVariables false
set_option linter.unusedSimpArgs false
set_option linter.unusedSectionVars false
/-! Libraries: what the functions on them compute. -/
namespace Go.Dc

/-- the factors of a side -/
def sdl (l : T_Lib) (w : Int) : List ByteArray := if w = 1 then l.Sides.i0 else l.Sides.i1
theorem sd_ix {l : T_Lib} {w : Int} (hw : w = 1 ∨ w = 2) : idxM [l.Sides.i0, l.Sides.i1] (isub .i64 w 1) = some (sdl l w) := by
  rcases hw with rfl | rfl <;> rfl
/-- the factors of a side among some -/
def ownF (l : T_Lib) (f : List ByteArray) (w : Int) : List ByteArray := f.filter fun x => memB x (sdl l w)
theorem mem_ownF {l : T_Lib} {f : List ByteArray} {w : Int} {x : ByteArray} : x ∈ ownF l f w ↔ x ∈ f ∧ x ∈ sdl l w := by
  unfold ownF; rw [List.mem_filter, memB_iff]
theorem ownF_len {l : T_Lib} {f : List ByteArray} {w : Int} : (ownF l f w).length ≤ f.length := List.length_filter_le _ _

section
variable {l : T_Lib} {f : List ByteArray} {w : Int}
theorem own_eq (hw : w = 1 ∨ w = 2) (h1 : (sdl l w).length ≤ 1000000) (hf : f.length ≤ 1000000) : pc_own_m l f w = some (ownF l f w) := by
  unfold pc_own_m
  rw [Clone_eq hf, some_bind]
  have hg : ∀ x ∈ f, pc_own_1_m x l w = some (!memB x (sdl l w)) := fun x _ => by
    unfold pc_own_1_m
    rw [sd_ix hw, some_bind, Contains_eq h1, some_bind]
  have hix : sIF_S_2_m f l w = _ := ix_eq (g := fun x => pc_own_1_m x l w) (p := fun x => !memB x (sdl l w)) hf hg (F := sIF_S_2_l1 f l w) (by funext k; rfl)
  have := df_eq (z := ByteArray.empty) hf hg hix (F := sDF_S_l1 l w) (by funext st; rfl)
  unfold sDF_S_m
  rw [this, some_bind]
  unfold ownF
  congr 2
  funext x; simp
theorem rOwn_eq (hw : w = 1 ∨ w = 2) (h1 : (sdl l w).length ≤ 1000000) (hf : f.length ≤ 1000000) : ref38_Own_m l f w = some (ownF l f w) := by
  unfold ref38_Own_m
  refine T.eq (T.bind (P := fun q => q = ownF l f w) ?_ fun q hq => .ret hq)
  refine T.loopK f.length (fun k s => k ≤ f.length ∧ s.1 = (k : Int) ∧ s.2 = (f.take k).filter fun x => memB x (sdl l w)) ⟨by omega, rfl, by simp⟩ ?_
  rintro k ⟨_, s⟩ ⟨hk, rfl, hs⟩
  dsimp only [ref38_Own_l1] at hs ⊢
  refine T.cond (fun c => ?_) fun c => ?_
  · have hk2 : k < f.length := by have := of_decide_eq_true c; omega
    have hsl : s.length ≤ k := by rw [hs]; exact Nat.le_trans (List.length_filter_le _ _) (by rw [List.length_take]; omega)
    have htk : (f.take (k + 1)).filter (fun x => memB x (sdl l w)) = (f.take k).filter (fun x => memB x (sdl l w)) ++ (if memB f[k] (sdl l w) then [f[k]] else []) := by
      rw [List.take_add_one, List.getElem?_eq_getElem hk2, List.filter_append]
      congr 1; simp [List.filter_cons]
    rw [sd_ix hw, some_bind, idxM_nat hk2, some_bind, rIn_eq h1, some_bind, iadd1 (by omega)]
    refine T.cond (fun c2 => ?_) fun c2 => .ret ⟨hk2, hk2, rfl, by simp only; rw [htk, hs, c2]; simp⟩
    rw [some_bind, appM_eq (by simp; omega), some_bind, letM_eq]
    exact .ret ⟨hk2, hk2, rfl, by simp only; rw [htk, hs, c2]; simp⟩
  · have e : k = f.length := by have := of_decide_eq_false c; omega
    subst e
    rw [List.take_length] at hs
    exact .ret hs
theorem counter_eq (hw : w = 1 ∨ w = 2) (h1 : (sdl l (3 - w)).length ≤ 1000000) (hf : f.length ≤ 1000000) : pc_counter_m l f w = some (ownF l f (3 - w)) := by
  unfold pc_counter_m
  rw [isub64 (by omega) (by omega), own_eq (by omega) h1 hf]; rfl

/-- strictly ascending texts -/
def RiseP (f : List ByteArray) : Prop := f.Pairwise fun a b => Op.bytesLess a.toList b.toList = true
theorem rising_eq (hf : f.length ≤ 1000000) (h : RiseP f) : pc_rising_m f = some true := by
  unfold pc_rising_m
  refine T.eq (T.bind (P := fun o => o = Sum.inr ()) ?_ fun o ho => by subst ho; exact .ret rfl)
  refine T.loopK f.length (fun k s => s = ((k + 1 : Nat) : Int)) rfl ?_
  rintro k _ rfl
  dsimp only [pc_rising_l1]
  refine T.cond (fun c => ?_) fun c => .ret rfl
  have hk2 : k + 1 < f.length := by have := of_decide_eq_true c; omega
  rw [isub64 (by omega) (by omega), show ((k + 1 : Nat) : Int) - 1 = (k : Int) by omega, idxM_nat (show k < f.length by omega), some_bind, idxM_nat hk2, some_bind, iadd1 (by omega)]
  have hp := List.pairwise_iff_getElem.1 h k (k + 1) (by omega) hk2 (by omega)
  rw [hp]
  exact .ret ⟨by omega, rfl⟩
end

/-! ### libraries as the laws make them -/
def sd1 : List ByteArray := [(ByteArray.mk #[97]), (ByteArray.mk #[98]), (ByteArray.mk #[99])]
def sd2 : List ByteArray := [(ByteArray.mk #[120]), (ByteArray.mk #[121]), (ByteArray.mk #[122])]
def all6 : List ByteArray := [(ByteArray.mk #[97]), (ByteArray.mk #[98]), (ByteArray.mk #[99]), (ByteArray.mk #[120]), (ByteArray.mk #[121]), (ByteArray.mk #[122])]
def nm (k : Nat) : ByteArray := ByteArray.mk #[110] ++ bstr [IntKind.wrap .u8 (97 + (k : Int))]
theorem all6_rise : RiseP all6 := by unfold RiseP all6; simp [Op.bytesLess, ba_toList]
theorem all6_nd : all6.Nodup := by decide
theorem sub_rise {f : List ByteArray} (h : f.Sublist all6) : RiseP f := List.Pairwise.sublist h all6_rise
theorem sub_len {f : List ByteArray} (h : f.Sublist all6) : f.length ≤ 6 := h.length_le
theorem sd_cases {x : ByteArray} (h : x ∈ all6) : x ∈ sd1 ∧ x ∉ sd2 ∨ x ∈ sd2 ∧ x ∉ sd1 := by
  have : ∀ x ∈ all6, (memB x sd1 && !memB x sd2 || memB x sd2 && !memB x sd1) = true := by decide
  have h1 := this x h
  rw [← memB_iff, ← memB_iff]
  revert h1
  cases memB x sd1 <;> cases memB x sd2 <;> simp
theorem sd1_sub : sd1.Sublist all6 := by decide
theorem sd2_sub : sd2.Sublist all6 := by decide
theorem names_ok : ∀ k, k < 8 → literal_ValidName_m (nm k) = some true := by
  intro k hk
  have : ∀ k, k < 8 → literal_ValidName_f 20 (nm k) = some true := by decide +kernel
  exact literal_ValidName_f_le (k_ := 20) _ (this k hk)
theorem all6_names : ∀ x ∈ all6, literal_ValidName_m x = some true := by
  intro x hx
  have : ∀ x ∈ all6, literal_ValidName_f 20 x = some true := by decide +kernel
  exact literal_ValidName_f_le (k_ := 20) _ (this x hx)
theorem nm_inj : ∀ i, i < 8 → ∀ j, j < 8 → nm i = nm j → i = j := by decide +kernel

structure CaseOk (k : Nat) (c : T_Cas) : Prop where
  name : c.Name = nm k
  facts : c.Facts.Sublist all6
  win : c.Winner = 1 ∨ c.Winner = 2
  ne : c.Reason ≠ []
  reason : c.Reason.Sublist all6
  own : ∀ x ∈ c.Reason, x ∈ c.Facts ∧ x ∈ (if c.Winner = 1 then sd1 else sd2)
structure LibOk (l : T_Lib) : Prop where
  s1 : l.Sides.i0 = sd1
  s2 : l.Sides.i1 = sd2
  len : l.Cases.length ≤ 6
  ok : ∀ (k : Nat) (hk : k < l.Cases.length), CaseOk k l.Cases[k]

theorem LibOk.sdl {l : T_Lib} (h : LibOk l) (w : Int) : sdl l w = if w = 1 then sd1 else sd2 := by
  unfold Dc.sdl; rw [h.s1, h.s2]
theorem LibOk.sdlen {l : T_Lib} (h : LibOk l) (w : Int) : (Dc.sdl l w).length = 3 := by
  rw [h.sdl]; split <;> rfl
theorem LibOk.factors {l : T_Lib} (h : LibOk l) : pc_factors_m l = some all6 := by
  unfold pc_factors_m
  rw [Concat_eq (by rw [h.s1]; decide) (by rw [h.s2]; decide), h.s1, h.s2]; rfl
theorem LibOk.mem {l : T_Lib} (h : LibOk l) {c : T_Cas} (hc : c ∈ l.Cases) : ∃ k, k < l.Cases.length ∧ CaseOk k c := by
  obtain ⟨k, hk, rfl⟩ := List.getElem_of_mem hc
  exact ⟨k, hk, h.ok k hk⟩

end Go.Dc

set_option linter.unusedVariables false
set_option linter.unusedSimpArgs false
set_option linter.unusedSectionVars false
/-! The libraries and situations that the laws make. -/
namespace Go.Dc

theorem bstr1_size {x : Int} : (bstr [x]).size = 1 := by simp [bstr]
theorem facts_plain {s : T_Src} (h : SrcOk s) : T (law38_facts_m s) fun r => SrcOk r.2 ∧ r.1.Sublist all6 := by
  unfold law38_facts_m
  refine T.bind (P := fun q => SrcOk q.1 ∧ q.2.Sublist all6) ?_ fun q hq => .ret ⟨hq.1, hq.2⟩
  refine T.loopK 6 (fun k s => k ≤ 6 ∧ s.1 = (k : Int) ∧ SrcOk s.2.1 ∧ s.2.2.Sublist (all6.take k)) ⟨by omega, rfl, h, .refl _⟩ ?_
  rintro k ⟨_, src, out⟩ ⟨hk, rfl, hs, ho⟩
  unfold law38_facts_l1
  dsimp only at hs ho ⊢
  rw [show [(ByteArray.mk #[97]), (ByteArray.mk #[98]), (ByteArray.mk #[99]), (ByteArray.mk #[120]), (ByteArray.mk #[121]), (ByteArray.mk #[122])] = all6 from rfl]
  have e6 : all6.length = 6 := rfl
  have hol := ho.length_le
  rw [List.length_take] at hol
  refine T.cond (fun c => ?_) fun c => .ret ⟨hs, ho.trans (List.take_sublist _ _)⟩
  have hk2 : k < 6 := by have := of_decide_eq_true c; omega
  have htk : all6.take (k + 1) = all6.take k ++ [all6[k]'(by omega)] := by rw [List.take_add_one, List.getElem?_eq_getElem (by omega)]; rfl
  rw [idxM_nat (show k < all6.length by omega), some_bind, iadd1 (by omega)]
  refine T.bind (N_plain hs (n := 2) (by omega)) fun t ht => ?_
  refine T.cond (fun _ => ?_) fun _ => .ret ⟨hk2, hk2, rfl, ht.1, by simp only; rw [htk]; exact ho.trans (List.sublist_append_left _ _)⟩
  rw [appM_eq (by simp; omega), some_bind]
  exact .ret ⟨hk2, hk2, rfl, ht.1, by simp only; rw [htk]; exact ho.append (.refl _)⟩

theorem Range12_plain {s : T_Src} (h : SrcOk s) : T (keep_Src_Range_m s 1 2) fun r => SrcOk r.2 ∧ (r.1 = 1 ∨ r.1 = 2) := by
  unfold keep_Src_Range_m
  rw [show iadd .i64 (isub .i64 2 1) 1 = 2 from rfl]
  refine T.bind (N_plain h (n := 2) (by omega)) ?_
  rintro ⟨v, s'⟩ ⟨hs, hv⟩
  obtain ⟨h0, h1⟩ := hv (by omega)
  dsimp only at h0 h1
  rw [letM_eq, iadd64 (by simp only; omega) (by simp only; omega)]
  exact .ret ⟨hs, by simp only; omega⟩

theorem LibOk.app {a : T_arr2_22} {L : List T_Cas} {c : T_Cas} (h : LibOk ⟨a, L⟩) (hc : CaseOk L.length c) (hl : L.length + 1 ≤ 6) : LibOk ⟨a, L ++ [c]⟩ := by
  refine ⟨h.s1, h.s2, by simp; omega, fun k hk => ?_⟩
  simp only [List.length_append, List.length_singleton] at hk
  simp only
  rcases Nat.lt_or_ge k L.length with h1 | h1
  · rw [List.getElem_append_left h1]; exact h.ok k h1
  · have e : k = L.length := by omega
    subst e
    simpa using hc

theorem library_plain {s : T_Src} (h : SrcOk s) {m : Int} (h0 : 0 ≤ m) (h6 : m ≤ 6) : T (law38_library_m s m) fun r => LibOk r.1 ∧ SrcOk r.2 := by
  unfold law38_library_m
  rw [show law38_sides_m = some ⟨sd1, sd2⟩ from rfl, some_bind, iadd64 (by omega) (by omega)]
  refine T.bind (N_plain h (n := m + 1) (by omega)) ?_
  rintro ⟨i, src⟩ ⟨hs, hi⟩
  obtain ⟨i0, i1⟩ := hi (by omega)
  dsimp only at i0 i1 hs
  refine T.bind (P := fun q => SrcOk q.1 ∧ LibOk ⟨⟨sd1, sd2⟩, q.2⟩) ?_ fun q hq => .ret ⟨hq.2, hq.1⟩
  refine T.loopK 6 (fun k s => s.1 = i - k ∧ (k : Int) ≤ i ∧ SrcOk s.2.1 ∧ s.2.2.length ≤ k ∧ LibOk ⟨⟨sd1, sd2⟩, s.2.2⟩) ⟨by simp, i0, hs, by simp, ⟨rfl, rfl, by simp, fun k hk => by simp at hk⟩⟩ ?_
  rintro k ⟨_, src, L⟩ ⟨rfl, hk, hs, hl, hL⟩
  dsimp only [law38_library_l1] at hs hl hL ⊢
  refine T.cond (fun c => ?_) fun c => .ret ⟨hs, hL⟩
  have hk2 : (k : Int) < i := by have := of_decide_eq_true c; omega
  have hname : sconM (ByteArray.mk #[110]) (bstr [IntKind.wrap .u8 (iadd .i64 97 (L.length : Int))]) = some (nm L.length) := by
    rw [iadd64 (by omega) (by omega)]
    unfold sconM
    rw [bstr1_size, if_neg (by decide)]; rfl
  rw [hname, some_bind, isub64 (by omega) (by omega)]
  refine T.bind (facts_plain hs) ?_
  rintro ⟨f, src1⟩ ⟨hs1, hf⟩
  refine T.bind (Range12_plain hs1) ?_
  rintro ⟨w, src2⟩ ⟨hs2, hw⟩
  dsimp only at hf hw ⊢
  have hfl := sub_len hf
  rw [rOwn_eq hw (by rw [hL.sdlen]; omega) (by omega), some_bind]
  generalize hO : ownF ⟨⟨sd1, sd2⟩, L⟩ f w = O
  have hOf : O.Sublist f := by rw [← hO]; exact List.filter_sublist
  have hOl : O.length ≤ 6 := Nat.le_trans hOf.length_le hfl
  have hOs : ∀ x ∈ O, x ∈ f ∧ x ∈ (if w = 1 then sd1 else sd2) := fun x hx => by
    rw [← hO, mem_ownF, hL.sdl] at hx; exact hx
  refine T.bind (P := fun q => SrcOk q.1 ∧ q.2.Sublist O) ?_ ?_
  · refine T.loopK O.length (fun k s => k ≤ O.length ∧ s.1 = (k : Int) ∧ SrcOk s.2.1 ∧ s.2.2.Sublist (O.take k)) ⟨by omega, rfl, hs2, .refl _⟩ ?_
    rintro j ⟨_, src3, out⟩ ⟨hj, rfl, hs3, ho⟩
    dsimp only [law38_library_l2] at hs3 ho ⊢
    have hol := ho.length_le
    rw [List.length_take] at hol
    refine T.cond (fun c => ?_) fun c => .ret ⟨hs3, ho.trans (List.take_sublist _ _)⟩
    have hj2 : j < O.length := by have := of_decide_eq_true c; omega
    have htk : O.take (j + 1) = O.take j ++ [O[j]] := by rw [List.take_add_one, List.getElem?_eq_getElem hj2]; rfl
    rw [idxM_nat hj2, some_bind, iadd1 (by omega)]
    refine T.bind (N_plain hs3 (n := 2) (by omega)) fun t ht => ?_
    refine T.cond (fun _ => ?_) fun _ => .ret ⟨hj2, hj2, rfl, ht.1, by simp only; rw [htk]; exact ho.trans (List.sublist_append_left _ _)⟩
    rw [appM_eq (by simp; omega), some_bind]
    exact .ret ⟨hj2, hj2, rfl, ht.1, by simp only; rw [htk]; exact ho.append (.refl _)⟩
  · rintro ⟨src4, R⟩ ⟨hs4, hR⟩
    dsimp only at hs4 hR ⊢
    refine T.cond (fun c => ?_) fun c => ?_
    · rw [letM_eq]
      exact .ret ⟨by omega, by simp only; omega, by omega, hs4, by simp only; omega, hL⟩
    · have hO0 : O.length ≠ 0 := fun e => by rw [e] at c; simp at c
      refine T.joinP (fun r => r.Sublist O ∧ r ≠ []) (fun r hr => ?_) fun kk hkk => ?_
      · rw [appM_eq (by simp; omega), some_bind, letM_eq]
        refine .ret ⟨by omega, by simp only; omega, by omega, hs4, by simp; omega, ?_⟩
        exact hL.app ⟨rfl, hf, hw, hr.2, (hr.1.trans hOf).trans hf, fun x hx => hOs x (hr.1.subset hx)⟩ (by omega)
      · refine T.cond (fun c2 => ?_) fun c2 => hkk _ ⟨hR, fun e => by rw [e] at c2; simp at c2⟩
        rw [slM_eq (by omega) (by omega) (by omega), some_bind]
        refine hkk _ ⟨?_, fun e => ?_⟩
        · simp only [Int.toNat_zero, List.drop_zero]; exact List.take_sublist _ _
        · simp at e
          exact hO0 (by rw [e]; rfl)
end Go.Dc
