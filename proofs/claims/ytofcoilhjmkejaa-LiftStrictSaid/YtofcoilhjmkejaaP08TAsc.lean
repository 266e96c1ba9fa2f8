/- Part P08T.Asc of a proof: lemmas. -/
import Derived.Test.YtofcoilhjmkejaaP08TKeep
import Derived.Test.YtofcoilhjmkejaaDcSortP
set_option linter.unusedVariables false
set_option linter.unusedSimpArgs false
set_option linter.unusedSectionVars false
/-! Ascending lists: sorted and without repetitions. -/
namespace Go.Dc

abbrev Asc (l : List Int) : Prop := l.Pairwise (· < ·)

theorem asc_ext {l l' : List Int} (h : Asc l) (h' : Asc l') (hm : ∀ x, x ∈ l ↔ x ∈ l') : l = l' := by
  have nd : ∀ {l : List Int}, Asc l → l.Nodup := fun h => h.imp (fun h => Int.ne_of_lt h)
  refine List.Perm.eq_of_pairwise (le := (· ≤ ·)) (fun a b _ _ h1 h2 => Int.le_antisymm h1 h2) (h.imp Int.le_of_lt) (h'.imp Int.le_of_lt) ?_
  exact (List.perm_ext_iff_of_nodup (nd h) (nd h')).2 hm

/-- the same members, ascending, each once -/
def nf (l : List Int) : List Int := Lib.compact (isort l)
theorem nf_asc (l : List Int) : Asc (nf l) := compact_asc (isort_pw l)
theorem mem_nf {l : List Int} {x : Int} : x ∈ nf l ↔ x ∈ l := by unfold nf; rw [mem_compact, (isort_perm l).mem_iff]
theorem nf_len (l : List Int) : (nf l).length ≤ l.length := by
  have := compact_len (isort l); rw [(isort_perm l).length_eq] at this; exact this
theorem nf_of {l r : List Int} (h : Asc r) (hm : ∀ x, x ∈ r ↔ x ∈ l) : r = nf l := asc_ext h (nf_asc l) fun x => by rw [hm, mem_nf]
theorem nf_nil : nf [] = [] := List.eq_nil_iff_forall_not_mem.2 fun x h => by rw [mem_nf] at h; cases h
theorem nf_self {l : List Int} (h : Asc l) : nf l = l := (nf_of h fun _ => .rfl).symm
theorem nf_eq_nil {l : List Int} : nf l = [] ↔ l = [] := by
  constructor
  · intro h
    refine List.eq_nil_iff_forall_not_mem.2 fun x hx => ?_
    have := mem_nf.2 hx; rw [h] at this; cases this
  · rintro rfl; exact nf_nil

theorem sc_plain {l : List Int} (h : l.length ≤ 1000000) : (Option.bind (sortedM l) fun t => Option.bind (compactM t) fun u => some u) = some (nf l) := by
  rw [sorted_plain (by omega), some_bind]
  have : compactM (isort l) = some (Lib.compact (isort l)) := by
    unfold compactM; rw [if_pos (by rw [(isort_perm l).length_eq]; omega)]
  rw [this]; rfl
theorem so_plain {l : List Int} (h : l.length ≤ 1000000) (ha : Asc l) : (Option.bind (sortedM l) fun t => some t) = some (nf l) := by
  rw [sorted_plain (by omega), some_bind]
  have nd : l.Nodup := ha.imp (fun h => Int.ne_of_lt h)
  have nd2 : (isort l).Nodup := (isort_perm l).nodup_iff.2 nd
  have : Asc (isort l) := List.pairwise_iff_getElem.2 fun i j hi hj hij => by
    have h1 := List.pairwise_iff_getElem.1 (isort_pw l) i j hi hj hij
    have h2 := List.pairwise_iff_getElem.1 nd2 i j hi hj hij
    omega
  rw [nf_of this fun x => (isort_perm l).mem_iff]

theorem T.count {ρ : Type} {f : Int → Option (Sum ρ Int)} {Q : ρ → Prop} (n : Nat) (step : ∀ k : Nat, k ≤ n → T (f (k : Int)) (onO Q fun s' => k < n ∧ s' = ((k + 1 : Nat) : Int))) : T (loopC f 0) Q :=
  T.loopK n (fun k s => k ≤ n ∧ s = (k : Int)) ⟨by omega, rfl⟩ fun k s ⟨hk, e⟩ => by
    subst e
    refine (step k hk).mono fun o ho => ?_
    match o, ho with
    | .inl r, h => exact h
    | .inr s', h => exact ⟨h.1, h.1, h.2⟩

theorem insert_plain {l : List Int} {n : Int} (ha : Asc l) (hl : l.length ≤ 1000000) : T (ref07_insert_m l n) fun r => Asc r ∧ (∀ x, x ∈ r ↔ x = n ∨ x ∈ l) ∧ r.length ≤ l.length + 1 := by
  unfold ref07_insert_m
  have L1 : T (loopC (ref07_insert_l1 l n) 0) fun q => ∃ k : Nat, q = k ∧ k ≤ l.length ∧ (∀ i (hi : i < l.length), i < k → l[i] < n) ∧ ∀ hk : k < l.length, n ≤ l[k] := by
    refine T.loopK l.length (fun k s => k ≤ l.length ∧ s = (k : Int) ∧ ∀ i (hi : i < l.length), i < k → l[i] < n) ⟨by omega, rfl, by intro i _ h; omega⟩ ?_
    rintro k _ ⟨hk, rfl, hb⟩
    dsimp only [ref07_insert_l1]
    refine T.cond (fun g => ?_) fun g => .ret ⟨k, rfl, hk, hb, fun h => by have := of_decide_eq_false g; omega⟩
    have hk2 : k < l.length := by have := of_decide_eq_true g; omega
    rw [idxM_nat hk2, some_bind]
    refine T.cond (fun g => ?_) fun g => .ret ⟨k, rfl, hk, hb, fun h => by have := of_decide_eq_false g; omega⟩
    rw [iadd1 (by omega)]
    refine .ret ⟨hk2, hk2, rfl, fun i hi h => ?_⟩
    by_cases e : i = k
    · subst e; exact of_decide_eq_true g
    · exact hb i hi (by omega)
  refine T.bind L1 ?_
  rintro _ ⟨k, rfl, hk, hb, hge⟩
  have hp := List.pairwise_iff_getElem.1 ha
  refine T.joinP (fun _ => ∀ h : k < l.length, l[k] ≠ n) (fun _ hne => ?_) fun kk hkk => ?_
  · rw [slM_eq (by omega) (by omega) (by omega), some_bind, appM_eq (by simp; omega), some_bind, slM_eq (by omega) (by omega) (by omega), some_bind, appM_eq (by simp; omega), some_bind, appM_eq (by simp; omega), some_bind]
    have e1 : (List.take (Int.toNat (k : Int)) l).drop (Int.toNat 0) = l.take k := by simp
    have e2 : (List.take (Int.toNat (l.length : Int)) l).drop (Int.toNat (k : Int)) = l.drop k := by simp
    rw [e1, e2]
    refine .ret ⟨?_, fun x => ?_, by simp; omega⟩
    · rw [List.nil_append, List.append_assoc]; refine List.pairwise_append.2 ?_
      have hA : ∀ a ∈ l.take k, a < n := fun a h => by
        obtain ⟨i, hi, rfl⟩ := List.getElem_of_mem h
        rw [List.getElem_take]; simp at hi; exact hb i (by omega) (by omega)
      have hB : ∀ b ∈ l.drop k, n < b := fun b h => by
        obtain ⟨i, hi, rfl⟩ := List.getElem_of_mem h
        rw [List.getElem_drop]; simp at hi
        have hk3 : k < l.length := by omega
        have h1 := hge hk3; have h2 := hne hk3
        by_cases e : i = 0
        · subst e; simp only [Nat.add_zero]; omega
        · have := hp k (k + i) hk3 (by omega) (by omega); omega
      refine ⟨ha.sublist (List.take_sublist _ _), ?_, ?_⟩
      · rw [List.singleton_append, List.pairwise_cons]
        exact ⟨hB, ha.sublist (List.drop_sublist _ _)⟩
      · intro a h b h'
        simp only [List.singleton_append, List.mem_cons] at h'
        rcases h' with rfl | h'
        · exact hA a h
        · exact Int.lt_trans (hA a h) (hB b h')
    · rw [List.nil_append]
      conv => rhs; rw [← List.take_append_drop k l]
      simp only [List.mem_append, List.mem_singleton]
      constructor
      · rintro ((h | h) | h)
        · exact .inr (.inl h)
        · exact .inl h
        · exact .inr (.inr h)
      · rintro (h | h | h)
        · exact .inl (.inr h)
        · exact .inl (.inl h)
        · exact .inr h
  · refine T.cond (fun g => ?_) fun g => hkk () fun h => absurd (of_decide_eq_false g) (by omega)
    have hk3 : k < l.length := by have := of_decide_eq_true g; omega
    rw [idxM_nat hk3, some_bind]
    refine T.cond (fun g => .ret ⟨ha, fun x => ⟨.inr, ?_⟩, by omega⟩) fun g => hkk () fun _ e => by simp [e] at g
    rintro (rfl | h)
    · rw [← eq_of_beq g]; exact List.getElem_mem hk3
    · exact h

theorem union_plain {a b : List Int} (ha : Asc a) (hl : a.length + b.length ≤ 1000000) : T (ref07_union_m a b) fun r => Asc r ∧ (∀ x, x ∈ r ↔ x ∈ a ∨ x ∈ b) ∧ r.length ≤ a.length + b.length := by
  unfold ref07_union_m
  refine T.bind (P := fun r => Asc r ∧ (∀ x, x ∈ r ↔ x ∈ a ∨ x ∈ b) ∧ r.length ≤ a.length + b.length) ?_ fun r hr => .ret hr
  refine T.loopK b.length (fun k s => k ≤ b.length ∧ s.2 = (k : Int) ∧ Asc s.1 ∧ (∀ x, x ∈ s.1 ↔ x ∈ a ∨ x ∈ b.take k) ∧ s.1.length ≤ a.length + k) ⟨by omega, rfl, ha, by simp, by simp⟩ ?_
  rintro k ⟨s, _⟩ ⟨hk, rfl, hs, hm, hlen⟩
  dsimp only [ref07_union_l1] at hs hm hlen ⊢
  refine T.cond (fun g => ?_) fun g => ?_
  · have hk2 : k < b.length := by have := of_decide_eq_true g; omega
    rw [idxM_nat hk2, some_bind]
    refine T.bind (insert_plain hs (by omega)) ?_
    rintro r ⟨h1, h2, h3⟩
    rw [letM_eq, iadd1 (by omega)]
    refine .ret ⟨hk2, hk2, rfl, h1, fun x => ?_, by simp only; omega⟩
    rw [h2, hm, List.take_add_one, List.getElem?_eq_getElem hk2]
    simp only [Option.toList_some, List.mem_append, List.mem_singleton]
    constructor
    · rintro (h | h | h)
      · exact .inr (.inr h)
      · exact .inl h
      · exact .inr (.inl h)
    · rintro (h | h | h)
      · exact .inr (.inl h)
      · exact .inr (.inr h)
      · exact .inl h
  · have e : k = b.length := by have := of_decide_eq_false g; omega
    subst e
    rw [List.take_length] at hm
    exact .ret ⟨hs, hm, hlen⟩

theorem in_plain {l : List Int} {x : Int} (h : l.length ≤ 1000000) : ref07_in_m l x = some (l.any fun y => y == x) := by
  unfold ref07_in_m
  refine any_bind (fun i hi => ?_) ?_
  · dsimp only [ref07_in_l1]
    rw [decide_eq_true (by omega), cond_true, idxM_nat hi, some_bind, iadd1 (by omega)]
    cases l[i] == x <;> rfl
  · dsimp only [ref07_in_l1]
    rw [decide_eq_false (by omega)]; rfl

theorem Ints_refl {l : List Int} (h : l.length ≤ 1000000) : keep_Ints_m l l = some true := by
  unfold keep_Ints_m
  rw [show ((l.length : Int) != (l.length : Int)) = false by simp, cond_false]
  refine T.eq (T.bind (P := fun o => o = .inr ()) ?_ fun o ho => by subst ho; exact .ret rfl)
  refine T.count l.length fun k hk => ?_
  dsimp only [keep_Ints_l1]
  refine T.cond (fun g => ?_) fun g => .ret rfl
  have hk2 : k < l.length := by have := of_decide_eq_true g; omega
  rw [idxM_nat hk2, some_bind, some_bind, show (l[k] != l[k]) = false by simp, cond_false, iadd1 (by omega)]
  exact .ret ⟨hk2, rfl⟩
end Go.Dc
