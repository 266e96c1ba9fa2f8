/- Part P06.Cpt of a proof: lemmas. -/
import Derived.Test.YtejhbimlekcllaaDoorLAW06DA2
import Derived.Test.YtejhbimlekcllaaDoorDcCut4
import Derived.Test.YtejhbimlekcllaaDoorDcBa
set_option linter.unusedVariables false
set_option linter.unusedSimpArgs false
set_option linter.unusedSectionVars false
/-! Literals in their order; the normal form of a list. -/
namespace Go.Dc
open Go.Sort Go.Proofs

theorem bl_lt : ∀ x y : List UInt8, Op.bytesLess x y = decide (x < y)
  | [], [] => by simp [Op.bytesLess]
  | _ :: _, [] => by simp [Op.bytesLess]
  | [], _ :: _ => by simp [Op.bytesLess]
  | a :: x, b :: y => by
    rw [Op.bytesLess, bl_lt x y]
    simp only [List.cons_lt_cons_iff]
    by_cases h1 : a < b <;> by_cases h2 : a = b <;> by_cases h3 : x < y <;> simp [h1, h2, h3]

abbrev Li := T_api_Literal
def cmpI (x y : Li) : Int := if x.Name.toList < y.Name.toList then -1 else if y.Name.toList < x.Name.toList then 1 else if x.Neg = y.Neg then 0 else if y.Neg then -1 else 1
/-- x ahead of y -/
def LtL (x y : Li) : Prop := x.Name.toList < y.Name.toList ∨ x.Name = y.Name ∧ x.Neg = false ∧ y.Neg = true
theorem tri (a b : List UInt8) : a < b ∨ a = b ∨ b < a := by
  by_cases h1 : a < b
  · exact .inl h1
  · by_cases h2 : b < a
    · exact .inr (.inr h2)
    · exact .inr (.inl (List.le_antisymm (List.not_lt.1 h2) (List.not_lt.1 h1)))
theorem lt_irr (a : List UInt8) : ¬ a < a := List.lt_irrefl a
theorem cmp_eq (x y : Li) : literal_Compare_m x y = some (cmpI x y) := by
  unfold literal_Compare_m cmp_Compare_string_m cmp_isNaN_string_m cmpI
  simp only [letM_eq, beq_self_eq_true, Bool.not_true, some_bind, cond_false, bl_lt]
  by_cases h1 : x.Name.toList < y.Name.toList
  · simp [h1]
  · by_cases h2 : y.Name.toList < x.Name.toList
    · have hne : x.Name.toList ≠ y.Name.toList := fun e => by rw [e] at h2; exact lt_irr _ h2
      rw [beq_eq_false_iff_ne.2 hne]
      simp [h1, h2]
    · have he : x.Name.toList = y.Name.toList := List.le_antisymm (List.not_lt.1 h2) (List.not_lt.1 h1)
      rw [he]
      have := lt_irr y.Name.toList
      simp only [this, decide_false, beq_self_eq_true, Bool.or_true, Bool.not_true, cond_false, some_bind, bne_self_eq_false, if_false]
      cases x.Neg <;> cases y.Neg <;> rfl
theorem cmp_lt {x y : Li} : cmpI x y < 0 ↔ LtL x y := by
  unfold cmpI LtL
  by_cases h1 : x.Name.toList < y.Name.toList
  · simp [h1]
  · by_cases h2 : y.Name.toList < x.Name.toList
    · have hne : x.Name ≠ y.Name := fun e => by rw [e] at h2; exact lt_irr _ h2
      simp [h1, h2, hne]
    · have he : x.Name = y.Name := ba_inj.1 (List.le_antisymm (List.not_lt.1 h2) (List.not_lt.1 h1))
      have := lt_irr y.Name.toList
      rw [he]
      simp only [this, if_false, false_or, true_and]
      cases x.Neg <;> cases y.Neg <;> simp
theorem ltL_irr (x : Li) : ¬ LtL x x := fun h => h.elim (lt_irr _) fun h => by rw [h.2.1] at h; cases h.2.2
theorem ltL_trans {x y z : Li} (h1 : LtL x y) (h2 : LtL y z) : LtL x z := by
  rcases h1 with h1 | ⟨e1, n1, p1⟩
  · rcases h2 with h2 | ⟨e2, n2, p2⟩
    · exact .inl (List.lt_trans h1 h2)
    · exact .inl (e2 ▸ h1)
  · rcases h2 with h2 | ⟨e2, n2, p2⟩
    · exact .inl (e1 ▸ h2)
    · rw [p1] at n2; cases n2
theorem ltL_tri (x y : Li) : LtL x y ∨ x = y ∨ LtL y x := by
  rcases tri x.Name.toList y.Name.toList with h | h | h
  · exact .inl (.inl h)
  · have he := ba_inj.1 h
    cases hx : x.Neg <;> cases hy : y.Neg
    · refine .inr (.inl ?_); cases x; cases y; simp_all
    · exact .inl (.inr ⟨he, hx, hy⟩)
    · exact .inr (.inr (.inr ⟨he.symm, hy, hx⟩))
    · refine .inr (.inl ?_); cases x; cases y; simp_all
  · exact .inr (.inr (.inl h))
theorem cfo_eq (x y : Li) : cfo literal_Compare_m x y = cmpI x y := by unfold cfo; rw [cmp_eq]; rfl
theorem ltOf_iff {x y : Li} : ltOf (cfo literal_Compare_m) x y = true ↔ LtL x y := by
  unfold ltOf; rw [cfo_eq, decide_eq_true_iff]; exact cmp_lt
theorem ltOf_false {x y : Li} : ltOf (cfo literal_Compare_m) x y = false ↔ ¬ LtL x y := by
  rw [← ltOf_iff]; simp
theorem cmpOk : CmpOk literal_Compare_m where
  tot x y := by rw [cfo_eq, cmp_eq]
  swo := {
    irrefl := fun x => ltOf_false.2 (ltL_irr x)
    trans := fun x y z h1 h2 => ltOf_iff.2 (ltL_trans (ltOf_iff.1 h1) (ltOf_iff.1 h2))
    ntrans := fun x y z h1 h2 => ltOf_false.2 fun h => by
      have h1 := ltOf_false.1 h1; have h2 := ltOf_false.1 h2
      rcases ltL_tri y x with q | q | q
      · exact h2 (ltL_trans q h)
      · exact h2 (q ▸ h)
      · exact h1 q }
  sep x y h1 h2 := by
    have h1 := ltOf_false.1 h1; have h2 := ltOf_false.1 h2
    exact ((ltL_tri x y).resolve_left h1).resolve_right h2

/-! ### sorted -/
abbrev LeL (x y : Li) : Prop := ¬ LtL y x
abbrev AscL (l : List Li) : Prop := l.Pairwise LtL
theorem leL_antisymm {x y : Li} (h1 : LeL x y) (h2 : LeL y x) : x = y := ((ltL_tri x y).resolve_left h2).resolve_right h1
theorem leL_trans {x y z : Li} (h1 : LeL x y) (h2 : LeL y z) : LeL x z := fun h => by
  rcases ltL_tri y x with q | q | q
  · exact h1 q
  · exact h2 (q ▸ h)
  · exact h2 (ltL_trans h q)
theorem srt_perm (l : List Li) : (sortL literal_Compare_m l).Perm l := List.mergeSort_perm _ _
theorem srt_pw (l : List Li) : (sortL literal_Compare_m l).Pairwise LeL := by
  have := List.pairwise_mergeSort (le := fun x y => !(ltOf (cfo literal_Compare_m)) y x) (fun a b c h1 h2 => by
    have h1 : LeL a b := ltOf_false.1 (by simpa using h1)
    have h2 : LeL b c := ltOf_false.1 (by simpa using h2)
    have := ltOf_false.2 (leL_trans h1 h2)
    simpa using this) (fun a b => by
    rcases ltL_tri a b with q | q | q
    · have : ltOf (cfo literal_Compare_m) b a = false := ltOf_false.2 fun h => ltL_irr _ (ltL_trans q h)
      simp [this]
    · subst q
      have : ltOf (cfo literal_Compare_m) a a = false := ltOf_false.2 (ltL_irr _)
      simp [this]
    · have : ltOf (cfo literal_Compare_m) a b = false := ltOf_false.2 fun h => ltL_irr _ (ltL_trans q h)
      simp [this]) l
  exact this.imp fun h => ltOf_false.1 (by simpa using h)
theorem srt_of_perm {l l' : List Li} (h : l.Perm l') : sortL literal_Compare_m l = sortL literal_Compare_m l' :=
  List.Perm.eq_of_pairwise (le := LeL) (fun a b _ _ h1 h2 => leL_antisymm h1 h2) (srt_pw l) (srt_pw l') ((srt_perm l).trans (h.trans (srt_perm l').symm))
theorem sortFM_eq {l : List Li} (h : l.length ≤ 1000000) : sortFM literal_Compare_m l = some (sortL literal_Compare_m l) := if_pos ⟨by omega, cmpOk⟩
theorem ascL_ext {l l' : List Li} (h : AscL l) (h' : AscL l') (hm : ∀ x, x ∈ l ↔ x ∈ l') : l = l' := by
  have nd : ∀ {l : List Li}, AscL l → l.Nodup := fun h => List.Pairwise.imp (R := LtL) (S := (· ≠ ·)) (fun {a b} hxy e => ltL_irr a (by rw [← e] at hxy; exact hxy)) h
  have hp : l.Perm l' := (List.perm_ext_iff_of_nodup (nd h) (nd h')).2 hm
  exact List.Perm.eq_of_pairwise (le := LeL) (fun a b _ _ h1 h2 => leL_antisymm h1 h2) (h.imp fun hxy q => ltL_irr _ (ltL_trans hxy q)) (h'.imp fun hxy q => ltL_irr _ (ltL_trans hxy q)) hp
end Go.Dc

set_option linter.unusedVariables false
set_option linter.unusedSimpArgs false
set_option linter.unusedSectionVars false
/-! slices.Compact of a sorted list. -/
namespace Go.Dc

theorem leL_get {s : List Li} (h : s.Pairwise LeL) {i j : Nat} (hij : i ≤ j) (hj : j < s.length) : LeL (s[i]'(by omega)) s[j] := by
  rcases Nat.lt_or_ge i j with q | q
  · exact List.pairwise_iff_getElem.1 h i j (by omega) hj q
  · have : i = j := by omega
    subst this; exact ltL_irr _
theorem ltL_of {x y : Li} (h : LeL x y) (hne : x ≠ y) : LtL x y := by
  rcases ltL_tri x y with q | q | q
  · exact q
  · exact absurd q hne
  · exact absurd q h
theorem ltL_le {x y z : Li} (h1 : LtL x y) (h2 : LeL y z) : LtL x z := by
  rcases ltL_tri x z with q | q | q
  · exact q
  · subst q; exact absurd h1 h2
  · exact absurd (ltL_trans q h1) h2
theorem le_ltL {x y z : Li} (h1 : LeL x y) (h2 : LtL y z) : LtL x z := by
  rcases ltL_tri x z with q | q | q
  · exact q
  · subst q; exact absurd h2 h1
  · exact absurd (ltL_trans h2 q) h1
theorem asc_take {s : List Li} (h : s.Pairwise LeL) {k : Nat} (hk : k ≤ s.length) (hd : ∀ i, (hi : i + 1 < k) → s[i]'(by omega) ≠ s[i + 1]'(by omega)) : AscL (s.take k) := by
  refine List.pairwise_iff_getElem.2 fun i j hi hj hij => ?_
  rw [List.length_take] at hi hj
  rw [List.getElem_take, List.getElem_take]
  exact ltL_le (ltL_of (leL_get h (Nat.le_succ i) (by omega)) (hd i (by omega))) (leL_get h (by omega) (by omega))
theorem mem_take_iff {s : List Li} {k : Nat} {x : Li} : x ∈ s.take k ↔ ∃ i, ∃ h : i < s.length, i < k ∧ s[i] = x := by
  constructor
  · intro h
    obtain ⟨i, hi, rfl⟩ := List.getElem_of_mem h
    rw [List.length_take] at hi
    exact ⟨i, by omega, by omega, by rw [List.getElem_take]⟩
  · rintro ⟨i, h, hk, rfl⟩
    have hi : i < (s.take k).length := by rw [List.length_take]; omega
    have := List.getElem_mem hi
    rwa [List.getElem_take] at this

/-- what Compact makes of a sorted list -/
def Cpt (s r : List Li) : Prop := AscL r ∧ (∀ x, x ∈ r ↔ x ∈ s) ∧ r.length ≤ s.length
theorem vix_eq {lo hi : Nat} {i : Nat} (h : lo + i < hi) : vixM (lo : Int) (hi : Int) (i : Int) = some (((lo + i : Nat)) : Int) := by
  unfold vixM
  rw [if_pos ⟨by omega, by simp only [Int.toNat_natCast]; omega⟩]
  simp
theorem cpt_l2 {s : List Li} (hl : s.length ≤ 1000000) (hs : s.Pairwise LeL) {K : Nat} (h1 : 1 ≤ K) (hK : K < s.length) (hd : ∀ i, (hi : i + 1 < K) → s[i]'(by omega) ≠ s[i + 1]'(by omega)) (he : s[K] = s[K - 1]'(by omega)) :
    T (loopC (slices_Compact_api_Literal_api_Literal_l2 s (K : Int)) ((K : Int), 1, s)) fun q => ∃ k : Nat, q.2 = (k : Int) ∧ q.1.length = s.length ∧ k ≤ s.length ∧ Cpt s (q.1.take k) := by
  refine T.loopK s.length (fun n st => ∃ k j : Nat, st.1 = (k : Int) ∧ st.2.1 = (j : Int) ∧ j = n + 1 ∧ K + j ≤ s.length ∧ k ≤ K + j - 1 ∧ st.2.2.length = s.length ∧ st.2.2.drop (K + j - 1) = s.drop (K + j - 1) ∧ AscL (st.2.2.take k) ∧ ∀ x, x ∈ st.2.2.take k ↔ x ∈ s.take (K + j))
    ⟨K, 1, rfl, rfl, rfl, by omega, by omega, rfl, rfl, asc_take hs (by omega) hd, fun x => ?_⟩ ?_
  · show x ∈ s.take K ↔ x ∈ s.take (K + 1)
    rw [mem_take_iff, mem_take_iff]
    constructor
    · rintro ⟨i, h, hk, e⟩; exact ⟨i, h, by omega, e⟩
    · rintro ⟨i, h, hk, e⟩
      rcases Nat.lt_or_ge i K with q | q
      · exact ⟨i, h, q, e⟩
      · have : i = K := by omega
        subst this
        exact ⟨i - 1, by omega, by omega, by rw [← he]; exact e⟩
  · rintro n ⟨_, _, d⟩ ⟨k, j, rfl, rfl, hj, hjs, hk, hdl, hdr, ha, hm⟩
    dsimp only at hdl hdr ha hm
    dsimp only [slices_Compact_api_Literal_api_Literal_l2]
    simp only [Int.toNat_natCast]
    refine T.cond (fun c => ?_) fun c => ?_
    · have hj2 : K + j < s.length := by have := of_decide_eq_true c; omega
      have hat : ∀ p, K + j - 1 ≤ p → (hp : p < s.length) → d[p]'(by omega) = s[p] := fun p hp1 hp => by
        have e : (d.drop (K + j - 1))[p - (K + j - 1)]? = (s.drop (K + j - 1))[p - (K + j - 1)]? := by rw [hdr]
        rw [List.getElem?_drop, List.getElem?_drop, show K + j - 1 + (p - (K + j - 1)) = p by omega, List.getElem?_eq_getElem (by omega), List.getElem?_eq_getElem hp] at e
        exact Option.some.inj e
      rw [vix_eq hj2, some_bind, idxM_nat (by omega), some_bind, isub64 (by omega) (by omega), show (j : Int) - 1 = ((j - 1 : Nat) : Int) by omega, vix_eq (by omega), some_bind, idxM_nat (by omega), some_bind, hat _ (by omega) hj2, hat _ (by omega) (by omega)]
      have hdr2 : ∀ x : Li, (d.set k x).drop (K + j) = s.drop (K + j) := fun x => by
        rw [List.drop_set_of_lt (by omega)]
        have := congrArg (List.drop 1) hdr
        rwa [List.drop_drop, List.drop_drop, show K + j - 1 + 1 = K + j by omega] at this
      have hdr3 : d.drop (K + j) = s.drop (K + j) := by
        have := congrArg (List.drop 1) hdr
        rwa [List.drop_drop, List.drop_drop, show K + j - 1 + 1 = K + j by omega] at this
      refine T.cond (fun c2 => ?_) fun c2 => ?_
      · have hne : s[K + j] ≠ s[K + (j - 1)]'(by omega) := by simpa using c2
        rw [some_bind, idxM_nat (by omega), some_bind, hat _ (by omega) hj2, idxM_nat (show k < d.length by omega), some_bind]
        simp only [letM_eq]
        rw [iadd1 (by omega), iadd1 (by omega)]
        have hlt : LtL (s[K + (j - 1)]'(by omega)) s[K + j] := ltL_of (leL_get hs (by omega) hj2) fun e => hne e.symm
        have htk : (d.set k s[K + j]).take (k + 1) = d.take k ++ [s[K + j]] := by
          rw [List.take_add_one, List.getElem?_set_self (by omega), List.take_set_of_le (Nat.le_refl _)]; rfl
        refine .ret ⟨by omega, k + 1, j + 1, rfl, rfl, by omega, by omega, by omega, by simp only [List.length_set]; exact hdl, ?_, ?_, fun x => ?_⟩
        · simp only [Int.toNat_natCast]
          rw [show K + (j + 1) - 1 = K + j by omega]; exact hdr2 _
        · simp only [Int.toNat_natCast]
          rw [htk]
          refine List.pairwise_append.2 ⟨ha, List.pairwise_singleton _ _, fun x hx y hy => ?_⟩
          rw [List.mem_singleton.1 hy]
          obtain ⟨i, hi, hik, rfl⟩ := mem_take_iff.1 ((hm x).1 hx)
          exact le_ltL (leL_get hs (show i ≤ K + (j - 1) by omega) (by omega)) hlt
        · simp only [Int.toNat_natCast]
          rw [htk, List.mem_append, hm, mem_take_iff, mem_take_iff, List.mem_singleton]
          constructor
          · rintro (⟨i, h, hk, e⟩ | e)
            · exact ⟨i, h, by omega, e⟩
            · exact ⟨K + j, hj2, by omega, e.symm⟩
          · rintro ⟨i, h, hk, e⟩
            rcases Nat.lt_or_ge i (K + j) with q | q
            · exact .inl ⟨i, h, q, e⟩
            · have : i = K + j := by omega
              subst this; exact .inr e.symm
      · have heq : s[K + j] = s[K + (j - 1)]'(by omega) := by simpa using c2
        rw [letM_eq, iadd1 (by omega)]
        refine .ret ⟨by omega, k, j + 1, rfl, rfl, by omega, by omega, by omega, hdl, ?_, ha, fun x => ?_⟩
        · rw [show K + (j + 1) - 1 = K + j by omega]; exact hdr3
        · rw [hm, mem_take_iff, mem_take_iff]
          constructor
          · rintro ⟨i, h, hk, e⟩; exact ⟨i, h, by omega, e⟩
          · rintro ⟨i, h, hk, e⟩
            rcases Nat.lt_or_ge i (K + j) with q | q
            · exact ⟨i, h, q, e⟩
            · have : i = K + j := by omega
              subst this
              exact ⟨K + (j - 1), by omega, by omega, by rw [← heq]; exact e⟩
    · have hj2 : K + j = s.length := by have := of_decide_eq_false c; omega
      refine .ret ⟨k, rfl, hdl, by omega, ha, fun x => ?_, by rw [List.length_take]; omega⟩
      have := hm x
      rw [hj2, List.take_length] at this
      exact this
theorem Compact_plain {s : List Li} (hl : s.length ≤ 1000000) (hs : s.Pairwise LeL) : T (slices_Compact_api_Literal_api_Literal_m s) (Cpt s) := by
  unfold slices_Compact_api_Literal_api_Literal_m
  have whole : (∀ i, (hi : i + 1 < s.length) → s[i] ≠ s[i + 1]) → Cpt s s := fun hd => ⟨by have := asc_take hs (Nat.le_refl _) hd; rwa [List.take_length] at this, fun _ => .rfl, Nat.le_refl _⟩
  refine T.cond (fun c => .ret (whole fun i hi => absurd (of_decide_eq_true c) (by omega))) fun c => ?_
  have h2 := of_decide_eq_false c
  refine T.bind (P := fun o => match o with | .inl r => Cpt s r | .inr _ => ∀ i, (hi : i + 1 < s.length) → s[i] ≠ s[i + 1]) ?_ fun o ho => ?_
  · refine T.loopK s.length (fun n st => ∃ k : Nat, st = (k : Int) ∧ k = n + 1 ∧ k ≤ s.length ∧ ∀ i, (hi : i + 1 < k) → (hs : i + 1 < s.length) → s[i]'(by omega) ≠ s[i + 1]) ⟨1, rfl, rfl, by omega, by omega⟩ ?_
    rintro n _ ⟨k, rfl, hk, hks, hd⟩
    dsimp only [slices_Compact_api_Literal_api_Literal_l1]
    refine T.cond (fun c => ?_) fun c => ?_
    · have hk2 : k < s.length := by have := of_decide_eq_true c; omega
      rw [idxM_nat hk2, some_bind, isub64 (by omega) (by omega), show (k : Int) - 1 = ((k - 1 : Nat) : Int) by omega, idxM_nat (by omega), some_bind]
      refine T.cond (fun c2 => ?_) fun c2 => ?_
      · have he : s[k] = s[k - 1]'(by omega) := of_decide_eq_true c2
        rw [slM_eq (by omega) (by omega) (by omega), some_bind]
        refine T.bind (cpt_l2 hl hs (by omega) hk2 (fun i hi => hd i hi (by omega)) he) ?_
        rintro ⟨d, _⟩ ⟨m, rfl, hdl, hm, hc⟩
        dsimp only at hdl hc ⊢
        rw [slM_eq (by omega) (by omega) (by omega), some_bind, slM_eq (by omega) (by omega) (by simp; omega), some_bind]
        refine .ret ?_
        simp only [Int.toNat_natCast, Int.toNat_zero, List.drop_zero]
        rw [List.append_assoc, List.take_append_of_le_length (by simp; omega), List.take_take, Nat.min_self]
        exact hc
      · have hne : s[k] ≠ s[k - 1]'(by omega) := of_decide_eq_false c2
        rw [letM_eq, iadd1 (by omega)]
        refine .ret ⟨by omega, k + 1, rfl, by omega, by omega, fun i hi hs' => ?_⟩
        rcases Nat.lt_or_ge (i + 1) k with q | q
        · exact hd i q hs'
        · have : i + 1 = k := by omega
          subst this
          exact fun e => hne e.symm
    · have hk2 : k = s.length := by have := of_decide_eq_false c; omega
      refine .ret fun i hi => hd i (by omega) hi
  · rcases o with r | u
    · exact .ret ho
    · exact .ret (whole ho)

/-- the normal form: ascending, each once -/
structure Nf (l r : List Li) : Prop where
  asc : AscL r
  mem : ∀ x, x ∈ r ↔ x ∈ l
  len : r.length ≤ l.length
theorem Nf.eq {l l' r r' : List Li} (h : Nf l r) (h' : Nf l' r') (hm : ∀ x, x ∈ l ↔ x ∈ l') : r = r' := ascL_ext h.asc h'.asc fun x => by rw [h.mem, h'.mem, hm]
theorem Normal_plain {l : List Li} (hl : l.length ≤ 1000000) : T (literal_Normal_m l) (Nf l) := by
  unfold literal_Normal_m slices_Clone_api_Literal_api_Literal_m
  rw [appM_eq (by simp; omega), some_bind, List.nil_append, sortFM_eq hl, some_bind]
  refine T.bind (Compact_plain (by rw [sortL_len]; exact hl) (srt_pw l)) fun r hr => .ret ⟨hr.1, fun x => by rw [hr.2.1, (srt_perm l).mem_iff], by have := hr.2.2; rwa [sortL_len] at this⟩
end Go.Dc
