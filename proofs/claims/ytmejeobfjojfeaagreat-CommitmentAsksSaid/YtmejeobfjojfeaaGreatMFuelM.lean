/- Part M.FuelM of a proof: lemmas. -/
import Derived.Test.YtmejeobfjojfeaaGreatP26ZMade
import Derived.Test.YtmejeobfjojfeaaGreatDcSortN
import Derived.Test.YtmejeobfjojfeaaGreatDcBa
import Derived.Test.YtmejeobfjojfeaaGreatDcLend
set_option linter.unusedVariables false
set_option linter.unusedSimpArgs false
set_option linter.unusedSectionVars false
namespace Go.Dc
open Go.Sort Go.Proofs

theorem cfo_eq (x y : Li) : cfo literal_Compare_m x y = cmpI x y := by unfold cfo; rw [cmp_eq]; rfl
theorem ltOf_iff {x y : Li} : ltOf (cfo literal_Compare_m) x y = true ↔ LtL x y := by
 unfold ltOf; rw [cfo_eq, decide_eq_true_iff]; exact cmp_lt
theorem ltOf_false {x y : Li} : ltOf (cfo literal_Compare_m) x y = false ↔ ¬ LtL x y := by
 rw [← ltOf_iff]; simp
theorem cmpOk : CmpOk literal_Compare_m where
 tot x y := by rw [cfo_eq, cmp_eq]
 swo := {
  irrefl := fun x => ltOf_false.2 (ltL_irr x)
  trans := fun x y z h1 h2 => ltOf_iff.2 (ltL_trans (ltOf_iff.1 h1) (ltOf_iff.1 h2))
  ntrans := fun x y z h1 h2 => ltOf_false.2 fun h => by
   have h1 := ltOf_false.1 h1; have h2 := ltOf_false.1 h2
   rcases ltL_tri y x with q | q | q
   ·exact h2 (ltL_trans q h)
   ·exact h2 (q ▸ h)
   ·exact h1 q }
 sep x y h1 h2 := by
  have h1 := ltOf_false.1 h1; have h2 := ltOf_false.1 h2
  exact ((ltL_tri x y).resolve_left h1).resolve_right h2

theorem srt_perm (l : List Li) : (sortL literal_Compare_m l).Perm l := List.mergeSort_perm _ _
theorem srt_pw (l : List Li) : (sortL literal_Compare_m l).Pairwise LeL := by
 have := List.pairwise_mergeSort (le := fun x y => !(ltOf (cfo literal_Compare_m)) y x) (fun a b c h1 h2 => by
  have h1 : LeL a b := ltOf_false.1 (by simpa using h1)
  have h2 : LeL b c := ltOf_false.1 (by simpa using h2)
  have := ltOf_false.2 (leL_trans h1 h2)
  simpa using this) (fun a b => by
  rcases ltL_tri a b with q | q | q
  ·have : ltOf (cfo literal_Compare_m) b a = false := ltOf_false.2 fun h => ltL_irr _ (ltL_trans q h)
   simp [this]
  ·subst q
   have : ltOf (cfo literal_Compare_m) a a = false := ltOf_false.2 (ltL_irr _)
   simp [this]
  ·have : ltOf (cfo literal_Compare_m) a b = false := ltOf_false.2 fun h => ltL_irr _ (ltL_trans q h)
   simp [this]) l
 exact this.imp fun h => ltOf_false.1 (by simpa using h)
theorem sortFM_eq {l : List Li} (h : l.length ≤ 1000000) : sortFM literal_Compare_m l = some (sortL literal_Compare_m l) := if_pos ⟨by omega, cmpOk⟩
theorem leL_get {s : List Li} (h : s.Pairwise LeL) {i j : Nat} (hij : i ≤ j) (hj : j < s.length) : LeL (s[i]'(by omega)) s[j] := by
 rcases Nat.lt_or_ge i j with q | q
 ·exact List.pairwise_iff_getElem.1 h i j (by omega) hj q
 ·have : i = j := by omega
  subst this; exact ltL_irr _
theorem ltL_of {x y : Li} (h : LeL x y) (hne : x ≠ y) : LtL x y := by
 rcases ltL_tri x y with q | q | q
 ·exact q
 ·exact absurd q hne
 ·exact absurd q h
theorem ltL_le {x y z : Li} (h1 : LtL x y) (h2 : LeL y z) : LtL x z := by
 rcases ltL_tri x z with q | q | q
 ·exact q
 ·subst q; exact absurd h1 h2
 ·exact absurd (ltL_trans q h1) h2
theorem le_ltL {x y z : Li} (h1 : LeL x y) (h2 : LtL y z) : LtL x z := by
 rcases ltL_tri x z with q | q | q
 ·exact q
 ·subst q; exact absurd h2 h1
 ·exact absurd (ltL_trans h2 q) h1
theorem asc_take {s : List Li} (h : s.Pairwise LeL) {k : Nat} (hk : k ≤ s.length) (hd : ∀ i, (hi : i + 1 < k) → s[i]'(by omega) ≠ s[i + 1]'(by omega)) : AscL (s.take k) := by
 refine List.pairwise_iff_getElem.2 fun i j hi hj hij => ?_
 rw [List.length_take] at hi hj
 rw [List.getElem_take, List.getElem_take]
 exact ltL_le (ltL_of (leL_get h (Nat.le_succ i) (by omega)) (hd i (by omega))) (leL_get h (by omega) (by omega))
theorem mem_take_iff {s : List Li} {k : Nat} {x : Li} : x ∈ s.take k ↔ ∃ i, ∃ h : i < s.length, i < k ∧ s[i] = x := by
 constructor
 ·intro h
  obtain ⟨i, hi, rfl⟩ := List.getElem_of_mem h
  rw [List.length_take] at hi
  exact ⟨i, by omega, by omega, by rw [List.getElem_take]⟩
 ·rintro ⟨i, h, hk, rfl⟩
  have hi : i < (s.take k).length := by rw [List.length_take]; omega
  have := List.getElem_mem hi
  rwa [List.getElem_take] at this

def Cpt (s r : List Li) : Prop := AscL r ∧ (∀ x, x ∈ r ↔ x ∈ s) ∧ r.length ≤ s.length
theorem vix_eq {lo hi : Nat} {i : Nat} (h : lo + i < hi) : vixM (lo : Int) (hi : Int) (i : Int) = some (((lo + i : Nat)) : Int) := by
 unfold vixM
 rw [if_pos ⟨by omega, by simp only [Int.toNat_natCast]; omega⟩]
 simp
theorem cpt_l2 {s : List Li} (hl : s.length ≤ 1000000) (hs : s.Pairwise LeL) {K : Nat} (h1 : 1 ≤ K) (hK : K < s.length) (hd : ∀ i, (hi : i + 1 < K) → s[i]'(by omega) ≠ s[i + 1]'(by omega)) (he : s[K] = s[K - 1]'(by omega)) :
    T (loopC (sCoL_q_l2 s (K : Int)) ((K : Int), 1, s)) fun q => ∃ k : Nat, q.2 = (k : Int) ∧ q.1.length = s.length ∧ k ≤ s.length ∧ Cpt s (q.1.take k) := by
  refine T.loopK s.length (fun n st => ∃ k j : Nat, st.1 = (k : Int) ∧ st.2.1 = (j : Int) ∧ j = n + 1 ∧ K + j ≤ s.length ∧ k ≤ K + j - 1 ∧ st.2.2.length = s.length ∧ st.2.2.drop (K + j - 1) = s.drop (K + j - 1) ∧ AscL (st.2.2.take k) ∧ ∀ x, x ∈ st.2.2.take k ↔ x ∈ s.take (K + j))
    ⟨K, 1, rfl, rfl, rfl, by omega, by omega, rfl, rfl, asc_take hs (by omega) hd, fun x => ?_⟩ ?_
  · show x ∈ s.take K ↔ x ∈ s.take (K + 1)
    rw [mem_take_iff, mem_take_iff]
    constructor
    · rintro ⟨i, h, hk, e⟩; exact ⟨i, h, by omega, e⟩
    · rintro ⟨i, h, hk, e⟩
      rcases Nat.lt_or_ge i K with q | q
      · exact ⟨i, h, q, e⟩
      · have : i = K := by omega
        subst this
        exact ⟨i - 1, by omega, by omega, by rw [← he]; exact e⟩
  · rintro n ⟨_, _, d⟩ ⟨k, j, rfl, rfl, hj, hjs, hk, hdl, hdr, ha, hm⟩
    dsimp only at hdl hdr ha hm
    dsimp only [sCoL_q_l2]
    simp only [Int.toNat_natCast]
    refine T.cond (fun c => ?_) fun c => ?_
    · have hj2 : K + j < s.length := by have := of_decide_eq_true c; omega
      have hat : ∀ p, K + j - 1 ≤ p → (hp : p < s.length) → d[p]'(by omega) = s[p] := fun p hp1 hp => by
        have e : (d.drop (K + j - 1))[p - (K + j - 1)]? = (s.drop (K + j - 1))[p - (K + j - 1)]? := by rw [hdr]
        rw [List.getElem?_drop, List.getElem?_drop, show K + j - 1 + (p - (K + j - 1)) = p by omega, List.getElem?_eq_getElem (by omega), List.getElem?_eq_getElem hp] at e
        exact Option.some.inj e
      rw [vix_eq hj2, some_bind, idxM_nat (by omega), some_bind, isub64 (by omega) (by omega), show (j : Int) - 1 = ((j - 1 : Nat) : Int) by omega, vix_eq (by omega), some_bind, idxM_nat (by omega), some_bind, hat _ (by omega) hj2, hat _ (by omega) (by omega)]
      have hdr2 : ∀ x : Li, (d.set k x).drop (K + j) = s.drop (K + j) := fun x => by
        rw [List.drop_set_of_lt (by omega)]
        have := congrArg (List.drop 1) hdr
        rwa [List.drop_drop, List.drop_drop, show K + j - 1 + 1 = K + j by omega] at this
      have hdr3 : d.drop (K + j) = s.drop (K + j) := by
        have := congrArg (List.drop 1) hdr
        rwa [List.drop_drop, List.drop_drop, show K + j - 1 + 1 = K + j by omega] at this
      refine T.cond (fun c2 => ?_) fun c2 => ?_
      · have hne : s[K + j] ≠ s[K + (j - 1)]'(by omega) := by simpa using c2
        rw [some_bind, idxM_nat (by omega), some_bind, hat _ (by omega) hj2, idxM_nat (show k < d.length by omega), some_bind]
        simp only [letM_eq]
        rw [iaddS (by omega), iaddS (by omega)]
        have hlt : LtL (s[K + (j - 1)]'(by omega)) s[K + j] := ltL_of (leL_get hs (by omega) hj2) fun e => hne e.symm
        have htk : (d.set k s[K + j]).take (k + 1) = d.take k ++ [s[K + j]] := by
          rw [List.take_add_one, List.getElem?_set_self (by omega), List.take_set_of_le (Nat.le_refl _)]; rfl
        refine .ret ⟨by omega, k + 1, j + 1, rfl, rfl, by omega, by omega, by omega, by simp only [List.length_set]; exact hdl, ?_, ?_, fun x => ?_⟩
        · simp only [Int.toNat_natCast]
          rw [show K + (j + 1) - 1 = K + j by omega]; exact hdr2 _
        · simp only [Int.toNat_natCast]
          rw [htk]
          refine List.pairwise_append.2 ⟨ha, List.pairwise_singleton _ _, fun x hx y hy => ?_⟩
          rw [List.mem_singleton.1 hy]
          obtain ⟨i, hi, hik, rfl⟩ := mem_take_iff.1 ((hm x).1 hx)
          exact le_ltL (leL_get hs (show i ≤ K + (j - 1) by omega) (by omega)) hlt
        · simp only [Int.toNat_natCast]
          rw [htk, List.mem_append, hm, mem_take_iff, mem_take_iff, List.mem_singleton]
          constructor
          · rintro (⟨i, h, hk, e⟩ | e)
            · exact ⟨i, h, by omega, e⟩
            · exact ⟨K + j, hj2, by omega, e.symm⟩
          · rintro ⟨i, h, hk, e⟩
            rcases Nat.lt_or_ge i (K + j) with q | q
            · exact .inl ⟨i, h, q, e⟩
            · have : i = K + j := by omega
              subst this; exact .inr e.symm
      · have heq : s[K + j] = s[K + (j - 1)]'(by omega) := by simpa using c2
        rw [letM_eq, iaddS (by omega)]
        refine .ret ⟨by omega, k, j + 1, rfl, rfl, by omega, by omega, by omega, hdl, ?_, ha, fun x => ?_⟩
        · rw [show K + (j + 1) - 1 = K + j by omega]; exact hdr3
        · rw [hm, mem_take_iff, mem_take_iff]
          constructor
          · rintro ⟨i, h, hk, e⟩; exact ⟨i, h, by omega, e⟩
          · rintro ⟨i, h, hk, e⟩
            rcases Nat.lt_or_ge i (K + j) with q | q
            · exact ⟨i, h, q, e⟩
            · have : i = K + j := by omega
              subst this
              exact ⟨K + (j - 1), by omega, by omega, by rw [← heq]; exact e⟩
    · have hj2 : K + j = s.length := by have := of_decide_eq_false c; omega
      refine .ret ⟨k, rfl, hdl, by omega, ha, fun x => ?_, by rw [List.length_take]; omega⟩
      have := hm x
      rw [hj2, List.take_length] at this
      exact this
theorem Compact_plain {s : List Li} (hl : s.length ≤ 1000000) (hs : s.Pairwise LeL) : T (sCoL_q_m s) (Cpt s) := by
 unfold sCoL_q_m
 have whole : (∀ i, (hi : i + 1 < s.length) → s[i] ≠ s[i + 1]) → Cpt s s := fun hd => ⟨by have := asc_take hs (Nat.le_refl _) hd; rwa [List.take_length] at this, fun _ => .rfl, Nat.le_refl _⟩
 refine T.cond (fun c => .ret (whole fun i hi => absurd (of_decide_eq_true c) (by omega))) fun c => ?_
 have h2 := of_decide_eq_false c
 refine T.bind (P := fun o => match o with | .inl r => Cpt s r | .inr _ => ∀ i, (hi : i + 1 < s.length) → s[i] ≠ s[i + 1]) ?_ fun o ho => ?_
 ·refine T.loopK s.length (fun n st => ∃ k : Nat, st = (k : Int) ∧ k = n + 1 ∧ k ≤ s.length ∧ ∀ i, (hi : i + 1 < k) → (hs : i + 1 < s.length) → s[i]'(by omega) ≠ s[i + 1]) ⟨1, rfl, rfl, by omega, by omega⟩ ?_
  rintro n _ ⟨k, rfl, hk, hks, hd⟩
  dsimp only [sCoL_q_l1]
  refine T.cond (fun c => ?_) fun c => ?_
  ·have hk2 : k < s.length := by have := of_decide_eq_true c; omega
   rw [idxM_nat hk2, some_bind, isub64 (by omega) (by omega), show (k : Int) - 1 = ((k - 1 : Nat) : Int) by omega, idxM_nat (by omega), some_bind]
   refine T.cond (fun c2 => ?_) fun c2 => ?_
   ·have he : s[k] = s[k - 1]'(by omega) := of_decide_eq_true c2
    rw [slM_eq (by omega) (by omega) (by omega), some_bind]
    refine T.bind (cpt_l2 hl hs (by omega) hk2 (fun i hi => hd i hi (by omega)) he) ?_
    rintro ⟨d, _⟩ ⟨m, rfl, hdl, hm, hc⟩
    dsimp only at hdl hc ⊢
    rw [slM_eq (by omega) (by omega) (by omega), some_bind, slM_eq (by omega) (by omega) (by simp; omega), some_bind]
    refine .ret ?_
    simp only [Int.toNat_natCast, Int.toNat_zero, List.drop_zero]
    rw [List.append_assoc, List.take_append_of_le_length (by simp; omega), List.take_take, Nat.min_self]
    exact hc
   ·have hne : s[k] ≠ s[k - 1]'(by omega) := of_decide_eq_false c2
    rw [letM_eq, iaddS (by omega)]
    refine .ret ⟨by omega, k + 1, rfl, by omega, by omega, fun i hi hs' => ?_⟩
    rcases Nat.lt_or_ge (i + 1) k with q | q
    ·exact hd i q hs'
    ·have : i + 1 = k := by omega
     subst this
     exact fun e => hne e.symm
  ·have hk2 : k = s.length := by have := of_decide_eq_false c; omega
   refine .ret fun i hi => hd i (by omega) hi
 ·rcases o with r | u
  ·exact .ret ho
  ·exact .ret (whole ho)

structure Nf (l r : List Li) : Prop where
 asc : AscL r
 mem : ∀ x, x ∈ r ↔ x ∈ l
 len : r.length ≤ l.length
theorem Nf.eq {l l' r r' : List Li} (h : Nf l r) (h' : Nf l' r') (hm : ∀ x, x ∈ l ↔ x ∈ l') : r = r' := ascL_ext h.asc h'.asc fun x => by rw [h.mem, h'.mem, hm]
theorem Normal_plain {l : List Li} (hl : l.length ≤ 1000000) : T (literal_Normal_s1_m l) (Nf l) := by
 unfold literal_Normal_s1_m slices_Clone_api_Literal_api_Literal_m
 rw [appM_eq (by simp; omega), some_bind, List.nil_append, sortFM_eq hl, some_bind]
 refine T.bind (Compact_plain (by rw [sortL_len]; exact hl) (srt_pw l)) fun r hr => .ret ⟨hr.1, fun x => by rw [hr.2.1, (srt_perm l).mem_iff], by have := hr.2.2; rwa [sortL_len] at this⟩

section
variable {α : Type}
theorem ix_loop {s : List α} {g : α → Option Bool} {p : α → Bool} (hl : s.length ≤ 1000000) (hg : ∀ x ∈ s, g x = some (p x)) {F : Int → Option (Sum (Sum Int Unit) Int)}
  (hF : F = fun k => bif decide (k < (s.length : Int)) then (idxM s k).bind fun t => (g t).bind fun b => bif b then some (.inl (.inl k)) else some (.inr (iadd .i64 k 1)) else some (.inl (.inr ()))) :
  T (loopC F 0) fun o => match o with | .inl r => ∃ k : Nat, r = k ∧ s.findIdx? p = some k | .inr _ => s.findIdx? p = none := by
 subst hF
 refine T.loopK s.length (fun k z => k ≤ s.length ∧ z = (k : Int) ∧ ∀ i, i < k → ∀ (hi : i < s.length), p s[i] = false) ⟨by omega, rfl, by omega⟩ ?_
 rintro k _ ⟨hk, rfl, hn⟩
 refine T.cond (fun c => ?_) fun c => ?_
 ·have hk2 : k < s.length := by have := of_decide_eq_true c; omega
  rw [idxM_nat hk2, some_bind, hg _ (List.getElem_mem hk2), some_bind, iaddS (by omega)]
  refine T.cond (fun c2 => .ret ⟨k, rfl, ?_⟩) fun c2 => .ret ⟨hk2, hk2, rfl, fun i hi h => ?_⟩
  ·exact List.findIdx?_eq_some_iff_getElem.2 ⟨hk2, c2, fun j hj => by simp [hn j hj (by omega)]⟩
  ·rcases Nat.lt_or_ge i k with h2 | h2
   ·exact hn i h2 h
   ·have : i = k := by omega
    subst this; exact c2
 ·have hk2 : k = s.length := by have := of_decide_eq_false c; omega
  refine .ret ?_
  show s.findIdx? p = none
  rw [List.findIdx?_eq_none_iff]
  intro x hx
  obtain ⟨i, hi, rfl⟩ := List.getElem_of_mem hx
  exact hn i (by omega) hi
theorem ix_eq {s : List α} {g : α → Option Bool} {p : α → Bool} (hl : s.length ≤ 1000000) (hg : ∀ x ∈ s, g x = some (p x)) {F : Int → Option (Sum (Sum Int Unit) Int)}
  (hF : F = fun k => bif decide (k < (s.length : Int)) then (idxM s k).bind fun t => (g t).bind fun b => bif b then some (.inl (.inl k)) else some (.inr (iadd .i64 k 1)) else some (.inl (.inr ()))) :
  (Option.bind (loopC F 0) (sumK (fun a : Int => some a) fun _ : Unit => some (-1))) = some (match s.findIdx? p with | some k => (k : Int) | none => -1) := by
 refine T.eq (T.bind (ix_loop hl hg hF) fun o ho => ?_)
 rcases o with r | u
 ·obtain ⟨k, rfl, h⟩ := ho
  exact .ret (by rw [h])
 ·exact .ret (by rw [show s.findIdx? p = none from ho])
theorem df_eq {s : List α} {g : α → Option Bool} {p : α → Bool} {z : α} (hl : s.length ≤ 1000000) (hg : ∀ x ∈ s, g x = some (p x)) {ix : Option Int} (hix : ix = some (match s.findIdx? p with | some k => (k : Int) | none => -1))
  {F : Int × Int × List α → Option (Sum (Int × List α) (Int × Int × List α))}
  (hF : F = fun st => bif decide (st.2.1 < (st.2.2.length : Int)) then (idxM st.2.2 st.2.1).bind fun v => (g v).bind fun b => bif !b then (idxM st.2.2 st.1).bind fun _ => some (.inr (iadd .i64 st.1 1, iadd .i64 st.2.1 1, st.2.2.set (Int.toNat st.1) v)) else some (.inr (st.1, iadd .i64 st.2.1 1, st.2.2)) else some (.inl (st.1, st.2.2))) :
  (ix.bind fun i1 => bif i1 == (-1) then some s else (loopC F (i1, iadd .i64 i1 1, s)).bind fun q32 => (slM q32.2 q32.1 (q32.2.length : Int)).bind fun _ => (slM q32.2 q32.1 (q32.2.length : Int)).bind fun _ =>
   (slM (q32.2.take (Int.toNat q32.1) ++ List.replicate (Int.toNat (q32.2.length : Int) - Int.toNat q32.1) z ++ q32.2.drop (Int.toNat (q32.2.length : Int))) 0 q32.1).bind fun t35 => some t35) = some (s.filter fun x => !p x) := by
 subst hix; subst hF
 rw [some_bind]
 cases h : s.findIdx? p with
 | none =>
  rw [List.findIdx?_eq_none_iff] at h
  show (bif ((-1 : Int) == -1) then some s else _) = _
  rw [beq_self_eq_true, cond_true]
  congr 1
  refine (List.filter_eq_self.2 fun x hx => ?_).symm
  simp [h x hx]
 | some n =>
  rw [List.findIdx?_eq_some_iff_getElem] at h
  obtain ⟨hn, hp, hb⟩ := h
  show (bif ((n : Int) == -1) then some s else _) = _
  rw [show ((n : Int) == -1) = false by simp, cond_false, iaddS (by omega)]
  have hpre : (s.take n).filter (fun x => !p x) = s.take n := List.filter_eq_self.2 fun x hx => by
   obtain ⟨i, hi, rfl⟩ := List.getElem_of_mem hx
   have hi2 : i < n := by rw [List.length_take] at hi; omega
   rw [List.getElem_take]
   have := hb i hi2
   simpa using this
  refine T.eq (T.bind (P := fun q : Int × List α => ∃ i : Nat, q.1 = (i : Int) ∧ q.2.length = s.length ∧ i ≤ s.length ∧ q.2.take i = s.filter fun x => !p x) ?_ ?_)
  ·refine T.loopK s.length (fun k st => ∃ i j : Nat, st.1 = (i : Int) ∧ st.2.1 = (j : Int) ∧ j = n + 1 + k ∧ j ≤ s.length ∧ i < j ∧ st.2.2.length = s.length ∧ st.2.2.take i = (s.take j).filter (fun x => !p x) ∧ st.2.2.drop j = s.drop j) ⟨n, n + 1, rfl, rfl, rfl, by omega, by omega, rfl, ?_, rfl⟩ ?_
   ·rw [List.take_add_one, List.getElem?_eq_getElem hn, List.filter_append, hpre]
    simp [hp]
   ·rintro k ⟨_, _, d⟩ ⟨i, j, rfl, rfl, hj, hjs, hij, hd, ht, hr⟩
    dsimp only at hd ht hr ⊢
    refine T.cond (fun c => ?_) fun c => ?_
    ·have hj2 : j < s.length := by have := of_decide_eq_true c; omega
     have hjd : d[j]'(by omega) = s[j] := by
      have e : (d.drop j)[0]? = (s.drop j)[0]? := by rw [hr]
      rw [List.getElem?_drop, List.getElem?_drop, Nat.add_zero, List.getElem?_eq_getElem (by omega), List.getElem?_eq_getElem hj2] at e
      exact Option.some.inj e
     rw [idxM_nat (show j < d.length by omega), some_bind, hjd, hg _ (List.getElem_mem hj2), some_bind, idxM_nat (show i < d.length by omega), some_bind, iaddS (by omega), iaddS (by omega)]
     have htj : (s.take (j + 1)).filter (fun x => !p x) = (s.take j).filter (fun x => !p x) ++ (if p s[j] then [] else [s[j]]) := by
      rw [List.take_add_one, List.getElem?_eq_getElem hj2, List.filter_append]
      congr 1; cases hh : p s[j] <;> simp [hh]
     have hrj : d.drop (j + 1) = s.drop (j + 1) := by
      have := congrArg (List.drop 1) hr
      rwa [List.drop_drop, List.drop_drop] at this
     refine T.cond (fun c2 => .ret ⟨by omega, i + 1, j + 1, rfl, rfl, by omega, by omega, by omega, by simp [hd], ?_, ?_⟩) fun c2 => .ret ⟨by omega, i, j + 1, rfl, rfl, by omega, by omega, by omega, hd, ?_, hrj⟩
     ·have c2' : p s[j] = false := by simpa using c2
      rw [htj, c2', ← ht]
      simp only [Int.toNat_natCast, Bool.false_eq_true, if_false]
      rw [List.take_add_one, List.getElem?_set_self (by omega), List.take_set_of_le (Nat.le_refl _)]; rfl
     ·simp only [Int.toNat_natCast]
      rw [List.drop_set_of_lt (by omega)]; exact hrj
     ·have c2' : p s[j] = true := by simpa using c2
      rw [htj, c2', ht]; simp
    ·have hj2 : j = s.length := by have := of_decide_eq_false c; omega
     refine .ret ⟨i, rfl, hd, by omega, ?_⟩
     rw [ht, hj2, List.take_length]
  ·rintro ⟨_, d⟩ ⟨i, rfl, hd, hi, ht⟩
   dsimp only at hd ht ⊢
   rw [slM_eq (by omega) (by omega) (by omega), some_bind, some_bind, slM_eq (by omega) (by omega) (by simp; omega), some_bind]
   refine .ret ?_
   simp only [Int.toNat_natCast, Int.toNat_zero, List.drop_zero]
   rw [List.append_assoc, List.take_append_of_le_length (by simp; omega), List.take_take, Nat.min_self, ht]
end

end Go.Dc

namespace Go.Dc

variable {L : List Sl} {x : Li}
noncomputable def hasP (L : List Sl) (n : Int) (x : Li) : Bool := decide (vcode L = 0) && memB n L && hasC (L.getD n.toNat []) x
theorem has_p (hB : Bd L) (n : Int) (x : Li) : commitment_Has_m ⟨L⟩ n x = some (hasP L n x) := by
 unfold commitment_Has_m hasP
 rw [usable_eq hB, some_bind]
 cases hv : decide (vcode L = 0)
 ·rfl
 have hO := vcode_zero.1 (of_decide_eq_true hv)
 cases hm : memB n L
 ·rfl
 obtain ⟨w, rfl, hw⟩ := mem_nat hm
 rw [Bool.true_and, Bool.not_true, cond_false, toNat_n, getD_at hw, Bool.true_and]
 dsimp only
 rw [idxM_nat hw, some_bind, find_s1, find_eq (asc_at hO hw) (len_at hO hw), some_bind]
theorem has_rr (hB : Bd L) (n : Int) (x : Li) : ref26_Has_m ⟨L⟩ n x = some (hasP L n x) := by
 unfold ref26_Has_m hasP
 rw [refVal hB, some_bind, mem_r, some_bind]
 have e1 : ((vcode L) == 0) = decide (vcode L = 0) := rfl
 rw [e1]
 cases hv : decide (vcode L = 0)
 ·rfl
 have hO := vcode_zero.1 (of_decide_eq_true hv)
 cases hm : memB n L
 ·rfl
 obtain ⟨w, rfl, hw⟩ := mem_nat hm
 rw [cond_true, cond_true, toNat_n, getD_at hw, Bool.true_and]
 dsimp only
 rw [idxM_nat hw, some_bind, refFind_eq (asc_at hO hw) (len_at hO hw), some_bind, find_ge]; rfl
theorem all_inner (hO : OkA L) {i : Nat} (hi : i < L.length) {M : Sl} (hA : Asc M) (hl : M.length ≤ 1000) : T (loopC (ref26_all_l1 ⟨L⟩ ((i : Int), M)) (0, M)) fun q => Asc q ∧ q.length ≤ M.length + 40 ∧ ∀ x, hasC q x = (hasC M x || hasC L[i] x) := by
 have hlen := (hO.ok _ (List.getElem_mem hi)).len
 refine T.loopK L[i].length (fun k s => s.1 = (k : Int) ∧ k ≤ L[i].length ∧ Asc s.2 ∧ s.2.length ≤ M.length + k ∧ ∀ x, hasC s.2 x = (hasC M x || hasC (L[i].take k) x)) ⟨rfl, by omega, hA, by dsimp only; omega, fun x => by simp [hasC]⟩ ?_
 rintro k ⟨_, N⟩ ⟨rfl, hk, h1, h2, h3⟩
 dsimp only at h1 h2 h3
 unfold ref26_all_l1
 dsimp only
 rw [idxM_nat hi, some_bind]
 refine T.cond (fun g => ?_) fun g => ?_
 ·have hk2 : k < L[i].length := by have := of_decide_eq_true g; omega
  rw [some_bind, idxM_nat hk2, some_bind, with_eq h1 (by omega), some_bind, iaddS (by omega)]
  refine .ret ⟨hk2, rfl, hk2, put_asc h1 _, ?_, fun x => ?_⟩
  ·dsimp only; rw [put_len h1]; split <;> omega
  ·dsimp only
   rw [put_has h1, h3]
   have : hasC (L[i].take (k + 1)) x = (hasC (L[i].take k) x || decide (L[i][k].Claim = x)) := by
    unfold hasC; rw [take_succ' hk2, List.any_append]; simp
   rw [this]
   dsimp only
   cases decide (L[i][k].Claim = x) <;> cases hasC M x <;> cases hasC (L[i].take k) x <;> rfl
 ·have hk2 : k = L[i].length := by have := of_decide_eq_false g; omega
  subst hk2
  rw [List.take_length] at h3
  exact .ret ⟨h1, by omega, h3⟩
theorem all_plain (hO : OkA L) : T (ref26_all_m ⟨L⟩) fun r => AscL r ∧ r.length ≤ 240 ∧ ∀ x, x ∈ r ↔ ∃ l ∈ L, hasC l x = true := by
 have hn := hO.n
 unfold ref26_all_m
 refine T.bind (P := fun q => Asc q ∧ q.length ≤ 240 ∧ ∀ x, hasC q x = true ↔ ∃ l ∈ L, hasC l x = true) ?_ fun q ⟨q1, q2, q3⟩ => ?_
 ·refine T.loopK L.length (fun k s => s.1 = (k : Int) ∧ k ≤ L.length ∧ Asc s.2 ∧ s.2.length ≤ 40 * k ∧ ∀ x, hasC s.2 x = true ↔ ∃ l ∈ L.take k, hasC l x = true) ⟨rfl, by omega, List.Pairwise.nil, by simp, fun x => by simp [hasC]⟩ ?_
  rintro k ⟨_, N⟩ ⟨rfl, hk, h1, h2, h3⟩
  dsimp only at h1 h2 h3
  unfold ref26_all_l2
  dsimp only
  refine T.cond (fun g => ?_) fun g => ?_
  ·have hk2 : k < L.length := by have := of_decide_eq_true g; omega
   refine T.bind (all_inner hO hk2 h1 (by omega)) fun q ⟨q1, q2, q3⟩ => ?_
   rw [iaddS (by omega)]
   refine .ret ⟨hk2, rfl, hk2, q1, by dsimp only; omega, fun x => ?_⟩
   dsimp only
   rw [q3, Bool.or_eq_true, h3, take_succ' hk2]
   simp only [List.mem_append, List.mem_singleton]
   constructor
   ·rintro (⟨l, hl, e⟩ | e)
    ·exact ⟨l, .inl hl, e⟩
    ·exact ⟨_, .inr rfl, e⟩
   ·rintro ⟨l, hl | hl, e⟩
    ·exact .inl ⟨l, hl, e⟩
    ·exact .inr (hl ▸ e)
  ·have hk2 : k = L.length := by have := of_decide_eq_false g; omega
   subst hk2
   rw [List.take_length] at h3
   exact .ret ⟨h1, by omega, h3⟩
 ·refine T.bind (P := fun r => r = q.map (·.Claim)) ?_ fun r hr => ?_
  ·refine T.loopK q.length (fun k s => s = ((k : Int), (q.take k).map (·.Claim)) ∧ k ≤ q.length) ⟨rfl, by omega⟩ ?_
   rintro k _ ⟨rfl, hk⟩
   unfold ref26_all_l3
   dsimp only
   refine T.cond (fun g => ?_) fun g => ?_
   ·have hk2 : k < q.length := by have := of_decide_eq_true g; omega
    rw [idxM_nat hk2, some_bind, appM_eq (by simp; omega), some_bind, iaddS (by omega)]
    exact .ret ⟨hk2, by rw [take_succ' hk2, List.map_append]; rfl, hk2⟩
   ·have hk2 : k = q.length := by have := of_decide_eq_false g; omega
    subst hk2
    exact .ret (by rw [List.take_length])
  ·subst hr
   refine .ret ⟨q1, by rw [List.length_map]; exact q2, fun x => ?_⟩
   rw [← q3, hasC_iff, List.mem_map]

structure ComP (L : List Sl) (r : List Li) : Prop where
 asc : AscL r
 len : r.length ≤ 240
 mem : ∀ x, x ∈ r ↔ L ≠ [] ∧ ∀ l ∈ L, hasC l x = true
theorem ComP.eq {r r' : List Li} (h : ComP L r) (h' : ComP L r') : r = r' := ascL_ext h.asc h'.asc fun x => by rw [h.mem, h'.mem]
theorem asc_filter {l : List Li} (h : AscL l) (p : Li → Bool) : AscL (l.filter p) := List.Pairwise.sublist List.filter_sublist h
theorem usable_zero (hO : OkA L) : commitment_usable_m ⟨L⟩ 0 = some (decide (L ≠ [])) := by
 rw [usable_eq hO.bd, decide_eq_true (vcode_zero.2 hO), Bool.true_and]
 congr 1
 unfold memB
 cases L with
 | nil => rfl
 | cons a m =>
  have e1 : decide ((0 : Int) < (((a :: m).length : Nat) : Int)) = true := decide_eq_true (by simp only [List.length_cons]; omega)
  have e2 : decide (a :: m ≠ []) = true := decide_eq_true (by simp)
  rw [e1, e2]; rfl
theorem common_del (hO : OkA L) {s : List Li} (hs : s.length ≤ 1000000) : slices_DeleteFunc_api_Literal_api_Literal_m s L = some (s.filter fun x => !(L.any fun l => !hasC l x)) := by
 have hg : ∀ x : Li, commitment_Common_1_m x L = some (L.any fun l => !hasC l x) := fun x => by
  have hn := hO.n
  have : sCFC_s8_m L x.Neg x.Name = some (L.any fun l => !hasC l x) :=
   con_eq (s := L) (g := fun l => Option.bind (commitment_find_s1_m l (T_api_Literal.mk x.Neg x.Name)) fun t1 => some (!t1.2)) _ (by omega) fun l hl => by
    rw [lit_eta, find_s1, find_eq (hO.ok l hl).asc (by have := (hO.ok l hl).len; omega), some_bind]
  unfold commitment_Common_1_m
  rw [this, some_bind]
 exact df_eq (p := fun x => L.any fun l => !hasC l x) (g := fun x => commitment_Common_1_m x L) hs (fun x _ => hg x) (ix_eq (g := fun x => commitment_Common_1_m x L) hs (fun x _ => hg x) rfl) rfl
theorem common_p (hB : Bd L) : T (commitment_Common_m ⟨L⟩) fun r => (vcode L ≠ 0 ∧ r = []) ∨ (OkA L ∧ ComP L r) := by
 unfold commitment_Common_m
 by_cases hv : vcode L = 0
 ·have hO := vcode_zero.1 hv
  rw [usable_zero hO, some_bind]
  by_cases hne : L = []
  ·subst hne
   exact .ret (.inr ⟨hO, List.Pairwise.nil, by simp, by simp⟩)
  ·have hpos : 0 < L.length := List.length_pos_iff.2 hne
   have hlen := (hO.ok _ (List.getElem_mem hpos)).len
   rw [decide_eq_true hne, Bool.not_true, cond_false]
   dsimp only
   rw [show (0 : Int) = ((0 : Nat) : Int) from rfl, idxM_nat hpos, some_bind, claims_eq (by omega), some_bind, common_del hO (by rw [List.length_map]; omega), some_bind]
   refine .ret (.inr ⟨hO, asc_filter (asc_at hO hpos) _, Nat.le_trans (List.length_filter_le _ _) (by rw [List.length_map]; omega), fun x => ?_⟩)
   rw [List.mem_filter, Bool.not_eq_true', List.any_eq_false]
   simp only [Bool.not_eq_true', Bool.not_eq_false]
   constructor
   ·rintro ⟨_, h⟩; exact ⟨hne, h⟩
   ·rintro ⟨_, h⟩
    refine ⟨?_, h⟩
    obtain ⟨c, hc, e⟩ := hasC_iff.1 (h _ (List.getElem_mem hpos))
    exact List.mem_map.2 ⟨c, hc, e⟩
 ·rw [usable_eq hB, decide_eq_false hv, some_bind]
  exact .ret (.inl ⟨hv, rfl⟩)
theorem common_r (hB : Bd L) : T (ref26_Common_m ⟨L⟩) fun r => (vcode L ≠ 0 ∧ r = []) ∨ (OkA L ∧ ComP L r) := by
 unfold ref26_Common_m
 rw [refVal hB, some_bind]
 by_cases hv : vcode L = 0
 ·have hO := vcode_zero.1 hv
  have hn := hO.n
  rw [hv, bne_self_eq_false, cond_false]
  refine T.bind (all_plain hO) fun t ⟨t1, t2, t3⟩ => ?_
  refine T.bind (P := fun q => q = t.filter fun x => L.all (hasC · x)) ?_ fun q hq => ?_
  ·refine T.loopK t.length (fun k s => s = ((k : Int), (t.take k).filter fun x => L.all (hasC · x)) ∧ k ≤ t.length) ⟨rfl, by omega⟩ ?_
   rintro k _ ⟨rfl, hk⟩
   unfold ref26_Common_l2
   dsimp only
   refine T.cond (fun g => ?_) fun g => ?_
   ·have hk2 : k < t.length := by have := of_decide_eq_true g; omega
    rw [idxM_nat hk2, some_bind]
    refine T.bind (P := fun q => q = L.all (hasC · t[k])) ?_ fun q hq => ?_
    ·refine T.loopK L.length (fun j s => s = ((L.take j).all (hasC · t[k]), (j : Int)) ∧ j ≤ L.length) ⟨rfl, by omega⟩ ?_
     rintro j _ ⟨rfl, hj⟩
     unfold ref26_Common_l1
     dsimp only
     refine T.cond (fun g => ?_) fun g => ?_
     ·have hj2 : j < L.length := by have := of_decide_eq_true g; omega
      rw [iaddS (by omega)]
      refine T.cond (fun e => ?_) fun e => .ret ⟨hj2, by rw [all_succ hj2, e]; rfl, hj2⟩
      rw [idxM_nat hj2, some_bind, refFind_eq (asc_at hO hj2) (len_at hO hj2), some_bind, find_ge]
      exact .ret ⟨hj2, by rw [all_succ hj2, e]; rfl, hj2⟩
     ·have hj2 : j = L.length := by have := of_decide_eq_false g; omega
      subst hj2
      exact .ret (by rw [List.take_length])
    ·subst hq
     have hfl : ((t.take k).filter fun x => L.all (hasC · x)).length ≤ 240 := Nat.le_trans (List.length_filter_le _ _) (by simp; omega)
     rw [iaddS (by omega), take_succ' hk2, List.filter_append]
     refine T.cond (fun e => ?_) fun e => ?_
     ·rw [appM_eq (by simp at hfl ⊢; omega), some_bind]
      exact .ret ⟨hk2, by rw [List.filter_cons, if_pos e]; rfl, hk2⟩
     ·exact .ret ⟨hk2, by rw [List.filter_cons, if_neg (by rw [e]; decide)]; simp, hk2⟩
   ·have hk2 : k = t.length := by have := of_decide_eq_false g; omega
    subst hk2
    exact .ret (by rw [List.take_length])
  ·subst hq
   refine .ret (.inr ⟨hO, asc_filter t1 _, Nat.le_trans (List.length_filter_le _ _) t2, fun x => ?_⟩)
   rw [List.mem_filter, t3, List.all_eq_true]
   constructor
   ·rintro ⟨⟨l, hl, _⟩, h⟩; exact ⟨List.ne_nil_of_mem hl, h⟩
   ·rintro ⟨hne, h⟩
    have hpos : 0 < L.length := List.length_pos_iff.2 hne
    exact ⟨⟨_, List.getElem_mem hpos, h _ (List.getElem_mem hpos)⟩, h⟩
 ·rw [bne_iff_ne.2 hv, cond_true]
  exact .ret (.inl ⟨hv, rfl⟩)

structure DisP (L : List Sl) (r : List Li) : Prop where
 asc : AscL r
 len : r.length ≤ 240
 mem : ∀ x, x ∈ r ↔ (∃ l ∈ L, hasC l x = true) ∧ ∃ l ∈ L, hasC l (cmpl x) = true
theorem DisP.eq {r r' : List Li} (h : DisP L r) (h' : DisP L r') : r = r' := ascL_ext h.asc h'.asc fun x => by rw [h.mem, h'.mem]
theorem disp_del {m s : List Li} (hm : m.length ≤ 1000000) (hs : s.length ≤ 1000000) : slices_DeleteFunc_api_Literal_api_Literal_s2_m s m = some (s.filter fun x => !!inB m (cmpl x)) := by
 have hg : ∀ x : Li, commitment_Disputed_1_m x m = some (!inB m (cmpl x)) := fun x => by
  unfold commitment_Disputed_1_m literal_Has_m
  have : literal_Complement_m x = some (cmpl x) := rfl
  rw [this, some_bind, contains_eq (by omega), some_bind, some_bind]
 exact df_eq (p := fun x => !inB m (cmpl x)) (g := fun x => commitment_Disputed_1_m x m) hs (fun x _ => hg x) (ix_eq (g := fun x => commitment_Disputed_1_m x m) hs (fun x _ => hg x) rfl) rfl
theorem disp_p (hB : Bd L) : T (commitment_Disputed_m ⟨L⟩) fun r => (vcode L ≠ 0 ∧ r = []) ∨ (OkA L ∧ DisP L r) := by
 unfold commitment_Disputed_m
 by_cases hv : vcode L = 0
 ·have hO := vcode_zero.1 hv
  have hn := hO.n
  rw [usable_zero hO, some_bind]
  by_cases hne : L = []
  ·subst hne
   exact .ret (.inr ⟨hO, List.Pairwise.nil, by simp, by simp⟩)
  ·rw [decide_eq_true hne, Bool.not_true, cond_false]
   refine T.bind (P := fun q => q.length ≤ 240 ∧ ∀ x, x ∈ q ↔ ∃ l ∈ L, hasC l x = true) ?_ fun q ⟨q1, q2⟩ => ?_
   ·refine T.loopK L.length (fun k s => s.1 = (k : Int) ∧ k ≤ L.length ∧ s.2.length ≤ 40 * k ∧ ∀ x, x ∈ s.2 ↔ ∃ l ∈ L.take k, hasC l x = true) ⟨rfl, by omega, by simp, fun x => by simp⟩ ?_
    rintro k ⟨_, N⟩ ⟨rfl, hk, h2, h3⟩
    dsimp only at h2 h3
    unfold commitment_Disputed_l1
    dsimp only
    refine T.cond (fun g => ?_) fun g => ?_
    ·have hk2 : k < L.length := by have := of_decide_eq_true g; omega
     have hlen := (hO.ok _ (List.getElem_mem hk2)).len
     rw [idxM_nat hk2, some_bind, claims_eq (by omega), some_bind, appM_eq (by rw [List.length_map]; omega), some_bind, iaddS (by omega)]
     refine .ret ⟨hk2, rfl, hk2, by dsimp only; rw [List.length_append, List.length_map]; omega, fun x => ?_⟩
     dsimp only
     rw [List.mem_append, h3, take_succ' hk2]
     simp only [List.mem_append, List.mem_singleton]
     constructor
     ·rintro (⟨l, hl, e⟩ | e)
      ·exact ⟨l, .inl hl, e⟩
      ·obtain ⟨c, hc, e⟩ := List.mem_map.1 e
       exact ⟨_, .inr rfl, hasC_iff.2 ⟨c, hc, e⟩⟩
     ·rintro ⟨l, hl | hl, e⟩
      ·exact .inl ⟨l, hl, e⟩
      ·obtain ⟨c, hc, e⟩ := hasC_iff.1 e
       exact .inr (List.mem_map.2 ⟨c, hl ▸ hc, e⟩)
    ·have hk2 : k = L.length := by have := of_decide_eq_false g; omega
     subst hk2
     rw [List.take_length] at h3
     exact .ret ⟨by omega, h3⟩
   ·refine T.bind (Normal_plain (by omega)) fun t ht => ?_
    have htl := ht.len
    unfold slices_Clone_api_Literal_api_Literal_m
    rw [appM_eq (by simp; omega), some_bind, List.nil_append, disp_del (by omega) (by omega), some_bind]
    refine .ret (.inr ⟨hO, asc_filter ht.asc _, Nat.le_trans (List.length_filter_le _ _) (by omega), fun x => ?_⟩)
    rw [List.mem_filter, ht.mem, q2, Bool.not_not, inB_iff, ht.mem, q2]
 ·rw [usable_eq hB, decide_eq_false hv, some_bind]
  exact .ret (.inl ⟨hv, rfl⟩)
theorem in_s1 : ref26_in_s1_m = ref26_in_m := rfl
theorem disp_r (hB : Bd L) : T (ref26_Disputed_m ⟨L⟩) fun r => (vcode L ≠ 0 ∧ r = []) ∨ (OkA L ∧ DisP L r) := by
 unfold ref26_Disputed_m
 rw [refVal hB, some_bind]
 by_cases hv : vcode L = 0
 ·have hO := vcode_zero.1 hv
  have hn := hO.n
  rw [hv, bne_self_eq_false, cond_false]
  refine T.bind (all_plain hO) fun t ⟨t1, t2, t3⟩ => ?_
  refine T.bind (P := fun q => q = t.filter fun x => inB t (cmpl x)) ?_ fun q hq => ?_
  ·refine T.loopK t.length (fun k s => s = ((k : Int), (t.take k).filter fun x => inB t (cmpl x)) ∧ k ≤ t.length) ⟨rfl, by omega⟩ ?_
   rintro k _ ⟨rfl, hk⟩
   unfold ref26_Disputed_l1
   dsimp only
   refine T.cond (fun g => ?_) fun g => ?_
   ·have hk2 : k < t.length := by have := of_decide_eq_true g; omega
    have hfl : ((t.take k).filter fun x => inB t (cmpl x)).length ≤ 240 := Nat.le_trans (List.length_filter_le _ _) (by simp; omega)
    rw [idxM_nat hk2, some_bind, not_eq, some_bind, in_s1, refIn_eq (by omega), some_bind, iaddS (by omega), take_succ' hk2, List.filter_append]
    refine T.cond (fun e => ?_) fun e => ?_
    ·rw [appM_eq (by simp at hfl ⊢; omega), some_bind]
     exact .ret ⟨hk2, by rw [List.filter_cons, if_pos e]; rfl, hk2⟩
    ·exact .ret ⟨hk2, by rw [List.filter_cons, if_neg (by rw [e]; decide)]; simp, hk2⟩
   ·have hk2 : k = t.length := by have := of_decide_eq_false g; omega
    subst hk2
    exact .ret (by rw [List.take_length])
  ·subst hq
   refine .ret (.inr ⟨hO, asc_filter t1 _, Nat.le_trans (List.length_filter_le _ _) t2, fun x => ?_⟩)
   rw [List.mem_filter, t3, inB_iff, t3]
 ·rw [bne_iff_ne.2 hv, cond_true]
  exact .ret (.inl ⟨hv, rfl⟩)
end Go.Dc

namespace Go.Dc
variable {α β σ ρ S A B R : Type}

def Le (m m' : Option α) : Prop := ∀ r, m = some r → m' = some r
def loopF (k : Nat) (f : σ → Option (Sum ρ σ)) (s : σ) : Option ρ := loopN f k s

theorem Le.refl (m : Option α) : Le m m := fun _ h => h
theorem Le.bind {m m' : Option α} {f f' : α → Option β} (h : Le m m') (hf : ∀ a, Le (f a) (f' a)) : Le (m.bind f) (m'.bind f') := by
 intro r hr
 cases hm : m with
 | none => rw [hm] at hr; cases hr
 | some a => rw [hm] at hr; rw [h a hm]; exact hf a r hr
theorem Le.cond {b : Bool} {x y x' y' : Option α} (h1 : Le x x') (h2 : Le y y') : Le (bif b then x else y) (bif b then x' else y') := by
 cases b
 ·exact h2
 ·exact h1
theorem Le.letM {x : S} {k k' : S → Option α} (h : ∀ a, Le (k a) (k' a)) : Le (letM x k) (letM x k') := h x
theorem Le.join {f f' : S → Option R} {g g' : (S → Option R) → Option R} (h1 : ∀ x, Le (f x) (f' x)) (h2 : ∀ k k' : S → Option R, (∀ x, Le (k x) (k' x)) → Le (g k) (g' k')) :
  Le (joinM f g) (joinM f' g') := h2 f f' h1
theorem Le.sumK {kr : A → Option R} {kb kb' : B → Option R} (h : ∀ b, Le (kb b) (kb' b)) : ∀ a, Le (sumK kr kb a) (sumK kr kb' a)
 | .inl a => .refl _
 | .inr b => h b
theorem Le.loop {k : Nat} {f f' : σ → Option (Sum ρ σ)} {s : σ} (h : ∀ s, Le (f s) (f' s)) : Le (loopF k f s) (loopC f' s) := by
 intro r hr
 refine loopC_iff.2 ⟨k, ?_⟩
 unfold loopF at hr
 induction k generalizing s with
 | zero => simp [loopN] at hr
 | succ k ih =>
  simp only [loopN] at hr ⊢
  cases hf : f s with
  | none => rw [hf] at hr; cases hr
  | some o =>
   rw [hf] at hr
   rw [h s o hf]
   cases o with
   | inl q => exact hr
   | inr s' => exact ih hr
end Go.Dc

namespace Go.Dc
variable {α β σ ρ S A B C R : Type}
def meetF [DecidableEq A] (x y : Option A) : Option A := match x, y with
 | some a, some b => if a = b then some a else none
 | _, _ => none
theorem Le.meetO {m1 m2 m1' m2' : Option A} (h1 : Le m1 m1') (h2 : Le m2 m2') : Le (meetO m1 m2) (meetO m1' m2') := fun r h => by
 obtain ⟨a, b⟩ := meetO_some h
 rw [h1 r a, h2 r b, meetO_self]
theorem Le.meet [DecidableEq A] {m1 m2 m1' m2' : Option A} (h1 : Le m1 m1') (h2 : Le m2 m2') : Le (meetF m1 m2) (Go.Dc.meetO m1' m2') := fun r h => by
 cases m1 with
 | none => simp [meetF] at h
 | some a =>
  cases m2 with
  | none => simp [meetF] at h
  | some b =>
   unfold meetF at h
   simp only at h
   by_cases e : a = b
   ·rw [if_pos e] at h
    subst e; cases h
    rw [h1 _ rfl, h2 _ rfl, meetO_self]
   ·rw [if_neg e] at h; cases h
theorem Le.sumKK {k1 k1' : A → Option R} {k2 k2' : B → Option R} (h1 : ∀ a, Le (k1 a) (k1' a)) (h2 : ∀ b, Le (k2 b) (k2' b)) : ∀ a, Le (Go.Dc.sumK k1 k2 a) (Go.Dc.sumK k1' k2' a)
 | .inl a => h1 a
 | .inr b => h2 b
theorem Le.loopC {f f' : σ → Option (Sum ρ σ)} {s : σ} (h : ∀ s, Le (f s) (f' s)) : Le (Go.Dc.loopC f s) (Go.Dc.loopC f' s) := by
 intro r hr
 obtain ⟨n, hn⟩ := loopC_iff.1 hr
 exact Le.loop (k := n) h r hn
def meet1 {A : Type} (x _ : Option A) : Option A := x
theorem Le.meet1 {A : Type} {m1 m2 m1' m2' : Option A} (h1 : Le m1 m1') (h2 : m1' = m2') : Le (Go.Dc.meet1 m1 m2) (Go.Dc.meetO m1' m2') := fun r h => by
 rw [← h2, meetO_self]; exact h1 r h
end Go.Dc
