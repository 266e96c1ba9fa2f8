/- Part P26.Main of a proof: lemmas. -/
import Derived.Test.YtmejeobfjojfeaaDcMap
import Derived.Test.YtmejeobfjojfeaaLAW26W
set_option linter.unusedVariables false
set_option linter.unusedSimpArgs false
namespace Go.Dc

section low
variable {s k : Nat}
end low

end Go.Dc

namespace Go.Dc
variable {α β ρ : Type}

def SubB (a b : Nat) : Prop := ∀ i, a.testBit i = true → b.testBit i = true
theorem SubB.refl (a : Nat) : SubB a a := fun _ h => h
theorem SubB.and {a b : Nat} : SubB (a &&& b) b := fun i h => by rw [Nat.testBit_and, Bool.and_eq_true] at h; exact h.2
theorem SubB.trans {a b c : Nat} (h : SubB a b) (k : SubB b c) : SubB a c := fun i hi => k i (h i hi)
theorem SubB.zero {a : Nat} : SubB 0 a := fun i h => by simp at h

end Go.Dc

set_option linter.unusedSectionVars false
namespace Go.Dc
theorem iaddS {n : Nat} (h : n < 9223372036854775807) : iadd .i64 (n : Int) 1 = ((n + 1 : Nat) : Int) := by
 rw [iadd64 (by omega) (by omega)]; rfl
theorem isubS {n : Nat} (h : n ≤ 9223372036854775807) : isub .i64 (n : Int) 1 = (n : Int) - 1 := isub64 (by omega) (by omega)
theorem bl_lt : ∀ x y : List UInt8, Op.bytesLess x y = decide (x < y)
 | [], [] => by simp [Op.bytesLess]
 | _ :: _, [] => by simp [Op.bytesLess]
 | [], _ :: _ => by simp [Op.bytesLess]
 | a :: x, b :: y => by
  rw [Op.bytesLess, bl_lt x y]
  simp only [List.cons_lt_cons_iff]
  by_cases h1 : a < b <;> by_cases h2 : a = b <;> by_cases h3 : x < y <;> simp [h1, h2, h3]

abbrev Li := T_api_Literal
def cmpI (x y : Li) : Int := if x.Name.toList < y.Name.toList then -1 else if y.Name.toList < x.Name.toList then 1 else if x.Neg = y.Neg then 0 else if y.Neg then -1 else 1
def LtL (x y : Li) : Prop := x.Name.toList < y.Name.toList ∨ x.Name = y.Name ∧ x.Neg = false ∧ y.Neg = true
theorem tri (a b : List UInt8) : a < b ∨ a = b ∨ b < a := by
 by_cases h1 : a < b
 ·exact .inl h1
 ·by_cases h2 : b < a
  ·exact .inr (.inr h2)
  ·exact .inr (.inl (List.le_antisymm (List.not_lt.1 h2) (List.not_lt.1 h1)))
theorem lt_irr (a : List UInt8) : ¬ a < a := List.lt_irrefl a
theorem cmp_eq (x y : Li) : literal_Compare_m x y = some (cmpI x y) := by
 unfold literal_Compare_m cmp_Compare_string_m cmp_isNaN_string_m cmpI
 simp only [beq_self_eq_true, Bool.not_true, some_bind, cond_false, bl_lt]
 by_cases h1 : x.Name.toList < y.Name.toList
 ·simp [h1]
 ·by_cases h2 : y.Name.toList < x.Name.toList
  ·have hne : x.Name.toList ≠ y.Name.toList := fun e => by rw [e] at h2; exact lt_irr _ h2
   rw [beq_eq_false_iff_ne.2 hne]
   simp [h1, h2]
  ·have he : x.Name.toList = y.Name.toList := List.le_antisymm (List.not_lt.1 h2) (List.not_lt.1 h1)
   rw [he]
   have := lt_irr y.Name.toList
   simp only [this, decide_false, beq_self_eq_true, Bool.or_true, Bool.not_true, cond_false, some_bind, bne_self_eq_false, if_false]
   cases x.Neg <;> cases y.Neg <;> rfl
theorem cmp_lt {x y : Li} : cmpI x y < 0 ↔ LtL x y := by
 unfold cmpI LtL
 by_cases h1 : x.Name.toList < y.Name.toList
 ·simp [h1]
 ·by_cases h2 : y.Name.toList < x.Name.toList
  ·have hne : x.Name ≠ y.Name := fun e => by rw [e] at h2; exact lt_irr _ h2
   simp [h1, h2, hne]
  ·have he : x.Name = y.Name := ba_inj.1 (List.le_antisymm (List.not_lt.1 h2) (List.not_lt.1 h1))
   have := lt_irr y.Name.toList
   rw [he]
   simp only [this, if_false, false_or, true_and]
   cases x.Neg <;> cases y.Neg <;> simp
theorem ltL_irr (x : Li) : ¬ LtL x x := fun h => h.elim (lt_irr _) fun h => by rw [h.2.1] at h; cases h.2.2
theorem ltL_trans {x y z : Li} (h1 : LtL x y) (h2 : LtL y z) : LtL x z := by
 rcases h1 with h1 | ⟨e1, n1, p1⟩
 ·rcases h2 with h2 | ⟨e2, n2, p2⟩
  ·exact .inl (List.lt_trans h1 h2)
  ·exact .inl (e2 ▸ h1)
 ·rcases h2 with h2 | ⟨e2, n2, p2⟩
  ·exact .inl (e1 ▸ h2)
  ·rw [p1] at n2; cases n2
theorem ltL_tri (x y : Li) : LtL x y ∨ x = y ∨ LtL y x := by
 rcases tri x.Name.toList y.Name.toList with h | h | h
 ·exact .inl (.inl h)
 ·have he := ba_inj.1 h
  cases hx : x.Neg <;> cases hy : y.Neg
  ·refine .inr (.inl ?_); cases x; cases y; simp_all
  ·exact .inl (.inr ⟨he, hx, hy⟩)
  ·exact .inr (.inr (.inr ⟨he.symm, hy, hx⟩))
  ·refine .inr (.inl ?_); cases x; cases y; simp_all
 ·exact .inr (.inr (.inl h))
abbrev AscL (l : List Li) : Prop := l.Pairwise LtL
def cmpR (x y : Li) : Int := if x = y then 0 else if x.Name.toList < y.Name.toList then -1 else if x.Name = y.Name then (if y.Neg then -1 else 1) else 1
theorem rcmp_eq (x y : Li) : ref01_Compare_m x y = some (cmpR x y) := by
 unfold ref01_Compare_m cmpR
 rw [bl_lt, ba_beq]
 by_cases h1 : x = y
 ·simp [h1]
 ·by_cases h2 : x.Name.toList < y.Name.toList
  ·simp [h1, h2]
  ·by_cases h3 : x.Name = y.Name
   ·simp only [h1, h2, h3, decide_false, decide_true, cond_false, cond_true, if_false, if_true]
    simp only [h3] at h2
    simp only [h2, decide_false, cond_false, if_false]
    cases y.Neg <;> rfl
   ·simp [h1, h2, h3]
theorem cmpR_lt {x y : Li} : cmpR x y < 0 ↔ LtL x y := by
 unfold cmpR LtL
 by_cases h1 : x = y
 ·subst h1
  have := lt_irr x.Name.toList
  simp only [if_true, this, false_or, true_and]
  cases x.Neg <;> simp
 ·by_cases h2 : x.Name.toList < y.Name.toList
  ·simp [h1, h2]
  ·by_cases h3 : x.Name = y.Name
   ·simp only [h1, h2, h3, if_false, if_true, false_or, true_and]
    have h2' : ¬ y.Name.toList < y.Name.toList := lt_irr _
    simp only [h2', if_false, false_or]
    cases hx : x.Neg <;> cases hy : y.Neg
    ·exact absurd (by cases x; cases y; simp_all) h1
    ·simp
    ·simp
    ·exact absurd (by cases x; cases y; simp_all) h1
   ·simp [h1, h2, h3]
def cv (s : ByteArray) (k : Nat) : Int := ((s[k]?.getD 0).toNat : Int)
theorem sidx_cv {s : ByteArray} {k : Nat} (h : k < s.size) : sidxM s (k : Int) = some (cv s k) := by
 unfold sidxM
 rw [if_pos (by omega)]
 unfold cv
 rw [show ((k : Int).toNat) = k from rfl, getElem?_pos s k h]; rfl
def low (c : Int) : Prop := 97 ≤ c ∧ c ≤ 122
def okc (c : Int) : Prop := (97 ≤ c ∧ c ≤ 122) ∨ (48 ≤ c ∧ c ≤ 57) ∨ c = 95
structure VN (s : ByteArray) : Prop where
 pos : 0 < s.size
 le : s.size ≤ 12
 fst : low (cv s 0)
 all : ∀ i, i < s.size → okc (cv s i)

theorem litName {s : ByteArray} : T (literal_ValidName_m s) fun r => r = true ↔ VN s := by
 unfold literal_ValidName_m
 refine T.cond (fun c => .ret ⟨fun e => (by cases e), fun v => absurd v.pos (by have := of_decide_eq_true c; omega)⟩) fun c => ?_
 have h1 : (s.size : Int) ≠ 0 := of_decide_eq_false c
 refine T.cond (fun c => .ret ⟨fun e => (by cases e), fun v => absurd v.le (by have := of_decide_eq_true c; omega)⟩) fun c => ?_
 have h2 := of_decide_eq_false c
 refine T.bind (P := fun o => match o with | .inl r => r = false ∧ ¬ VN s | .inr _ => VN s) ?_ fun o ho => ?_
 ·refine T.loopK s.size (fun k z => k ≤ s.size ∧ z = (k : Int) ∧ (0 < k → low (cv s 0)) ∧ ∀ i, i < k → okc (cv s i)) ⟨by omega, rfl, by omega, by omega⟩ ?_
  rintro k _ ⟨hk, rfl, hf, ha⟩
  dsimp only [literal_ValidName_l1]
  refine T.cond (fun g => ?_) fun g => ?_
  ·have hk2 : k < s.size := by have := of_decide_eq_true g; omega
   rw [sidx_cv hk2, some_bind, iaddS (by omega)]
   have yes : okc (cv s k) → (0 < k ∨ low (cv s k)) → k < s.size ∧ (k + 1 ≤ s.size ∧ ((k + 1 : Nat) : Int) = ((k + 1 : Nat) : Int) ∧ (0 < k + 1 → low (cv s 0)) ∧ ∀ i, i < k + 1 → okc (cv s i)) := fun y f => by
    refine ⟨hk2, hk2, rfl, fun _ => ?_, fun i hi => ?_⟩
    ·rcases Nat.eq_zero_or_pos k with e | e
     ·subst e; rcases f with f | f
      ·omega
      ·exact f
     ·exact hf e
    ·rcases Nat.lt_or_ge i k with q | q
     ·exact ha i q
     ·have : i = k := by omega
      subst this; exact y
   refine T.joinP (fun j => j = true ↔ low (cv s k)) (fun j hj => ?_) fun kk hkk => ?_
   ·refine T.cond (fun c1 => .ret (yes (.inl (hj.1 c1)) (.inr (hj.1 c1)))) fun c1 => ?_
    have nl : ¬ low (cv s k) := fun e => by rw [hj.2 e] at c1; cases c1
    have no : ¬ okc (cv s k) ∨ k = 0 → (false = false ∧ ¬ VN s) := fun e => ⟨rfl, fun v => e.elim (fun q => q (v.all k hk2)) fun q => by subst q; exact nl v.fst⟩
    refine T.cond (fun c2 => ?_) fun c2 => .ret (no (.inr (by have := of_decide_eq_false c2; omega)))
    have hp : 0 < k := by have := of_decide_eq_true c2; omega
    have dig : ¬ (48 ≤ cv s k ∧ cv s k ≤ 57) → T (bif cv s k == 95 then some (Sum.inr (((k + 1 : Nat) : Int))) else some (Sum.inl (Sum.inl false)) : Option (Sum (Sum Bool Unit) Int)) (onO (fun o => match o with | .inl r => r = false ∧ ¬ VN s | .inr _ => VN s) fun z => k < s.size ∧ (k + 1 ≤ s.size ∧ z = ((k + 1 : Nat) : Int) ∧ (0 < k + 1 → low (cv s 0)) ∧ ∀ i, i < k + 1 → okc (cv s i))) := fun nd => by
     refine T.cond (fun c5 => .ret (yes (.inr (.inr (of_decide_eq_true c5))) (.inl hp))) fun c5 => .ret (no (.inl fun o => ?_))
     have c5 : cv s k ≠ 95 := of_decide_eq_false c5
     unfold low at nl; unfold okc at o; omega
    refine T.cond (fun c3 => T.cond (fun c4 => .ret (yes (.inr (.inl ⟨of_decide_eq_true c3, of_decide_eq_true c4⟩)) (.inl hp))) fun c4 => ?_) fun c3 => ?_
    ·exact dig (by have := of_decide_eq_false c4; omega)
    ·exact dig (by have := of_decide_eq_false c3; omega)
   ·refine T.cond (fun c1 => ?_) fun c1 => hkk _ ⟨fun e => (by cases e), fun e => by have := of_decide_eq_false c1; unfold low at e; omega⟩
    refine hkk _ ?_
    rw [decide_eq_true_iff]
    exact ⟨fun e => ⟨of_decide_eq_true c1, e⟩, fun e => e.2⟩
  ·have e : k = s.size := by have := of_decide_eq_false g; omega
   subst e
   exact .ret ⟨by omega, by omega, hf (by omega), ha⟩
 ·rcases o with r | u
  ·exact .ret (by rw [ho.1]; exact ⟨fun e => (by cases e), fun e => absurd e ho.2⟩)
  ·exact .ret ⟨fun _ => ho, fun _ => rfl⟩

theorem refName {s : ByteArray} : T (ref01_ValidName_m s) fun r => r = true ↔ VN s := by
 unfold ref01_ValidName_m
 refine T.cond (fun c => .ret ⟨fun e => (by cases e), fun v => absurd v.pos (by have := of_decide_eq_true c; omega)⟩) fun c => ?_
 have h1 := of_decide_eq_false c
 refine T.cond (fun c => .ret ⟨fun e => (by cases e), fun v => absurd v.le (by have := of_decide_eq_true c; omega)⟩) fun c => ?_
 have h2 := of_decide_eq_false c
 rw [show sidxM s 0 = some (cv s 0) from sidx_cv (k := 0) (by omega), some_bind]
 refine T.cond (fun c => .ret ⟨fun e => (by cases e), fun v => absurd v.fst (by have := of_decide_eq_true c; unfold low; omega)⟩) fun c3 => ?_
 rw [some_bind]
 refine T.cond (fun c => .ret ⟨fun e => (by cases e), fun v => absurd v.fst (by have := of_decide_eq_true c; unfold low; omega)⟩) fun c4 => ?_
 have hl : low (cv s 0) := ⟨by have := of_decide_eq_false c3; omega, by have := of_decide_eq_false c4; omega⟩
 refine T.bind (P := fun o => match o with | .inl r => r = false ∧ ¬ VN s | .inr _ => VN s) ?_ fun o ho => ?_
 ·refine T.loopK s.size (fun k z => k ≤ s.size ∧ z = (k : Int) ∧ ∀ i, i < k → okc (cv s i)) ⟨by omega, rfl, by omega⟩ ?_
  rintro k _ ⟨hk, rfl, ha⟩
  dsimp only [ref01_ValidName_l1]
  refine T.cond (fun g => ?_) fun g => ?_
  ·have hk2 : k < s.size := by have := of_decide_eq_true g; omega
   simp only [sidx_cv hk2, some_bind, letM_eq]
   rw [iaddS (by omega)]
   have yes : okc (cv s k) → k < s.size ∧ (k + 1 ≤ s.size ∧ ((k + 1 : Nat) : Int) = ((k + 1 : Nat) : Int) ∧ ∀ i, i < k + 1 → okc (cv s i)) := fun y => by
    refine ⟨hk2, hk2, rfl, fun i hi => ?_⟩
    rcases Nat.lt_or_ge i k with q | q
    ·exact ha i q
    ·have : i = k := by omega
     subst this; exact y
   have no : ¬ okc (cv s k) → (false = false ∧ ¬ VN s) := fun e => ⟨rfl, fun v => e (v.all k hk2)⟩
   have tail : ¬ (97 ≤ cv s k ∧ cv s k ≤ 122) → ¬ (48 ≤ cv s k ∧ cv s k ≤ 57) → T (bif cv s k != 95 then some (Sum.inl (Sum.inl false)) else some (Sum.inr (((k + 1 : Nat) : Int))) : Option (Sum (Sum Bool Unit) Int)) (onO (fun o => match o with | .inl r => r = false ∧ ¬ VN s | .inr _ => VN s) fun z => k < s.size ∧ (k + 1 ≤ s.size ∧ z = ((k + 1 : Nat) : Int) ∧ ∀ i, i < k + 1 → okc (cv s i))) := fun n1 n2 => by
    refine T.cond (fun c5 => .ret (no fun o => ?_)) fun c5 => .ret (yes (.inr (.inr (by simpa using c5))))
    have c5 : cv s k ≠ 95 := by simpa using c5
    unfold okc at o; omega
   refine T.cond (fun d1 => ?_) fun d1 => ?_
   ·have d1 := of_decide_eq_true d1
    refine T.cond (fun d2 => tail (by omega) (by have := of_decide_eq_true d2; omega)) fun d2 => ?_
    have d2 := of_decide_eq_false d2
    refine T.cond (fun d3 => tail (by omega) (by have := of_decide_eq_true d3; omega)) fun d3 => .ret (yes (.inr (.inl ⟨by omega, by have := of_decide_eq_false d3; omega⟩)))
   ·have d1 := of_decide_eq_false d1
    refine T.cond (fun d2 => ?_) fun d2 => .ret (yes (.inl ⟨by omega, by have := of_decide_eq_false d2; omega⟩))
    have d2 := of_decide_eq_true d2
    refine T.cond (fun d3 => tail (by omega) (by have := of_decide_eq_true d3; omega)) fun d3 => ?_
    refine T.cond (fun d4 => tail (by omega) (by have := of_decide_eq_true d4; omega)) fun d4 => .ret (yes (.inr (.inl ⟨by have := of_decide_eq_false d3; omega, by have := of_decide_eq_false d4; omega⟩)))
  ·have e : k = s.size := by have := of_decide_eq_false g; omega
   subst e
   exact .ret ⟨by omega, by omega, hl, ha⟩
 ·rcases o with r | u
  ·exact .ret (by rw [ho.1]; exact ⟨fun e => (by cases e), fun e => absurd e ho.2⟩)
  ·exact .ret ⟨fun _ => ho, fun _ => rfl⟩

noncomputable def vnB (s : ByteArray) : Bool := (literal_ValidName_m s).getD false
theorem lit_vn (s : ByteArray) : literal_ValidName_m s = some (vnB s) := by
 obtain ⟨r, h, _⟩ := litName (s := s); unfold vnB; rw [h]; rfl
theorem ref_vn (s : ByteArray) : ref01_ValidName_m s = some (vnB s) := by
 obtain ⟨r, h, h2⟩ := litName (s := s)
 obtain ⟨r', h', h2'⟩ := refName (s := s)
 unfold vnB; rw [h, h']
 congr 1
 show r' = r
 rw [Bool.eq_iff_iff, h2, h2']

end Go.Dc

namespace Go.Dc
variable {α β : Type} [DecidableEq α]

theorem mapIx_none {d : List (α × β)} {x : α} : mapIx d x = none ↔ x ∉ d.map (·.1) := by
 unfold mapIx
 rw [List.findIdx?_eq_none_iff]
 simp only [decide_eq_false_iff_not, List.mem_map, not_exists, not_and]
theorem mapIx_some {d : List (α × β)} {x : α} {i : Nat} (h : mapIx d x = some i) : (d.map (·.1))[i]? = some x := by
 unfold mapIx at h
 rw [List.findIdx?_eq_some_iff_getElem] at h
 obtain ⟨hlt, hp, _⟩ := h
 rw [List.getElem?_map, List.getElem?_eq_getElem hlt]
 simpa using hp
theorem mapPut_keys (d : List (α × β)) (x : α) (y : β) : (mapPut d x y).map (·.1) = if x ∈ d.map (·.1) then d.map (·.1) else d.map (·.1) ++ [x] := by
 unfold mapPut
 cases h : mapIx d x with
 | none => rw [if_neg (mapIx_none.1 h)]; simp
 | some i =>
  have h1 := mapIx_some h
  rw [if_pos (List.mem_of_getElem? h1), List.map_set]
  apply List.ext_getElem?
  intro n
  by_cases e : i = n
  ·subst e
   rw [List.getElem?_set_self (List.getElem?_eq_some_iff.1 h1).1, h1]
  ·rw [List.getElem?_set_ne e]
theorem mapHas_iff {d : List (α × β)} {x : α} : mapHas d x = decide (x ∈ d.map (·.1)) := by
 unfold mapHas
 cases h : mapIx d x with
 | none => rw [decide_eq_false (mapIx_none.1 h)]; rfl
 | some i => rw [decide_eq_true (List.mem_of_getElem? (mapIx_some h))]; rfl

structure Filled (d : List (α × β)) (l : List α) : Prop where
 mem : ∀ x, x ∈ d.map (·.1) ↔ x ∈ l
 nd : (d.map (·.1)).Nodup
 len : d.length ≤ l.length
 iff : d.length = l.length ↔ l.Nodup
theorem Filled.nil : Filled ([] : List (α × β)) [] := ⟨by simp, by simp, by simp, by simp⟩
theorem Filled.put {d : List (α × β)} {l : List α} (h : Filled d l) (x : α) (y : β) : Filled (mapPut d x y) (l ++ [x]) := by
 have hk := mapPut_keys d x y
 have hl : (mapPut d x y).length = ((mapPut d x y).map (·.1)).length := by simp
 by_cases c : x ∈ d.map (·.1)
 ·rw [if_pos c] at hk
  have hx := (h.mem x).1 c
  rw [hk] at hl
  refine ⟨fun z => ?_, by rw [hk]; exact h.nd, by rw [hl]; have := h.len; simp; omega, ?_⟩
  ·rw [hk, h.mem, List.mem_append, List.mem_singleton]
   exact ⟨.inl, fun q => q.elim id fun e => e ▸ hx⟩
  ·rw [hl]
   have := h.len
   refine ⟨fun e => by simp at e; omega, fun e => absurd hx ?_⟩
   have := (List.nodup_append.1 e).2.2
   exact fun q => this x q x (by simp) rfl
 ·rw [if_neg c] at hk
  have hx : x ∉ l := fun q => c ((h.mem x).2 q)
  rw [hk] at hl
  refine ⟨fun z => ?_, ?_, by rw [hl]; have := h.len; simp; omega, ?_⟩
  ·rw [hk, List.mem_append, List.mem_append, h.mem]
  ·rw [hk]
   exact List.nodup_append.2 ⟨h.nd, by simp, fun p hp q hq e => c (by simp at hq; rw [← hq, ← e]; exact hp)⟩
  ·rw [hl, List.length_append, List.length_append, List.length_map]
   have := h.iff
   constructor
   ·intro e
    have e2 : d.length = l.length := by simpa using e
    exact List.nodup_append.2 ⟨this.1 e2, by simp, fun p hp q hq e => hx (by simp at hq; rw [← hq, ← e]; exact hp)⟩
   ·intro e
    rw [this.2 (List.nodup_append.1 e).1]
end Go.Dc

namespace Go.Dc

abbrev Cm := T_api_Commitment
abbrev Sl := List T_api_Commitment

noncomputable def okL (x : Li) : Bool := vnB x.Name
theorem litV (x : Li) : literal_Valid_m x = some (okL x) := by unfold literal_Valid_m; rw [lit_vn]; rfl
theorem refV (x : Li) : ref01_Valid_m x = some (okL x) := by unfold ref01_Valid_m; rw [ref_vn]; rfl
def cmpl (x : Li) : Li := T_api_Literal.mk (!x.Neg) x.Name
theorem cmpl_cmpl (x : Li) : cmpl (cmpl x) = x := by cases x; simp [cmpl]
theorem cmpl_ne (x : Li) : cmpl x ≠ x := fun e => by
 have := congrArg T_api_Literal.Neg e
 simp [cmpl] at this
open Classical in noncomputable def ascB (l : List Li) : Bool := decide (AscL l)
open Classical in noncomputable def ltB (x y : Li) : Bool := decide (LtL x y)
theorem ltB_iff {x y : Li} : ltB x y = true ↔ LtL x y := by unfold ltB; simp
theorem ascB_iff {l : List Li} : ascB l = true ↔ AscL l := by unfold ascB; simp

theorem asc_step {l : List Li} (h : ∀ k, (hk : k + 1 < l.length) → LtL l[k] l[k+1]) : AscL l := by
 refine List.pairwise_iff_getElem.2 fun i j hi hj hij => ?_
 induction j with
 | zero => omega
 | succ j ih =>
  rcases Nat.lt_or_ge i j with q | q
  ·exact ltL_trans (ih (by omega) q) (h j hj)
  ·have : i = j := by omega
   subst this; exact h i hj

theorem asc_loop {l : List Li} (hl : l.length ≤ 9223372036854775807) {f : Int → Option (Sum (Sum Bool Unit) Int)}
  (h : ∀ k, (hk : k + 1 < l.length) → f (k + 1 : Nat) = some (bif ltB l[k] l[k+1] then .inr ((k + 1 + 1 : Nat) : Int) else .inl (.inl false)))
  (hend : ∀ k : Nat, l.length ≤ k + 1 → f (k + 1 : Nat) = some (.inl (.inr ()))) :
  ((loopC f 1).bind (sumK (fun a : Bool => some a) fun _ : Unit => some true)) = some (ascB l) := by
 refine T.eq ?_
 refine T.bind (P := fun o => match o with | .inl r => r = false ∧ ¬ AscL l | .inr _ => AscL l) ?_ fun o ho => ?_
 ·refine T.loopK l.length (fun k s => s = ((k + 1 : Nat) : Int) ∧ ∀ i, i < k → (h : i + 1 < l.length) → LtL l[i] l[i+1]) ⟨rfl, by omega⟩ ?_
  rintro k _ ⟨rfl, hn⟩
  by_cases hk : k + 1 < l.length
  ·rw [h k hk]
   cases hc : ltB l[k] l[k+1]
   ·refine .ret ⟨rfl, fun ha => ?_⟩
    have := List.pairwise_iff_getElem.1 ha k (k + 1) (by omega) hk (by omega)
    rw [ltB_iff.2 this] at hc; cases hc
   ·refine .ret ⟨by omega, rfl, fun i hi h => ?_⟩
    rcases Nat.lt_or_ge i k with q | q
    ·exact hn i q h
    ·have : i = k := by omega
     subst this; exact ltB_iff.1 hc
  ·rw [hend k (by omega)]
   exact .ret (asc_step fun i hi => hn i (by omega) hi)
 ·rcases o with r | u
  ·refine .ret ?_
   rw [ho.1]; exact (by rw [← Bool.not_eq_true, ascB_iff]; exact ho.2 : ascB l = false).symm
  ·exact .ret (ascB_iff.2 ho).symm
theorem rising_eq {l : List Li} (hl : l.length ≤ 9223372036854775807) : commitment_rising_m l = some (ascB l) := by
 refine asc_loop hl (fun k hk => ?_) fun k hk => ?_
 ·unfold commitment_rising_l1
  rw [decide_eq_true (by omega), cond_true, isub64 (by omega) (by omega), show ((k + 1 : Nat) : Int) - 1 = (k : Int) by omega, idxM_nat (show k < l.length by omega), some_bind, idxM_nat hk, some_bind, cmp_eq, some_bind, iaddS (by omega)]
  have : decide (cmpI l[k] l[k+1] ≥ 0) = !ltB l[k] l[k+1] := by
   rw [Bool.eq_iff_iff, decide_eq_true_iff, Bool.not_eq_true', ← Bool.not_eq_true, ltB_iff, ← cmp_lt]; omega
  rw [this]
  cases ltB l[k] l[k+1] <;> rfl
 ·unfold commitment_rising_l1
  rw [decide_eq_false (by omega), cond_false]
theorem rising_s1 : commitment_rising_s1_m = commitment_rising_m := rfl
theorem refAsc_eq {l : List Li} (hl : l.length ≤ 9223372036854775807) : ref26_ascending_m l = some (ascB l) := by
 refine asc_loop hl (fun k hk => ?_) fun k hk => ?_
 ·unfold ref26_ascending_l1
  rw [decide_eq_true (by omega), cond_true, isub64 (by omega) (by omega), show ((k + 1 : Nat) : Int) - 1 = (k : Int) by omega, idxM_nat (show k < l.length by omega), some_bind, idxM_nat hk, some_bind, rcmp_eq, some_bind, iaddS (by omega)]
  have : decide (cmpR l[k] l[k+1] ≥ 0) = !ltB l[k] l[k+1] := by
   rw [Bool.eq_iff_iff, decide_eq_true_iff, Bool.not_eq_true', ← Bool.not_eq_true, ltB_iff, ← cmpR_lt]; omega
  rw [this]
  cases ltB l[k] l[k+1] <;> rfl
 ·unfold ref26_ascending_l1
  rw [decide_eq_false (by omega), cond_false]

def idxF {α : Type} (s : List α) (g : α → Option Bool) (s7 : Int) : Option (Sum (Sum Int Unit) Int) :=
 bif decide (s7 < (s.length : Int)) then Option.bind (idxM s s7) fun t8 => Option.bind (g t8) fun t9 => bif t9 then some (Sum.inl (Sum.inl s7)) else some (Sum.inr (iadd .i64 s7 1)) else some (Sum.inl (Sum.inr ()))
noncomputable def conF {α : Type} (s : List α) (g : α → Option Bool) : Option Bool :=
 Option.bind (Option.bind (loopC (idxF s g) 0) (sumK (fun a : Int => some a) fun _ : Unit => some (-1))) fun t1 => some (decide (t1 ≥ 0))
theorem con_eq {α : Type} {s : List α} {g : α → Option Bool} (p : α → Bool) (hl : s.length ≤ 9223372036854775807) (h : ∀ x ∈ s, g x = some (p x)) : conF s g = some (s.any p) := by
 refine T.eq ?_
 unfold conF
 refine T.bind (P := fun t => decide (t ≥ 0) = s.any p) ?_ fun t ht => .ret ht
 refine T.bind (P := fun o => match o with | .inl r => 0 ≤ r ∧ s.any p = true | .inr _ => s.any p = false) ?_ fun o ho => ?_
 ·refine T.loopK s.length (fun k z => z = (k : Int) ∧ ∀ i, i < k → (h : i < s.length) → p s[i] = false) ⟨rfl, by omega⟩ ?_
  rintro k _ ⟨rfl, hn⟩
  unfold idxF
  refine T.cond (fun c => ?_) fun c => .ret ?_
  ·have hk : k < s.length := by have := of_decide_eq_true c; omega
   rw [idxM_nat hk, some_bind, h _ (List.getElem_mem hk), some_bind, iaddS (by omega)]
   refine T.cond (fun c => .ret ⟨by omega, List.any_eq_true.2 ⟨_, List.getElem_mem hk, c⟩⟩) fun c => .ret ⟨hk, rfl, fun i hi h => ?_⟩
   rcases Nat.lt_or_ge i k with q | q
   ·exact hn i q h
   ·have : i = k := by omega
    subst this; exact c
  ·have hk : s.length ≤ k := by have := of_decide_eq_false c; omega
   refine List.any_eq_false.2 fun x hx => ?_
   obtain ⟨i, hi, rfl⟩ := List.getElem_of_mem hx
   rw [hn i (by omega) hi]; decide
 ·rcases o with r | u
  ·exact .ret (by rw [ho.2]; exact decide_eq_true ho.1)
  ·exact .ret (by rw [show s.any p = false from ho]; rfl)

def inB (l : List Li) (x : Li) : Bool := l.any fun y => decide (y = x)
theorem inB_iff {l : List Li} {x : Li} : inB l x = true ↔ x ∈ l := by unfold inB; simp
theorem contains_eq {l : List Li} {x : Li} (hl : l.length ≤ 9223372036854775807) : sCnL_m l x = some (inB l x) :=
 con_eq (s := l) (g := fun y => some (decide (x = y))) (fun y => decide (y = x)) hl fun y _ => by
  congr 1; rw [Bool.eq_iff_iff]; simp only [decide_eq_true_iff]; exact eq_comm
theorem refIn_eq {l : List Li} {x : Li} (hl : l.length ≤ 9223372036854775807) : ref26_in_m l x = some (inB l x) := by
 refine any_bind (fun i hi => ?_) ?_
 ·unfold ref26_in_l1
  rw [decide_eq_true (by omega), cond_true, idxM_nat hi, some_bind, iaddS (by omega)]
  cases decide (l[i] = x) <;> rfl
 ·unfold ref26_in_l1
  rw [decide_eq_false (by omega), cond_false]
def hasC (l : Sl) (x : Li) : Bool := l.any fun c => decide (c.Claim = x)
theorem hasC_iff {l : Sl} {x : Li} : hasC l x = true ↔ ∃ c ∈ l, c.Claim = x := by unfold hasC; simp
theorem refFind_T {l : Sl} {x : Li} (hl : l.length ≤ 9223372036854775807) : T (ref26_find_m l x) fun r => decide (r < 0) = (!hasC l x) ∧ (hasC l x = true → ∃ k, ∃ h : k < l.length, r = (k : Int) ∧ l[k].Claim = x) ∧ (hasC l x = false → r = -1) := by
 unfold ref26_find_m
 refine T.bind (P := fun o => match o with | .inl r => (∃ k, ∃ h : k < l.length, r = (k : Int) ∧ l[k].Claim = x) | .inr _ => hasC l x = false) ?_ fun o ho => ?_
 ·refine T.loopK l.length (fun k z => z = (k : Int) ∧ ∀ i, i < k → (h : i < l.length) → l[i].Claim ≠ x) ⟨rfl, by omega⟩ ?_
  rintro k _ ⟨rfl, hn⟩
  unfold ref26_find_l1
  refine T.cond (fun c => ?_) fun c => .ret ?_
  ·have hk : k < l.length := by have := of_decide_eq_true c; omega
   rw [idxM_nat hk, some_bind, iaddS (by omega)]
   refine T.cond (fun c => .ret ⟨k, hk, rfl, of_decide_eq_true c⟩) fun c => .ret ⟨hk, rfl, fun i hi h => ?_⟩
   rcases Nat.lt_or_ge i k with q | q
   ·exact hn i q h
   ·have : i = k := by omega
    subst this; exact of_decide_eq_false c
  ·have hk : l.length ≤ k := by have := of_decide_eq_false c; omega
   refine List.any_eq_false.2 fun y hy => ?_
   obtain ⟨i, hi, rfl⟩ := List.getElem_of_mem hy
   simpa using hn i (by omega) hi
 ·rcases o with r | u
  ·obtain ⟨k, h, rfl, e⟩ := ho
   have hh : hasC l x = true := hasC_iff.2 ⟨_, List.getElem_mem h, e⟩
   exact .ret ⟨by rw [hh]; exact decide_eq_false (by omega), fun _ => ⟨k, h, rfl, e⟩, fun e => by rw [hh] at e; cases e⟩
  ·have hh : hasC l x = false := ho
   exact .ret ⟨by rw [hh]; rfl, (fun e => by rw [hh] at e; cases e), fun _ => rfl⟩

def c0 (c : Cm) : Bool := decide (c.Grounds.length ≤ 6)
noncomputable def c1 (c : Cm) : Bool := okL c.Claim && c.Grounds.all okL
noncomputable def c2 (c : Cm) : Bool := ascB c.Grounds
def c3 (c : Cm) : Bool := !(c.Conceded && (c.Burden || decide (0 < c.Grounds.length))) && !(c.Burden && decide (0 < c.Grounds.length)) && !inB c.Grounds c.Claim
def r0 (l : Sl) : Bool := decide (l.length ≤ 40) && l.all c0
noncomputable def r1 (l : Sl) : Bool := l.all c1
noncomputable def r2 (l : Sl) : Bool := ascB (l.map (·.Claim)) && l.all c2
def r3 (l : Sl) : Bool := l.all c3
def r4 (l : Sl) : Bool := l.all fun c => !hasC l (cmpl c.Claim)
noncomputable def vcode (L : List Sl) : Int :=
 if decide (6 < L.length) || L.any fun l => !r0 l then 2 else if L.any fun l => !r1 l then 3 else if L.any fun l => !r2 l then 8 else if L.any fun l => !r3 l then 7 else if L.any fun l => !r4 l then 10 else 0

structure Bd (L : List Sl) : Prop where
 l0 : L.length ≤ 9223372036854775807
 l1 : ∀ l ∈ L, l.length ≤ 9223372036854775807
 l2 : ∀ l ∈ L, ∀ c ∈ l, c.Grounds.length ≤ 9223372036854775807
end Go.Dc

namespace Go.Dc

theorem take_succ' {α : Type} {l : List α} {k : Nat} (h : k < l.length) : l.take (k + 1) = l.take k ++ [l[k]] := by
 rw [List.take_add_one, List.getElem?_eq_getElem h]; rfl
theorem all_succ {α : Type} {l : List α} {k : Nat} {p : α → Bool} (h : k < l.length) : (l.take (k + 1)).all p = ((l.take k).all p && p l[k]) := by
 rw [take_succ' h, List.all_append]; simp
theorem asc_snoc {l : List Li} {x : Li} : AscL (l ++ [x]) ↔ AscL l ∧ ∀ y ∈ l, LtL y x := by
 unfold AscL
 rw [List.pairwise_append]; simp
theorem asc_succ {l : List Li} {k : Nat} (h : k < l.length) : ascB (l.take (k + 1)) = (ascB (l.take k) && (decide (k = 0) || ltB (l[k - 1]'(by omega)) l[k])) := by
 rw [take_succ' h, Bool.eq_iff_iff, Bool.and_eq_true, ascB_iff, ascB_iff, asc_snoc, Bool.or_eq_true, decide_eq_true_iff, ltB_iff]
 refine and_congr_right fun ha => ?_
 constructor
 ·intro hy
  rcases Nat.eq_zero_or_pos k with e | e
  ·exact .inl e
  ·exact .inr (hy _ (List.mem_take_iff_getElem.2 ⟨k - 1, by omega, rfl⟩))
 ·rintro (e | e) y hy
  ·subst e; simp at hy
  ·obtain ⟨i, hi, rfl⟩ := List.mem_take_iff_getElem.1 hy
   rcases Nat.lt_or_ge i (k - 1) with q | q
   ·refine ltL_trans ?_ e
    have := List.pairwise_iff_getElem.1 ha i (k - 1) (by rw [List.length_take]; omega) (by rw [List.length_take]; omega) q
    rwa [List.getElem_take, List.getElem_take] at this
   ·have : i = k - 1 := by omega
    subst this; exact e

theorem right_l1 {c : Cm} (hg : c.Grounds.length ≤ 9223372036854775807) (b : Bool) : loopC (ref26_right_l1 c) (0, b) = some (b && c.Grounds.all okL) := by
 refine T.eq ?_
 refine T.loopK c.Grounds.length (fun k s => s.1 = (k : Int) ∧ k ≤ c.Grounds.length ∧ s.2 = (b && (c.Grounds.take k).all okL)) ⟨rfl, by omega, by simp⟩ ?_
 rintro k ⟨_, z⟩ ⟨rfl, hk, rfl⟩
 unfold ref26_right_l1
 refine T.cond (fun g => ?_) fun g => ?_
 ·have hk2 : k < c.Grounds.length := by have := of_decide_eq_true g; dsimp only at this; omega
  dsimp only
  rw [idxM_nat hk2, some_bind, refV, some_bind, iaddS (by omega)]
  refine T.cond (fun e => .ret ⟨hk2, rfl, hk2, ?_⟩) fun e => .ret ⟨hk2, rfl, hk2, ?_⟩
  ·dsimp only; rw [all_succ hk2, ← Bool.and_assoc, e, Bool.true_and]
  ·dsimp only; rw [all_succ hk2, ← Bool.and_assoc, e, Bool.false_and]
 ·have hk2 : k = c.Grounds.length := by have := of_decide_eq_false g; dsimp only at this; omega
  subst hk2
  exact .ret (by dsimp only; rw [List.take_length])

theorem pos_dec {n : Nat} : decide (((n : Nat) : Int) > 0) = decide (0 < n) := by
 rw [Bool.eq_iff_iff, decide_eq_true_iff, decide_eq_true_iff]; omega
theorem right_eq {l : Sl} (hl : l.length ≤ 9223372036854775807) (hg : ∀ c ∈ l, c.Grounds.length ≤ 9223372036854775807) : ref26_right_m l = some (r0 l, r1 l, r2 l, r3 l, r4 l) := by
 refine T.eq ?_
 unfold ref26_right_m
 refine T.bind (P := fun q => q = (r0 l, r1 l, r2 l, r3 l, r4 l)) ?_ fun q hq => .ret hq
 refine T.loopK l.length (fun k s => s = ((k : Int), (decide (l.length ≤ 40) && (l.take k).all c0), (l.take k).all c1, (ascB ((l.map (·.Claim)).take k) && (l.take k).all c2), (l.take k).all c3, (l.take k).all fun c => !hasC l (cmpl c.Claim)) ∧ k ≤ l.length) ⟨?_, by omega⟩ ?_
 ·have : ascB [] = true := ascB_iff.2 List.Pairwise.nil
  simp [this]; omega
 rintro k _ ⟨rfl, hk⟩
 unfold ref26_right_l2
 dsimp only
 refine T.cond (fun g => ?_) fun g => ?_
 ·have hk2 : k < l.length := by have := of_decide_eq_true g; omega
  have hgk := hg _ (List.getElem_mem hk2)
  rw [idxM_nat hk2, some_bind, iaddS (by omega)]
  generalize hb0 : (decide (l.length ≤ 40) && (l.take k).all c0) = b0
  generalize hb1 : (l.take k).all c1 = b1
  generalize hb2 : (ascB ((l.map (·.Claim)).take k) && (l.take k).all c2) = b2
  generalize hb3 : (l.take k).all c3 = b3
  generalize hb4 : ((l.take k).all fun c => !hasC l (cmpl c.Claim)) = b4
  refine T.joinP (fun j => j = (b0 && c0 l[k])) (fun j hj => ?_) fun kk hkk => ?_
  rotate_left
  ·refine T.cond (fun e => hkk _ ?_) fun e => hkk _ ?_
   ·rw [e, Bool.true_and]; unfold c0; rw [Bool.eq_iff_iff, decide_eq_true_iff, decide_eq_true_iff]; omega
   ·rw [e, Bool.false_and]
  refine T.joinP (fun j => j = (b1 && okL l[k].Claim)) (fun j2 hj2 => ?_) fun kk hkk => ?_
  rotate_left
  ·refine T.cond (fun e => ?_) fun e => hkk _ ?_
   ·rw [refV, some_bind]; exact hkk _ (by rw [e, Bool.true_and])
   ·rw [e, Bool.false_and]
  rw [right_l1 hgk, some_bind]
  refine T.joinP (fun j => j = (b2 && (ascB l[k].Grounds && (decide (k = 0) || ltB (l[k - 1]'(by omega)).Claim l[k].Claim)))) (fun j3 hj3 => ?_) fun kk hkk => ?_
  rotate_left
  ·refine T.cond (fun e => ?_) fun e => hkk _ ?_
   ·rw [refAsc_eq hgk, some_bind]
    refine T.cond (fun e2 => ?_) fun e2 => hkk _ (by rw [e2, Bool.false_and, Bool.and_false])
    refine T.cond (fun e3 => hkk _ ?_) fun e3 => ?_
    ·have : k = 0 := by have := of_decide_eq_true e3; omega
     rw [e, e2, decide_eq_true this]; rfl
    ·have : k ≠ 0 := by have := of_decide_eq_false e3; omega
     rw [isubS (by omega), show (k : Int) - 1 = ((k - 1 : Nat) : Int) by omega, idxM_nat (show k - 1 < l.length by omega), some_bind, rcmp_eq, some_bind]
     refine hkk _ ?_
     rw [e, e2, decide_eq_false this, Bool.true_and, Bool.true_and, Bool.false_or, Bool.eq_iff_iff, decide_eq_true_iff, cmpR_lt, ltB_iff]
   ·rw [e, Bool.false_and]
  refine T.joinP (fun j => j = (b3 && c3 l[k])) (fun j4 hj4 => ?_) fun kk hkk => ?_
  rotate_left
  ·simp only [refIn_eq hgk, some_bind, pos_dec]
   have : (b3 && c3 l[k]) = (b3 && (!(l[k].Conceded && (l[k].Burden || decide (0 < l[k].Grounds.length))) && !(l[k].Burden && decide (0 < l[k].Grounds.length)) && !inB l[k].Grounds l[k].Claim)) := rfl
   rw [this] at hkk
   revert hkk
   generalize l[k].Conceded = h1
   generalize l[k].Burden = h2
   generalize decide (0 < l[k].Grounds.length) = h3
   generalize inB l[k].Grounds l[k].Claim = h4
   intro hkk
   cases b3 <;> cases h1 <;> cases h2 <;> cases h3 <;> exact hkk _ (by cases h4 <;> rfl)
  have fin : ∀ b : Bool, b = (b4 && !hasC l (cmpl l[k].Claim)) → (((k + 1 : Nat) : Int), j, (j2 && l[k].Grounds.all okL), j3, j4, b) = (((k + 1 : Nat) : Int), (decide (l.length ≤ 40) && (l.take (k + 1)).all c0), (l.take (k + 1)).all c1, (ascB ((l.map (·.Claim)).take (k + 1)) && (l.take (k + 1)).all c2), (l.take (k + 1)).all c3, (l.take (k + 1)).all fun c => !hasC l (cmpl c.Claim)) := fun b hb => by
   rw [all_succ hk2, all_succ hk2, all_succ hk2, all_succ hk2, all_succ hk2, asc_succ (by simpa using hk2)]
   simp only [List.getElem_map]
   rw [hj, hj2, hj3, hj4, hb, ← hb0, ← hb1, ← hb2, ← hb3, ← hb4]
   unfold c1 c2
   simp only [Prod.mk.injEq, true_and, and_true, Bool.and_assoc]
   generalize (l.take k).all _ = A
   generalize ascB ((l.map (·.Claim)).take k) = B
   generalize ascB l[k].Grounds = C
   generalize ltB _ _ = D
   generalize decide (k = 0) = E
   cases A <;> cases B <;> cases C <;> cases D <;> cases E <;> rfl
  refine T.cond (fun e => ?_) fun e => .ret ⟨hk2, fin _ (by rw [e, Bool.false_and]), hk2⟩
  have hnot : ref26_not_m l[k].Claim = some (cmpl l[k].Claim) := rfl
  rw [hnot, some_bind]
  refine T.bind (refFind_T hl) fun t ht => .ret ⟨hk2, fin _ ?_, hk2⟩
  rw [ht.1, e, Bool.true_and]
 ·have hk2 : k = l.length := by have := of_decide_eq_false g; omega
  subst hk2
  refine .ret ?_
  have e1 : (l.map (·.Claim)).take l.length = l.map (·.Claim) := List.take_of_length_le (by simp)
  rw [e1, List.take_length]; rfl

noncomputable def rNB (n : Nat) (l : Sl) : Bool := match n with | 0 => r0 l | 1 => r1 l | 2 => r2 l | 3 => r3 l | _ => r4 l
theorem refVal_l1 {L : List Sl} (h : Bd L) {n : Nat} (hn : n < 5) : loopC (ref26_Validate_l1 ⟨L⟩ (n : Int)) 0 = some (bif L.any fun l => !rNB n l then .inl ((if n = 0 then 2 else if n = 1 then 3 else if n = 2 then 8 else if n = 3 then 7 else 10 : Int)) else .inr ()) := by
 refine any_loop _ _ (fun i hi => ?_) ?_
 ·unfold ref26_Validate_l1
  dsimp only
  rw [decide_eq_true (by omega), cond_true, idxM_nat hi, some_bind, right_eq (h.l1 _ (List.getElem_mem hi)) (h.l2 _ (List.getElem_mem hi)), some_bind, iaddS (by have := h.l0; omega)]
  dsimp only
  have : n = 0 ∨ n = 1 ∨ n = 2 ∨ n = 3 ∨ n = 4 := by omega
  rcases this with e | e | e | e | e <;> subst e <;> rw [idxM_nat (by simp), some_bind, idxM_nat (by simp), some_bind]
  ·show (bif !r0 L[i] then _ else _) = some (bif !r0 L[i] then _ else _); cases r0 L[i] <;> rfl
  ·show (bif !r1 L[i] then _ else _) = some (bif !r1 L[i] then _ else _); cases r1 L[i] <;> rfl
  ·show (bif !r2 L[i] then _ else _) = some (bif !r2 L[i] then _ else _); cases r2 L[i] <;> rfl
  ·show (bif !r3 L[i] then _ else _) = some (bif !r3 L[i] then _ else _); cases r3 L[i] <;> rfl
  ·show (bif !r4 L[i] then _ else _) = some (bif !r4 L[i] then _ else _); cases r4 L[i] <;> rfl
 ·unfold ref26_Validate_l1
  rw [decide_eq_false (by dsimp only; omega), cond_false]
theorem refVal_l2 {L : List Sl} (h : Bd L) {n : Nat} (hn : n < 5) : ref26_Validate_l2 ⟨L⟩ (n : Int) = some (bif L.any fun l => !rNB n l then .inl (.inl ((if n = 0 then 2 else if n = 1 then 3 else if n = 2 then 8 else if n = 3 then 7 else 10 : Int))) else .inr ((n + 1 : Nat) : Int)) := by
 unfold ref26_Validate_l2
 rw [decide_eq_true (by omega), cond_true, refVal_l1 h hn, some_bind, iaddS (by omega)]
 cases L.any fun l => !rNB n l <;> rfl
theorem refVal_l2_end {L : List Sl} : ref26_Validate_l2 ⟨L⟩ 5 = some (.inl (.inr ())) := rfl
theorem refVal {L : List Sl} (h : Bd L) : ref26_Validate_m ⟨L⟩ = some (vcode L) := by
 unfold ref26_Validate_m vcode
 dsimp only
 by_cases hL : 6 < L.length
 ·rw [decide_eq_true (by omega), cond_true, decide_eq_true hL]; rfl
 ·rw [decide_eq_false (by omega), cond_false, decide_eq_false hL]
  rw [loopC_eq, show (0 : Int) = ((0 : Nat) : Int) from rfl, refVal_l2 h (by omega)]
  cases h0 : L.any fun l => !rNB 0 l
  ·have h0 : (L.any fun l => !r0 l) = false := h0
   rw [h0]
   simp only [cond_false, Option.bind_some]
   rw [loopC_eq, refVal_l2 h (by omega)]
   cases h1 : L.any fun l => !rNB 1 l
   ·have h1 : (L.any fun l => !r1 l) = false := h1
    rw [h1]
    simp only [cond_false, Option.bind_some]
    rw [loopC_eq, refVal_l2 h (by omega)]
    cases h2 : L.any fun l => !rNB 2 l
    ·have h2 : (L.any fun l => !r2 l) = false := h2
     rw [h2]
     simp only [cond_false, Option.bind_some]
     rw [loopC_eq, refVal_l2 h (by omega)]
     cases h3 : L.any fun l => !rNB 3 l
     ·have h3 : (L.any fun l => !r3 l) = false := h3
      rw [h3]
      simp only [cond_false, Option.bind_some]
      rw [loopC_eq, refVal_l2 h (by omega)]
      cases h4 : L.any fun l => !rNB 4 l
      ·have h4 : (L.any fun l => !r4 l) = false := h4
       rw [h4]
       simp only [cond_false, Option.bind_some]
       rw [loopC_eq, show (((0 + 1 + 1 + 1 + 1 + 1 : Nat) : Int)) = 5 from rfl, refVal_l2_end]; rfl
      ·have h4 : (L.any fun l => !r4 l) = true := h4
       rw [h4]; rfl
     ·have h3 : (L.any fun l => !r3 l) = true := h3
      rw [h3]; rfl
    ·have h2 : (L.any fun l => !r2 l) = true := h2
     rw [h2]; rfl
   ·have h1 : (L.any fun l => !r1 l) = true := h1
    rw [h1]; rfl
  ·have h0 : (L.any fun l => !r0 l) = true := h0
   rw [h0]; rfl

theorem sound_eq {l : List Li} (hl : l.length ≤ 9223372036854775807) : commitment_sound_m l = some (l.all okL) := by
 have : sCFL_m l = some (l.any fun x => !okL x) :=
  con_eq (g := commitment_sound_1_m) _ hl fun x _ => by unfold commitment_sound_1_m; rw [litV]; rfl
 unfold commitment_sound_m
 rw [this, some_bind, ← List.not_all_eq_any_not, Bool.not_not]
theorem claims_eq {l : Sl} (hl : l.length ≤ 1000000) : commitment_claims_m l = some (l.map (·.Claim)) := by
 refine T.eq ?_
 unfold commitment_claims_m
 refine T.bind (P := fun q => q = l.map (·.Claim)) ?_ fun q hq => .ret hq
 refine T.loopK l.length (fun k s => s = ((k : Int), (l.take k).map (·.Claim)) ∧ k ≤ l.length) ⟨rfl, by omega⟩ ?_
 rintro k _ ⟨rfl, hk⟩
 unfold commitment_claims_l1
 dsimp only
 refine T.cond (fun g => ?_) fun g => ?_
 ·have hk2 : k < l.length := by have := of_decide_eq_true g; omega
  rw [idxM_nat hk2, some_bind, appM_eq (by simp; omega), some_bind, iaddS (by omega)]
  exact .ret ⟨hk2, by rw [take_succ' hk2, List.map_append]; rfl, hk2⟩
 ·have hk2 : k = l.length := by have := of_decide_eq_false g; omega
  subst hk2
  exact .ret (by rw [List.take_length])
theorem consis {l : List Li} (hl : l.length ≤ 100000) : T (literal_Consistent_q_m l) fun r => r = false ↔ ∃ z, z ∈ l ∧ cmpl z ∈ l := by
 unfold literal_Consistent_q_m
 refine T.bind (P := fun o => match o with | .inl r => r = false ∧ ∃ z, z ∈ l ∧ cmpl z ∈ l | .inr _ => ¬ ∃ z, z ∈ l ∧ cmpl z ∈ l) ?_ fun o ho => ?_
 ·refine T.loopK l.length (fun k s => s.1 = (k : Int) ∧ k ≤ l.length ∧ Filled s.2 (l.take k) ∧ ∀ i j (hi : i < l.length) (hj : j < l.length), i < k → j < k → l[j] ≠ cmpl l[i]) ⟨rfl, by omega, Filled.nil, fun _ _ _ _ h => absurd h (by omega)⟩ ?_
  rintro k ⟨_, d⟩ ⟨rfl, hk, hd, hn⟩
  dsimp only at hd hn
  unfold literal_Consistent_q_l1
  dsimp only
  have compl_eq : ∀ x : Li, literal_Complement_q_m x = some (cmpl x) := fun _ => rfl
  refine T.cond (fun g => ?_) fun g => ?_
  ·have hk2 : k < l.length := by have := of_decide_eq_true g; omega
   rw [idxM_nat hk2, some_bind, compl_eq, some_bind, letM_eq, mapHas_iff, iaddS (by omega)]
   have hd2 := hd.put l[k] (T_anon100.mk)
   have ht : l.take (k + 1) = l.take k ++ [l[k]] := take_succ' hk2
   refine T.cond (fun c => .ret ⟨rfl, l[k], List.getElem_mem hk2, ?_⟩) fun c => .ret ⟨hk2, rfl, hk2, ht ▸ hd2, ?_⟩
   ·have h1 := (hd2.mem _).1 (of_decide_eq_true c)
    rw [← ht] at h1
    exact List.mem_of_mem_take h1
   ·have h1 : cmpl l[k] ∉ l.take (k + 1) := fun h => (of_decide_eq_false c) ((hd2.mem _).2 (ht ▸ h))
    have h2 : ∀ i (hi : i < l.length), i < k + 1 → l[i] ≠ cmpl l[k] := fun i hi hik e => h1 (by
     rw [← e, List.mem_take_iff_getElem]
     exact ⟨i, by omega, rfl⟩)
    intro i j hi hj hik hjk e
    rcases Nat.lt_or_ge i k with h3 | h3
    ·rcases Nat.lt_or_ge j k with h4 | h4
     ·exact hn i j hi hj h3 h4 e
     ·have : j = k := by omega
      subst this
      exact h2 i hi hik (by rw [e, cmpl_cmpl])
    ·have : i = k := by omega
     subst this
     exact h2 j hj hjk e
  ·have hk2 : k = l.length := by have := of_decide_eq_false g; omega
   refine .ret ?_
   rintro ⟨z, h1, h2⟩
   obtain ⟨i, hi, rfl⟩ := List.getElem_of_mem h1
   obtain ⟨j, hj, e⟩ := List.getElem_of_mem h2
   exact hn i j hi hj (by omega) (by omega) e
 ·match o, ho with
  | .inl r, ho => exact .ret ⟨fun _ => ho.2, fun _ => ho.1⟩
  | .inr _, ho => exact .ret ⟨fun e => (by cases e), fun e => absurd e ho⟩
def conB (l : List Li) : Bool := !(l.any fun x => inB l (cmpl x))
theorem consis_eq {l : List Li} (hl : l.length ≤ 100000) : literal_Consistent_q_m l = some (conB l) := by
 obtain ⟨r, h, hr⟩ := consis hl
 rw [h]; congr 1
 unfold conB
 cases r
 ·obtain ⟨z, h1, h2⟩ := hr.1 rfl
  have : (l.any fun x => inB l (cmpl x)) = true := List.any_eq_true.2 ⟨z, h1, inB_iff.2 h2⟩
  rw [this]; rfl
 ·have : (l.any fun x => inB l (cmpl x)) = false := List.any_eq_false.2 fun z h1 h2 => by
   have := hr.2 ⟨z, h1, inB_iff.1 h2⟩; cases this
  rw [this]; rfl
theorem r4_con {l : Sl} : conB (l.map (·.Claim)) = r4 l := by
 unfold conB r4
 rw [Bool.eq_iff_iff, Bool.not_eq_true', List.any_eq_false, List.all_eq_true]
 simp only [List.mem_map, forall_exists_index, and_imp, forall_apply_eq_imp_iff₂, inB_iff, Bool.not_eq_true', ← Bool.not_eq_true (hasC _ _), hasC_iff]
theorem val3 (c : Cm) (h : c.Grounds.length ≤ 9223372036854775807) : commitment_Validate_3_m c = some (!c1 c) := by
 unfold commitment_Validate_3_m c1
 rw [litV, some_bind]
 cases okL c.Claim
 ·rfl
 ·rw [Bool.not_true, cond_false, sound_eq h]; rfl
theorem val6 (c : Cm) (h : c.Grounds.length ≤ 9223372036854775807) : commitment_Validate_6_m c = some (!c3 c) := by
 unfold commitment_Validate_6_m c3
 simp only [contains_eq h, some_bind, pos_dec]
 generalize c.Conceded = h1
 generalize c.Burden = h2
 generalize decide (0 < c.Grounds.length) = h3
 generalize inB c.Grounds c.Claim = h4
 cases h1 <;> cases h2 <;> cases h3 <;> cases h4 <;> rfl
theorem not_all {α : Type} {l : List α} {p : α → Bool} : (!l.all p) = l.any fun x => !p x := by
 rw [List.not_all_eq_any_not]
theorem progVal {L : List Sl} (h : Bd L) : commitment_Validate_m ⟨L⟩ = some (vcode L) := by
 have e1 : sCFC_m L = some (L.any fun l => decide (40 < l.length)) :=
  con_eq (g := commitment_Validate_1_m) _ h.l0 fun l _ => by
   unfold commitment_Validate_1_m; congr 1; rw [Bool.eq_iff_iff, decide_eq_true_iff, decide_eq_true_iff]; omega
 have e2 : commitment_some_m ⟨L⟩ = some (L.any fun l => l.any fun c => !c0 c) := by
  have : sCFC_s1_m L = some (L.any fun l => l.any fun c => !c0 c) :=
   con_eq (g := commitment_some_1_m) _ h.l0 fun l hl => by
    have : sCFC__m l = some (l.any fun c => !c0 c) :=
     con_eq (g := commitment_Validate_2_m) _ (h.l1 l hl) fun c _ => by
      unfold commitment_Validate_2_m c0; congr 1; rw [Bool.eq_iff_iff, Bool.not_eq_true', decide_eq_true_iff, decide_eq_false_iff_not]; omega
    unfold commitment_some_1_m; rw [this]; rfl
  unfold commitment_some_m; rw [this]; rfl
 have e3 : commitment_some_s1_m ⟨L⟩ = some (L.any fun l => !r1 l) := by
  have : sCFC_s2_m L = some (L.any fun l => !r1 l) :=
   con_eq (g := commitment_some_1_s1_m) _ h.l0 fun l hl => by
    have : sCFC_s1__m l = some (l.any fun c => !c1 c) :=
     con_eq (g := commitment_Validate_3_m) _ (h.l1 l hl) fun c hc => val3 c (h.l2 l hl c hc)
    unfold commitment_some_1_s1_m r1; rw [this, not_all]; rfl
  unfold commitment_some_s1_m; rw [this]; rfl
 have e4 : (∀ l ∈ L, l.length ≤ 40) → sCFC_s3_m L = some (L.any fun l => !ascB (l.map (·.Claim))) := fun h40 =>
  con_eq (g := commitment_Validate_4_m) _ h.l0 fun l hl => by
   have := h40 l hl
   unfold commitment_Validate_4_m; rw [claims_eq (by omega), some_bind, rising_eq (by rw [List.length_map]; omega)]; rfl
 have e5 : commitment_some_s2_m ⟨L⟩ = some (L.any fun l => l.any fun c => !c2 c) := by
  have : sCFC_s4_m L = some (L.any fun l => l.any fun c => !c2 c) :=
   con_eq (g := commitment_some_1_s2_m) _ h.l0 fun l hl => by
    have : sCFC_s2__m l = some (l.any fun c => !c2 c) :=
     con_eq (g := commitment_Validate_5_m) _ (h.l1 l hl) fun c hc => by
      unfold commitment_Validate_5_m c2; rw [rising_s1, rising_eq (h.l2 l hl c hc)]; rfl
    unfold commitment_some_1_s2_m; rw [this]; rfl
  unfold commitment_some_s2_m; rw [this]; rfl
 have e6 : commitment_some_s3_m ⟨L⟩ = some (L.any fun l => !r3 l) := by
  have : sCFC_s5_m L = some (L.any fun l => !r3 l) :=
   con_eq (g := commitment_some_1_s3_m) _ h.l0 fun l hl => by
    have : sCFC_s3__m l = some (l.any fun c => !c3 c) :=
     con_eq (g := commitment_Validate_6_m) _ (h.l1 l hl) fun c hc => val6 c (h.l2 l hl c hc)
    unfold commitment_some_1_s3_m r3; rw [this, not_all]; rfl
  unfold commitment_some_s3_m; rw [this]; rfl
 have e7 : (∀ l ∈ L, l.length ≤ 40) → sCFC_s6_m L = some (L.any fun l => !r4 l) := fun h40 =>
  con_eq (g := commitment_Validate_7_m) _ h.l0 fun l hl => by
   have := h40 l hl
   unfold commitment_Validate_7_m; rw [claims_eq (by omega), some_bind, consis_eq (by rw [List.length_map]; omega), r4_con]; rfl
 have q0 : (L.any fun l => !r0 l) = ((L.any fun l => decide (40 < l.length)) || L.any fun l => l.any fun c => !c0 c) := by
  rw [Bool.eq_iff_iff, Bool.or_eq_true]
  simp only [List.any_eq_true]
  constructor
  ·rintro ⟨l, hl, e⟩
   unfold r0 at e
   rw [Bool.not_and, Bool.or_eq_true, not_all] at e
   rcases e with e | e
   ·exact .inl ⟨l, hl, by rw [Bool.not_eq_true', decide_eq_false_iff_not] at e; exact decide_eq_true (by omega)⟩
   ·exact .inr ⟨l, hl, List.any_eq_true.1 e⟩
  ·rintro (⟨l, hl, e⟩ | ⟨l, hl, e⟩)
   ·refine ⟨l, hl, ?_⟩
    unfold r0
    rw [decide_eq_false (by have := of_decide_eq_true e; omega)]; rfl
   ·refine ⟨l, hl, ?_⟩
    unfold r0
    rw [Bool.not_and, not_all, List.any_eq_true.2 e, Bool.or_true]
 have q2 : (L.any fun l => !r2 l) = ((L.any fun l => !ascB (l.map (·.Claim))) || L.any fun l => l.any fun c => !c2 c) := by
  rw [Bool.eq_iff_iff, Bool.or_eq_true]
  simp only [List.any_eq_true]
  constructor
  ·rintro ⟨l, hl, e⟩
   unfold r2 at e
   rw [Bool.not_and, Bool.or_eq_true, not_all] at e
   exact e.elim (fun e => .inl ⟨l, hl, e⟩) fun e => .inr ⟨l, hl, List.any_eq_true.1 e⟩
  ·rintro (⟨l, hl, e⟩ | ⟨l, hl, e⟩)
   ·exact ⟨l, hl, by unfold r2; rw [Bool.not_and, e, Bool.true_or]⟩
   ·exact ⟨l, hl, by unfold r2; rw [Bool.not_and, not_all, List.any_eq_true.2 e, Bool.or_true]⟩
 have h40 : (L.any fun l => !r0 l) = false → ∀ l ∈ L, l.length ≤ 40 := fun e l hl => by
  have := List.any_eq_false.1 e l hl
  unfold r0 at this
  simp at this; exact this.1
 unfold commitment_Validate_m vcode
 simp only [e1, e2, e3, e5, e6, some_bind, joinM_eq]
 have d6 : decide (((L.length : Nat) : Int) > 6) = decide (6 < L.length) := by rw [Bool.eq_iff_iff, decide_eq_true_iff, decide_eq_true_iff]; omega
 rw [d6]
 cases h6 : decide (6 < L.length)
 ·rw [cond_false, Bool.false_or]
  cases hr0 : L.any fun l => !r0 l
  ·have hh := h40 hr0
   rw [hr0] at q0
   obtain ⟨q0a, q0b⟩ := Bool.or_eq_false_iff.1 q0.symm
   rw [q0a, cond_false, q0b, cond_false]
   cases hr1 : L.any fun l => !r1 l
   ·rw [cond_false, e4 hh, some_bind, q2]
    have e7 := e7 hh
    cases L.any fun l => !ascB (l.map (·.Claim))
    ·rw [cond_false]
     cases L.any fun l => l.any fun c => !c2 c
     ·rw [cond_false]
      cases hr3 : L.any fun l => !r3 l
      ·rw [cond_false, e7, some_bind]
       cases L.any fun l => !r4 l <;> rfl
      ·rfl
     ·rfl
    ·rfl
   ·rfl
  ·rw [hr0] at q0
   rcases Bool.or_eq_true _ _ ▸ q0.symm with q | q
   ·rw [q]; rfl
   ·rw [q]
    cases L.any fun l => decide (40 < l.length) <;> rfl
 ·rfl
end Go.Dc

namespace Go.Dc

abbrev Asc (l : Sl) : Prop := AscL (l.map (·.Claim))
noncomputable def posC (l : Sl) (x : Li) : Nat := (l.takeWhile fun c => ltB c.Claim x).length
noncomputable def atC (l : Sl) (x : Li) : Cm := l.getD (posC l x) default
noncomputable def putC (l : Sl) (c : Cm) : Sl := l.take (posC l c.Claim) ++ c :: l.drop (posC l c.Claim + if hasC l c.Claim then 1 else 0)
structure Spl (l : Sl) (x : Li) (A B : Sl) : Prop where
 eq : l = A ++ B
 pos : posC l x = A.length
 lt : ∀ a ∈ A, LtL a.Claim x
 rest : (hasC l x = false ∧ ∀ b ∈ B, LtL x b.Claim) ∨ (hasC l x = true ∧ ∃ b B', B = b :: B' ∧ b.Claim = x ∧ ∀ d ∈ B', LtL x d.Claim)
theorem spl : ∀ {l : Sl} (x : Li), Asc l → ∃ A B, Spl l x A B
 | [], x, _ => ⟨[], [], rfl, rfl, by simp, .inl ⟨rfl, by simp⟩⟩
 | c :: l, x, h => by
  obtain ⟨h1, h2⟩ := List.pairwise_cons.1 h
  have h1' : ∀ d ∈ l, LtL c.Claim d.Claim := fun d hd => h1 _ (List.mem_map.2 ⟨d, hd, rfl⟩)
  obtain ⟨A, B, hs⟩ := spl (l := l) x h2
  have hc : hasC (c :: l) x = (decide (c.Claim = x) || hasC l x) := rfl
  by_cases q : LtL c.Claim x
  ·have hne : c.Claim ≠ x := fun e => ltL_irr x (by rw [e] at q; exact q)
   refine ⟨c :: A, B, by rw [List.cons_append, ← hs.eq], ?_, fun a ha => ?_, ?_⟩
   ·have := hs.pos
    unfold posC at this ⊢
    rw [List.takeWhile_cons, ltB_iff.2 q, if_pos rfl, List.length_cons, List.length_cons, this]
   ·rcases List.mem_cons.1 ha with e | e
    ·exact e ▸ q
    ·exact hs.lt a e
   ·rw [hc, decide_eq_false hne, Bool.false_or]; exact hs.rest
  ·have hp : posC (c :: l) x = 0 := by
    unfold posC
    rw [List.takeWhile_cons, if_neg (by rw [ltB_iff]; exact q)]; rfl
   refine ⟨[], c :: l, rfl, hp, by simp, ?_⟩
   by_cases e : c.Claim = x
   ·refine .inr ⟨by rw [hc, decide_eq_true e]; rfl, c, l, rfl, e, fun d hd => e ▸ h1' d hd⟩
   ·have hx : LtL x c.Claim := ((ltL_tri x c.Claim).resolve_right fun o => o.elim (fun w => e w.symm) q)
    have hall : ∀ b ∈ c :: l, LtL x b.Claim := fun b hb => by
     rcases List.mem_cons.1 hb with w | w
     ·exact w ▸ hx
     ·exact ltL_trans hx (h1' b w)
    refine .inl ⟨?_, hall⟩
    rw [← Bool.not_eq_true, hasC_iff]
    rintro ⟨d, hd, e2⟩
    exact ltL_irr x (by have := hall d hd; rwa [e2] at this)
variable {l A B : Sl} {x : Li}
theorem Spl.put_no (h : Spl l x A B) (hx : hasC l x = false) {c : Cm} (e : c.Claim = x) : putC l c = A ++ c :: B := by
 unfold putC
 rw [e, hx, h.pos, if_neg (by simp), Nat.add_zero, h.eq, List.take_left, List.drop_left]
theorem Spl.put_yes {b : Cm} {B' : Sl} (h : Spl l x A (b :: B')) (hx : hasC l x = true) {c : Cm} (e : c.Claim = x) : putC l c = A ++ c :: B' := by
 unfold putC
 rw [e, hx, h.pos, if_pos rfl, h.eq, List.take_left, List.drop_append, List.drop_eq_nil_of_le (by omega), Nat.add_sub_cancel_left]; rfl
theorem Spl.at {b : Cm} {B' : Sl} (h : Spl l x A (b :: B')) : atC l x = b := by
 unfold atC
 rw [h.pos, h.eq]; simp

theorem cmpI_zero {x y : Li} : cmpI x y = 0 ↔ x = y := by
 constructor
 ·intro h
  rcases ltL_tri x y with q | q | q
  ·have := cmp_lt.2 q; omega
  ·exact q
  ·unfold cmpI at h
   rcases q with q | ⟨e, n1, n2⟩
   ·by_cases w : x.Name.toList < y.Name.toList
    ·rw [if_pos w] at h; cases h
    ·rw [if_neg w, if_pos q] at h; cases h
   ·rw [e, if_neg (lt_irr _), if_neg (lt_irr _), n1, n2] at h
    simp at h
 ·rintro rfl
  unfold cmpI
  rw [if_neg (lt_irr _), if_neg (lt_irr _), if_pos rfl]
theorem mid_eq {a b : Nat} (h2 : a + b ≤ 1000000) : IntKind.wrap .i64 (ishr .u64 (IntKind.wrap .u64 (iadd .i64 (a : Int) (b : Int))) 1) = (((a + b) / 2 : Nat) : Int) := by
 have e0 : iadd .i64 (a : Int) (b : Int) = (a : Int) + b := iadd64 (by omega) (by omega)
 have e1 : IntKind.wrap .u64 ((a : Int) + b) = (a : Int) + b := by simp [IntKind.wrap, IntKind.signed, IntKind.bits]; omega
 have e2 : ishr .u64 ((a : Int) + b) 1 = ((a : Int) + b) / 2 := by
  unfold ishr
  rw [Nat.min_eq_left (by simp [IntKind.bits]), Int.fdiv_eq_ediv_of_nonneg _ (Int.le_of_lt (Int.pow_pos (show (0 : Int) < 2 by decide)))]
  rfl
 rw [e0, e1, e2, wrap64 (by omega) (by omega)]; omega

theorem find_eq (hA : Asc l) (hl : l.length ≤ 100000) (x : Li) : commitment_find_m l x = some ((posC l x : Int), hasC l x) := by
 obtain ⟨A, B, hs⟩ := spl x hA
 refine T.eq ?_
 unfold commitment_find_m sBSC_m
 have hge : ∀ b ∈ B, ¬ LtL b.Claim x := fun b hb q => by
  rcases hs.rest with ⟨_, h⟩ | ⟨_, d, B', rfl, e, h⟩
  ·exact ltL_irr _ (ltL_trans q (h b hb))
  ·rcases List.mem_cons.1 hb with w | w
   ·rw [w, e] at q; exact ltL_irr _ q
   ·exact ltL_irr _ (ltL_trans q (h b w))
 have hlen : l.length = A.length + B.length := by rw [hs.eq, List.length_append]
 refine T.bind (P := fun r : Int × Bool => r = ((posC l x : Int), hasC l x)) ?_ fun r hr => .ret (by rw [hr])
 refine T.bind (P := fun q : Int => q = (A.length : Int)) ?_ fun q hq => ?_
 ·refine T.loopM (fun s => ∃ lo hi : Nat, s = ((lo : Int), (hi : Int)) ∧ lo ≤ hi ∧ hi ≤ l.length ∧ (∀ i, i < lo → (h : i < l.length) → LtL l[i].Claim x) ∧ (∀ i, hi ≤ i → (h : i < l.length) → ¬ LtL l[i].Claim x)) (fun s => (s.2 - s.1).toNat) ⟨0, l.length, rfl, by omega, by omega, by omega, by omega⟩ ?_
  rintro _ ⟨lo, hi, rfl, h1, h2, h3, h4⟩
  unfold sBSC_l1
  dsimp only
  refine T.cond (fun g => ?_) fun g => .ret ?_
  ·have hlt : lo < hi := by have := of_decide_eq_true g; omega
   rw [mid_eq (by omega)]
   have hm : (lo + hi) / 2 < l.length := by omega
   rw [idxM_nat hm, some_bind]
   have : commitment_find_1_m l[(lo + hi) / 2] x = some (cmpI l[(lo + hi) / 2].Claim x) := by
    unfold commitment_find_1_m; rw [cmp_eq]; rfl
   rw [this, some_bind, iaddS (by omega)]
   refine T.cond (fun g2 => .ret ⟨⟨(lo + hi) / 2 + 1, hi, rfl, by omega, h2, fun i hi2 h => ?_, h4⟩, by dsimp only; omega⟩) fun g2 => .ret ⟨⟨lo, (lo + hi) / 2, rfl, by omega, by omega, h3, fun i hi2 h => ?_⟩, by dsimp only; omega⟩
   ·have hm2 := cmp_lt.1 (of_decide_eq_true g2)
    rcases Nat.lt_or_ge i ((lo + hi) / 2) with q | q
    ·have := List.pairwise_iff_getElem.1 hA i ((lo + hi) / 2) (by simpa using h) (by simpa using hm) q
     simp only [List.getElem_map] at this
     exact ltL_trans this hm2
    ·have : i = (lo + hi) / 2 := by omega
     subst this; exact hm2
   ·have hm2 : ¬ LtL l[(lo + hi) / 2].Claim x := fun q => of_decide_eq_false g2 (cmp_lt.2 q)
    rcases Nat.lt_or_ge ((lo + hi) / 2) i with q | q
    ·have := List.pairwise_iff_getElem.1 hA ((lo + hi) / 2) i (by simpa using hm) (by simpa using h) q
     simp only [List.getElem_map] at this
     exact fun w => hm2 (ltL_trans this w)
    ·have : i = (lo + hi) / 2 := by omega
     subst this; exact hm2
  ·have hlo : lo = hi := by have := of_decide_eq_false g; omega
   subst hlo
   have e : lo = A.length := by
    rcases Nat.lt_trichotomy lo A.length with q | q | q
    ·have hq : lo < l.length := by omega
     refine absurd ?_ (h4 lo (Nat.le_refl _) hq)
     have : l[lo] = A[lo] := by simp only [hs.eq, List.getElem_append_left q]
     rw [this]; exact hs.lt _ (List.getElem_mem q)
    ·exact q
    ·have hq : A.length < l.length := by omega
     have h5 := h3 A.length q hq
     have hB : 0 < B.length := by omega
     have : l[A.length] = B[0] := by simp only [hs.eq]; rw [List.getElem_append_right (Nat.le_refl _)]; simp
     rw [this] at h5
     exact absurd h5 (hge _ (List.getElem_mem hB))
   show (lo : Int) = _
   rw [e]
 ·subst hq
  rw [hs.pos]
  rcases hs.rest with ⟨hx, h⟩ | ⟨hx, d, B', rfl, e, h⟩
  ·rw [hx]
   refine T.cond (fun g => ?_) fun g => .ret rfl
   have hq : A.length < l.length := by have := of_decide_eq_true g; omega
   have hB : 0 < B.length := by omega
   rw [idxM_nat hq, some_bind]
   have : l[A.length] = B[0] := by simp only [hs.eq]; rw [List.getElem_append_right (Nat.le_refl _)]; simp
   rw [this]
   have : commitment_find_1_m B[0] x = some (cmpI B[0].Claim x) := by unfold commitment_find_1_m; rw [cmp_eq]; rfl
   rw [this, some_bind]
   refine .ret ?_
   congr 1
   refine beq_eq_false_iff_ne.2 fun q => ?_
   have h5 := h _ (List.getElem_mem hB)
   rw [cmpI_zero.1 q] at h5
   exact ltL_irr _ h5
  ·rw [hx]
   have hq : A.length < l.length := by simp only [List.length_cons] at hlen; omega
   rw [decide_eq_true (by omega), cond_true, idxM_nat hq, some_bind]
   have : l[A.length] = d := by simp only [hs.eq]; rw [List.getElem_append_right (Nat.le_refl _)]; simp
   rw [this]
   have : commitment_find_1_m d x = some (cmpI d.Claim x) := by unfold commitment_find_1_m; rw [cmp_eq]; rfl
   rw [this, some_bind, cmpI_zero.2 e]
   exact .ret rfl
theorem refFind_eq (hA : Asc l) (hl : l.length ≤ 100000) (x : Li) : ref26_find_m l x = some (if hasC l x then (posC l x : Int) else -1) := by
 obtain ⟨A, B, hs⟩ := spl x hA
 obtain ⟨r, h, h1, h2, h3⟩ := refFind_T (l := l) (x := x) (by omega)
 rw [h]; congr 1
 cases hx : hasC l x
 ·exact h3 hx
 ·rw [if_pos rfl]
  obtain ⟨k, hk, rfl, e⟩ := h2 hx
  rcases hs.rest with ⟨hx2, _⟩ | ⟨_, d, B', rfl, e2, _⟩
  ·rw [hx] at hx2; cases hx2
  ·rw [hs.pos]
   have hlen : l.length = A.length + (d :: B').length := by rw [hs.eq, List.length_append]
   have hq : A.length < l.length := by simp only [List.length_cons] at hlen; omega
   have hd : l[A.length] = d := by simp only [hs.eq]; rw [List.getElem_append_right (Nat.le_refl _)]; simp
   have inj : ∀ i j, (hi : i < l.length) → (hj : j < l.length) → i < j → l[i].Claim = l[j].Claim → False := fun i j hi hj hij e => by
    have := List.pairwise_iff_getElem.1 hA i j (by simpa using hi) (by simpa using hj) hij
    simp only [List.getElem_map] at this
    rw [e] at this; exact ltL_irr _ this
   rcases Nat.lt_trichotomy k A.length with q | q | q
   ·exact (inj _ _ hk hq q (by rw [e, hd, e2])).elim
   ·rw [q]
   ·exact (inj _ _ hq hk q (by rw [e, hd, e2])).elim
theorem find_ge : decide ((if hasC l x then (posC l x : Int) else -1) ≥ 0) = hasC l x := by
 cases h : hasC l x
 ·rfl
 ·rw [if_pos rfl]; exact decide_eq_true (by omega)
theorem find_lt : decide ((if hasC l x then (posC l x : Int) else -1) < 0) = !hasC l x := by
 cases h : hasC l x
 ·rfl
 ·rw [if_pos rfl]; exact decide_eq_false (by omega)
theorem at_idx (hA : Asc l) (h : hasC l x = true) : idxM l (posC l x : Int) = some (atC l x) ∧ (atC l x).Claim = x ∧ posC l x < l.length ∧ atC l x ∈ l := by
 obtain ⟨A, B, hs⟩ := spl x hA
 rcases hs.rest with ⟨hx2, _⟩ | ⟨_, d, B', rfl, e2, _⟩
 ·rw [h] at hx2; cases hx2
 ·have hlen : l.length = A.length + (d :: B').length := by rw [hs.eq, List.length_append]
  have hq : A.length < l.length := by simp only [List.length_cons] at hlen; omega
  have hd : l[A.length] = d := by simp only [hs.eq]; rw [List.getElem_append_right (Nat.le_refl _)]; simp
  rw [hs.at, hs.pos, idxM_nat hq, hd]
  exact ⟨rfl, e2, hq, by rw [hs.eq]; simp⟩
end Go.Dc

namespace Go.Dc

structure Ok (l : Sl) : Prop where
 h0 : r0 l = true
 h1 : r1 l = true
 h2 : r2 l = true
 h3 : r3 l = true
 h4 : r4 l = true
variable {l A B : Sl} {x : Li} {L : List Sl}
theorem Ok.len (h : Ok l) : l.length ≤ 40 := by have := h.h0; unfold r0 at this; rw [Bool.and_eq_true, decide_eq_true_iff] at this; exact this.1
theorem Ok.g6 (h : Ok l) : ∀ c ∈ l, c.Grounds.length ≤ 6 := fun c hc => by
 have := h.h0; unfold r0 at this; rw [Bool.and_eq_true, List.all_eq_true] at this
 exact of_decide_eq_true (this.2 c hc)
theorem Ok.asc (h : Ok l) : Asc l := by have := h.h2; unfold r2 at this; rw [Bool.and_eq_true, ascB_iff] at this; exact this.1
theorem Ok.c2 (h : Ok l) : ∀ c ∈ l, AscL c.Grounds := fun c hc => by
 have := h.h2; unfold r2 at this; rw [Bool.and_eq_true, List.all_eq_true] at this
 exact ascB_iff.1 (this.2 c hc)
theorem Ok.c1 (h : Ok l) : ∀ c ∈ l, okL c.Claim = true ∧ c.Grounds.all okL = true := fun c hc => by
 have := h.h1; unfold r1 at this; rw [List.all_eq_true] at this
 have := this c hc; unfold Go.Dc.c1 at this; rwa [Bool.and_eq_true] at this
theorem Ok.c3 (h : Ok l) : ∀ c ∈ l, Go.Dc.c3 c = true := fun c hc => List.all_eq_true.1 h.h3 c hc
theorem Ok.c4 (h : Ok l) : ∀ c ∈ l, hasC l (cmpl c.Claim) = false := fun c hc => by
 have := List.all_eq_true.1 h.h4 c hc; simpa using this
theorem c3_conc {c : Cm} (h : c3 c = true) (hc : c.Conceded = true) : c.Burden = false ∧ c.Grounds = [] := by
 unfold c3 at h; rw [hc] at h
 cases hb : c.Burden
 ·refine ⟨rfl, ?_⟩
  rw [hb] at h
  simp at h
  exact h.1
 ·rw [hb] at h; simp at h
theorem c3_burd {c : Cm} (h : c3 c = true) (hc : c.Burden = true) : c.Conceded = false ∧ c.Grounds = [] := by
 unfold c3 at h; rw [hc] at h
 cases hb : c.Conceded
 ·refine ⟨rfl, ?_⟩
  rw [hb] at h
  simp at h
  exact h.1
 ·rw [hb] at h; simp at h

structure OkA (L : List Sl) : Prop where
 n : L.length ≤ 6
 ok : ∀ l ∈ L, Ok l
theorem OkA.bd (h : OkA L) : Bd L := ⟨by have := h.n; omega, fun l hl => by have := (h.ok l hl).len; omega, fun l hl c hc => by have := (h.ok l hl).g6 c hc; omega⟩
theorem vcode_zero : vcode L = 0 ↔ OkA L := by
 have key : ∀ p : Sl → Bool, (L.any fun l => !p l) = false ↔ ∀ l ∈ L, p l = true := fun p => by simp
 unfold vcode
 constructor
 ·intro h
  by_cases q0 : (decide (6 < L.length) || L.any fun l => !r0 l) = true
  ·rw [if_pos q0] at h; cases h
  rw [if_neg q0] at h
  by_cases q1 : (L.any fun l => !r1 l) = true
  ·rw [if_pos q1] at h; cases h
  rw [if_neg q1] at h
  by_cases q2 : (L.any fun l => !r2 l) = true
  ·rw [if_pos q2] at h; cases h
  rw [if_neg q2] at h
  by_cases q3 : (L.any fun l => !r3 l) = true
  ·rw [if_pos q3] at h; cases h
  rw [if_neg q3] at h
  by_cases q4 : (L.any fun l => !r4 l) = true
  ·rw [if_pos q4] at h; cases h
  rw [Bool.not_eq_true, Bool.or_eq_false_iff] at q0
  rw [Bool.not_eq_true] at q1 q2 q3 q4
  have a0 := (key r0).1 q0.2
  have a1 := (key r1).1 q1
  have a2 := (key r2).1 q2
  have a3 := (key r3).1 q3
  have a4 := (key r4).1 q4
  exact ⟨by have := of_decide_eq_false q0.1; omega, fun l hl => ⟨a0 l hl, a1 l hl, a2 l hl, a3 l hl, a4 l hl⟩⟩
 ·intro h
  rw [decide_eq_false (by have := h.n; omega), (key r0).2 fun l hl => (h.ok l hl).h0, (key r1).2 fun l hl => (h.ok l hl).h1, (key r2).2 fun l hl => (h.ok l hl).h2, (key r3).2 fun l hl => (h.ok l hl).h3, (key r4).2 fun l hl => (h.ok l hl).h4]
  rfl

theorem set_self {α : Type} {l : List α} {i : Nat} (h : i < l.length) : l.set i l[i] = l := by simp
theorem map_set {α : Type} {l : List α} {f : α → α} {k : Nat} (hk : k < l.length) : ((l.take k).map f ++ l.drop k).set k (f l[k]) = (l.take (k + 1)).map f ++ l.drop (k + 1) := by
 rw [take_succ' hk, List.drop_eq_getElem_cons hk, List.set_append_right _ _ (by simp; omega)]
 have : k - ((l.take k).map f).length = 0 := by simp; omega
 rw [this, List.set_cons_zero, List.map_append, List.append_assoc]; rfl
theorem copied_eq (h : OkA L) : commitment_copied_m ⟨L⟩ = some L := by
 refine T.eq ?_
 have hn := h.n
 unfold commitment_copied_m
 dsimp only
 rw [mkM_T (by omega), some_bind]
 refine T.bind (P := fun q => q = L) ?_ fun q hq => .ret hq
 refine T.loopK L.length (fun k s => s = ((k : Int), L.take k ++ List.replicate (L.length - k) []) ∧ k ≤ L.length) ⟨by simp, by omega⟩ ?_
 rintro k _ ⟨rfl, hk⟩
 unfold commitment_copied_l2
 dsimp only
 refine T.cond (fun g => ?_) fun g => ?_
 ·have hk2 : k < L.length := by have := of_decide_eq_true g; omega
  have ho := h.ok _ (List.getElem_mem hk2)
  have hol := ho.len
  rw [idxM_nat hk2, some_bind]
  have hcl : slices_Clone_api_Commitment_api_Commitment_m L[k] = some L[k] := by
   unfold slices_Clone_api_Commitment_api_Commitment_m
   rw [appM_eq (by simp; omega)]; rfl
  have hM : (L.take k ++ List.replicate (L.length - k) []).length = L.length := by simp; omega
  have hset : (L.take k ++ List.replicate (L.length - k) []).set k L[k] = L.take (k + 1) ++ List.replicate (L.length - (k + 1)) [] := by
   rw [List.set_append_right _ _ (by simp; omega), take_succ' hk2]
   have e : k - (L.take k).length = 0 := by simp; omega
   rw [e, show L.length - k = L.length - (k + 1) + 1 by omega, List.replicate_succ, List.set_cons_zero, List.append_assoc]; rfl
  rw [hcl, some_bind, idxM_nat (by omega), some_bind, show Int.toNat (k : Int) = k from rfl, hset]
  generalize hX : L.take (k + 1) ++ List.replicate (L.length - (k + 1)) [] = X
  have hXl : k < X.length := by rw [← hX]; simp; omega
  have hXk : X[k] = L[k] := by
   simp only [← hX]
   rw [List.getElem_append_left (by simp; omega), List.getElem_take]
  have hXi : idxM X (k : Int) = some L[k] := by rw [idxM_nat hXl, hXk]
  rw [hXi, some_bind]
  refine T.bind (P := fun q => q = X) ?_ fun q hq => ?_
  ·refine T.loopK L[k].length (fun j s => s = ((j : Int), X) ∧ j ≤ L[k].length) ⟨rfl, by omega⟩ ?_
   rintro j _ ⟨rfl, hj⟩
   unfold commitment_copied_l1
   dsimp only
   refine T.cond (fun g => ?_) fun g => .ret rfl
   have hj2 : j < L[k].length := by have := of_decide_eq_true g; omega
   have hg := ho.g6 _ (List.getElem_mem hj2)
   have hcl2 : slices_Clone_api_Literal_api_Literal_m L[k][j].Grounds = some L[k][j].Grounds := by
    unfold slices_Clone_api_Literal_api_Literal_m
    rw [appM_eq (by simp; omega)]; rfl
   simp only [hXi, some_bind, idxM_nat hj2, hcl2]
   rw [iaddS (by omega)]
   refine .ret ⟨hj2, ?_, hj2⟩
   show (((j + 1 : Nat) : Int), X.set k (L[k].set j L[k][j])) = _
   rw [set_self hj2, ← hXk, set_self hXl]
  ·subst hq
   rw [iaddS (by omega)]
   exact .ret ⟨hk2, rfl, hk2⟩
 ·have hk2 : k = L.length := by have := of_decide_eq_false g; omega
  subst hk2
  exact .ret (by simp)

theorem Spl.len (h : Spl l x A B) : l.length = A.length + B.length := by rw [h.eq, List.length_append]
theorem with_eq (hA : Asc l) (hl : l.length ≤ 100000) (c : Cm) : ref26_with_m l c = some (putC l c) := by
 obtain ⟨A, B, hs⟩ := spl c.Claim hA
 have hlen := hs.len
 refine T.eq ?_
 unfold ref26_with_m
 refine T.bind (P := fun q => q = ((A.length : Int), A)) ?_ fun q hq => ?_
 ·refine T.loopK A.length (fun k s => s = ((k : Int), A.take k) ∧ k ≤ A.length) ⟨by simp, by omega⟩ ?_
  rintro k _ ⟨rfl, hk⟩
  unfold ref26_with_l1
  dsimp only
  refine T.cond (fun g => ?_) fun g => ?_
  ·have hk2 : k < l.length := by have := of_decide_eq_true g; omega
   rw [idxM_nat hk2, some_bind, rcmp_eq, some_bind]
   refine T.cond (fun g2 => ?_) fun g2 => ?_
   ·have hlt := cmpR_lt.1 (of_decide_eq_true g2)
    have hkA : k < A.length := by
     refine Classical.byContradiction fun q => ?_
     have hk3 : k = A.length := by omega
     subst hk3
     have : l[A.length] = B[0]'(by omega) := by simp only [hs.eq]; rw [List.getElem_append_right (Nat.le_refl _)]; simp
     rw [this] at hlt
     rcases hs.rest with ⟨_, hh⟩ | ⟨_, d, B', rfl, e, _⟩
     ·exact ltL_irr _ (ltL_trans hlt (hh _ (List.getElem_mem _)))
     ·simp only [List.getElem_cons_zero] at hlt; rw [e] at hlt; exact ltL_irr _ hlt
    have : l[k] = A[k] := by simp only [hs.eq, List.getElem_append_left hkA]
    rw [some_bind, appM_eq (by simp; omega), some_bind, iaddS (by omega), this]
    exact .ret ⟨hkA, by rw [take_succ' hkA], hkA⟩
   ·have hn : ¬ LtL l[k].Claim c.Claim := fun q => of_decide_eq_false g2 (cmpR_lt.2 q)
    have hkA : k = A.length := by
     refine Classical.byContradiction fun q => ?_
     have hkA : k < A.length := by omega
     have : l[k] = A[k] := by simp only [hs.eq, List.getElem_append_left hkA]
     rw [this] at hn
     exact hn (hs.lt _ (List.getElem_mem hkA))
    subst hkA
    exact .ret (by rw [List.take_length])
  ·have hkA : k = A.length := by have := of_decide_eq_false g; omega
   subst hkA
   exact .ret (by rw [List.take_length])
 ·subst hq
  dsimp only
  rw [appM_eq (by simp; omega), some_bind]
  have hdrop : l.drop A.length = B := by rw [hs.eq, List.drop_left]
  rcases hs.rest with ⟨hx, hh⟩ | ⟨hx, d, B', rfl, e, _⟩
  ·rw [hs.put_no hx rfl]
   have fin : T (Option.bind (slM l (A.length : Int) (l.length : Int)) fun t57 => Option.bind (appM 56 (A ++ [c]) t57) fun t58 => some t58) (· = A ++ c :: B) := by
    rw [slM_eq (by omega) (by omega) (by omega), some_bind]
    have : (l.take (Int.toNat (l.length : Int))).drop (Int.toNat (A.length : Int)) = B := by
     rw [show Int.toNat (l.length : Int) = l.length from rfl, List.take_length]; exact hdrop
    rw [this, appM_eq (by simp; omega), some_bind]
    exact .ret (by simp)
   refine T.cond (fun g => ?_) fun g => fin
   have hk2 : A.length < l.length := by have := of_decide_eq_true g; omega
   rw [idxM_nat hk2, some_bind]
   have : l[A.length] = B[0]'(by omega) := by simp only [hs.eq]; rw [List.getElem_append_right (Nat.le_refl _)]; simp
   rw [decide_eq_false (fun q => by rw [this] at q; have := hh _ (List.getElem_mem (by omega : 0 < B.length)); rw [q] at this; exact ltL_irr _ this)]
   exact fin
  ·rw [hs.put_yes hx rfl]
   have hk2 : A.length < l.length := by rw [hlen]; simp
   have : l[A.length] = d := by simp only [hs.eq]; rw [List.getElem_append_right (Nat.le_refl _)]; simp
   rw [decide_eq_true (by omega), cond_true, idxM_nat hk2, some_bind, this, decide_eq_true e, cond_true, iaddS (by omega), slM_eq (by omega) (by omega) (by omega), some_bind]
   have : (l.take (Int.toNat (l.length : Int))).drop (Int.toNat ((A.length + 1 : Nat) : Int)) = B' := by
    rw [show Int.toNat (l.length : Int) = l.length from rfl, show Int.toNat ((A.length + 1 : Nat) : Int) = A.length + 1 from rfl, List.take_length, ← List.drop_drop, hdrop]; rfl
   simp only [List.length_cons] at hlen
   rw [this, appM_eq (by simp; omega), some_bind]
   exact .ret (by simp)
theorem ins_eq (hA : Asc l) (hl : l.length ≤ 100000) {c : Cm} (hx : hasC l c.Claim = false) : slices_Insert_api_Commitment_api_Commitment_q_m l (posC l c.Claim : Int) [c] = some (putC l c) := by
 obtain ⟨A, B, hs⟩ := spl c.Claim hA
 have hlen := hs.len
 unfold slices_Insert_api_Commitment_api_Commitment_q_m insM
 rw [hs.pos, if_pos ⟨by omega, by omega, rfl, by omega⟩, hs.put_no hx rfl, show Int.toNat (A.length : Int) = A.length from rfl, hs.eq, List.take_left, List.drop_left]; simp
theorem setC_eq (hA : Asc l) {c : Cm} (hx : hasC l c.Claim = true) : l.set (posC l c.Claim) c = putC l c := by
 obtain ⟨A, B, hs⟩ := spl c.Claim hA
 rcases hs.rest with ⟨hx2, _⟩ | ⟨_, d, B', rfl, e2, _⟩
 ·rw [hx] at hx2; cases hx2
 ·rw [hs.pos, hs.put_yes hx rfl, hs.eq, List.set_append_right _ _ (Nat.le_refl _)]; simp
def outC (l : Sl) (x : Li) : Sl := l.filter fun c => !decide (c.Claim = x)
theorem filter_all {α : Type} {l : List α} {p : α → Bool} (h : ∀ a ∈ l, p a = true) : l.filter p = l := List.filter_eq_self.2 h
theorem del_eq (hA : Asc l) (hl : l.length ≤ 100000) (hx : hasC l x = true) : slices_Delete_api_Commitment_api_Commitment_q_m l (posC l x : Int) ((posC l x + 1 : Nat) : Int) = some (outC l x) := by
 obtain ⟨A, B, hs⟩ := spl x hA
 have hlen := hs.len
 rcases hs.rest with ⟨hx2, _⟩ | ⟨_, d, B', rfl, e2, h3⟩
 ·rw [hx] at hx2; cases hx2
 ·unfold slices_Delete_api_Commitment_api_Commitment_q_m delM outC
  simp only [List.length_cons] at hlen
  rw [hs.pos, if_pos ⟨by omega, by omega, by omega⟩, show Int.toNat (A.length : Int) = A.length from rfl, show Int.toNat ((A.length + 1 : Nat) : Int) = A.length + 1 from rfl, hs.eq, List.take_left, ← List.drop_drop, List.drop_left, List.filter_append, List.filter_cons, decide_eq_true e2]
  rw [filter_all fun a ha => ?_, filter_all fun a ha => ?_]
  ·rfl
  ·rw [decide_eq_false fun q => ?_]; rfl
   have := h3 a ha; rw [q] at this; exact ltL_irr _ this
  ·rw [decide_eq_false fun q => ?_]; rfl
   have := hs.lt a ha; rw [q] at this; exact ltL_irr _ this
theorem put_mem (hA : Asc l) {c d : Cm} : d ∈ putC l c ↔ d = c ∨ (d ∈ l ∧ d.Claim ≠ c.Claim) := by
 obtain ⟨A, B, hs⟩ := spl c.Claim hA
 have hAn : ∀ a ∈ A, a.Claim ≠ c.Claim := fun a ha q => by have := hs.lt a ha; rw [q] at this; exact ltL_irr _ this
 rcases hs.rest with ⟨hx, hh⟩ | ⟨hx, b, B', rfl, e2, h3⟩
 ·have hBn : ∀ a ∈ B, a.Claim ≠ c.Claim := fun a ha q => by have := hh a ha; rw [q] at this; exact ltL_irr _ this
  rw [hs.put_no hx rfl, hs.eq, List.mem_append, List.mem_append, List.mem_cons]
  constructor
  ·rintro (q | q | q)
   ·exact .inr ⟨.inl q, hAn d q⟩
   ·exact .inl q
   ·exact .inr ⟨.inr q, hBn d q⟩
  ·rintro (q | ⟨q | q, _⟩)
   ·exact .inr (.inl q)
   ·exact .inl q
   ·exact .inr (.inr q)
 ·have hBn : ∀ a ∈ B', a.Claim ≠ c.Claim := fun a ha q => by have := h3 a ha; rw [q] at this; exact ltL_irr _ this
  rw [hs.put_yes hx rfl, hs.eq, List.mem_append, List.mem_append, List.mem_cons, List.mem_cons]
  constructor
  ·rintro (q | q | q)
   ·exact .inr ⟨.inl q, hAn d q⟩
   ·exact .inl q
   ·exact .inr ⟨.inr (.inr q), hBn d q⟩
  ·rintro (q | ⟨q | q | q, hn⟩)
   ·exact .inr (.inl q)
   ·exact .inl q
   ·rw [q] at hn; exact absurd e2 hn
   ·exact .inr (.inr q)
theorem put_asc (hA : Asc l) (c : Cm) : Asc (putC l c) := by
 obtain ⟨A, B, hs⟩ := spl c.Claim hA
 have hA2 := hA
 unfold Asc at hA2 ⊢
 rw [hs.eq, List.map_append, AscL, List.pairwise_append] at hA2
 obtain ⟨p1, p2, p3⟩ := hA2
 have key : ∀ B2 : Sl, AscL (B2.map (·.Claim)) → (∀ b ∈ B2, LtL c.Claim b.Claim) → AscL ((A ++ c :: B2).map (·.Claim)) := fun B2 q1 q2 => by
  rw [List.map_append, List.map_cons, AscL, List.pairwise_append, List.pairwise_cons]
  refine ⟨p1, ⟨fun y hy => ?_, q1⟩, fun a ha b hb => ?_⟩
  ·obtain ⟨b, hb, rfl⟩ := List.mem_map.1 hy; exact q2 b hb
  ·obtain ⟨a', ha', rfl⟩ := List.mem_map.1 ha
   rcases List.mem_cons.1 hb with e | e
   ·rw [e]; exact hs.lt a' ha'
   ·obtain ⟨b', hb', rfl⟩ := List.mem_map.1 e
    exact ltL_trans (hs.lt a' ha') (q2 b' hb')
 rcases hs.rest with ⟨hx, hh⟩ | ⟨hx, b, B', rfl, e2, h3⟩
 ·rw [hs.put_no hx rfl]; exact key B p2 hh
 ·rw [hs.put_yes hx rfl]
  rw [List.map_cons, List.pairwise_cons] at p2
  exact key B' p2.2 h3
theorem put_len (hA : Asc l) (c : Cm) : (putC l c).length = l.length + if hasC l c.Claim then 0 else 1 := by
 obtain ⟨A, B, hs⟩ := spl c.Claim hA
 rcases hs.rest with ⟨hx, hh⟩ | ⟨hx, b, B', rfl, e2, h3⟩
 ·rw [hs.put_no hx rfl, hx, hs.eq]; simp; omega
 ·rw [hs.put_yes hx rfl, hx, hs.eq]; simp
theorem put_has (hA : Asc l) (c : Cm) (y : Li) : hasC (putC l c) y = (decide (c.Claim = y) || hasC l y) := by
 rw [Bool.eq_iff_iff, Bool.or_eq_true, hasC_iff, hasC_iff, decide_eq_true_iff]
 constructor
 ·rintro ⟨d, hd, e⟩
  rcases (put_mem hA).1 hd with q | q
  ·exact .inl (q ▸ e)
  ·exact .inr ⟨d, q.1, e⟩
 ·rintro (e | ⟨d, hd, e⟩)
  ·exact ⟨c, (put_mem hA).2 (.inl rfl), e⟩
  ·by_cases q : d.Claim = c.Claim
   ·exact ⟨c, (put_mem hA).2 (.inl rfl), by rw [← q, e]⟩
   ·exact ⟨d, (put_mem hA).2 (.inr ⟨hd, q⟩), e⟩
theorem Ok.put (h : Ok l) {c : Cm} (h0 : c0 c = true) (h1 : Go.Dc.c1 c = true) (h2 : Go.Dc.c2 c = true) (h3 : Go.Dc.c3 c = true) (h4 : hasC l (cmpl c.Claim) = false) (hn : hasC l c.Claim = true ∨ l.length < 40) : Ok (putC l c) := by
 have hA := h.asc
 have all : ∀ p : Cm → Bool, p c = true → l.all p = true → (putC l c).all p = true := fun p hc hl => by
  rw [List.all_eq_true]
  intro d hd
  rcases (put_mem hA).1 hd with q | q
  ·rw [q]; exact hc
  ·exact List.all_eq_true.1 hl d q.1
 have a0 := h.h0; have a2 := h.h2
 unfold r0 at a0; unfold r2 at a2
 rw [Bool.and_eq_true] at a0 a2
 refine ⟨?_, all _ h1 h.h1, ?_, all _ h3 h.h3, ?_⟩
 ·unfold r0
  rw [Bool.and_eq_true]
  refine ⟨decide_eq_true ?_, all _ h0 a0.2⟩
  rw [put_len hA]
  rcases hn with e | e
  ·rw [e]; have := h.len; simpa using this
  ·split <;> omega
 ·unfold r2
  rw [Bool.and_eq_true]
  exact ⟨ascB_iff.2 (put_asc hA c), all _ h2 a2.2⟩
 ·unfold r4
  rw [List.all_eq_true]
  intro d hd
  rw [put_has hA, Bool.not_or, Bool.and_eq_true]
  rcases (put_mem hA).1 hd with q | q
  ·rw [q, h4]; exact ⟨by rw [decide_eq_false fun e => cmpl_ne _ e.symm]; rfl, rfl⟩
  ·refine ⟨?_, by rw [h.c4 d q.1]; rfl⟩
   rw [decide_eq_false fun e => ?_]; rfl
   have : hasC l (cmpl c.Claim) = true := hasC_iff.2 ⟨d, q.1, by rw [e, cmpl_cmpl]⟩
   rw [h4] at this; cases this
end Go.Dc

namespace Go.Dc

variable {l : Sl} {x : Li} {L : List Sl} {k w t : Nat} {kd to : Int} {g : List Li}
noncomputable def assertP (l : Sl) (x : Li) : Int × Sl :=
 if hasC l x && !(atC l x).Conceded then (5, []) else if hasC l (cmpl x) then (10, []) else if !hasC l x && decide (40 ≤ l.length) then (2, []) else (0, putC l ⟨x, false, false, []⟩)
noncomputable def challengeP (lt lb : Sl) (same : Bool) (x : Li) : Int × Sl :=
 if same then (7, []) else if !hasC lt x || (atC lt x).Conceded then (6, []) else if (atC lt x).Burden then (5, []) else if hasC lb x then (7, []) else (0, putC lt ⟨x, false, true, []⟩)
noncomputable def putN (l : Sl) (y : Li) : Sl := if hasC l y then l else putC l ⟨y, false, false, []⟩
noncomputable def groundsP (l : Sl) (x : Li) (gs : List Li) : Int :=
 if decide (gs.length = 0) then 1 else if decide (6 < gs.length) then 2 else if !gs.all okL then 3 else if !ascB gs then 8 else if inB gs x then 7 else if (gs.any fun y => hasC l (cmpl y)) || !conB gs then 10 else if decide (40 < l.length + gs.countP fun y => !hasC l y) then 2 else 0
noncomputable def argueP (l : Sl) (x : Li) (gs : List Li) : Int × Sl :=
 if !hasC l x || !(atC l x).Burden then (6, []) else if groundsP l x gs ≠ 0 then (groundsP l x gs, []) else (0, gs.foldl putN (putC l ⟨x, false, false, gs⟩))
noncomputable def concedeP (l : Sl) (any : Bool) (x : Li) : Int × Sl :=
 if hasC l x then (5, []) else if !any then (6, []) else if hasC l (cmpl x) then (10, []) else if decide (40 ≤ l.length) then (2, []) else (0, putC l ⟨x, true, false, []⟩)
def retP (l : Sl) (x : Li) : Sl := (outC l x).map fun c => if inB c.Grounds x then ⟨c.Claim, false, true, []⟩ else c
def retractP (l : Sl) (x : Li) : Int × Sl := if !hasC l x then (6, []) else (0, retP l x)

theorem lit_eta (x : Li) : T_api_Literal.mk x.Neg x.Name = x := rfl
theorem idxSet {α : Type} {L : List α} {w : Nat} (h : w < L.length) (P : α) : idxM (L.set w P) (w : Int) = some P := by
 rw [idxM_nat (by simpa using h)]; simp
theorem toNat_n (n : Nat) : Int.toNat (n : Int) = n := rfl
theorem put_get (hA : Asc l) (c : Cm) : idxM (putC l c) (posC l c.Claim : Int) = some c ∧ (putC l c).set (posC l c.Claim) c = putC l c := by
 obtain ⟨A, B, hs⟩ := spl c.Claim hA
 have key : ∀ B2 : Sl, idxM (A ++ c :: B2) (A.length : Int) = some c ∧ (A ++ c :: B2).set A.length c = A ++ c :: B2 := fun B2 => by
  refine ⟨?_, ?_⟩
  ·rw [idxM_nat (by simp), List.getElem_append_right (Nat.le_refl _)]; simp
  ·rw [List.set_append_right _ _ (Nat.le_refl _), Nat.sub_self, List.set_cons_zero]
 rcases hs.rest with ⟨hx, hh⟩ | ⟨hx, b, B', rfl, e2, h3⟩
 ·rw [hs.put_no hx rfl, hs.pos]; exact key B
 ·rw [hs.put_yes hx rfl, hs.pos]; exact key B'
theorem asc_at (h : OkA L) (hw : w < L.length) : Asc L[w] := (h.ok _ (List.getElem_mem hw)).asc
theorem len_at (h : OkA L) (hw : w < L.length) : L[w].length ≤ 100000 := by have := (h.ok _ (List.getElem_mem hw)).len; omega
theorem has_eq (h : OkA L) (hw : w < L.length) {b : Int} (y : Li) : commitment_speaker_has_m L kd b to x.Neg x.Name g (w : Int) y = some ((posC L[w] y : Int), hasC L[w] y) := by
 unfold commitment_speaker_has_m
 rw [idxM_nat hw, some_bind, find_eq (asc_at h hw) (len_at h hw), some_bind]
theorem opp_eq (h : OkA L) (hw : w < L.length) (y : Li) : commitment_speaker_opposed_m L kd (w : Int) to x.Neg x.Name g y = some (hasC L[w] (cmpl y)) := by
 unfold commitment_speaker_opposed_m
 have : literal_Complement_m y = some (cmpl y) := rfl
 rw [this, some_bind, has_eq h hw, some_bind]
theorem room_eq (h : OkA L) (hw : w < L.length) {n : Nat} (hn : n ≤ 1000) : commitment_speaker_room_m L kd (w : Int) to x.Neg x.Name g (n : Int) = some (!decide (40 < L[w].length + n)) := by
 unfold commitment_speaker_room_m
 have := (h.ok _ (List.getElem_mem hw)).len
 rw [idxM_nat hw, some_bind, iadd64 (by omega) (by omega)]
 congr 1
 rw [Bool.eq_iff_iff, decide_eq_true_iff, Bool.not_eq_true', decide_eq_false_iff_not]; omega
theorem put_eq (hw : w < L.length) (hA : Asc L[w]) (hl : L[w].length ≤ 100000) (y : Li) (cd : Bool) : commitment_speaker_put_m L kd (w : Int) to x.Neg x.Name g y cd = some (kd, (w : Int), to, x.Neg, x.Name, g, if hasC L[w] y then L else L.set w (putC L[w] ⟨y, cd, false, []⟩)) := by
 unfold commitment_speaker_put_m
 rw [idxM_nat hw, some_bind, find_eq hA hl, some_bind]
 dsimp only
 cases hx : hasC L[w] y
 ·rw [Bool.not_false, cond_true, ins_eq (c := ⟨y, cd, false, []⟩) hA hl hx, some_bind, some_bind]; rfl
 ·rfl
theorem at_ok (h : OkA L) (hw : w < L.length) (hx : hasC L[w] x = true) : idxM L[w] (posC L[w] x : Int) = some (atC L[w] x) ∧ (atC L[w] x).Claim = x ∧ c3 (atC L[w] x) = true ∧ posC L[w] x < L[w].length := by
 obtain ⟨h1, h2, h3, h4⟩ := at_idx (asc_at h hw) hx
 exact ⟨h1, h2, (h.ok _ (List.getElem_mem hw)).c3 _ h4, h3⟩

theorem assert_p (h : OkA L) (hw : w < L.length) : T (commitment_speaker_assert_m L kd (w : Int) to x.Neg x.Name g) fun r => r.1 = (assertP L[w] x).1 ∧ ((assertP L[w] x).1 = 0 → r.2.2.2.2.2.2.2 = L.set w (assertP L[w] x).2) := by
 unfold commitment_speaker_assert_m assertP
 simp only [lit_eta, joinM_eq]
 rw [has_eq h hw, some_bind]
 dsimp only
 cases hx : hasC L[w] x
 ·rw [cond_false, Bool.false_and, if_neg (by decide), cond_false, opp_eq h hw, some_bind]
  cases ho : hasC L[w] (cmpl x)
  ·rw [cond_false, if_neg (by decide), Bool.not_false, cond_true, show (1 : Int) = ((1 : Nat) : Int) from rfl, room_eq h hw (by omega), some_bind, Bool.not_not, Bool.true_and]
   have : decide (40 < L[w].length + 1) = decide (40 ≤ L[w].length) := by rw [Bool.eq_iff_iff, decide_eq_true_iff, decide_eq_true_iff]; omega
   rw [this]
   cases hr : decide (40 ≤ L[w].length)
   ·rw [cond_false, if_neg (by decide), put_eq hw (asc_at h hw) (len_at h hw), some_bind]
    simp only [hx, Bool.false_eq_true, if_false]
    rw [idxSet hw, some_bind]
    obtain ⟨e1, e2⟩ := put_get (asc_at h hw) ⟨x, false, false, []⟩
    dsimp only at e1 e2
    rw [e1, some_bind]
    refine .ret ⟨rfl, fun _ => ?_⟩
    show (L.set w _).set w ((putC L[w] ⟨x, false, false, []⟩).set (posC L[w] x) ⟨x, false, false, []⟩) = _
    rw [e2, List.set_set]
   ·rw [cond_true, if_pos rfl]
    exact .ret ⟨rfl, fun e => by cases e⟩
  ·rw [cond_true, if_pos rfl]
   exact .ret ⟨rfl, fun e => by cases e⟩
 ·obtain ⟨e1, e2, e3, e4⟩ := at_ok h hw hx
  rw [cond_true, Bool.true_and, idxM_nat hw, some_bind, e1, some_bind]
  cases hc : (atC L[w] x).Conceded
  ·rw [Bool.not_false, cond_true, if_pos rfl]
   exact .ret ⟨rfl, fun e => by cases e⟩
  ·rw [Bool.not_true, cond_false, if_neg (by decide), opp_eq h hw, some_bind]
   cases ho : hasC L[w] (cmpl x)
   ·rw [cond_false, if_neg (by decide), cond_false, Bool.false_and, if_neg (by decide), put_eq hw (asc_at h hw) (len_at h hw), some_bind]
    simp only [hx, if_true]
    rw [idxM_nat hw, some_bind, e1, some_bind]
    refine .ret ⟨rfl, fun _ => ?_⟩
    obtain ⟨q1, q2⟩ := c3_conc e3 hc
    show L.set w (L[w].set (posC L[w] x) ⟨(atC L[w] x).Claim, false, (atC L[w] x).Burden, (atC L[w] x).Grounds⟩) = _
    rw [e2, q1, q2, setC_eq (c := ⟨x, false, false, []⟩) (asc_at h hw) hx]
   ·rw [cond_true, if_pos rfl]
    exact .ret ⟨rfl, fun e => by cases e⟩
def ansR (L : List Sl) (w : Nat) (R : Int × Sl) : T_api_Stores × Int := if R.1 = 0 then (⟨L.set w R.2⟩, 0) else (⟨[]⟩, R.1)
theorem set_eq (h : L.length ≤ 1000) (hw : w < L.length) (r : Sl) : ref26_set_s1_m ⟨L⟩ (w : Int) r = some ⟨L.set w r⟩ := by
 unfold ref26_set_s1_m
 dsimp only
 rw [appM_eq (by simp; omega), some_bind, List.nil_append, idxM_nat hw, some_bind]; rfl
theorem not_eq (y : Li) : ref26_not_m y = some (cmpl y) := rfl
theorem assert_r (h : OkA L) (hw : w < L.length) : ref26_assert_m ⟨L⟩ ⟨kd, (w : Int), to, x, g⟩ = some (ansR L w (assertP L[w] x)) := by
 have hn := h.n
 unfold ref26_assert_m assertP ansR
 simp only [joinM_eq]
 rw [idxM_nat hw, some_bind, refFind_eq (asc_at h hw) (len_at h hw), some_bind, find_ge, not_eq, some_bind, refFind_eq (asc_at h hw) (len_at h hw), some_bind, find_ge, find_lt, with_eq (asc_at h hw) (len_at h hw), some_bind, set_eq (by omega) hw, some_bind]
 have e40 : decide ((L[w].length : Int) ≥ 40) = decide (40 ≤ L[w].length) := by rw [Bool.eq_iff_iff, decide_eq_true_iff, decide_eq_true_iff]; omega
 rw [e40]
 cases hx : hasC L[w] x
 ·simp only [cond_false, Bool.false_and, Bool.not_false, cond_true, Bool.true_and]
  cases hasC L[w] (cmpl x) <;> cases decide (40 ≤ L[w].length) <;> rfl
 ·obtain ⟨e1, e2, e3, e4⟩ := at_ok h hw hx
  rw [if_pos rfl, cond_true, e1, some_bind]
  cases (atC L[w] x).Conceded <;> cases hasC L[w] (cmpl x) <;> rfl

theorem challenge_p (h : OkA L) (hw : w < L.length) (ht : t < L.length) : T (commitment_speaker_challenge_m L kd (w : Int) (t : Int) x.Neg x.Name g) fun r => r.1 = (challengeP L[t] L[w] (decide (w = t)) x).1 ∧ ((challengeP L[t] L[w] (decide (w = t)) x).1 = 0 → r.2 = L.set t (challengeP L[t] L[w] (decide (w = t)) x).2) := by
 unfold commitment_speaker_challenge_m challengeP
 simp only [lit_eta, joinM_eq]
 have ed : ((w : Int) == (t : Int)) = decide (w = t) := by rw [Bool.eq_iff_iff, beq_iff_eq, decide_eq_true_iff]; omega
 rw [ed, idxM_nat ht, has_eq h ht, has_eq h hw]
 simp only [some_bind]
 cases decide (w = t)
 ·rw [cond_false, if_neg (by decide)]
  cases hx : hasC L[t] x
  ·exact .ret ⟨rfl, fun e => by cases e⟩
  ·obtain ⟨e1, e2, e3, e4⟩ := at_ok h ht hx
   rw [Bool.not_true, cond_false, Bool.false_or, e1]
   simp only [some_bind]
   cases hc : (atC L[t] x).Conceded
   ·rw [cond_false, if_neg (by decide)]
    cases hb : (atC L[t] x).Burden
    ·rw [cond_false, if_neg (by decide)]
     cases hy : hasC L[w] x
     ·rw [cond_false, if_neg (by decide), toNat_n, toNat_n, idxSet ht]
      simp only [some_bind]
      rw [idxSet e4]
      simp only [some_bind]
      refine .ret ⟨rfl, fun _ => ?_⟩
      rw [List.set_set, List.set_set, e2, setC_eq (c := ⟨x, false, true, []⟩) (asc_at h ht) hx]
     ·exact .ret ⟨rfl, fun e => by cases e⟩
    ·exact .ret ⟨rfl, fun e => by cases e⟩
   ·exact .ret ⟨rfl, fun e => by cases e⟩
 ·exact .ret ⟨rfl, fun e => by cases e⟩
theorem challenge_r (h : OkA L) (hw : w < L.length) (ht : t < L.length) : ref26_challenge_m ⟨L⟩ ⟨kd, (w : Int), (t : Int), x, g⟩ = some (ansR L t (challengeP L[t] L[w] (decide (w = t)) x)) := by
 have hn := h.n
 unfold ref26_challenge_m challengeP ansR
 simp only [joinM_eq]
 have ed : ((w : Int) == (t : Int)) = decide (w = t) := by rw [Bool.eq_iff_iff, beq_iff_eq, decide_eq_true_iff]; omega
 rw [ed, idxM_nat ht, some_bind, refFind_eq (asc_at h ht) (len_at h ht), some_bind, find_lt, idxM_nat hw, some_bind, refFind_eq (asc_at h hw) (len_at h hw), some_bind, find_ge, with_eq (asc_at h ht) (len_at h ht), some_bind, set_eq (by omega) ht, some_bind]
 cases decide (w = t)
 ·cases hx : hasC L[t] x
  ·rfl
  ·obtain ⟨e1, e2, e3, e4⟩ := at_ok h ht hx
   rw [if_pos rfl, e1]
   simp only [some_bind]
   cases (atC L[t] x).Conceded <;> cases (atC L[t] x).Burden <;> cases hasC L[w] x <;> rfl
 ·rfl

theorem concede_p (h : OkA L) (hw : w < L.length) : T (commitment_speaker_concede_m L kd (w : Int) to x.Neg x.Name g) fun r => r.1 = (concedeP L[w] (L.any (hasC · x)) x).1 ∧ ((concedeP L[w] (L.any (hasC · x)) x).1 = 0 → r.2.2.2.2.2.2.2 = L.set w (concedeP L[w] (L.any (hasC · x)) x).2) := by
 have hn := h.n
 unfold commitment_speaker_concede_m concedeP
 simp only [lit_eta, joinM_eq]
 have hc : sCFC_s7_m L kd (w : Int) to x.Neg x.Name g = some (L.any (hasC · x)) :=
  con_eq (s := L) (g := fun l => Option.bind (commitment_find_m l (T_api_Literal.mk x.Neg x.Name)) fun t1 => some t1.2) _ (by omega) fun l hl => by
   rw [lit_eta, find_eq (h.ok l hl).asc (by have := (h.ok l hl).len; omega), some_bind]
 rw [has_eq h hw, some_bind, hc, opp_eq h hw, show (1 : Int) = ((1 : Nat) : Int) from rfl, room_eq h hw (by omega), put_eq hw (asc_at h hw) (len_at h hw)]
 simp only [some_bind, Bool.not_not]
 have : decide (40 < L[w].length + 1) = decide (40 ≤ L[w].length) := by rw [Bool.eq_iff_iff, decide_eq_true_iff, decide_eq_true_iff]; omega
 rw [this]
 cases hx : hasC L[w] x
 ·cases L.any (hasC · x)
  ·exact .ret ⟨rfl, fun e => by cases e⟩
  ·cases hasC L[w] (cmpl x)
   ·cases decide (40 ≤ L[w].length)
    ·exact .ret ⟨rfl, fun _ => rfl⟩
    ·exact .ret ⟨rfl, fun e => by cases e⟩
   ·exact .ret ⟨rfl, fun e => by cases e⟩
 ·exact .ret ⟨rfl, fun e => by cases e⟩
theorem concede_l (h : OkA L) : T (loopC (ref26_concede_l1 ⟨L⟩ ⟨kd, (w : Int), to, x, g⟩) (false, 0)) fun r => r = true ↔ ∃ i, ∃ hi : i < L.length, i ≠ w ∧ hasC L[i] x = true := by
 have hn := h.n
 refine T.loopK L.length (fun k s => s.2 = (k : Int) ∧ (s.1 = true ↔ ∃ i, ∃ hi : i < L.length, i < k ∧ i ≠ w ∧ hasC L[i] x = true)) ⟨rfl, by simp⟩ ?_
 rintro k ⟨b, _⟩ ⟨rfl, hb⟩
 unfold ref26_concede_l1
 dsimp only at hb ⊢
 refine T.cond (fun g => ?_) fun g => .ret ?_
 ·have hk : k < L.length := by have := of_decide_eq_true g; omega
  rw [iaddS (by omega)]
  refine T.cond (fun e => .ret ⟨hk, rfl, fun _ => ?_, fun _ => rfl⟩) fun e => ?_
  ·obtain ⟨i, hi, h1, h2⟩ := hb.1 e
   exact ⟨i, hi, by omega, h2⟩
  ·have hno : ¬ ∃ i, ∃ hi : i < L.length, i < k ∧ i ≠ w ∧ hasC L[i] x = true := fun q => by rw [hb.2 q] at e; cases e
   refine T.cond (fun e2 => ?_) fun e2 => .ret ⟨hk, rfl, fun q => (by cases q), fun ⟨i, hi, h1, h2, h3⟩ => ?_⟩
   ·rw [idxM_nat hk, some_bind, refFind_eq (asc_at h hk) (len_at h hk), some_bind, find_ge]
    refine .ret ⟨hk, rfl, fun q => ⟨k, hk, by omega, ?_, q⟩, fun ⟨i, hi, h1, h2, h3⟩ => ?_⟩
    ·have : (k : Int) ≠ (w : Int) := by simpa using e2
     omega
    ·rcases Nat.lt_or_ge i k with q | q
     ·exact absurd ⟨i, hi, q, h2, h3⟩ hno
     ·have : i = k := by omega
      subst this; exact h3
   ·have e3 : k = w := by
     have : (k : Int) = (w : Int) := by simpa using e2
     omega
    exact absurd ⟨i, hi, by omega, h2, h3⟩ hno
 ·have hk : L.length ≤ k := by have := of_decide_eq_false g; omega
  show b = true ↔ _
  rw [hb]
  exact ⟨fun ⟨i, hi, _, h2⟩ => ⟨i, hi, h2⟩, fun ⟨i, hi, h2⟩ => ⟨i, hi, by omega, h2⟩⟩
theorem concede_r (h : OkA L) (hw : w < L.length) : ref26_concede_m ⟨L⟩ ⟨kd, (w : Int), to, x, g⟩ = some (ansR L w (concedeP L[w] (L.any (hasC · x)) x)) := by
 have hn := h.n
 refine T.eq ?_
 unfold ref26_concede_m concedeP ansR
 dsimp only
 rw [idxM_nat hw, some_bind]
 refine T.bind (concede_l h) fun q hq => ?_
 rw [refFind_eq (asc_at h hw) (len_at h hw), some_bind, find_ge, not_eq, some_bind, refFind_eq (asc_at h hw) (len_at h hw), some_bind, find_ge, with_eq (asc_at h hw) (len_at h hw), some_bind, set_eq (by omega) hw, some_bind]
 have e40 : decide ((L[w].length : Int) ≥ 40) = decide (40 ≤ L[w].length) := by rw [Bool.eq_iff_iff, decide_eq_true_iff, decide_eq_true_iff]; omega
 rw [e40]
 cases hx : hasC L[w] x
 ·have hq2 : q = L.any (hasC · x) := by
   rw [Bool.eq_iff_iff, hq, List.any_eq_true]
   constructor
   ·rintro ⟨i, hi, _, h2⟩; exact ⟨_, List.getElem_mem hi, h2⟩
   ·rintro ⟨l, hl, h2⟩
    obtain ⟨i, hi, rfl⟩ := List.getElem_of_mem hl
    exact ⟨i, hi, (fun e => by subst e; rw [hx] at h2; cases h2), h2⟩
  rw [hq2]
  cases L.any (hasC · x) <;> cases hasC L[w] (cmpl x) <;> cases decide (40 ≤ L[w].length) <;> exact .ret rfl
 ·exact .ret rfl

theorem retract_p (h : OkA L) (hw : w < L.length) : T (commitment_speaker_retract_m L kd (w : Int) to x.Neg x.Name g) fun r => r.1 = (retractP L[w] x).1 ∧ ((retractP L[w] x).1 = 0 → r.2.2.2.2.2.2.2 = L.set w (retractP L[w] x).2) := by
 have ho := h.ok _ (List.getElem_mem hw)
 have hlen := ho.len
 unfold commitment_speaker_retract_m retractP
 simp only [lit_eta]
 rw [has_eq h hw, some_bind]
 dsimp only
 cases hx : hasC L[w] x
 ·exact .ret ⟨rfl, fun e => by cases e⟩
 ·obtain ⟨e1, e2, e3, e4⟩ := at_ok h hw hx
  rw [Bool.not_true, cond_false, if_neg (by decide), idxM_nat hw, some_bind, iaddS (by omega), del_eq (asc_at h hw) (len_at h hw) hx, some_bind]
  have hsub : ∀ c ∈ outC L[w] x, c ∈ L[w] := fun c hc => (List.mem_filter.1 hc).1
  have hol : (outC L[w] x).length ≤ 40 := Nat.le_trans (List.length_filter_le _ _) hlen
  refine T.bind (P := fun q => q = retP L[w] x) ?_ fun q hq => ?_
  ·refine T.loopK (outC L[w] x).length (fun k s => s = ((k : Int), ((outC L[w] x).take k).map (fun c => if inB c.Grounds x then ⟨c.Claim, false, true, []⟩ else c) ++ (outC L[w] x).drop k) ∧ k ≤ (outC L[w] x).length) ⟨rfl, by omega⟩ ?_
   rintro k _ ⟨rfl, hk⟩
   unfold commitment_speaker_retract_l1
   simp only [lit_eta]
   refine T.cond (fun gd => ?_) fun gd => ?_
   ·have hk2 : k < (outC L[w] x).length := by have := of_decide_eq_true gd; omega
    have hmem := hsub _ (List.getElem_mem hk2)
    have hg6 := ho.g6 _ hmem
    have hc3 := ho.c3 _ hmem
    have hms := map_set (f := fun c : Cm => if inB c.Grounds x then (⟨c.Claim, false, true, []⟩ : Cm) else c) hk2
    revert hms
    generalize hX : ((outC L[w] x).take k).map (fun c : Cm => if inB c.Grounds x then (⟨c.Claim, false, true, []⟩ : Cm) else c) ++ (outC L[w] x).drop k = X
    intro hms
    have hXl : k < X.length := by rw [← hX]; simp; omega
    have hXk : X[k] = (outC L[w] x)[k] := by
     simp only [← hX]
     rw [List.getElem_append_right (by simp; omega)]; simp; congr 1; omega
    rw [idxM_nat hXl, hXk, some_bind, contains_eq (by omega), some_bind, iaddS (by omega)]
    refine T.cond (fun ei => ?_) fun ei => ?_
    ·rw [some_bind, toNat_n, idxSet hXl, some_bind]
     refine .ret ⟨hk2, ?_, hk2⟩
     rw [← hms, List.set_set, if_pos ei]
     have : (outC L[w] x)[k].Conceded = false := by
      cases hcd : (outC L[w] x)[k].Conceded
      ·rfl
      ·have := (c3_conc hc3 hcd).2
       rw [this] at ei; cases ei
     dsimp only
     rw [this]
    ·refine .ret ⟨hk2, ?_, hk2⟩
     rw [← hms, if_neg (by rw [ei]; decide), ← hXk, set_self hXl]
   ·have hk2 : k = (outC L[w] x).length := by have := of_decide_eq_false gd; omega
    subst hk2
    exact .ret (by simp [retP])
  ·subst hq
   rw [some_bind]
   exact .ret ⟨rfl, fun _ => rfl⟩
theorem retract_r (hn : L.length ≤ 6) (hw : w < L.length) (ho : Ok L[w]) : ref26_retract_m ⟨L⟩ ⟨kd, (w : Int), to, x, g⟩ = some (ansR L w (retractP L[w] x)) := by
 have hlen := ho.len
 refine T.eq ?_
 unfold ref26_retract_m retractP ansR
 dsimp only
 rw [idxM_nat hw, some_bind, refFind_eq ho.asc (by omega), some_bind, find_lt]
 cases hx : hasC L[w] x
 ·exact .ret rfl
 ·rw [Bool.not_true, cond_false]
  show T _ (fun r => r = ((T_api_Stores.mk (L.set w (retP L[w] x))), (0 : Int)))
  refine T.bind (P := fun q => q = retP L[w] x) ?_ fun q hq => ?_
  ·refine T.loopK L[w].length (fun k s => s = ((k : Int), (((L[w].take k).filter fun c => !decide (c.Claim = x)).map (fun c => if inB c.Grounds x then ⟨c.Claim, false, true, []⟩ else c))) ∧ k ≤ L[w].length) ⟨rfl, by omega⟩ ?_
   rintro k _ ⟨rfl, hk⟩
   unfold ref26_retract_l1
   dsimp only
   refine T.cond (fun gd => ?_) fun gd => ?_
   ·have hk2 : k < L[w].length := by have := of_decide_eq_true gd; omega
    have hg6 := ho.g6 _ (List.getElem_mem hk2)
    have hlf : ((((L[w].take k).filter fun c => !decide (c.Claim = x)).map (fun c : Cm => if inB c.Grounds x then (⟨c.Claim, false, true, []⟩ : Cm) else c))).length ≤ k := by
     rw [List.length_map]; exact Nat.le_trans (List.length_filter_le _ _) (by simp; omega)
    rw [idxM_nat hk2, some_bind, refIn_eq (by omega), iaddS (by omega), take_succ' hk2, List.filter_append, List.map_append]
    refine T.cond (fun ei => .ret ⟨hk2, ?_, hk2⟩) fun ei => ?_
    ·rw [List.filter_cons, ei]; simp
    ·rw [some_bind]
     refine T.cond (fun e5 => ?_) fun e5 => ?_
     ·rw [appM_eq (by simp at hlf ⊢; omega), some_bind]
      refine .ret ⟨hk2, ?_, hk2⟩
      rw [List.filter_cons, ei, Bool.not_false, if_pos rfl, List.filter_nil, List.map_cons, if_pos e5]; rfl
     ·rw [appM_eq (by simp at hlf ⊢; omega), some_bind]
      refine .ret ⟨hk2, ?_, hk2⟩
      rw [List.filter_cons, ei, Bool.not_false, if_pos rfl, List.filter_nil, List.map_cons, if_neg (by rw [e5]; decide)]; rfl
   ·have hk2 : k = L[w].length := by have := of_decide_eq_false gd; omega
    subst hk2
    exact .ret (by rw [List.take_length]; rfl)
  ·subst hq
   rw [set_eq (by omega) hw, some_bind]
   exact .ret rfl
end Go.Dc

namespace Go.Dc

variable {l : Sl} {x : Li} {L : List Sl} {k w t : Nat} {kd to : Int} {g : List Li}
theorem putN_asc (hA : Asc l) (y : Li) : Asc (putN l y) := by
 unfold putN; split
 ·exact hA
 ·exact put_asc hA _
theorem putN_len (hA : Asc l) (y : Li) : (putN l y).length ≤ l.length + 1 := by
 unfold putN; split
 ·omega
 ·rw [put_len hA]; split <;> omega
theorem putN_fold (gs : List Li) : ∀ {l : Sl}, Asc l → Asc (gs.foldl putN l) ∧ (gs.foldl putN l).length ≤ l.length + gs.length := by
 induction gs with
 | nil => intro l h; exact ⟨h, by simp⟩
 | cons y gs ih =>
  intro l h
  obtain ⟨h1, h2⟩ := ih (putN_asc h y)
  have := putN_len h y
  exact ⟨h1, by simp only [List.foldl_cons, List.length_cons]; omega⟩
theorem foldl_succ {gs : List Li} {k : Nat} (hk : k < gs.length) (l : Sl) : (gs.take (k + 1)).foldl putN l = putN ((gs.take k).foldl putN l) gs[k] := by
 rw [take_succ' hk, List.foldl_append]; rfl
theorem count_succ {gs : List Li} {k : Nat} (hk : k < gs.length) (p : Li → Bool) : (gs.take (k + 1)).countP p = (gs.take k).countP p + if p gs[k] then 1 else 0 := by
 rw [take_succ' hk, List.countP_append, List.countP_singleton]
theorem count_loop (h : OkA L) (hw : w < L.length) (hg : g.length ≤ 6) : loopC (commitment_speaker_argue_l1 L kd (w : Int) to x.Neg x.Name g) (0, 0) = some (((g.countP fun y => !hasC L[w] y) : Nat) : Int) := by
 refine T.eq ?_
 refine T.loopK g.length (fun k s => s = ((((g.take k).countP fun y => !hasC L[w] y : Nat) : Int), (k : Int)) ∧ k ≤ g.length) ⟨rfl, by omega⟩ ?_
 rintro k _ ⟨rfl, hk⟩
 unfold commitment_speaker_argue_l1
 dsimp only
 refine T.cond (fun gd => ?_) fun gd => ?_
 ·have hk2 : k < g.length := by have := of_decide_eq_true gd; omega
  have hc : (g.take k).countP (fun y => !hasC L[w] y) ≤ 6 := Nat.le_trans List.countP_le_length (by simp; omega)
  rw [idxM_nat hk2, some_bind, has_eq h hw, some_bind, iaddS (by omega), iaddS (by omega)]
  refine T.cond (fun e => .ret ⟨hk2, ?_, hk2⟩) fun e => .ret ⟨hk2, ?_, hk2⟩
  ·dsimp only at e; rw [count_succ hk2, e]; rfl
  ·dsimp only at e; rw [count_succ hk2, e]; rfl
 ·have hk2 : k = g.length := by have := of_decide_eq_false gd; omega
  subst hk2
  exact .ret (by rw [List.take_length])
theorem arg_l2 {P : Sl} (hw : w < L.length) (hA : Asc P) (hP : P.length ≤ 1000) (hg : g.length ≤ 6) : loopC (commitment_speaker_argue_l2 g) (0, kd, (w : Int), to, x.Neg, x.Name, g, L.set w P) = some (kd, (w : Int), to, x.Neg, x.Name, g, L.set w (g.foldl putN P)) := by
 refine T.eq ?_
 refine T.loopK g.length (fun k s => s = ((k : Int), kd, (w : Int), to, x.Neg, x.Name, g, L.set w ((g.take k).foldl putN P)) ∧ k ≤ g.length) ⟨rfl, by omega⟩ ?_
 rintro k _ ⟨rfl, hk⟩
 unfold commitment_speaker_argue_l2
 dsimp only
 refine T.cond (fun gd => ?_) fun gd => ?_
 ·have hk2 : k < g.length := by have := of_decide_eq_true gd; omega
  obtain ⟨h1, h2⟩ := putN_fold (g.take k) hA
  have hl : ((g.take k).foldl putN P).length ≤ 100000 := by rw [List.length_take] at h2; omega
  have hw2 : w < (L.set w ((g.take k).foldl putN P)).length := by simpa using hw
  have hat : (L.set w ((g.take k).foldl putN P))[w] = (g.take k).foldl putN P := by simp
  rw [idxM_nat hk2, some_bind, put_eq hw2 (by rw [hat]; exact h1) (by rw [hat]; exact hl), some_bind, iaddS (by omega)]
  refine .ret ⟨hk2, ?_, hk2⟩
  dsimp only
  rw [hat, foldl_succ hk2]
  unfold putN
  split
  ·rename_i e; simp only [e, if_true]
  ·rename_i e; simp only [e, if_false, List.set_set]
 ·have hk2 : k = g.length := by have := of_decide_eq_false gd; omega
  subst hk2
  exact .ret (by rw [List.take_length])
theorem d0 : (((g.length : Nat) : Int) == 0) = decide (g.length = 0) := by rw [Bool.eq_iff_iff, beq_iff_eq, decide_eq_true_iff]; omega
theorem d6 : decide (((g.length : Nat) : Int) > 6) = decide (6 < g.length) := by rw [Bool.eq_iff_iff, decide_eq_true_iff, decide_eq_true_iff]; omega
theorem argue_p (h : OkA L) (hw : w < L.length) (hg : g.length ≤ 9223372036854775807) : T (commitment_speaker_argue_m L kd (w : Int) to x.Neg x.Name g) fun r => r.1 = (argueP L[w] x g).1 ∧ ((argueP L[w] x g).1 = 0 → r.2.2.2.2.2.2.2 = L.set w (argueP L[w] x g).2) := by
 have ho := h.ok _ (List.getElem_mem hw)
 have hlen := ho.len
 unfold commitment_speaker_argue_m argueP
 simp only [lit_eta, joinM_eq]
 rw [idxM_nat hw, some_bind, has_eq h hw, some_bind]
 dsimp only
 cases hx : hasC L[w] x
 ·exact .ret ⟨rfl, fun e => by cases e⟩
 ·obtain ⟨e1, e2, e3, e4⟩ := at_ok h hw hx
  rw [Bool.not_true, cond_false, Bool.false_or, e1, some_bind]
  cases hb : (atC L[w] x).Burden
  ·exact .ret ⟨rfl, fun e => by cases e⟩
  ·rw [Bool.not_true, cond_false, if_neg (by decide), d0, d6]
   have fails : ∀ (c : Int) {r : Int × Int × Int × Int × Bool × ByteArray × List Li × List Sl}, groundsP L[w] x g = c → c ≠ 0 → r.1 = c → T (some r) fun r => r.1 = (if groundsP L[w] x g ≠ 0 then (groundsP L[w] x g, ([] : Sl)) else (0, g.foldl putN (putC L[w] ⟨x, false, false, g⟩))).1 ∧ ((if groundsP L[w] x g ≠ 0 then (groundsP L[w] x g, ([] : Sl)) else (0, g.foldl putN (putC L[w] ⟨x, false, false, g⟩))).1 = 0 → r.2.2.2.2.2.2.2 = L.set w (if groundsP L[w] x g ≠ 0 then (groundsP L[w] x g, ([] : Sl)) else (0, g.foldl putN (putC L[w] ⟨x, false, false, g⟩))).2) := fun c {r} q1 q2 q3 => by
    rw [q1, if_pos q2]
    exact .ret ⟨q3, fun q => absurd q q2⟩
   cases q0 : decide (g.length = 0)
   ·cases q6 : decide (6 < g.length)
    ·have hg6 : g.length ≤ 6 := by have := of_decide_eq_false q6; omega
     have hopp : sCFL_s1_m g L kd (w : Int) to x.Neg x.Name g = some (g.any fun y => hasC L[w] (cmpl y)) :=
      con_eq (s := g) (g := fun y => commitment_speaker_opposed_m L kd (w : Int) to x.Neg x.Name g y) _ (by omega) fun y _ => opp_eq h hw y
     have hcn : (g.countP fun y => !hasC L[w] y) ≤ 6 := Nat.le_trans List.countP_le_length hg6
     rw [sound_eq (by omega), some_bind, rising_s1, rising_eq (by omega), some_bind, contains_eq (by omega), some_bind, hopp, some_bind, consis_eq (by omega), some_bind, count_loop h hw hg6, some_bind, room_eq h hw (by omega), some_bind, Bool.not_not]
     simp only [cond_false]
     have hgr : groundsP L[w] x g = if !g.all okL then 3 else if !ascB g then 8 else if inB g x then 7 else if (g.any fun y => hasC L[w] (cmpl y)) || !conB g then 10 else if decide (40 < L[w].length + g.countP fun y => !hasC L[w] y) then 2 else 0 := by
      unfold groundsP; rw [q0, q6]; rfl
     cases a1 : g.all okL
     ·exact fails 3 (by rw [hgr, a1]; rfl) (by decide) rfl
     cases a2 : ascB g
     ·exact fails 8 (by rw [hgr, a1, a2]; rfl) (by decide) rfl
     cases a3 : inB g x
     ·cases a4 : g.any fun y => hasC L[w] (cmpl y)
      ·cases a5 : conB g
       ·exact fails 10 (by rw [hgr, a1, a2, a3, a4, a5]; rfl) (by decide) rfl
       ·cases a6 : decide (40 < L[w].length + g.countP fun y => !hasC L[w] y)
        ·have hz : groundsP L[w] x g = 0 := by rw [hgr, a1, a2, a3, a4, a5, a6]; rfl
         simp only [Bool.not_true, cond_false]
         rw [hz, if_neg (by simp)]
         have hcl : slices_Clone_api_Literal_api_Literal_m g = some g := by
          unfold slices_Clone_api_Literal_api_Literal_m
          rw [appM_eq (by simp; omega)]; rfl
         rw [hcl, some_bind, some_bind, toNat_n, toNat_n, idxSet hw]
         simp only [some_bind]
         rw [idxSet e4]
         simp only [some_bind]
         rw [List.set_set, List.set_set, e2, (c3_burd e3 hb).1, setC_eq (c := ⟨x, false, false, g⟩) (asc_at h hw) hx, arg_l2 hw (put_asc (asc_at h hw) _) (by rw [put_len (asc_at h hw)]; split <;> omega) hg6, some_bind]
         exact .ret ⟨rfl, fun _ => rfl⟩
        ·exact fails 2 (by rw [hgr, a1, a2, a3, a4, a5, a6]; rfl) (by decide) rfl
      ·exact fails 10 (by rw [hgr, a1, a2, a3, a4]; rfl) (by decide) rfl
     ·exact fails 7 (by rw [hgr, a1, a2, a3]; rfl) (by decide) rfl
    ·exact fails 2 (by unfold groundsP; rw [q0, q6]; rfl) (by decide) rfl
   ·exact fails 1 (by unfold groundsP; rw [q0]; rfl) (by decide) rfl

theorem grounds_l1 (hg : g.length ≤ 9223372036854775807) : loopC (ref26_grounds_l1 ⟨kd, (w : Int), to, x, g⟩) 0 = some (bif g.any fun y => !okL y then .inl 3 else .inr ()) := by
 refine any_loop _ _ (fun i hi => ?_) ?_
 ·unfold ref26_grounds_l1
  dsimp only
  rw [decide_eq_true (by omega), cond_true, idxM_nat hi, some_bind, refV, some_bind, iaddS (by omega)]
  cases okL g[i] <;> rfl
 ·unfold ref26_grounds_l1
  rw [decide_eq_false (by dsimp only; omega), cond_false]
theorem grounds_l2 (hA : Asc l) (hl : l.length ≤ 100000) (hg : g.length ≤ 6) : T (loopC (ref26_grounds_l2 l ⟨kd, (w : Int), to, x, g⟩) (0, 0)) fun o => o = (if (g.any fun y => hasC l (cmpl y)) || !conB g then .inl 10 else .inr (((g.countP fun y => !hasC l y) : Nat) : Int)) := by
 refine T.loopK g.length (fun k s => s = ((((g.take k).countP fun y => !hasC l y : Nat) : Int), (k : Int)) ∧ k ≤ g.length ∧ ∀ i, i < k → (hi : i < g.length) → hasC l (cmpl g[i]) = false ∧ inB g (cmpl g[i]) = false) ⟨rfl, by omega, by omega⟩ ?_
 rintro k _ ⟨rfl, hk, hn⟩
 unfold ref26_grounds_l2
 dsimp only
 refine T.cond (fun gd => ?_) fun gd => ?_
 ·have hk2 : k < g.length := by have := of_decide_eq_true gd; omega
  have hc : (g.take k).countP (fun y => !hasC l y) ≤ 6 := Nat.le_trans List.countP_le_length (by simp; omega)
  rw [idxM_nat hk2, some_bind, not_eq, some_bind, refFind_eq hA hl, some_bind, find_ge]
  cases h1 : hasC l (cmpl g[k])
  ·rw [cond_false, some_bind, not_eq, some_bind, refIn_eq (by omega), some_bind]
   cases h2 : inB g (cmpl g[k])
   ·rw [cond_false, some_bind, refFind_eq hA hl, some_bind, find_lt, iaddS (by omega), iaddS (by omega)]
    have hn2 : ∀ i, i < k + 1 → (hi : i < g.length) → hasC l (cmpl g[i]) = false ∧ inB g (cmpl g[i]) = false := fun i hi h => by
     rcases Nat.lt_or_ge i k with q | q
     ·exact hn i q h
     ·have : i = k := by omega
      subst this; exact ⟨h1, h2⟩
    refine T.cond (fun e => .ret ⟨hk2, ?_, hk2, hn2⟩) fun e => .ret ⟨hk2, ?_, hk2, hn2⟩
    ·rw [count_succ hk2, e]; rfl
    ·rw [count_succ hk2, e]; rfl
   ·refine .ret ?_
    show Sum.inl 10 = _
    rw [if_pos]
    rw [Bool.or_eq_true]
    refine .inr ?_
    unfold conB
    rw [Bool.not_not]
    exact List.any_eq_true.2 ⟨_, List.getElem_mem hk2, h2⟩
  ·refine .ret ?_
   show Sum.inl 10 = _
   rw [if_pos]
   rw [Bool.or_eq_true]
   exact .inl (List.any_eq_true.2 ⟨_, List.getElem_mem hk2, h1⟩)
 ·have hk2 : k = g.length := by have := of_decide_eq_false gd; omega
  subst hk2
  refine .ret ?_
  show Sum.inr _ = _
  rw [if_neg, List.take_length]
  rw [Bool.not_eq_true, Bool.or_eq_false_iff]
  unfold conB
  rw [Bool.not_not]
  refine ⟨List.any_eq_false.2 fun y hy => ?_, List.any_eq_false.2 fun y hy => ?_⟩
  ·obtain ⟨i, hi, rfl⟩ := List.getElem_of_mem hy
   rw [(hn i hi hi).1]; decide
  ·obtain ⟨i, hi, rfl⟩ := List.getElem_of_mem hy
   rw [(hn i hi hi).2]; decide
theorem grounds_r (hA : Asc l) (hl : l.length ≤ 100000) (hg : g.length ≤ 9223372036854775807) : T (ref26_grounds_m l ⟨kd, (w : Int), to, x, g⟩) (· = groundsP l x g) := by
 unfold ref26_grounds_m groundsP
 dsimp only
 rw [d0, d6]
 cases q0 : decide (g.length = 0)
 ·cases q6 : decide (6 < g.length)
  ·have hg6 : g.length ≤ 6 := by have := of_decide_eq_false q6; omega
   simp only [cond_false]
   rw [grounds_l1 hg, some_bind, ← not_all]
   cases a1 : g.all okL
   ·exact .ret rfl
   ·simp only [Bool.not_true, cond_false, sumK_inr]
    rw [refAsc_eq hg, some_bind, refIn_eq hg, some_bind]
    cases a2 : ascB g
    ·exact .ret rfl
    ·cases a3 : inB g x
     ·simp only [Bool.not_true, cond_false]
      refine T.bind (grounds_l2 hA hl hg6) fun o ho => ?_
      have hcn : (g.countP fun y => !hasC l y) ≤ 6 := Nat.le_trans List.countP_le_length hg6
      subst ho
      cases a4 : (g.any fun y => hasC l (cmpl y)) || !conB g
      ·rw [if_neg (by decide), sumK_inr, iadd64 (by omega) (by omega)]
       have : decide ((l.length : Int) + ((g.countP fun y => !hasC l y : Nat) : Int) > 40) = decide (40 < l.length + g.countP fun y => !hasC l y) := by rw [Bool.eq_iff_iff, decide_eq_true_iff, decide_eq_true_iff]; omega
       rw [this]
       cases decide (40 < l.length + g.countP fun y => !hasC l y) <;> exact .ret rfl
      ·exact .ret rfl
     ·exact .ret rfl
  ·exact .ret rfl
 ·exact .ret rfl
theorem find_s1r : ref26_find_s1_m = ref26_find_m := rfl
theorem argue_r (h : OkA L) (hw : w < L.length) (hg : g.length ≤ 9223372036854775807) : ref26_argue_m ⟨L⟩ ⟨kd, (w : Int), to, x, g⟩ = some (ansR L w (argueP L[w] x g)) := by
 have hn := h.n
 have ho := h.ok _ (List.getElem_mem hw)
 have hlen := ho.len
 refine T.eq ?_
 unfold ref26_argue_m argueP
 dsimp only
 rw [idxM_nat hw, some_bind, refFind_eq (asc_at h hw) (len_at h hw), some_bind, find_lt]
 cases hx : hasC L[w] x
 ·exact .ret rfl
 ·obtain ⟨e1, e2, e3, e4⟩ := at_ok h hw hx
  rw [Bool.not_true, cond_false, Bool.false_or, if_pos rfl, e1, some_bind]
  cases hb : (atC L[w] x).Burden
  ·exact .ret rfl
  ·rw [Bool.not_true, cond_false, if_neg (by decide)]
   refine T.bind (grounds_r (asc_at h hw) (len_at h hw) hg) fun e he => ?_
   subst he
   by_cases hz : groundsP L[w] x g = 0
   ·rw [hz]
    have hg6 : g.length ≤ 6 := by
     refine Classical.byContradiction fun q => ?_
     unfold groundsP at hz
     rw [decide_eq_false (by omega), decide_eq_true (by omega)] at hz
     cases hz
    rw [show ((0 : Int) != 0) = false from rfl, cond_false, appM_eq (by simp; omega), some_bind, List.nil_append, with_eq (asc_at h hw) (len_at h hw), some_bind, if_neg (by simp)]
    refine T.bind (P := fun q => q = g.foldl putN (putC L[w] ⟨x, false, false, g⟩)) ?_ fun q hq => ?_
    ·refine T.loopK g.length (fun k s => s = ((k : Int), (g.take k).foldl putN (putC L[w] ⟨x, false, false, g⟩)) ∧ k ≤ g.length) ⟨rfl, by omega⟩ ?_
     rintro k _ ⟨rfl, hk⟩
     unfold ref26_argue_l1
     dsimp only
     refine T.cond (fun gd => ?_) fun gd => ?_
     ·have hk2 : k < g.length := by have := of_decide_eq_true gd; omega
      obtain ⟨h1, h2⟩ := putN_fold (g.take k) (put_asc (asc_at h hw) ⟨x, false, false, g⟩)
      have hpl := put_len (asc_at h hw) ⟨x, false, false, g⟩
      have hl : ((g.take k).foldl putN (putC L[w] ⟨x, false, false, g⟩)).length ≤ 100000 := by
       rw [List.length_take] at h2
       split at hpl <;> omega
      rw [idxM_nat hk2, some_bind, find_s1r, refFind_eq h1 hl, some_bind, find_lt, some_bind, with_eq h1 hl, some_bind, iaddS (by omega), foldl_succ hk2]
      unfold putN
      refine T.cond (fun e => .ret ⟨hk2, ?_, hk2⟩) fun e => .ret ⟨hk2, ?_, hk2⟩
      ·rw [if_neg (by simpa using e)]
      ·rw [if_pos (by simpa using e)]
     ·have hk2 : k = g.length := by have := of_decide_eq_false gd; omega
      subst hk2
      exact .ret (by rw [List.take_length])
    ·subst hq
     rw [set_eq (by omega) hw, some_bind]
     exact .ret rfl
   ·rw [bne_iff_ne.2 hz, cond_true, if_pos hz]
    refine .ret ?_
    unfold ansR
    rw [if_neg hz]
end Go.Dc

namespace Go.Dc

variable {L : List Sl}
def memB (n : Int) (L : List Sl) : Bool := decide (0 ≤ n) && decide (n < (L.length : Int))
noncomputable def actP (L : List Sl) (sp : T_api_Speech) : Nat × (Int × Sl) :=
 if sp.Kind = 1 then (sp.By.toNat, assertP (L.getD sp.By.toNat []) sp.Claim)
 else if sp.Kind = 2 then (sp.To.toNat, challengeP (L.getD sp.To.toNat []) (L.getD sp.By.toNat []) (decide (sp.By.toNat = sp.To.toNat)) sp.Claim)
 else if sp.Kind = 3 then (sp.By.toNat, argueP (L.getD sp.By.toNat []) sp.Claim sp.Grounds)
 else if sp.Kind = 4 then (sp.By.toNat, concedeP (L.getD sp.By.toNat []) (L.any (hasC · sp.Claim)) sp.Claim)
 else (sp.By.toNat, retractP (L.getD sp.By.toNat []) sp.Claim)
def doneP (L : List Sl) (a : Nat × (Int × Sl)) : Int × List Sl := if a.2.1 = 0 then (0, L.set a.1 a.2.2) else (a.2.1, [])
noncomputable def sayP (L : List Sl) (sp : T_api_Speech) : Int × List Sl :=
 if vcode L ≠ 0 then (vcode L, [])
 else if decide (sp.Kind < 1) || decide (5 < sp.Kind) then (4, [])
 else if !memB sp.By L || (decide (sp.Kind = 2) && !memB sp.To L) then (1, [])
 else if !okL sp.Claim then (3, [])
 else doneP L (actP L sp)

theorem mem_eq (n : Int) : commitment_Say_1_m n L = some (memB n L) := by
 unfold commitment_Say_1_m memB
 have : decide (n ≥ 0) = decide (0 ≤ n) := rfl
 rw [this]
 cases decide (0 ≤ n) <;> rfl
theorem mem_r (n : Int) : ref26_member_m ⟨L⟩ n = some (memB n L) := by
 unfold ref26_member_m memB
 have : decide (n ≥ 0) = decide (0 ≤ n) := rfl
 rw [this]
 cases decide (0 ≤ n) <;> rfl
theorem mem_nat {n : Int} (h : memB n L = true) : ∃ w : Nat, n = (w : Int) ∧ w < L.length := by
 unfold memB at h
 rw [Bool.and_eq_true, decide_eq_true_iff, decide_eq_true_iff] at h
 exact ⟨n.toNat, by omega, by omega⟩
theorem getD_at {w : Nat} (h : w < L.length) : L.getD w [] = L[w] := by simp [List.getD, h]
theorem tail_p {α : Type} {m : Option (Int × α)} {f : Int × α → List Sl} {w : Nat} {R : Int × Sl} (h : T m fun r => r.1 = R.1 ∧ (R.1 = 0 → f r = L.set w R.2)) :
  T (Option.bind m fun e => bif e.1 != 0 then some (T_api_Stores.mk [], e.1) else some (T_api_Stores.mk (f e), 0)) (· = (T_api_Stores.mk (doneP L (w, R)).2, (doneP L (w, R)).1)) := by
 refine T.bind h fun r hr => ?_
 unfold doneP
 dsimp only
 by_cases q : R.1 = 0
 ·rw [hr.1, q, if_pos rfl, hr.2 q]; exact .ret rfl
 ·rw [hr.1, bne_iff_ne.2 q, cond_true, if_neg q]; exact .ret rfl
theorem tail_r {R : Int × Sl} {w : Nat} : ansR L w R = (T_api_Stores.mk (doneP L (w, R)).2, (doneP L (w, R)).1) := by
 unfold ansR doneP
 dsimp only
 split <;> rfl

theorem say_p (hB : Bd L) {sp : T_api_Speech} (hg : sp.Grounds.length ≤ 9223372036854775807) : commitment_Say_m ⟨L⟩ sp = some (⟨(sayP L sp).2⟩, (sayP L sp).1) := by
 obtain ⟨kd, by', to, x, g⟩ := sp
 refine T.eq ?_
 unfold commitment_Say_m
 dsimp only at hg ⊢
 rw [progVal hB, some_bind]
 by_cases hv : vcode L = 0
 ·have hO := vcode_zero.1 hv
  have hs : sayP L ⟨kd, by', to, x, g⟩ = if decide (kd < 1) || decide (5 < kd) then (4, []) else if !memB by' L || (decide (kd = 2) && !memB to L) then (1, []) else if !okL x then (3, []) else doneP L (actP L ⟨kd, by', to, x, g⟩) := by
   unfold sayP; rw [if_neg (by simp [hv])]
  rw [hv, bne_self_eq_false, cond_false, copied_eq hO, some_bind, hs]
  simp only [joinM_eq, mem_eq, litV, some_bind, Bool.not_true, Bool.not_false, cond_false, cond_true]
  clear hs
  by_cases k1 : kd = 1
  ·subst k1
   simp only [show ((1 : Int) == 1) = true from rfl, show ((1 : Int) == 2) = false from rfl, cond_true, cond_false, show (decide ((1 : Int) < 1) || decide (5 < (1 : Int))) = false from rfl, show decide ((1 : Int) = 2) = false from rfl, Bool.false_and, Bool.or_false]
   rw [if_neg (by decide)]
   cases hm : memB by' L
   ·exact .ret rfl
   ·obtain ⟨w, rfl, hw⟩ := mem_nat hm
    cases okL x
    ·exact .ret rfl
    ·have := tail_p (assert_p (x := x) (kd := 1) (to := to) (g := g) hO hw)
     rw [← getD_at hw] at this
     exact this
  by_cases k2 : kd = 2
  ·subst k2
   simp only [show ((2 : Int) == 1) = false from rfl, show ((2 : Int) == 2) = true from rfl, cond_true, cond_false, show (decide ((2 : Int) < 1) || decide (5 < (2 : Int))) = false from rfl, show decide ((2 : Int) = 2) = true from rfl, Bool.true_and]
   rw [if_neg (by decide)]
   cases hm : memB by' L
   ·exact .ret rfl
   ·obtain ⟨w, rfl, hw⟩ := mem_nat hm
    cases hm2 : memB to L
    ·exact .ret rfl
    ·obtain ⟨t, rfl, ht⟩ := mem_nat hm2
     cases okL x
     ·exact .ret rfl
     ·have := tail_p (challenge_p (x := x) (kd := 2) (g := g) hO hw ht)
      rw [← getD_at hw, ← getD_at ht] at this
      exact this
  by_cases k3 : kd = 3
  ·subst k3
   simp only [show ((3 : Int) == 1) = false from rfl, show ((3 : Int) == 2) = false from rfl, show ((3 : Int) == 3) = true from rfl, cond_true, cond_false, show (decide ((3 : Int) < 1) || decide (5 < (3 : Int))) = false from rfl, show decide ((3 : Int) = 2) = false from rfl, Bool.false_and, Bool.or_false]
   rw [if_neg (by decide)]
   cases hm : memB by' L
   ·exact .ret rfl
   ·obtain ⟨w, rfl, hw⟩ := mem_nat hm
    cases okL x
    ·exact .ret rfl
    ·have := tail_p (argue_p (x := x) (kd := 3) (to := to) (g := g) hO hw hg)
     rw [← getD_at hw] at this
     exact this
  by_cases k4 : kd = 4
  ·subst k4
   simp only [show ((4 : Int) == 1) = false from rfl, show ((4 : Int) == 2) = false from rfl, show ((4 : Int) == 3) = false from rfl, show ((4 : Int) == 4) = true from rfl, cond_true, cond_false, show (decide ((4 : Int) < 1) || decide (5 < (4 : Int))) = false from rfl, show decide ((4 : Int) = 2) = false from rfl, Bool.false_and, Bool.or_false]
   rw [if_neg (by decide)]
   cases hm : memB by' L
   ·exact .ret rfl
   ·obtain ⟨w, rfl, hw⟩ := mem_nat hm
    cases okL x
    ·exact .ret rfl
    ·have := tail_p (concede_p (x := x) (kd := 4) (to := to) (g := g) hO hw)
     rw [← getD_at hw] at this
     exact this
  by_cases k5 : kd = 5
  ·subst k5
   simp only [show ((5 : Int) == 1) = false from rfl, show ((5 : Int) == 2) = false from rfl, show ((5 : Int) == 3) = false from rfl, show ((5 : Int) == 4) = false from rfl, show ((5 : Int) == 5) = true from rfl, cond_true, cond_false, show (decide ((5 : Int) < 1) || decide (5 < (5 : Int))) = false from rfl, show decide ((5 : Int) = 2) = false from rfl, Bool.false_and, Bool.or_false]
   rw [if_neg (by decide)]
   cases hm : memB by' L
   ·exact .ret rfl
   ·obtain ⟨w, rfl, hw⟩ := mem_nat hm
    cases okL x
    ·exact .ret rfl
    ·have := tail_p (retract_p (x := x) (kd := 5) (to := to) (g := g) hO hw)
     rw [← getD_at hw] at this
     exact this
  rw [beq_eq_false_iff_ne.2 k1, beq_eq_false_iff_ne.2 k2, beq_eq_false_iff_ne.2 k3, beq_eq_false_iff_ne.2 k4, beq_eq_false_iff_ne.2 k5]
  simp only [cond_false]
  have : (decide (kd < 1) || decide (5 < kd)) = true := by
   rw [Bool.or_eq_true, decide_eq_true_iff, decide_eq_true_iff]; omega
  rw [this]
  exact .ret rfl
 ·rw [bne_iff_ne.2 hv, cond_true]
  unfold sayP
  rw [if_pos hv]
  exact .ret rfl
theorem say_r (hB : Bd L) {sp : T_api_Speech} (hg : sp.Grounds.length ≤ 9223372036854775807) : ref26_Say_m ⟨L⟩ sp = some (⟨(sayP L sp).2⟩, (sayP L sp).1) := by
 obtain ⟨kd, by', to, x, g⟩ := sp
 refine T.eq ?_
 unfold ref26_Say_m
 dsimp only at hg ⊢
 rw [refVal hB, some_bind]
 by_cases hv : vcode L = 0
 ·have hO := vcode_zero.1 hv
  have hs : sayP L ⟨kd, by', to, x, g⟩ = if decide (kd < 1) || decide (5 < kd) then (4, []) else if !memB by' L || (decide (kd = 2) && !memB to L) then (1, []) else if !okL x then (3, []) else doneP L (actP L ⟨kd, by', to, x, g⟩) := by
   unfold sayP; rw [if_neg (by simp [hv])]
  rw [hv, bne_self_eq_false, cond_false, hs]
  clear hs
  simp only [joinM_eq, mem_r, refV, some_bind]
  have tr : ∀ {m : Option (T_api_Stores × Int)} {w : Nat} {R : Int × Sl}, m = some (ansR L w R) → T (Option.bind m fun t13 => some (t13.1, t13.2)) (· = (T_api_Stores.mk (doneP L (w, R)).2, (doneP L (w, R)).1)) := fun {m w R} e => by
   rw [e, some_bind, tail_r]; exact .ret rfl
  cases h1 : decide (kd < 1)
  ·have h51 : decide (kd > 5) = decide (5 < kd) := rfl
   rw [cond_false, h51]
   cases h5 : decide (5 < kd)
   ·rw [cond_false, Bool.false_or, if_neg (by decide)]
    have h1 := of_decide_eq_false h1
    have h5 := of_decide_eq_false h5
    cases hm : memB by' L
    ·exact .ret rfl
    ·obtain ⟨w, rfl, hw⟩ := mem_nat hm
     rw [Bool.not_true, cond_false, Bool.false_or]
     have hk : kd = 1 ∨ kd = 2 ∨ kd = 3 ∨ kd = 4 ∨ kd = 5 := by omega
     rcases hk with e | e | e | e | e <;> subst e
     ·cases okL x
      ·exact .ret rfl
      ·have := tr (assert_r (x := x) (kd := 1) (to := to) (g := g) hO hw)
       rw [← getD_at hw] at this
       exact this
     ·cases hm2 : memB to L
      ·exact .ret rfl
      ·obtain ⟨t, rfl, ht⟩ := mem_nat hm2
       cases okL x
       ·exact .ret rfl
       ·have := tr (challenge_r (x := x) (kd := 2) (g := g) hO hw ht)
        rw [← getD_at hw, ← getD_at ht] at this
        exact this
     ·cases okL x
      ·exact .ret rfl
      ·have := tr (argue_r (x := x) (kd := 3) (to := to) (g := g) hO hw hg)
       rw [← getD_at hw] at this
       exact this
     ·cases okL x
      ·exact .ret rfl
      ·have := tr (concede_r (x := x) (kd := 4) (to := to) (g := g) hO hw)
       rw [← getD_at hw] at this
       exact this
     ·cases okL x
      ·exact .ret rfl
      ·have := tr (retract_r (x := x) (kd := 5) (to := to) (g := g) hO.n hw (hO.ok _ (List.getElem_mem hw)))
       rw [← getD_at hw] at this
       exact this
   ·exact .ret rfl
  ·exact .ret rfl
 ·rw [bne_iff_ne.2 hv, cond_true]
  unfold sayP
  rw [if_pos hv]
  exact .ret rfl
end Go.Dc
