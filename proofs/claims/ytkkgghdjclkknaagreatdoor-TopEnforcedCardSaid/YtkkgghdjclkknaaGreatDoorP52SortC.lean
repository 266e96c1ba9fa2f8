/- Part P52.SortC of a proof: lemmas. -/
import Derived.Test.YtkkgghdjclkknaaGreatDoorP52KeyI
import Derived.Test.YtkkgghdjclkknaaGreatDoorDcCpt
set_option linter.unusedVariables false
set_option linter.unusedSimpArgs false
set_option linter.unusedSectionVars false
namespace Go.Dc
structure VV (n : Int) (V : List Int) : Prop where
 len : (V.length : Int) = n
 val : ∀ i, V.getD i 0 = 1 ∨ V.getD i 0 = -1 ∨ V.getD i 0 = 0
def fU (V : List Int) (x : Int) : Int := if 0 < x then V.getD (x.natAbs - 1) 0 else -V.getD (x.natAbs - 1) 0
theorem Rb {V : List Int} {x : Int} (h : x ≠ 0) : fU V (-x) = -fU V x := by
 unfold fU
 rw [Int.natAbs_neg]
 by_cases h1 : 0 < x
 ·rw [if_pos h1, if_neg (by omega)]
 ·rw [if_neg h1, if_pos (by omega)]; omega
theorem VV.fU {n : Int} {V : List Int} (h : VV n V) (x : Int) : fU V x = 1 ∨ fU V x = -1 ∨ fU V x = 0 := by
 unfold Go.Dc.fU
 have := h.val (x.natAbs - 1)
 split <;> omega
section
variable {n : Int} {V : List Int} {C : List (List Int)} {K : List (ByteArray × Int)} {S : List aB} {nd : Int} {st : Bool}
theorem Kv (hV : VV n V) (hn : n ≤ 200) {x : Int} (h0 : x ≠ 0) (h1 : -n ≤ x) (h2 : x ≤ n) : g_ V C K S nd st x = some (fU V x) := by
 have hl := hV.len
 unfold g_ fU
 by_cases hx : 0 < x
 ·rw [if_pos hx, show decide (x > 0) = true by simp [hx], cond_true, Cc (by omega) (by omega), show x - 1 = ((x.natAbs - 1 : Nat) : Int) by omega, xD (z := 0) (by omega), aj]
 ·rw [if_neg hx, show decide (x > 0) = false by simp; omega, cond_false, pY (by omega) (by omega), Cc (by omega) (by omega), show -x - 1 = ((x.natAbs - 1 : Nat) : Int) by omega, xD (z := 0) (by omega), aj]
  have := hV.val (x.natAbs - 1)
  rw [pY (by omega) (by omega)]
def Du (V : List Int) (c : List Int) : Prop := ∀ y ∈ c, fU V y = -1
def SX (V : List Int) (c : List Int) (x : Int) : Prop := x ∈ c ∧ fU V x = 0 ∧ ∀ y ∈ c, y = x ∨ fU V y = -1
def OpnC (V : List Int) (c : List Int) : Prop := ∃ y ∈ c, fU V y = 1 ∨ fU V y = 0
theorem look_l1 (hV : VV n V) (hn : n ≤ 200) {c : List Int} (hc : Ob n c) :
  T (aI (ox V C K S nd st c) (0, 0)) fun r => match r with
   | .inl (.inl _) => False
   | .inl (.inr _) => OpnC V c
   | .inr x => x = 0 ∧ Du V c ∨ x ≠ 0 ∧ SX V c x := by
 have y8 := hc.len
 refine T.cS c.length (fun k s => s.2 = (k : Int) ∧ k ≤ c.length ∧ (s.1 = 0 ∧ Du V (c.take k) ∨ s.1 ≠ 0 ∧ SX V (c.take k) s.1)) ⟨rfl, by omega, .inl ⟨rfl, by simp [Du]⟩⟩ ?_
 rintro k ⟨o, i⟩ ⟨e, hk, hI⟩
 dsimp only at e hI
 subst e
 unfold ox
 dsimp only
 refine T.cond (fun h => ?_) fun h => .ret ?_
 ·have hk2 : k < c.length := by simpa using h
  have hr := hc.NJ _ (List.getElem_mem hk2)
  have hm : c[k] ∈ c := List.getElem_mem hk2
  rw [a_ hk2, aj, Kv hV hn hr.1 hr.2.1 hr.2.2, aj, cN (by omega)]
  have e5 : c.take (k + 1) = c.take k ++ [c[k]] := (List.take_append_getElem hk2).symm
  have hv := hV.fU c[k]
  simp only [qp]
  by_cases g1 : fU V c[k] > 0
  ·rw [decide_eq_true g1, cond_true, cond_true]
   exact .ret ⟨_, hm, .inl (by omega)⟩
  ·rw [decide_eq_false g1, cond_false]
   by_cases g2 : fU V c[k] = 0
   ·rw [g2, show ((0 : Int) == 0) = true from rfl, cond_true]
    rcases hI with ⟨rfl, hF⟩ | ⟨ho, hU⟩
    ·rw [show ((0 : Int) != 0) = false from rfl, cond_false, cond_true]
     refine .ret ⟨hk2, rfl, hk2, .inr ⟨hr.1, by rw [e5]; exact List.mem_append_right _ (List.mem_singleton.2 rfl), g2, fun y hy => ?_⟩⟩
     rw [e5] at hy
     rcases List.mem_append.1 hy with h2 | h2
     ·exact .inr (hF y h2)
     ·exact .inl (List.mem_singleton.1 h2)
    ·rw [show (o != 0) = true by simp [ho], cond_true]
     exact .ret ⟨_, hm, .inr g2⟩
   ·rw [show (fU V c[k] == 0) = false from beq_false_of_ne g2, cond_false, cond_false, cond_false]
    have g3 : fU V c[k] = -1 := by omega
    refine .ret ⟨hk2, rfl, hk2, ?_⟩
    rcases hI with ⟨rfl, hF⟩ | ⟨ho, hU⟩
    ·refine .inl ⟨rfl, fun y hy => ?_⟩
     rw [e5] at hy
     rcases List.mem_append.1 hy with h2 | h2
     ·exact hF y h2
     ·rw [List.mem_singleton.1 h2]; exact g3
    ·refine .inr ⟨ho, by rw [e5]; exact List.mem_append_left _ hU.1, hU.2.1, fun y hy => ?_⟩
     rw [e5] at hy
     rcases List.mem_append.1 hy with h2 | h2
     ·exact hU.2.2 y h2
     ·rw [List.mem_singleton.1 h2]; exact .inr g3
 ·have : k = c.length := by simp at h; omega
  subst this
  rw [List.take_length] at hI
  exact hI
def LookR (V : List Int) (C : List (List Int)) (r : Int × Int) : Prop :=
 r.1 = -1 ∧ r.2 = 0 ∧ (∀ c ∈ C, OpnC V c) ∨ 0 ≤ r.1 ∧ r.1 < C.length ∧ (r.2 = 0 ∧ Du V (C.getD r.1.toNat []) ∨ r.2 ≠ 0 ∧ SX V (C.getD r.1.toNat []) r.2)
theorem T2 (hV : VV n V) (hn : n ≤ 200) (hC : ∀ c ∈ C, Ob n c) (hl : C.length ≤ 100000) : T (lC V C K S nd st) (LookR V C) := by
 unfold lC
 refine T.bind (P := fun r => match r with | .inl r => LookR V C r | .inr r => LookR V C r) ?_ fun r hr => by
  match r, hr with
  | .inl r, hr => exact .ret hr
  | .inr r, hr => exact .ret hr
 refine T.cS C.length (fun k (s : Int × Int × Int) => s.2.2 = (k : Int) ∧ k ≤ C.length ∧ (s.1 = -1 ∧ s.2.1 = 0 ∧ (∀ c ∈ C.take k, OpnC V c) ∨ 0 ≤ s.1 ∧ s.1 < C.length ∧ s.2.1 ≠ 0 ∧ SX V (C.getD s.1.toNat []) s.2.1)) ⟨rfl, by omega, .inl ⟨rfl, rfl, by simp⟩⟩ ?_
 rintro k ⟨u, x, i⟩ ⟨e, hk, hI⟩
 dsimp only at e hI
 subst e
 unfold vw
 dsimp only
 refine T.cond (fun h => ?_) fun h => .ret ?_
 ·have hk2 : k < C.length := by simpa using h
  rw [a_ hk2, aj, cN (by omega)]
  have hg : C.getD k [] = C[k] := by simp [List.getD, hk2]
  refine T.bind (look_l1 hV hn (hC _ (List.getElem_mem hk2))) fun r hr => ?_
  match r, hr with
  | .inl (.inr _), hr =>
   refine .ret ⟨hk2, rfl, hk2, ?_⟩
   rcases hI with ⟨h1, h2, h3⟩ | hI
   ·refine .inl ⟨h1, h2, fun c hc => ?_⟩
    rw [← List.take_append_getElem hk2] at hc
    rcases List.mem_append.1 hc with h4 | h4
    ·exact h3 c h4
    ·rw [List.mem_singleton.1 h4]; exact hr
   ·exact .inr hI
  | .inr y, hr =>
   simp only [LY]
   rcases hr with ⟨rfl, hF⟩ | ⟨hy, hU⟩
   ·refine .ret ?_
    exact .inr ⟨by simp, by simpa using hk2, .inl ⟨rfl, by show Du V (C.getD (Int.toNat (k : Int)) []); rw [Int.toNat_natCast, hg]; exact hF⟩⟩
   ·rw [show (y == 0) = false from beq_false_of_ne hy, cond_false]
    refine T.cond (fun h5 => .ret ⟨hk2, rfl, hk2, .inr ⟨by simp, by simpa using hk2, hy, by show SX V (C.getD (Int.toNat (k : Int)) []) y; rw [Int.toNat_natCast, hg]; exact hU⟩⟩) fun h5 => .ret ⟨hk2, rfl, hk2, ?_⟩
    simp only [decide_eq_false_iff_not] at h5
    rcases hI with ⟨h1, _⟩ | hI
    ·omega
    ·exact .inr hI
 ·have : k = C.length := by simp at h; omega
  subst this
  rcases hI with ⟨h1, h2, h3⟩ | ⟨h1, h2, h3, h4⟩
  ·exact .inl ⟨h1, h2, by simpa using h3⟩
  ·exact .inr ⟨h1, h2, .inr ⟨h3, h4⟩⟩
theorem X2 (hV : VV n V) (hn : n ≤ 200) {c : List Int} (hc : Ob n c) :
  T (aI (mA V C K S nd st c) (0, 0)) fun r => match r with
   | .inl (.inl _) => False
   | .inl (.inr _) => ∃ y ∈ c, fU V y = 1
   | .inr x => x = 0 ∧ Du V c ∨ x ≠ 0 ∧ x ∈ c ∧ fU V x = 0 := by
 have y8 := hc.len
 refine T.cS c.length (fun k s => s.2 = (k : Int) ∧ k ≤ c.length ∧ (s.1 = 0 ∧ Du V (c.take k) ∨ s.1 ≠ 0 ∧ s.1 ∈ c ∧ fU V s.1 = 0)) ⟨rfl, by omega, .inl ⟨rfl, by simp [Du]⟩⟩ ?_
 rintro k ⟨o, i⟩ ⟨e, hk, hI⟩
 dsimp only at e hI
 subst e
 unfold mA
 dsimp only
 refine T.cond (fun h => ?_) fun h => .ret ?_
 ·have hk2 : k < c.length := by simpa using h
  have hr := hc.NJ _ (List.getElem_mem hk2)
  have hm : c[k] ∈ c := List.getElem_mem hk2
  rw [a_ hk2, aj, Kv hV hn hr.1 hr.2.1 hr.2.2, aj, cN (by omega)]
  have e5 : c.take (k + 1) = c.take k ++ [c[k]] := (List.take_append_getElem hk2).symm
  have hv := hV.fU c[k]
  refine T.cond (fun g1 => .ret ⟨_, hm, eq_of_beq g1⟩) fun g1 => ?_
  refine T.cond (fun g2 => ?_) fun g2 => ?_
  ·have g2 := eq_of_beq g2
   refine T.cond (fun g3 => .ret ⟨hk2, rfl, hk2, .inr ⟨hr.1, hm, g2⟩⟩) fun g3 => .ret ⟨hk2, rfl, hk2, ?_⟩
   rcases hI with ⟨rfl, _⟩ | hI
   ·cases g3
   ·exact .inr hI
  ·have g3 : fU V c[k] = -1 := by
    have a1 : fU V c[k] ≠ 1 := fun e => by rw [e] at g1; cases g1
    have a2 : fU V c[k] ≠ 0 := fun e => by rw [e] at g2; cases g2
    omega
   refine .ret ⟨hk2, rfl, hk2, ?_⟩
   rcases hI with ⟨rfl, hF⟩ | hI
   ·refine .inl ⟨rfl, fun y hy => ?_⟩
    rw [e5] at hy
    rcases List.mem_append.1 hy with h2 | h2
    ·exact hF y h2
    ·rw [List.mem_singleton.1 h2]; exact g3
   ·exact .inr hI
 ·have : k = c.length := by simp at h; omega
  subst this
  rw [List.take_length] at hI
  exact hI
theorem QC (hV : VV n V) (hn : n ≤ 200) (hC : ∀ c ∈ C, Ob n c) (hl : C.length ≤ 100000) (ho : ∀ c ∈ C, OpnC V c) :
  T (jT V C K S nd st) fun x => x = 0 ∧ (∀ c ∈ C, ∃ y ∈ c, fU V y = 1) ∨ x ≠ 0 ∧ fU V x = 0 ∧ ∃ c ∈ C, x ∈ c := by
 unfold jT
 refine T.bind (P := fun r => match r with | .inl x => x ≠ 0 ∧ fU V x = 0 ∧ ∃ c ∈ C, x ∈ c | .inr _ => ∀ c ∈ C, ∃ y ∈ c, fU V y = 1) ?_ fun r hr => by
  match r, hr with
  | .inl r, hr => exact .ret (.inr hr)
  | .inr r, hr => exact .ret (.inl ⟨rfl, hr⟩)
 refine T.cS C.length (fun k s => s = (k : Int) ∧ k ≤ C.length ∧ ∀ c ∈ C.take k, ∃ y ∈ c, fU V y = 1) ⟨rfl, by omega, by simp⟩ ?_
 rintro k _ ⟨rfl, hk, hI⟩
 unfold sH
 refine T.cond (fun h => ?_) fun h => .ret ?_
 ·have hk2 : k < C.length := by simpa using h
  rw [a_ hk2, aj, cN (by omega)]
  refine T.bind (X2 hV hn (hC _ (List.getElem_mem hk2))) fun r hr => ?_
  match r, hr with
  | .inl (.inr _), hr =>
   refine .ret ⟨hk2, rfl, hk2, fun c hc => ?_⟩
   rw [← List.take_append_getElem hk2] at hc
   rcases List.mem_append.1 hc with h4 | h4
   ·exact hI c h4
   ·rw [List.mem_singleton.1 h4]; exact hr
  | .inr y, hr =>
   simp only [LY]
   refine .ret ?_
   rcases hr with ⟨rfl, hF⟩ | ⟨hy, hm, hv⟩
   ·obtain ⟨z, hz, h5⟩ := ho _ (List.getElem_mem hk2)
    have := hF z hz
    omega
   ·exact ⟨hy, hv, _, List.getElem_mem hk2, hm⟩
 ·have : k = C.length := by simp at h; omega
  subst this
  simpa using hI
def sC (V : List Int) (x b : Int) : List Int := V.set (x.natAbs - 1) (if x < 0 then -b else b)
theorem Oj (hl : (V.length : Int) = n) (hn : n ≤ 200) {x b : Int} (h0 : x ≠ 0) (h1 : -n ≤ x) (h2 : x ≤ n) (hb : b = 0 ∨ b = 1) : eU V C K S nd st x b = some (sC V x b) := by
 unfold eU sC
 by_cases hx : x < 0
 ·rw [decide_eq_true hx, if_pos hx, cond_true, pY (by omega) (by omega), Cc (by omega) (by omega), show -x - 1 = ((x.natAbs - 1 : Nat) : Int) by omega, a_ (show x.natAbs - 1 < V.length by omega), aj, pY (by omega) (by omega)]
  rfl
 ·rw [decide_eq_false hx, if_neg hx, cond_false, Cc (by omega) (by omega), show x - 1 = ((x.natAbs - 1 : Nat) : Int) by omega, a_ (show x.natAbs - 1 < V.length by omega), aj]
  rfl
theorem Rk {x b : Int} : (sC V x b).length = V.length := by simp [sC]
theorem setP_VV (hV : VV n V) {x b : Int} (hb : b = 0 ∨ b = 1) : VV n (sC V x b) := by
 refine ⟨by rw [Rk]; exact hV.len, fun i => ?_⟩
 unfold sC
 by_cases hi : x.natAbs - 1 < V.length
 ·rw [A5 hi]
  split
  ·split <;> omega
  ·exact hV.val i
 ·rw [List.set_eq_of_length_le (by omega)]; exact hV.val i
theorem Y4 (hl : (V.length : Int) = n) {x y b : Int} (h0 : x ≠ 0) (h1 : -n ≤ x) (h2 : x ≤ n) (hy : y ≠ 0) :
  fU (sC V x b) y = if y = x then b else if y = -x then -b else fU V y := by
 unfold fU sC
 rw [A5 (by omega)]
 by_cases e1 : y = x
 ·subst e1
  rw [if_pos rfl, if_pos rfl]
  split <;> split <;> omega
 ·by_cases e2 : y = -x
  ·subst e2
   rw [if_neg e1, if_pos rfl, Int.natAbs_neg, if_pos rfl]
   split <;> split <;> omega
  ·rw [if_neg e1, if_neg e2, if_neg (show ¬ (x.natAbs - 1 = y.natAbs - 1) by omega)]
theorem WN (hl : (V.length : Int) = n) {x : Int} (h0 : x ≠ 0) (h1 : -n ≤ x) (h2 : x ≤ n) (hv : fU V x = 0) : sC (sC V x 1) x 0 = V := by
 unfold sC
 rw [List.set_set]
 unfold fU at hv
 have : V.getD (x.natAbs - 1) 0 = 0 := by split at hv <;> omega
 have hi : x.natAbs - 1 < V.length := by omega
 have e : (if x < 0 then -(0 : Int) else 0) = V[x.natAbs - 1] := by
  have h3 : V.getD (x.natAbs - 1) 0 = V[x.natAbs - 1] := by simp [List.getD, hi]
  rw [← h3, this]; split <;> rfl
 rw [e]; exact List.set_getElem_self hi
end
end Go.Dc
namespace Go.Dc
def ZL (L : List (List Int)) (v : Nat) : Bool := L.any fun c => c.contains (v : Int) || c.contains (-(v : Int))
theorem occ_of {L : List (List Int)} {c : List Int} {x : Int} (hc : c ∈ L) (hx : x ∈ c) : ZL L x.natAbs = true := by
 unfold ZL
 refine List.any_eq_true.2 ⟨c, hc, ?_⟩
 simp only [Bool.or_eq_true, List.contains_iff_mem]
 by_cases h : 0 ≤ x
 ·left; rw [show ((x.natAbs : Nat) : Int) = x by omega]; exact hx
 ·right; rw [show -((x.natAbs : Nat) : Int) = x by omega]; exact hx
def QZ (L : List (List Int)) (n : Int) : Nat := ((List.range' 1 200).filter fun v : Nat => decide ((v : Int) ≤ n) && ZL L v).length
def opn (L : List (List Int)) (V : List Int) : Nat := ((List.range' 1 200).filter fun v => decide (V.getD (v - 1) 1 = 0) && ZL L v).length
theorem filter_le {α : Type} {p q : α → Bool} : ∀ {l : List α}, (∀ a ∈ l, p a = true → q a = true) → (l.filter p).length ≤ (l.filter q).length
 | [], _ => by simp
 | a :: l, h => by
  have ih := filter_le (p := p) (q := q) (l := l) fun b hb => h b (by simp [hb])
  have ha := h a (by simp)
  cases hp : p a <;> cases hq : q a
  ·rw [List.filter_cons_of_neg (by simp [hp]), List.filter_cons_of_neg (by simp [hq])]; exact ih
  ·rw [List.filter_cons_of_neg (by simp [hp]), List.filter_cons_of_pos (by simp [hq]), List.length_cons]; omega
  ·rw [ha hp] at hq; cases hq
  ·rw [List.filter_cons_of_pos (by simp [hp]), List.filter_cons_of_pos (by simp [hq]), List.length_cons, List.length_cons]; omega
theorem filter_lt {α : Type} {p q : α → Bool} : ∀ {l : List α}, (∀ a ∈ l, p a = true → q a = true) → (∃ a ∈ l, q a = true ∧ p a = false) → (l.filter p).length < (l.filter q).length
 | [], _, ⟨a, h, _⟩ => by simp at h
 | a :: l, h, ⟨b, hb, h1, h2⟩ => by
  have hr : ∀ c ∈ l, p c = true → q c = true := fun c hc => h c (by simp [hc])
  have ih := filter_le hr
  have ha := h a (by simp)
  rcases List.mem_cons.1 hb with e | hb
  ·subst e
   rw [List.filter_cons_of_neg (by simp [h2]), List.filter_cons_of_pos (by simp [h1]), List.length_cons]; omega
  ·have ih2 := filter_lt hr ⟨b, hb, h1, h2⟩
   cases hp : p a <;> cases hq : q a
   ·rw [List.filter_cons_of_neg (by simp [hp]), List.filter_cons_of_neg (by simp [hq])]; exact ih2
   ·rw [List.filter_cons_of_neg (by simp [hp]), List.filter_cons_of_pos (by simp [hq]), List.length_cons]; omega
   ·rw [ha hp] at hq; cases hq
   ·rw [List.filter_cons_of_pos (by simp [hp]), List.filter_cons_of_pos (by simp [hq]), List.length_cons, List.length_cons]; omega
theorem opn_le {L : List (List Int)} {V : List Int} {n : Int} (h : (V.length : Int) = n) : opn L V ≤ QZ L n := by
 unfold opn QZ
 refine filter_le fun v hv h1 => ?_
 simp only [Bool.and_eq_true, decide_eq_true_eq] at h1 ⊢
 refine ⟨?_, h1.2⟩
 by_cases hl : v - 1 < V.length
 ·omega
 ·have : V.getD (v - 1) 1 = 1 := by simp [List.getD, List.getElem?_eq_none (show V.length ≤ v - 1 by omega)]
  rw [this] at h1
  exact absurd h1.1 (by decide)
theorem TN {L : List (List Int)} {V : List Int} {n x : Int} (hl : (V.length : Int) = n) (hn : n ≤ 200) (h0 : x ≠ 0) (h1 : -n ≤ x) (h2 : x ≤ n) (ho : ZL L x.natAbs = true) (hv : fU V x = 0) : opn L (sC V x 1) < opn L V := by
 unfold opn
 have hi : x.natAbs - 1 < V.length := by omega
 have hg : ∀ z : Int, V.getD (x.natAbs - 1) z = 0 := fun z => by
  unfold fU at hv
  have : V.getD (x.natAbs - 1) 0 = 0 := by split at hv <;> omega
  simpa [List.getD, hi] using this
 refine filter_lt (fun v _ h => ?_) ⟨x.natAbs, List.mem_range'_1.2 ⟨by omega, by omega⟩, ?_, ?_⟩
 ·simp only [Bool.and_eq_true, decide_eq_true_eq] at h ⊢
  refine ⟨?_, h.2⟩
  have h3 := h.1
  unfold sC at h3
  rw [A5 hi] at h3
  split at h3
  ·rename_i e; rw [← e]; exact hg 1
  ·exact h3
 ·simp only [Bool.and_eq_true, decide_eq_true_eq]; exact ⟨hg 1, ho⟩
 ·unfold sC
  rw [A5 hi, if_pos rfl]
  have : (if x < 0 then -(1 : Int) else 1) ≠ 0 := by split <;> omega
  simp [this]
def StepOk (m : Nat) (C : List (List Int)) (j : Nat) (s : aB) : Prop :=
 0 ≤ s.Left ∧ s.Left < ((m + j : Nat) : Int) ∧ 0 ≤ s.Right ∧ s.Right < ((m + j : Nat) : Int) ∧ gv (C.getD s.Left.toNat []) (C.getD s.Right.toNat []) s.I7 = (true, C.getD (m + j) [])
structure I8 (n : Int) (L C : List (List Int)) (K : List (ByteArray × Int)) (S : List aB) : Prop where
 n0 : 0 ≤ n
 n1 : n ≤ 200
 lenL : L.length ≤ 4000
 JJ : C.length = L.length + S.length
 NS : S.length ≤ 20000
 pre : ∀ i, i < L.length → C.getD i [] = L.getD i []
 ok : ∀ c ∈ C, Ob n c
 oc : ∀ c ∈ C, ∀ x ∈ c, ZL L x.natAbs = true
 stp : ∀ j (hj : j < S.length), StepOk L.length C j S[j]
 kn : ∀ p ∈ K, 0 ≤ p.2 ∧ p.2 < C.length ∧ K3 (C.getD p.2.toNat []) = some p.1
theorem tg {α : Type} {C : List α} {c z : α} {i : Nat} (h : i < C.length) : (C ++ [c]).getD i z = C.getD i z := by
 simp [List.getD, List.getElem?_append_left h]
theorem JX {α : Type} {C : List α} {c z : α} : (C ++ [c]).getD C.length z = c := by simp [List.getD]
theorem jQ {α : Type} {C : List α} {z : α} {i : Nat} (h : i < C.length) : C.getD i z ∈ C := by
 simp only [List.getD, List.getElem?_eq_getElem h, Option.getD_some]; exact List.getElem_mem h
theorem Ob.abs {n : Int} {c : List Int} (h : Ob n c) (hn : n ≤ 200) {x : Int} (hx : x ∈ c) : x.natAbs ≤ 200 := by have := h.NJ x hx; omega
theorem I8.add {n : Int} {L C : List (List Int)} {K : List (ByteArray × Int)} {S : List aB} (h : I8 n L C K S) (hs : S.length < 20000) {i k p : Int} {c : List Int} {t : ByteArray}
  (hi0 : 0 ≤ i) (hi : i < C.length) (Ce : 0 ≤ k) (hk : k < C.length) (hr : gv (C.getD i.toNat []) (C.getD k.toNat []) p = (true, c)) (ht : K3 c = some t) :
  I8 n L (C ++ [c]) (iq K t (C.length : Int)) (S ++ [⟨i, k, p⟩]) := by
 obtain ⟨r1, r2, r3, r4, r5, r6, r7⟩ := Ab hr
 have hic : C.getD i.toNat [] ∈ C := jQ (by omega)
 have hkc : C.getD k.toNat [] ∈ C := jQ (by omega)
 have hcm : ∀ x ∈ c, x ∈ C.getD i.toNat [] ∨ x ∈ C.getD k.toNat [] := fun x hx => (D8.1 ((r7 x).1 hx)).1
 have hcok : Ob n c := ⟨r6.len, fun x hx => by
  rcases hcm x hx with h1 | h1
  ·exact (h.ok _ hic).NJ x h1
  ·exact (h.ok _ hkc).NJ x h1, r6.asc⟩
 have hlC := h.JJ
 refine ⟨h.n0, h.n1, h.lenL, by simp; omega, by simp; omega, fun j hj => by rw [tg (by omega)]; exact h.pre j hj, fun d hd => ?_, fun d hd x hx => ?_, fun j hj => ?_, fun q hq => ?_⟩
 ·rcases List.mem_append.1 hd with h1 | h1
  ·exact h.ok d h1
  ·rw [List.mem_singleton.1 h1]; exact hcok
 ·rcases List.mem_append.1 hd with h1 | h1
  ·exact h.oc d h1 x hx
  ·rw [List.mem_singleton.1 h1] at hx
   rcases hcm x hx with h2 | h2
   ·exact h.oc _ hic x h2
   ·exact h.oc _ hkc x h2
 ·by_cases e : j < S.length
  ·rw [List.getElem_append_left e]
   obtain ⟨q1, q2, q3, q4, q5⟩ := h.stp j e
   refine ⟨q1, q2, q3, q4, ?_⟩
   rw [tg (by omega), tg (by omega), tg (by omega)]; exact q5
  ·have e2 : j = S.length := by simp at hj; omega
   subst e2
   rw [List.getElem_append_right (Nat.le_refl _)]
   simp only [Nat.sub_self, List.getElem_cons_zero]
   refine ⟨hi0, by dsimp only; omega, Ce, by dsimp only; omega, ?_⟩
   dsimp only
   rw [tg (by omega), tg (by omega), ← hlC, JX]; exact hr
 ·rcases TV hq with h1 | h1
  ·obtain ⟨q1, q2, q3⟩ := h.kn q h1
   refine ⟨q1, by simp; omega, ?_⟩
   rw [tg (by omega)]; exact q3
  ·subst h1
   refine ⟨by dsimp only; omega, by dsimp only; simp only [List.length_append, List.length_cons, List.length_nil]; omega, ?_⟩
   dsimp only
   rw [Int.toNat_natCast, JX]; exact ht
theorem ZF {n : Int} {L : List (List Int)} {X : List Int} (h : ∀ x ∈ X, (x.natAbs : Int) ≤ n ∧ ZL L x.natAbs = true) : (Fi X).length ≤ QZ L n := by
 unfold Fi QZ
 suffices hh : ∀ l : List Nat, (l.filterMap (OA X)).length ≤ (l.filter fun v : Nat => decide ((v : Int) ≤ n) && ZL L v).length from hh _
 intro l
 induction l with
 | nil => simp
 | cons v l ih =>
  cases hp : OA X v with
  | none =>
   rw [List.filterMap_cons_none hp]
   refine Nat.le_trans ih ?_
   cases hq : (decide ((v : Int) ≤ n) && ZL L v) with
   | true => rw [List.filter_cons_of_pos (by simpa using hq), List.length_cons]; omega
   | false => rw [List.filter_cons_of_neg (by simpa using hq)]; exact Nat.le_refl _
  | some x =>
   obtain ⟨h1, h2⟩ := ER hp
   have h3 := h x h2
   rw [h1] at h3
   rw [List.filterMap_cons_some hp, List.filter_cons_of_pos (by simp [h3]), List.length_cons, List.length_cons]
   omega
structure LPost (n : Int) (L : List (List Int)) (V : List Int) (C : List (List Int)) (S : List aB) (nd : Int) (r : Int × List (ByteArray × Int) × Int × Bool × List (List Int) × List aB) : Prop where
 inv : I8 n L r.2.2.2.2.1 r.2.1 r.2.2.2.2.2
 nd : r.2.2.1 = nd
 JJ : C.length ≤ r.2.2.2.2.1.length
 NS : r.2.2.2.2.2.length ≤ S.length + 1
 ext : ∀ i, i < C.length → r.2.2.2.2.1.getD i [] = C.getD i []
 sure : S.length < 20000 → QZ L n ≤ 50 → r.2.2.2.1 = false
 res : r.2.2.2.1 = false → 0 ≤ r.1 ∧ r.1 < r.2.2.2.2.1.length ∧ Du V (r.2.2.2.2.1.getD r.1.toNat []) ∧ ∀ i, i < r.2.2.2.2.1.length → r.2.2.2.2.1.getD i [] = [] → (i : Int) = r.1 ∧ i + 1 = r.2.2.2.2.1.length
theorem KF {n : Int} {L : List (List Int)} {V : List Int} {C : List (List Int)} {K : List (ByteArray × Int)} {S : List aB} {nd : Int} (hI : I8 n L C K S) (hV : VV n V) (hne : ∀ c ∈ C, c ≠ [])
  {i k x : Int} (h0 : x ≠ 0) (hi0 : 0 ≤ i) (hi : i < C.length) (Ce : 0 ≤ k) (hk : k < C.length) (Ja : x ∈ C.getD i.toNat []) (hkx : -x ∈ C.getD k.toNat [])
  (hiF : ∀ y ∈ C.getD i.toNat [], y = x ∨ fU V y = -1) (hkF : ∀ y ∈ C.getD k.toNat [], y = -x ∨ fU V y = -1) :
  T (dU V C K S nd false i k x) (LPost n L V C S nd) := by
 have hn0 := hI.n0
 have hn1 := hI.n1
 have hlC := hI.JJ
 have hlL := hI.lenL
 have hlS := hI.NS
 have hxr := (hI.ok _ (jQ (z := []) (show i.toNat < C.length by omega))).NJ x Ja
 unfold dU
 -- the two ways
 refine T.AV (P := fun j => 0 ≤ j.1 ∧ j.1 < C.length ∧ 0 ≤ j.2.1 ∧ j.2.1 < C.length ∧ 0 < j.2.2 ∧ j.2.2 ∈ C.getD j.1.toNat [] ∧ -j.2.2 ∈ C.getD j.2.1.toNat [] ∧ (∀ y ∈ C.getD j.1.toNat [], y = j.2.2 ∨ fU V y = -1) ∧ (∀ y ∈ C.getD j.2.1.toNat [], y = -j.2.2 ∨ fU V y = -1)) ?_ ?_
 rotate_left
 ·intro kk hkk
  refine T.cond (fun h => hkk _ ?_) fun h => hkk _ ?_
  ·have h := of_decide_eq_true h
   rw [pY (by omega) (by omega)]
   refine ⟨Ce, hk, hi0, hi, by dsimp only; omega, hkx, by dsimp only; rw [Int.neg_neg]; exact Ja, hkF, fun y hy => ?_⟩
   dsimp only; rw [Int.neg_neg]; exact hiF y hy
  ·have h := of_decide_eq_false h
   exact ⟨hi0, hi, Ce, hk, by dsimp only; omega, Ja, hkx, hiF, hkF⟩
 rintro ⟨a, b, p⟩ ⟨a0, a1, b0, b1, p0, pa, pb, fa, fb⟩
 dsimp only at a0 a1 b0 b1 p0 pa pb fa fb ⊢
 have hac : C.getD a.toNat [] ∈ C := jQ (by omega)
 have hbc : C.getD b.toNat [] ∈ C := jQ (by omega)
 rw [Cd [] a0 a1, aj, Cd [] b0 b1, aj, N9, aj]
 generalize hA : C.getD a.toNat [] = A at *
 generalize hB : C.getD b.toNat [] = B at *
 have c200 : ∀ c ∈ C, Ob 200 c := fun c hc => ⟨(hI.ok c hc).len, fun x hx => by have := (hI.ok c hc).NJ x hx; omega, (hI.ok c hc).asc⟩
 have XH : ∀ y ∈ iy A B p, fU V y = -1 ∧ y ≠ 0 ∧ (y.natAbs : Int) ≤ n ∧ ZL L y.natAbs = true := fun y hy => by
  obtain ⟨h1, h2⟩ := D8.1 hy
  rcases h1 with h1 | h1
  ·have h3 := (hI.ok _ hac).NJ y h1
   refine ⟨(fa y h1).resolve_left (by omega), by omega, by omega, hI.oc _ hac y h1⟩
  ·have h3 := (hI.ok _ hbc).NJ y h1
   refine ⟨(fb y h1).resolve_left (by omega), by omega, by omega, hI.oc _ hbc y h1⟩
 have htaut : ∀ y ∈ iy A B p, -y ∉ iy A B p := fun y hy hy2 => by
  have h1 := XH y hy
  have h2 := (XH _ hy2).1
  rw [Rb h1.2.1] at h2
  omega
 have hshort : (Fi (iy A B p)).length ≤ QZ L n := ZF fun y hy => (XH y hy).2.2
 refine T.AV (P := fun j => (j = true → S.length = 20000 ∨ 50 < QZ L n) ∧ (j = false → S.length < 20000 ∧ gv A B p = (true, (gv A B p).2))) ?_ ?_
 rotate_left
 ·intro kk hkk
  refine T.cond (fun h => hkk _ ⟨fun _ => .inr ?_, fun h => by cases h⟩) fun h => hkk _ ⟨fun h1 => .inl ?_, fun h1 => ⟨?_, ?_⟩⟩
  ·refine Nat.lt_of_not_le fun hle => ?_
   rw [N_ (by omega) (c200 _ hac) (c200 _ hbc) pa pb htaut (by omega)] at h
   cases h
  ·have := eq_of_beq h1; omega
  ·have : ¬ (S.length : Int) = 20000 := fun e => by rw [e] at h1; cases h1
   omega
  ·have h2 : (gv A B p).1 = true := by cases hh : (gv A B p).1 <;> rw [hh] at h <;> first | rfl | cases h
   rw [← h2]
 rintro j ⟨j1, j2⟩
 refine T.cond (fun h => .ret ?_) fun h => ?_
 ·refine ⟨hI, rfl, Nat.le_refl _, by dsimp only; omega, fun i hi => rfl, fun h1 h2 => ?_, fun h => by cases h⟩
  rcases j1 h with h3 | h3
  ·omega
  ·omega
 obtain ⟨hS, hR⟩ := j2 h
 generalize (gv A B p).2 = c at hR ⊢
 rw [← hA, ← hB] at hR
 have hR' := Ab hR
 rw [hA, hB] at hR'
 obtain ⟨r1, r2, r3, r4, r5, r6, r7⟩ := hR'
 have hcF : Du V c := fun y hy => (XH y ((r7 y).1 hy)).1
 have hcabs : ∀ y ∈ c, y.natAbs ≤ 200 := fun y hy => by have := (XH y ((r7 y).1 hy)).2.2.1; omega
 obtain ⟨t, ht⟩ : ∃ t, K3 c = some t := ⟨_, JM r6.len hcabs⟩
 rw [ht, aj]
 refine T.AV (P := fun _ => True) ?_ ?_
 ·intro _ _
  rw [cL (by simp; omega), aj, cL (by simp; omega), aj]
  have hlen : qq .i64 (((C ++ [c]).length : Nat) : Int) 1 = (C.length : Int) := by
   have e : (((C ++ [c]).length : Nat) : Int) = C.length + 1 := by simp
   rw [e, Cc (by omega) (by omega)]; omega
  rw [hlen]
  refine .ret ⟨hI.add hS a0 a1 b0 b1 hR ht, rfl, by simp, by simp, fun i hi => tg hi, fun _ _ => rfl, fun _ => ⟨by dsimp only; omega, by dsimp only; simp only [List.length_append, List.length_cons, List.length_nil]; omega, ?_, fun i hi he => ?_⟩⟩
  ·dsimp only; rw [Int.toNat_natCast, JX]; exact hcF
  ·dsimp only at hi he ⊢
   by_cases e : i < C.length
   ·rw [tg e] at he
    exact absurd he (hne _ (jQ e))
   ·have : i = C.length := by simp at hi; omega
    subst this
    exact ⟨rfl, by simp⟩
 ·intro kk hkk
  refine T.cond (fun h1 => T.cond (fun h2 => .ret ?_) fun _ => hkk _ trivial) fun _ => hkk _ trivial
  obtain ⟨q1, q2, q3⟩ := hI.kn _ (TW (z := 0) h1)
  dsimp only at q1 q2 q3
  have hqc : C.getD (cF K t 0).toNat [] ∈ C := jQ (by omega)
  have he : C.getD (cF K t 0).toNat [] = c := aam (hI.ok _ hqc).len r6.len (fun y hy => (hI.ok _ hqc).abs hn1 hy) hcabs q3 ht
  refine ⟨hI, rfl, Nat.le_refl _, by dsimp only; omega, fun i hi => rfl, fun _ _ => rfl, fun _ => ⟨q1, q2, ?_, fun i hi Yr => absurd Yr (hne _ (jQ hi))⟩⟩
  dsimp only; rw [he]; exact hcF
end Go.Dc
namespace Go.Dc
open Go.Proofs Go.Sort
def r8 : List Int → List Int → Int
 | [], [] => 0
 | [], _ :: _ => -1
 | _ :: _, [] => 1
 | x :: a, y :: b => if x < y then -1 else if y < x then 1 else r8 a b
theorem OO : ∀ {a : List Int}, r8 a a = 0
 | [] => rfl
 | x :: a => by unfold r8; rw [if_neg (by omega), if_neg (by omega)]; exact OO
theorem VK : ∀ {a b c : List Int}, r8 a b < 0 → r8 b c < 0 → r8 a c < 0
 | [], [], _, h, _ => by simp [r8] at h
 | [], _ :: _, [], _, h => by simp [r8] at h
 | [], _ :: _, _ :: _, _, _ => by simp [r8]
 | _ :: _, [], _, h, _ => by simp [r8] at h
 | _ :: _, _ :: _, [], _, h => by simp [r8] at h
 | x :: a, y :: b, z :: c, h1, h2 => by
  unfold r8 at *
  by_cases e1 : x < y
  ·by_cases e2 : z < y
   ·rw [if_neg (by omega), if_pos e2] at h2; omega
   ·rw [if_pos (by omega)]; omega
  ·rw [if_neg e1] at h1
   by_cases e3 : y < x
   ·rw [if_pos e3] at h1; omega
   ·rw [if_neg e3] at h1
    have : x = y := by omega
    subst this
    split at h2
    ·rw [if_pos (by omega)]; omega
    ·rw [if_neg (by omega)]
     split at h2
     ·omega
     ·rw [if_neg (by omega)]; exact VK h1 h2
theorem VL : ∀ {a b c : List Int}, 0 ≤ r8 a b → 0 ≤ r8 b c → 0 ≤ r8 a c
 | [], [], _, _, h => h
 | [], _ :: _, _, h, _ => by simp [r8] at h
 | _ :: _, [], [], _, _ => by simp [r8]
 | _ :: _, [], _ :: _, _, h => by simp [r8] at h
 | _ :: _, _ :: _, [], _, _ => by simp [r8]
 | x :: a, y :: b, z :: c, h1, h2 => by
  unfold r8 at *
  by_cases e1 : x < y
  ·rw [if_pos e1] at h1; omega
  ·rw [if_neg e1] at h1
   by_cases e2 : y < z
   ·rw [if_pos e2] at h2; omega
   ·rw [if_neg e2] at h2
    rw [if_neg (by omega)]
    by_cases e3 : z < x
    ·rw [if_pos e3]; omega
    ·rw [if_neg e3]
     rw [if_neg (by omega)] at h1
     rw [if_neg (by omega)] at h2
     exact VL h1 h2
theorem VM : ∀ {a b : List Int}, 0 ≤ r8 a b → 0 ≤ r8 b a → a = b
 | [], [], _, _ => rfl
 | [], _ :: _, h, _ => by simp [r8] at h
 | _ :: _, [], _, h => by simp [r8] at h
 | x :: a, y :: b, h1, h2 => by
  unfold r8 at *
  by_cases e1 : x < y
  ·rw [if_pos e1] at h1; omega
  ·by_cases e2 : y < x
   ·rw [if_pos e2] at h2; omega
   ·rw [if_neg e1, if_neg e2] at h1
    rw [if_neg e2, if_neg e1] at h2
    rw [VM h1 h2, show x = y by omega]
theorem cmpL {a b : List Int} (ha : a.length ≤ 1000000) : ∀ (m k : Nat), k + m = a.length → k ≤ b.length →
  (aI (gf a b) (k : Int)).bind (eH (fun a : Int => some a) fun q23 : Unit => bif decide (((a.length : Int)) < ((b.length : Int))) then some ((-1)) else some 0) = some (r8 (a.drop k) (b.drop k))
 | 0, k, h1, h2 => by
  rw [gq]
  unfold gf
  rw [show decide ((k : Int) < (a.length : Int)) = false from decide_eq_false (by omega)]
  have e : k = a.length := by omega
  subst e
  simp only [cond_false, eH, aj]
  rw [List.drop_length]
  rcases Nat.lt_or_ge a.length b.length with h | h
  ·rw [decide_eq_true (by omega)]
   rw [List.drop_eq_getElem_cons h]; rfl
  ·rw [decide_eq_false (by omega), List.drop_eq_nil_of_le h]; rfl
 | m + 1, k, h1, h2 => by
  have hk : k < a.length := by omega
  rw [gq]
  unfold gf
  rw [show decide ((k : Int) < (a.length : Int)) = true from decide_eq_true (by omega)]
  simp only [cond_true]
  rw [a_ hk, aj, List.drop_eq_getElem_cons hk]
  rcases Nat.lt_or_ge k b.length with hb | hb
  ·rw [show decide ((k : Int) ≥ (b.length : Int)) = false from decide_eq_false (by omega)]
   simp only [cond_false]
   rw [a_ hb, aj, J8, aj, List.drop_eq_getElem_cons hb]
   unfold r8
   by_cases e1 : a[k] < b[k]
   ·rw [if_pos e1, if_pos e1]; rfl
   ·rw [if_neg e1, if_neg e1]
    by_cases e2 : b[k] < a[k]
    ·rw [if_pos e2, if_pos e2]; rfl
    ·rw [if_neg e2, if_neg e2]
     have := cmpL (b := b) ha m (k + 1) (by omega) (by omega)
     rw [show ((0 : Int) != 0) = false from rfl]
     simp only [cond_false, eH, aj]
     rw [cN (by omega)]
     exact this
  ·rw [show decide ((k : Int) ≥ (b.length : Int)) = true from decide_eq_true (by omega)]
   simp only [cond_true, eH, aj]
   rw [List.drop_eq_nil_of_le hb]; rfl
theorem Ik {a b : List Int} (ha : a.length ≤ 1000000) : cg a b = some (r8 a b) := by
 unfold cg kX
 have := cmpL (b := b) ha a.length 0 (by omega) (by omega)
 simp only [List.drop_zero] at this
 rw [show ((0 : Nat) : Int) = 0 from rfl] at this
 rw [this]; rfl
theorem cfo_L {a b : List Int} (ha : a.length ≤ 1000000) : wP cg a b = r8 a b := by unfold wP; rw [Ik ha]; rfl
theorem cmpOn_L {l : List (List Int)} (h : ∀ x ∈ l, x.length ≤ 1000000) (hd : l.Nodup) : CmpOn cg l := by
 have hx : ∀ i : Fin l.length, l[i].length ≤ 1000000 := fun i => h _ (List.getElem_mem i.2)
 have hlt : ∀ i j : Fin l.length, (ltOf fun i j : Fin l.length => wP cg l[i] l[j]) i j = decide (r8 l[i] l[j] < 0) := fun i j => by unfold ltOf; show decide (wP cg l[i] l[j] < 0) = _; rw [cfo_L (hx i)]
 refine ⟨fun x hx y hy => by rw [cfo_L (h x hx), Ik (h x hx)], ⟨fun i => ?_, fun i j k h1 h2 => ?_, fun i j k h1 h2 => ?_⟩, fun i j h1 h2 => ?_⟩
 ·rw [hlt, OO]; rfl
 ·rw [hlt, decide_eq_true_iff] at *; exact VK h1 h2
 ·rw [hlt, decide_eq_false_iff_not] at *; have := VL (Int.not_lt.1 h1) (Int.not_lt.1 h2); omega
 ·rw [hlt, decide_eq_false_iff_not] at *
  have e := VM (Int.not_lt.1 h1) (Int.not_lt.1 h2)
  exact Fin.ext ((List.getElem_inj hd).1 e)
theorem sortN_L {l : List (List Int)} (hl : l.length ≤ 1000000) (h : ∀ x ∈ l, x.length ≤ 1000000) (hd : l.Nodup) : ∃ r, Dx cg l = some r ∧ r.Perm l :=
 ⟨nM cg l, by unfold Dx; rw [if_pos ⟨by omega, cmpOn_L h hd⟩], List.mergeSort_perm _ _⟩
def Ts (l : List (List Int)) : Option (List (List Int)) := match l with
 | [x] => if x.length ≤ 1000000 then some [x] else none
 | _ => none
theorem WK {l : List (List Int)} : Le (Ts l) (Dx cg l) := fun r h => by
 unfold Ts at h
 split at h
 ·rename_i x
  split at h
  ·rename_i hx
   cases h
   obtain ⟨r, h1, h2⟩ := sortN_L (l := [x]) (by simp) (fun y hy => by rw [List.mem_singleton.1 hy]; exact hx) (by simp)
   rw [h1, List.perm_singleton.1 h2]
  ·cases h
 ·cases h
def PF (l : List ah) : Option (List ah) := match l with
 | [] => some []
 | [x] => some [x]
 | [x, y] => if zi x y then some [x, y] else if zi y x then some [y, x] else none
 | _ => none
theorem Rh {x y : ah} {r : List ah} (h1 : r.Perm [x, y]) (h2 : r.Pairwise fun x y => zi x y ∨ x = y) (h : zi x y) : r = [x, y] := by
 have hl := h1.length_eq
 match r, hl with
 | [a, b], _ =>
  have h3 := (List.pairwise_cons.1 h2).1 b (by simp)
  have ha : a ∈ [x, y] := h1.subset (by simp)
  have hb : b ∈ [x, y] := h1.subset (by simp)
  have hx : x ∈ [a, b] := h1.symm.subset (by simp)
  have hy : y ∈ [a, b] := h1.symm.subset (by simp)
  have hne : x ≠ y := fun e => BS (e ▸ h)
  simp only [List.mem_cons, List.not_mem_nil, or_false] at ha hb hx hy
  rcases ha with rfl | rfl
  ·rcases hy with e | rfl
   ·exact absurd e.symm hne
   ·rfl
  ·rcases hx with e | rfl
   ·exact absurd e hne
   ·rcases h3 with h3 | h3
    ·exact absurd (AA h h3) BS
    ·exact absurd h3.symm hne
theorem KK : bN = bA := rfl
theorem WL {l : List ah} : Le (PF l) (gX bN l) := fun r h => by
 rw [KK]
 unfold PF at h
 split at h
 ·cases h
  obtain ⟨r, h1, h2, _⟩ := L4 (l := []) (by simp)
  rw [h1, List.perm_nil.1 h2]
 ·cases h
  rename_i x
  obtain ⟨r, h1, h2, _⟩ := L4 (l := [x]) (by simp)
  rw [h1, List.perm_singleton.1 h2]
 ·rename_i x y
  obtain ⟨r', h1, h2, h3⟩ := L4 (l := [x, y]) (by simp)
  split at h
  ·rename_i hp; cases h; rw [h1, Rh h2 h3 hp]
  ·split at h
   ·rename_i hp; cases h; rw [h1, Rh (h2.trans (List.Perm.swap y x [])) h3 hp]
   ·cases h
 ·cases h
end Go.Dc
