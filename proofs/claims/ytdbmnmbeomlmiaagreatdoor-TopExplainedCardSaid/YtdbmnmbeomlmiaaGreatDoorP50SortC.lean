/- Part P50.SortC of a proof: lemmas. -/
import Derived.Test.YtdbmnmbeomlmiaaGreatDoorDcCptP
import Derived.Test.YtdbmnmbeomlmiaaGreatDoorDcSub
import Derived.Test.YtdbmnmbeomlmiaaGreatDoorMTabW
set_option linter.unusedVariables false
set_option linter.unusedSimpArgs false
set_option linter.unusedSectionVars false
namespace Go.Dc
open Go.Proofs Go.Sort Go.Shelf

theorem asc_ext : ∀ {a b : List Int}, Asc a → Asc b → (∀ x, x ∈ a ↔ x ∈ b) → a = b
 | [], [], _, _, _ => rfl
 | [], y :: b, _, _, h => by have := (h y).2 (by simp); simp at this
 | x :: a, [], _, _, h => by have := (h x).1 (by simp); simp at this
 | x :: a, y :: b, ha, hb, h => by
  have ha' := List.pairwise_cons.1 ha
  have hb' := List.pairwise_cons.1 hb
  have hxy : x = y := by
   rcases List.mem_cons.1 ((h x).1 (by simp)) with e | e
   ·exact e
   ·rcases List.mem_cons.1 ((h y).2 (by simp)) with e2 | e2
    ·exact e2.symm
    ·have := ha'.1 y e2; have := hb'.1 x e; omega
  subst hxy
  congr 1
  refine asc_ext ha'.2 hb'.2 fun z => ⟨fun hz => ?_, fun hz => ?_⟩
  ·rcases List.mem_cons.1 ((h z).1 (by simp [hz])) with e | e
   ·have := ha'.1 z hz; subst e; omega
   ·exact e
  ·rcases List.mem_cons.1 ((h z).2 (by simp [hz])) with e | e
   ·have := hb'.1 z hz; subst e; omega
   ·exact e

def absW (x : Int) : Int := imax x (ineg .i64 x)
theorem absW_eq {x : Int} (h0 : -1000 ≤ x) (h1 : x ≤ 1000) : absW x = x.natAbs := by unfold absW; rw [ineg64 (by omega) (by omega), imax_abs]
def cmpI (x y : Int) : Int := if x < y then -1 else if y < x then 1 else 0
theorem Compare_plain {x y : Int} : cmp_Compare_int_m x y = some (cmpI x y) := by
 unfold cmp_Compare_int_m cmp_isNaN_int_m cmpI
 simp only [bne_self_eq_false, Option.bind_some, cond_false]
 by_cases h : x < y
 ·simp [h]
 ·by_cases h2 : y < x
  ·simp [h, h2]
  ·simp [h, h2]
def cmpR (x y : Int) : Int := if cmpI (absW x) (absW y) = 0 then cmpI x y else cmpI (absW x) (absW y)
theorem Or_plain {x y : Int} : cmp_Or_int_m [x, y] = some (if x = 0 then y else x) := by
 unfold cmp_Or_int_m
 rw [find_bind (l := [x, y]) (fun a => if a = 0 then none else some a) (fun i hi => by
  unfold cmp_Or_int_l1
  rw [show decide ((i : Int) < (([x, y] : List Int).length : Int)) = true by simp at hi ⊢; omega, cond_true, idxM_nat hi, iadd64 (by simp at hi; omega) (by simp at hi; omega)]
  simp only [Option.bind_some]
  by_cases h : [x, y][i] = 0
  ·rw [if_pos h, h]; rfl
  ·rw [if_neg h, show ([x, y][i] != 0) = true from by simpa using h]; rfl) (by unfold cmp_Or_int_l1; simp)]
 by_cases hx : x = 0
 ·by_cases hy : y = 0
  ·simp [hx, hy]
  ·simp [hx, hy]
 ·simp [hx]
theorem Resolve_1_plain {x y : Int} : proof_Resolve_1_m x y = some (cmpR x y) := by
 unfold proof_Resolve_1_m proof_abs_m
 simp only [Option.bind_some, Compare_plain, Or_plain]
 rfl

def ltR (x y : Int) : Prop := absW x < absW y ∨ absW x = absW y ∧ x < y
theorem cmpR_lt {x y : Int} : cmpR x y < 0 ↔ ltR x y := by
 unfold cmpR cmpI ltR
 by_cases h1 : absW x < absW y
 ·simp [h1]
 ·by_cases h2 : absW y < absW x
  ·simp [h1, h2]; omega
  ·have : absW x = absW y := by omega
   simp only [this, Int.lt_irrefl, if_false, if_true, false_or, true_and]
   by_cases h3 : x < y
   ·simp [h3]
   ·by_cases h4 : y < x <;> simp [h3, h4]
theorem cfo_R {x y : Int} : cfo proof_Resolve_1_m x y = cmpR x y := by unfold cfo; rw [Resolve_1_plain]; rfl
theorem ltOf_R {x y : Int} : ltOf (cfo proof_Resolve_1_m) x y = true ↔ ltR x y := by unfold ltOf; rw [decide_eq_true_iff, cfo_R, cmpR_lt]
theorem ltOf_Rf {x y : Int} : ltOf (cfo proof_Resolve_1_m) x y = false ↔ ¬ ltR x y := by rw [← ltOf_R]; simp
theorem ltR_trans (x y z : Int) (h1 : ltR x y) (h2 : ltR y z) : ltR x z := by unfold ltR at *; omega
theorem cmpOk_R : CmpOk proof_Resolve_1_m where
 tot := fun x y => by rw [cfo_R, Resolve_1_plain]
 swo := ⟨fun x => by rw [ltOf_Rf]; unfold ltR; omega, fun x y z h1 h2 => by rw [ltOf_R] at *; exact ltR_trans x y z h1 h2, fun x y z h1 h2 => by rw [ltOf_Rf] at *; unfold ltR at *; omega⟩
 sep := fun x y h1 h2 => by rw [ltOf_Rf] at *; unfold ltR at *; omega

theorem sort_R {l : List Int} (h : l.length ≤ 1000) : ∃ r, sortFM proof_Resolve_1_m l = some r ∧ r.Perm l ∧ r.Pairwise fun x y => ltR x y ∨ x = y := by
 refine ⟨sortL proof_Resolve_1_m l, by unfold sortFM; rw [if_pos ⟨by omega, cmpOk_R⟩], List.mergeSort_perm _ _, ?_⟩
 have hs := List.pairwise_mergeSort (le := fun x y => !(ltOf (cfo proof_Resolve_1_m)) y x)
  (fun a b c h1 h2 => by simp only [Bool.not_eq_true', ltOf_Rf] at *; unfold ltR at *; omega)
  (fun a b => by
   cases h1 : ltOf (cfo proof_Resolve_1_m) b a with
   | false => rfl
   | true =>
    cases h2 : ltOf (cfo proof_Resolve_1_m) a b with
    | false => rfl
    | true => rw [ltOf_R] at h1 h2; unfold ltR at h1 h2; omega) l
 refine hs.imp fun {x y} h => ?_
 simp only [Bool.not_eq_true', ltOf_Rf] at h
 unfold ltR at *
 omega

def litsR (a b : List Int) (p : Int) : List Int := (a ++ b).filter fun x => decide ((x.natAbs : Int) ≠ p)
def pickV (L : List Int) (v : Nat) : Option Int := if (v : Int) ∈ L then some v else if -(v : Int) ∈ L then some (-(v : Int)) else none
def outR (L : List Int) : List Int := (List.range' 1 200).filterMap (pickV L)
def tautR (L : List Int) : Bool := L.any fun x => L.contains (-x)
def ResolveP (a b : List Int) (p : Int) : Bool × List Int :=
 if p < 1 ∨ clauseP 200 a ≠ 0 ∨ clauseP 200 b ≠ 0 ∨ p ∉ a ∨ -p ∉ b then (false, []) else
 if tautR (litsR a b p) = true then (false, []) else if 50 < (outR (litsR a b p)).length then (false, []) else (true, outR (litsR a b p))

theorem mem_lits {a b : List Int} {p x : Int} : x ∈ litsR a b p ↔ (x ∈ a ∨ x ∈ b) ∧ (x.natAbs : Int) ≠ p := by
 simp only [litsR, List.mem_filter, List.mem_append, decide_eq_true_eq]
theorem lits_rng {a b : List Int} {p x : Int} (ha : COk 200 a) (hb : COk 200 b) (h : x ∈ litsR a b p) : x ≠ 0 ∧ -200 ≤ x ∧ x ≤ 200 := by
 rcases (mem_lits.1 h).1 with h1 | h1
 ·exact ha.rng x h1
 ·exact hb.rng x h1
theorem pickV_abs {L : List Int} {v : Nat} {x : Int} (h : pickV L v = some x) : x.natAbs = v ∧ x ∈ L := by
 unfold pickV at h
 split at h
 ·cases h; exact ⟨by omega, by assumption⟩
 ·split at h
  ·cases h; exact ⟨by omega, by assumption⟩
  ·cases h
theorem outR_asc {L : List Int} : Asc (outR L) := by
 unfold outR
 refine List.pairwise_filterMap.2 ?_
 refine (List.pairwise_lt_range' (s := 1) (n := 200)).imp fun {u v} huv x hx y hy => ?_
 rw [(pickV_abs hx).1, (pickV_abs hy).1]; exact huv
theorem tautR_iff {L : List Int} : tautR L = true ↔ ∃ x ∈ L, -x ∈ L := by simp [tautR]
theorem mem_outR {L : List Int} (hr : ∀ x ∈ L, x ≠ 0 ∧ -200 ≤ x ∧ x ≤ 200) (ht : tautR L = false) {x : Int} : x ∈ outR L ↔ x ∈ L := by
 unfold outR
 rw [List.mem_filterMap]
 constructor
 ·rintro ⟨v, _, hv⟩; exact (pickV_abs hv).2
 ·intro hx
  have h1 := hr x hx
  refine ⟨x.natAbs, List.mem_range'_1.2 ⟨by omega, by omega⟩, ?_⟩
  have hno : ¬ (-x ∈ L) := fun h => by rw [tautR_iff.2 ⟨x, hx, h⟩] at ht; cases ht
  unfold pickV
  by_cases hp : 0 < x
  ·rw [show ((x.natAbs : Nat) : Int) = x by omega, if_pos hx]
  ·have e : ((x.natAbs : Nat) : Int) = -x := by omega
   rw [e, if_neg hno, Int.neg_neg, if_pos hx]

theorem ResolveP_true {a b : List Int} {p : Int} {c : List Int} (h : ResolveP a b p = (true, c)) :
  1 ≤ p ∧ COk 200 a ∧ COk 200 b ∧ p ∈ a ∧ -p ∈ b ∧ COk 200 c ∧ ∀ x, x ∈ c ↔ x ∈ litsR a b p := by
 unfold ResolveP at h
 split at h
 ·cases h
 ·rename_i h1
  simp only [not_or, Classical.not_not] at h1
  obtain ⟨q1, q2, q3, q4, q5⟩ := h1
  split at h
  ·cases h
  ·rename_i h2
   split at h
   ·cases h
   ·rename_i h3
    cases h
    have ha := clauseP_ok.1 q2
    have hb := clauseP_ok.1 q3
    have hm : ∀ x, x ∈ outR (litsR a b p) ↔ x ∈ litsR a b p := fun x => mem_outR (fun x hx => lits_rng ha hb hx) (by simpa using h2)
    exact ⟨by omega, ha, hb, q4, q5, ⟨by omega, fun x hx => lits_rng ha hb ((hm x).1 hx), outR_asc⟩, hm⟩
theorem ResolveP_some {a b : List Int} {p : Int} (hp : 1 ≤ p) (ha : COk 200 a) (hb : COk 200 b) (h1 : p ∈ a) (h2 : -p ∈ b) (ht : ∀ x ∈ litsR a b p, -x ∉ litsR a b p) (hl : (outR (litsR a b p)).length ≤ 50) :
  ResolveP a b p = (true, outR (litsR a b p)) := by
 unfold ResolveP
 rw [if_neg (by simp only [not_or, Classical.not_not]; exact ⟨by omega, clauseP_ok.2 ha, clauseP_ok.2 hb, h1, h2⟩)]
 have : tautR (litsR a b p) = false := by
  cases h : tautR (litsR a b p) with
  | false => rfl
  | true => obtain ⟨x, hx, hy⟩ := tautR_iff.1 h; exact absurd hy (ht x hx)
 rw [this, if_neg (by simp), if_neg (by omega)]

theorem Contains_plain {l : List Int} {x : Int} (hl : l.length ≤ 1000) : slices_Contains_int_int_m l x = some (decide (x ∈ l)) := by
 have h : T (slices_Index_int_int_m l x) fun r => 0 ≤ r ↔ x ∈ l := by
  unfold slices_Index_int_int_m
  refine T.bind (P := fun r => match r with | .inl r => 0 ≤ r ∧ x ∈ l | .inr _ => x ∉ l) (T.loopK l.length (fun k s => s = (k : Int) ∧ x ∉ l.take k) ⟨rfl, by simp⟩ fun k s hs => ?_) fun r hr => ?_
  ·obtain ⟨rfl, hn⟩ := hs
   unfold slices_Index_int_int_l1
   refine T.cond (fun h => ?_) fun h => .ret ?_
   ·simp only [decide_eq_true_eq] at h
    have hk : k < l.length := by omega
    rw [idxM_nat hk, iadd64 (by omega) (by omega)]
    simp only [Option.bind_some]
    refine T.cond (fun h2 => .ret ⟨by omega, ?_⟩) fun h2 => .ret ⟨hk, by omega, ?_⟩
    ·rw [eq_of_beq h2]; exact List.getElem_mem hk
    ·rw [← List.take_append_getElem hk, List.mem_append, List.mem_singleton]
     rintro (h3 | h3)
     ·exact hn h3
     ·subst h3; simp at h2
   ·simp only [decide_eq_false_iff_not] at h
    rw [List.take_of_length_le (by omega)] at hn
    exact hn
  ·match r, hr with
   | .inl r, hr => exact .ret ⟨fun _ => hr.2, fun _ => hr.1⟩
   | .inr u, hr => exact .ret ⟨fun h => by omega, fun h => absurd h hr⟩
 unfold slices_Contains_int_int_m
 obtain ⟨r, h1, h2⟩ := h
 rw [h1]
 simp only [Option.bind_some]
 by_cases hx : x ∈ l
 ·rw [decide_eq_true hx]; simp [h2.2 hx]
 ·rw [decide_eq_false hx]; have : ¬ 0 ≤ r := fun h => hx (h2.1 h); simp [this]

theorem Resolve_l1_plain {p : Int} {t out : List Int} (ht : t.length ≤ 50) (hr : ∀ x ∈ t, -200 ≤ x ∧ x ≤ 200) (ho : out.length ≤ 50) :
  loopC (proof_Resolve_l1 p t) (0, out) = some (out ++ t.filter fun x => decide ((x.natAbs : Int) ≠ p)) := by
 refine T.eq (T.loopK t.length (fun k s => s.1 = (k : Int) ∧ k ≤ t.length ∧ s.2 = out ++ (t.take k).filter fun x => decide ((x.natAbs : Int) ≠ p)) ⟨rfl, by omega, by simp⟩ fun k s hs => ?_)
 obtain ⟨i, o⟩ := s
 obtain ⟨e1, e2, e3⟩ := hs
 dsimp only at e1 e3
 subst e1
 unfold proof_Resolve_l1
 dsimp only
 have hol : o.length ≤ 50 + k := by
  rw [e3, List.length_append]
  have := List.length_filter_le (fun x : Int => decide ((x.natAbs : Int) ≠ p)) (t.take k)
  simp only [List.length_take] at this
  omega
 refine T.cond (fun h => ?_) fun h => .ret ?_
 ·simp only [decide_eq_true_eq] at h
  have hk : k < t.length := by omega
  have h1 := hr _ (List.getElem_mem hk)
  rw [idxM_nat hk, iadd64 (by omega) (by omega)]
  simp only [Option.bind_some]
  rw [abs_plain (by omega) (by omega)]
  simp only [Option.bind_some]
  have e4 : (t.take (k + 1)).filter (fun x => decide ((x.natAbs : Int) ≠ p)) = (t.take k).filter (fun x => decide ((x.natAbs : Int) ≠ p)) ++ if (t[k].natAbs : Int) ≠ p then [t[k]] else [] := by
   rw [← List.take_append_getElem hk, List.filter_append]
   congr 1
   by_cases h2 : (t[k].natAbs : Int) = p
   ·simp [h2]
   ·simp [h2]
  refine T.cond (fun h2 => ?_) fun h2 => .ret ⟨hk, by omega, by omega, ?_⟩
  ·rw [appM_eq (by simp; omega)]
   refine .ret ⟨hk, by dsimp only; omega, by omega, ?_⟩
   rw [e4, if_pos (by simpa using h2), e3, List.append_assoc]
  ·rw [e4, if_neg (by simpa using h2), e3, List.append_nil]
 ·simp only [decide_eq_false_iff_not] at h
  rw [List.take_of_length_le (by omega)] at e3
  exact e3

theorem Resolve_l2_plain {a b : List Int} {p : Int} (ha : COk 200 a) (hb : COk 200 b) : loopC (proof_Resolve_l2 a b p) (0, []) = some (litsR a b p) := by
 have ra : ∀ x ∈ a, -200 ≤ x ∧ x ≤ 200 := fun x hx => (ha.rng x hx).2
 have rb : ∀ x ∈ b, -200 ≤ x ∧ x ≤ 200 := fun x hx => (hb.rng x hx).2
 have fa : (a.filter fun x => decide ((x.natAbs : Int) ≠ p)).length ≤ 50 := Nat.le_trans (List.length_filter_le _ _) ha.len
 have s0 : proof_Resolve_l2 a b p (0, []) = some (.inr (1, a.filter fun x => decide ((x.natAbs : Int) ≠ p))) := by
  unfold proof_Resolve_l2
  dsimp only
  rw [show idxM [a, b] 0 = some a from rfl, Option.bind_some, Resolve_l1_plain ha.len ra (by simp)]
  rfl
 have s1 : proof_Resolve_l2 a b p (1, a.filter fun x => decide ((x.natAbs : Int) ≠ p)) = some (.inr (2, litsR a b p)) := by
  unfold proof_Resolve_l2
  dsimp only
  rw [show idxM [a, b] 1 = some b from rfl, Option.bind_some, Resolve_l1_plain hb.len rb fa, Option.bind_some, litsR, List.filter_append]
  rfl
 have s2 : proof_Resolve_l2 a b p (2, litsR a b p) = some (.inl (litsR a b p)) := rfl
 rw [loopC_eq, s0]; simp only [Option.bind_some]
 rw [loopC_eq, s1]; simp only [Option.bind_some]
 rw [loopC_eq, s2]; rfl

theorem Resolve_plain {a b : List Int} {p : Int} : proof_Resolve_m a b p = some (ResolveP a b p) := by
 unfold proof_Resolve_m ResolveP
 by_cases h1 : p < 1
 ·rw [if_pos (.inl h1), decide_eq_true h1]; rfl
 rw [decide_eq_false h1, cond_false, clause_plain (by omega) (by omega), Option.bind_some]
 by_cases h2 : clauseP 200 a = 0
 rotate_left
 ·rw [if_pos (.inr (.inl h2)), show (clauseP 200 a != 0) = true by simp [h2]]; rfl
 rw [h2, clause_plain (by omega) (by omega)]
 simp only [bne_self_eq_false, cond_false, Option.bind_some]
 by_cases h3 : clauseP 200 b = 0
 rotate_left
 ·rw [if_pos (.inr (.inr (.inl h3))), show (clauseP 200 b != 0) = true by simp [h3]]; rfl
 have ha := clauseP_ok.1 h2
 have hb := clauseP_ok.1 h3
 rw [h3, Contains_plain (by have := ha.len; omega)]
 simp only [bne_self_eq_false, cond_false, Option.bind_some]
 by_cases h4 : p ∈ a
 rotate_left
 ·rw [if_pos (.inr (.inr (.inr (.inl h4)))), decide_eq_false h4]; rfl
 have hp := ha.rng p h4
 rw [decide_eq_true h4, Contains_plain (by have := hb.len; omega), ineg64 (by omega) (by omega)]
 simp only [Bool.not_true, cond_false, Option.bind_some]
 by_cases h5 : -p ∈ b
 rotate_left
 ·rw [if_pos (.inr (.inr (.inr (.inr h5)))), decide_eq_false h5]; rfl
 rw [decide_eq_true h5, Resolve_l2_plain ha hb]
 simp only [Bool.not_true, cond_false, Option.bind_some]
 rw [if_neg (by simp only [not_or, Classical.not_not]; exact ⟨h1, trivial, trivial, h4, h5⟩)]
 have hlen : (litsR a b p).length ≤ 100 := by
  have := List.length_filter_le (fun x : Int => decide ((x.natAbs : Int) ≠ p)) (a ++ b)
  have := ha.len; have := hb.len
  simp only [List.length_append] at *
  unfold litsR; omega
 obtain ⟨S, e1, e2, e3⟩ := sort_R (l := litsR a b p) (by omega)
 rw [e1, Option.bind_some]
 have e4 : compactM S = some (Lib.compact S) := by unfold compactM; rw [if_pos (by rw [e2.length_eq]; omega)]
 rw [e4, Option.bind_some, clause_s1_eq, clause_plain (by omega) (by omega), Option.bind_some]
 have hmem : ∀ x, x ∈ Lib.compact S ↔ x ∈ litsR a b p := fun x => by rw [mem_compact, e2.mem_iff]
 have hpw := compact_rel ltR_trans e3
 have hrng : ∀ x ∈ litsR a b p, x ≠ 0 ∧ -200 ≤ x ∧ x ≤ 200 := fun x hx => lits_rng ha hb hx
 by_cases ht : tautR (litsR a b p) = true
 ·rw [if_pos ht]
  obtain ⟨x, hx, hy⟩ := tautR_iff.1 ht
  have hnz := (hrng x hx).1
  have : clauseP 200 (Lib.compact S) ≠ 0 := fun h => by
   have hA := (clauseP_ok.1 h).asc
   have hne : x ≠ -x := by omega
   obtain ⟨i, hi, ei⟩ := List.getElem_of_mem ((hmem x).2 hx)
   obtain ⟨j, hj, ej⟩ := List.getElem_of_mem ((hmem (-x)).2 hy)
   have hij : i ≠ j := fun e => by subst e; omega
   rcases Nat.lt_or_gt_of_ne hij with q | q
   ·have := List.pairwise_iff_getElem.1 hA i j hi hj q; rw [ei, ej] at this; omega
   ·have := List.pairwise_iff_getElem.1 hA j i hj hi q; rw [ei, ej] at this; omega
  rw [show (clauseP 200 (Lib.compact S) != 0) = true by simp [this]]; rfl
 ·rw [if_neg ht]
  have ht' : tautR (litsR a b p) = false := by simpa using ht
  have hA : Asc (Lib.compact S) := by
   refine hpw.imp_of_mem fun {x y} hx hy hlt => ?_
   have hx' := (hmem x).1 hx
   have hy' := (hmem y).1 hy
   have q1 := hrng x hx'
   have q2 := hrng y hy'
   unfold ltR at hlt
   rw [absW_eq (by omega) (by omega), absW_eq (by omega) (by omega)] at hlt
   rcases hlt with hlt | ⟨hlt, hxy⟩
   ·omega
   ·have : y = -x := by omega
    subst this
    rw [tautR_iff.2 ⟨x, hx', hy'⟩] at ht'; cases ht'
  have he : Lib.compact S = outR (litsR a b p) := asc_ext hA outR_asc fun x => by rw [hmem x, mem_outR hrng ht']
  rw [he] at hA hmem ⊢
  by_cases hl : 50 < (outR (litsR a b p)).length
  ·rw [if_pos hl]
   have : clauseP 200 (outR (litsR a b p)) = 2 := by unfold clauseP; rw [if_pos hl]
   rw [this]; rfl
  ·rw [if_neg hl]
   have : clauseP 200 (outR (litsR a b p)) = 0 := clauseP_ok.2 ⟨by omega, fun x hx => hrng x ((hmem x).1 hx), hA⟩
   rw [this]; rfl
end Go.Dc

set_option maxHeartbeats 1000000
namespace Go.Dc


theorem litT_neg {m : List Bool} {x : Int} (h : x ≠ 0) : litT m (-x) = !litT m x := by
 unfold litT
 rw [Int.natAbs_neg]
 have : decide (-x > 0) = !decide (x > 0) := by
  by_cases h1 : x > 0
  ·simp [h1]; omega
  ·simp [h1]; omega
 rw [this]
 cases m.getD (x.natAbs - 1) false <;> cases decide (x > 0) <;> rfl

theorem res_sound {a b c : List Int} {p : Int} {m : List Bool} (h : ResolveP a b p = (true, c)) (ha : a.any (litT m) = true) (hb : b.any (litT m) = true) : c.any (litT m) = true := by
 obtain ⟨h1, h2, h3, h4, h5, h6, h7⟩ := ResolveP_true h
 obtain ⟨x, hx, hxt⟩ := List.any_eq_true.1 ha
 obtain ⟨y, hy, hyt⟩ := List.any_eq_true.1 hb
 by_cases e1 : (x.natAbs : Int) = p
 ·by_cases e2 : (y.natAbs : Int) = p
  · -- x = p (a has no -p beside p), y = -p
   have ux : x = p := by
    by_cases e : x = p
    ·exact e
    ·obtain ⟨i, hi, ei⟩ := List.getElem_of_mem hx
     obtain ⟨j, hj, ej⟩ := List.getElem_of_mem h4
     have hij : i ≠ j := fun q => by subst q; rw [ei] at ej; exact absurd ej e
     rcases Nat.lt_or_gt_of_ne hij with q | q
     ·have := List.pairwise_iff_getElem.1 h2.asc i j hi hj q; rw [ei, ej] at this; omega
     ·have := List.pairwise_iff_getElem.1 h2.asc j i hj hi q; rw [ei, ej] at this; omega
   have uy : y = -p := by
    by_cases e : y = -p
    ·exact e
    ·obtain ⟨i, hi, ei⟩ := List.getElem_of_mem hy
     obtain ⟨j, hj, ej⟩ := List.getElem_of_mem h5
     have hij : i ≠ j := fun q => by subst q; rw [ei] at ej; exact absurd ej e
     rcases Nat.lt_or_gt_of_ne hij with q | q
     ·have := List.pairwise_iff_getElem.1 h3.asc i j hi hj q; rw [ei, ej] at this; omega
     ·have := List.pairwise_iff_getElem.1 h3.asc j i hj hi q; rw [ei, ej] at this; omega
   subst ux; subst uy
   rw [litT_neg (by omega), hxt] at hyt
   cases hyt
  ·exact List.any_eq_true.2 ⟨y, (h7 y).2 (mem_lits.2 ⟨.inr hy, e2⟩), hyt⟩
 ·exact List.any_eq_true.2 ⟨x, (h7 x).2 (mem_lits.2 ⟨.inl hx, e1⟩), hxt⟩


def satP (l : List (List Int)) (m : List Bool) : Bool := l.all fun c => c.any (litT m)
def stepP (all : List (List Int)) (s : T_api_Step) : Option (List (List Int)) :=
 if s.Left < 0 ∨ (all.length : Int) ≤ s.Left ∨ s.Right < 0 ∨ (all.length : Int) ≤ s.Right then none else
 if (ResolveP (all.getD s.Left.toNat []) (all.getD s.Right.toNat []) s.Pivot).1 = true then some (all ++ [(ResolveP (all.getD s.Left.toNat []) (all.getD s.Right.toNat []) s.Pivot).2]) else none
def runP : List (List Int) → List T_api_Step → Option (List (List Int))
 | all, [] => some all
 | all, s :: r => (stepP all s).bind fun a => runP a r
def refP (l : List (List Int)) (steps : List T_api_Step) : Bool := match runP l steps with
 | none => false
 | some all => if steps = [] then l.any List.isEmpty else (all.getD (all.length - 1) [1]).isEmpty
def CheckP (n : Int) (l : List (List Int)) (x : T_api_Answer) : Int :=
 if ValidP n l ≠ 0 then ValidP n l else
 if x.Sat = true then (if x.Steps ≠ [] ∨ (x.Model.length : Int) ≠ n then 4 else if satP l x.Model = true then 0 else 11) else
 if x.Model ≠ [] then 4 else if 20000 < x.Steps.length then 2 else if refP l x.Steps = true then 0 else 11

theorem stepP_len {all : List (List Int)} {s : T_api_Step} {a : List (List Int)} (h : stepP all s = some a) : a.length = all.length + 1 := by
 unfold stepP at h
 split at h
 ·cases h
 ·split at h
  ·cases h; simp
  ·cases h
theorem runP_len : ∀ {steps : List T_api_Step} {all a : List (List Int)}, runP all steps = some a → a.length = all.length + steps.length
 | [], all, a, h => by cases h; simp
 | s :: r, all, a, h => by
  simp only [runP, Option.bind_eq_some_iff] at h
  obtain ⟨b, h1, h2⟩ := h
  have := stepP_len h1
  have := runP_len h2
  simp; omega
theorem runP_app : ∀ {x y : List T_api_Step} {all : List (List Int)}, runP all (x ++ y) = (runP all x).bind fun a => runP a y
 | [], y, all => rfl
 | s :: r, y, all => by
  simp only [List.cons_append, runP, Option.bind_assoc]
  cases stepP all s with
  | none => rfl
  | some a => simp only [Option.bind_some]; exact runP_app
theorem runP_snoc {l all : List (List Int)} {steps : List T_api_Step} {k : Nat} (hk : k < steps.length) (h : runP l (steps.take k) = some all) : runP l (steps.take (k + 1)) = stepP all steps[k] := by
 rw [← List.take_append_getElem hk, runP_app, h]
 simp only [Option.bind_some, runP]
 cases stepP all steps[k] <;> rfl
theorem runP_none {l : List (List Int)} {steps : List T_api_Step} {k : Nat} (hk : k ≤ steps.length) (h : runP l (steps.take k) = none) : runP l steps = none := by
 rw [← List.take_append_drop k steps, runP_app, h]; rfl

theorem stepP_of {all : List (List Int)} {s : T_api_Step} (h0 : 0 ≤ s.Left) (h1 : s.Left < all.length) (h2 : 0 ≤ s.Right) (h3 : s.Right < all.length) :
  stepP all s = if (ResolveP (all.getD s.Left.toNat []) (all.getD s.Right.toNat []) s.Pivot).1 = true then some (all ++ [(ResolveP (all.getD s.Left.toNat []) (all.getD s.Right.toNat []) s.Pivot).2]) else none := by
 unfold stepP; rw [if_neg (by omega)]

theorem satisfied_1_plain {x : Int} {m : List Bool} (h0 : x ≠ 0) (h : (x.natAbs : Int) ≤ m.length) (hm : m.length ≤ 1000) : proof_satisfied_1_m x m = some (litT m x) := by
 unfold proof_satisfied_1_m
 rw [abs_plain (by omega) (by omega), some_bind, isub64 (by omega) (by omega), show (x.natAbs : Int) - 1 = ((x.natAbs - 1 : Nat) : Int) by omega, idxM_getD (z := false) (by omega), some_bind]
 rfl
theorem cont_of {r : Int} {b : Bool} (h : 0 ≤ r ↔ b = true) : (some r).bind (fun t1 => some (decide (t1 ≥ 0))) = some b := by
 cases b with
 | true => simp; exact h.2 rfl
 | false => simp; exact Int.lt_of_not_ge fun h1 => by have := h.1 h1; cases this
theorem indexf_loop {α : Type} {l : List α} {p : α → Bool} {f : Int → Option (Sum (Sum Int Unit) Int)} (hf : ∀ i (hi : i < l.length), f (i : Int) = some (bif p l[i] then .inl (.inl (i : Int)) else .inr ((i : Int) + 1)))
  (he : f (l.length : Int) = some (.inl (.inr ()))) : T ((loopC f 0).bind (sumK (fun a : Int => some a) fun _ : Unit => some (-1))) fun r => 0 ≤ r ↔ l.any p = true := by
 refine T.bind (P := fun r => match r with | .inl r => 0 ≤ r ∧ l.any p = true | .inr _ => l.any p = false) (T.loopK l.length (fun k s => s = (k : Int) ∧ k ≤ l.length ∧ (l.take k).any p = false) ⟨rfl, by omega, by simp⟩ ?_) fun r hr => ?_
 ·rintro k _ ⟨rfl, hk, hn⟩
  by_cases hk2 : k < l.length
  ·rw [hf k hk2]
   refine .ret ?_
   cases hp : p l[k] with
   | true => exact ⟨by omega, List.any_eq_true.2 ⟨_, List.getElem_mem hk2, hp⟩⟩
   | false =>
    refine ⟨hk2, by omega, hk2, ?_⟩
    rw [← List.take_append_getElem hk2, List.any_append, hn]; simp [hp]
  ·have : k = l.length := by omega
   subst this
   rw [he]
   refine .ret ?_
   rw [List.take_length] at hn; exact hn
 ·match r, hr with
  | .inl r, hr => exact .ret ⟨fun _ => hr.2, fun _ => hr.1⟩
  | .inr u, hr => exact .ret ⟨fun h => by omega, fun h => by rw [hr] at h; cases h⟩

theorem contF_plain {c : List Int} {m : List Bool} (hc : c.length ≤ 1000) (hr : ∀ x ∈ c, x ≠ 0 ∧ (x.natAbs : Int) ≤ m.length) (hm : m.length ≤ 1000) : slices_ContainsFunc_int_int_s3_m c m = some (c.any (litT m)) := by
 unfold slices_ContainsFunc_int_int_s3_m
 have h : T (slices_IndexFunc_int_int_s5_m c m) fun r => 0 ≤ r ↔ c.any (litT m) = true := by
  unfold slices_IndexFunc_int_int_s5_m
  refine indexf_loop (l := c) (fun i hi => ?_) ?_
  ·have h1 := hr _ (List.getElem_mem hi)
   unfold slices_IndexFunc_int_int_s5_l1
   rw [show decide ((i : Int) < (c.length : Int)) = true by simp [hi], cond_true, idxM_nat hi, iadd64 (by omega) (by omega)]
   simp only [Option.bind_some]
   rw [satisfied_1_plain h1.1 h1.2 hm, some_bind]
   cases litT m c[i] <;> rfl
  ·unfold slices_IndexFunc_int_int_s5_l1; simp
 obtain ⟨r, h1, h2⟩ := h
 rw [h1]; exact cont_of h2
theorem contE_plain {l : List (List Int)} (hl : l.length ≤ 4000) : slices_ContainsFunc_int_int_s1__m l = some (l.any List.isEmpty) := by
 unfold slices_ContainsFunc_int_int_s1__m
 have h : T (slices_IndexFunc_int_int_s1__m l) fun r => 0 ≤ r ↔ l.any List.isEmpty = true := by
  unfold slices_IndexFunc_int_int_s1__m
  refine indexf_loop (l := l) (fun i hi => ?_) ?_
  ·unfold slices_IndexFunc_int_int_s1__l1 proof_refuted_1_m
   rw [show decide ((i : Int) < (l.length : Int)) = true by simp [hi], cond_true, idxM_nat hi, iadd64 (by omega) (by omega)]
   simp only [Option.bind_some]
   cases hq : l[i] with
   | nil => simp
   | cons y ys => simp; rw [show ((ys.length : Int) + 1 == 0) = false from beq_false_of_ne (by omega)]; rfl
  ·unfold slices_IndexFunc_int_int_s1__l1; simp
 obtain ⟨r, h1, h2⟩ := h
 rw [h1]; exact cont_of h2
theorem imin_lt {a b : Int} : imin a b < 0 ↔ a < 0 ∨ b < 0 := by unfold imin; split <;> omega
theorem imax_ge {a b c : Int} : imax a b ≥ c ↔ c ≤ a ∨ c ≤ b := by unfold imax; split <;> omega

theorem run_plain {l : List (List Int)} {steps : List T_api_Step} (hl : l.length ≤ 4000) (hs : steps.length ≤ 20000) :
  loopC (proof_refuted_s1_l1 steps) (0, l) = some (match runP l steps with | none => .inl false | some a => .inr a) := by
 refine T.eq (T.loopK steps.length (fun k s => s.1 = (k : Int) ∧ k ≤ steps.length ∧ runP l (steps.take k) = some s.2) ⟨rfl, by omega, rfl⟩ ?_)
 rintro k ⟨i, all⟩ ⟨e, hk, hI⟩
 dsimp only at e hI
 subst e
 have hal := runP_len hI
 simp only [List.length_take] at hal
 unfold proof_refuted_s1_l1
 dsimp only
 refine T.cond (fun h => ?_) fun h => .ret ?_
 ·have hk2 : k < steps.length := by simpa using h
  rw [idxM_nat hk2, some_bind, iadd1 (by omega)]
  have hsn := runP_snoc hk2 hI
  generalize steps[k] = s at hsn ⊢
  have bad : stepP all s = none → T (some (Sum.inl (Sum.inl false)) : Option (Sum (Sum Bool (List (List Int))) (Int × List (List Int)))) (onO (fun o => o = match runP l steps with | none => .inl false | some a => .inr a) fun s' => k < steps.length ∧ s'.1 = ((k + 1 : Nat) : Int) ∧ k + 1 ≤ steps.length ∧ runP l (steps.take (k + 1)) = some s'.2) := fun hn => by
   refine .ret ?_
   rw [hn] at hsn
   show _ = _
   rw [runP_none (by omega) hsn]
  refine T.cond (fun h1 => bad ?_) fun h1 => T.cond (fun h2 => bad ?_) fun h2 => ?_
  ·have := imin_lt.1 (of_decide_eq_true h1); unfold stepP; rw [if_pos (by omega)]
  ·have := imax_ge.1 (of_decide_eq_true h2); unfold stepP; rw [if_pos (by omega)]
  have h1 : ¬ (s.Left < 0 ∨ s.Right < 0) := fun h => of_decide_eq_false h1 (imin_lt.2 h)
  have h2 : ¬ ((all.length : Int) ≤ s.Left ∨ (all.length : Int) ≤ s.Right) := fun h => of_decide_eq_false h2 (imax_ge.2 h)
  rw [idxM_getD' [] (by omega) (by omega), some_bind, idxM_getD' [] (by omega) (by omega), some_bind, Resolve_plain, some_bind]
  have hst := stepP_of (all := all) (s := s) (by omega) (by omega) (by omega) (by omega)
  refine T.cond (fun h5 => bad ?_) fun h5 => ?_
  ·rw [hst, if_neg (by simpa using h5)]
  ·rw [hst, if_pos (by simpa using h5)] at hsn
   rw [appM_eq (by simp; omega), some_bind]
   exact .ret ⟨hk2, rfl, hk2, hsn⟩
 ·have : k = steps.length := by simp at h; omega
  subst this
  rw [List.take_length] at hI
  show _ = _
  rw [hI]

theorem refuted_plain {l : List (List Int)} {steps : List T_api_Step} (hl : l.length ≤ 4000) (hs : steps.length ≤ 20000) : proof_refuted_s1_m l steps = some (refP l steps) := by
 unfold proof_refuted_s1_m refP
 by_cases h3 : steps = []
 ·rw [h3, show ((([] : List T_api_Step).length : Int) == 0) = true from rfl, cond_true, contE_plain hl]
  rfl
 ·have hp := List.length_pos_iff.2 h3
  rw [show ((steps.length : Int) == 0) = false from beq_false_of_ne (by omega), cond_false]
  unfold slices_Clone_int_int_m
  rw [appM_eq (by simp; omega), some_bind, List.nil_append, run_plain hl hs]
  simp only [Option.bind_some]
  cases hr : runP l steps with
  | none => rfl
  | some a =>
   have hal := runP_len hr
   simp only [sumK_inr]
   rw [if_neg h3, isub64 (by omega) (by omega), show (a.length : Int) - 1 = ((a.length - 1 : Nat) : Int) by omega, idxM_getD (z := [1]) (by omega), some_bind]
   cases a.getD (a.length - 1) [1] with
   | nil => rfl
   | cons y ys => simp; omega

theorem satisfied_plain {n : Int} {l : List (List Int)} {m : List Bool} (hlen : l.length ≤ 4000) (hcl : ∀ c ∈ l, COk n c) (hm : (m.length : Int) = n) (hn : n ≤ 200) : proof_satisfied_s1_m l m = some (satP l m) := by
 unfold proof_satisfied_s1_m
 rw [find_bind (l := l) (fun c => if c.any (litT m) = true then none else some false) (fun i hi => by
  have hc := hcl _ (List.getElem_mem hi)
  unfold proof_satisfied_s1_l1
  rw [show decide ((i : Int) < (l.length : Int)) = true by simp [hi], cond_true, idxM_nat hi, iadd64 (by omega) (by omega)]
  simp only [Option.bind_some]
  rw [contF_plain (by have := hc.len; omega) (fun x hx => by have := hc.rng x hx; omega) (by omega), some_bind]
  cases l[i].any (litT m) <;> rfl) (by unfold proof_satisfied_s1_l1; simp)]
 unfold satP
 by_cases h3 : (l.all fun c => c.any (litT m)) = true
 ·rw [h3]
  have : (l.findSome? fun c => if c.any (litT m) = true then none else some false) = none := by
   rw [List.findSome?_eq_none_iff]; intro c hc; rw [if_pos (List.all_eq_true.1 h3 c hc)]
  rw [this]
 ·have h3' : (l.all fun c => c.any (litT m)) = false := by simpa using h3
  rw [h3']
  obtain ⟨c, hc, hc2⟩ := List.all_eq_false.1 h3'
  cases hf : (l.findSome? fun c => if c.any (litT m) = true then none else some false) with
  | none => rw [List.findSome?_eq_none_iff] at hf; have := hf c hc; rw [if_neg hc2] at this; cases this
  | some r =>
   obtain ⟨y, _, hy⟩ := List.exists_of_findSome?_eq_some hf
   split at hy
   ·cases hy
   ·cases hy; rfl

theorem Check_plain {n : Int} {l : List (List Int)} {x : T_api_Answer} : proof_Check_s1_m n l x = some (CheckP n l x) := by
 unfold proof_Check_s1_m CheckP
 rw [Validate_plain, some_bind]
 by_cases hv : ValidP n l = 0
 rotate_left
 ·rw [if_pos hv, show (ValidP n l != 0) = true by simp [hv]]; rfl
 rw [if_neg (by simp [hv]), hv, bne_self_eq_false, cond_false]
 obtain ⟨n0, n1, hlen, hcl⟩ := ValidP_ok.1 hv
 cases hS : x.Sat with
 | true =>
  rw [cond_true, if_pos rfl]
  simp only [joinM_eq]
  by_cases h1 : x.Steps = []
  rotate_left
  ·rw [if_pos (.inl h1), show decide ((x.Steps.length : Int) > 0) = true by simp; exact List.length_pos_iff.2 h1]; rfl
  rw [h1, show decide ((([] : List T_api_Step).length : Int) > 0) = false by simp, cond_false]
  by_cases h2 : (x.Model.length : Int) = n
  rotate_left
  ·rw [if_pos (.inr h2), show ((x.Model.length : Int) != n) = true by simp [h2]]; rfl
  rw [if_neg (by simp [h2]), show ((x.Model.length : Int) != n) = false by simp [h2], cond_false, satisfied_plain hlen hcl h2 n1, some_bind]
  cases satP l x.Model <;> rfl
 | false =>
  rw [cond_false, if_neg (by simp)]
  by_cases h1 : x.Model = []
  rotate_left
  ·rw [if_pos h1, show decide ((x.Model.length : Int) > 0) = true by simp; exact List.length_pos_iff.2 h1]; rfl
  rw [if_neg (by simp [h1]), h1, show decide ((([] : List Bool).length : Int) > 0) = false by simp, cond_false]
  by_cases h2 : 20000 < x.Steps.length
  ·rw [if_pos h2, show decide ((x.Steps.length : Int) > 20000) = true by simp; omega]; rfl
  rw [if_neg h2, show decide ((x.Steps.length : Int) > 20000) = false by simp; omega, cond_false, refuted_plain hlen (by omega), some_bind]
  cases refP l x.Steps <;> rfl

theorem refP_sound {l : List (List Int)} {steps : List T_api_Step} {m : List Bool} (h : refP l steps = true) : satP l m = false := by
 cases hs : satP l m with
 | false => rfl
 | true =>
  exfalso
  have hall : ∀ (st : List T_api_Step) (all a : List (List Int)), (∀ c ∈ all, c.any (litT m) = true) → runP all st = some a → ∀ c ∈ a, c.any (litT m) = true := by
   intro st
   induction st with
   | nil => intro all a h1 h2; cases h2; exact h1
   | cons s r ih =>
    intro all a h1 h2
    simp only [runP, Option.bind_eq_some_iff] at h2
    obtain ⟨b, h3, h4⟩ := h2
    refine ih b a ?_ h4
    unfold stepP at h3
    split at h3
    ·cases h3
    ·rename_i hn
     split at h3
     ·rename_i hr
      cases h3
      intro c hc
      rcases List.mem_append.1 hc with h5 | h5
      ·exact h1 c h5
      ·rw [List.mem_singleton.1 h5]
       have mem : ∀ i : Int, ¬ i < 0 → ¬ (all.length : Int) ≤ i → all.getD i.toNat [] ∈ all := fun i h6 h7 => by
        have : i.toNat < all.length := by omega
        simp only [List.getD, List.getElem?_eq_getElem this, Option.getD_some]; exact List.getElem_mem this
       exact res_sound (p := s.Pivot) (a := all.getD s.Left.toNat []) (b := all.getD s.Right.toNat []) (by rw [← hr]) (h1 _ (mem _ (by omega) (by omega))) (h1 _ (mem _ (by omega) (by omega)))
     ·cases h3
  unfold refP at h
  cases hr : runP l steps with
  | none => rw [hr] at h; cases h
  | some a =>
   rw [hr] at h
   have hA := hall steps l a (fun c hc => List.all_eq_true.1 hs c hc) hr
   have hal := runP_len hr
   simp only at h
   by_cases h3 : steps = []
   ·rw [if_pos h3] at h
    obtain ⟨c, hc, he⟩ := List.any_eq_true.1 h
    have := List.all_eq_true.1 hs c hc
    rw [List.isEmpty_iff.1 he] at this; simp at this
   ·rw [if_neg h3] at h
    have hp := List.length_pos_iff.2 h3
    have hlt : a.length - 1 < a.length := by omega
    have hm : a.getD (a.length - 1) [1] ∈ a := by
     simp only [List.getD, List.getElem?_eq_getElem hlt, Option.getD_some]; exact List.getElem_mem hlt
    have := hA _ hm
    rw [List.isEmpty_iff.1 h] at this; simp at this
end Go.Dc

namespace Go.Dc
open Go.Proofs Go.Sort

theorem Valid_1_plain {x : Int} : labelling_Valid_1_m x = some (decide (¬ (1 ≤ x ∧ x ≤ 3))) := by
 unfold labelling_Valid_1_m
 by_cases h1 : x = 1
 ·subst h1; rfl
 ·by_cases h2 : x = 2
  ·subst h2; rfl
  ·by_cases h3 : x = 3
   ·subst h3; rfl
   ·rw [show (x != 1) = true by simp [h1], show (x != 2) = true by simp [h2], show (x != 3) = true by simp [h3]]
    simp only [cond_true]
    congr 1
    rw [eq_comm, decide_eq_true_iff]; omega
def badL (y : List Int) : Bool := y.any fun x => decide (¬ (1 ≤ x ∧ x ≤ 3))
theorem contV_plain {y : List Int} (hl : y.length ≤ 1000000) : slices_ContainsFunc_int_int_m y = some (badL y) := by
 unfold slices_ContainsFunc_int_int_m
 have h : T (slices_IndexFunc_int_int_s2_m y) fun r => 0 ≤ r ↔ badL y = true := by
  unfold slices_IndexFunc_int_int_s2_m
  refine indexf_loop (l := y) (fun i hi => ?_) ?_
  ·unfold slices_IndexFunc_int_int_s2_l1
   rw [show decide ((i : Int) < (y.length : Int)) = true by simp [hi], cond_true, idxM_nat hi, iadd64 (by omega) (by omega)]
   simp only [Option.bind_some]
   rw [Valid_1_plain, some_bind]
   cases decide (¬ (1 ≤ y[i] ∧ y[i] ≤ 3)) <;> rfl
  ·unfold slices_IndexFunc_int_int_s2_l1; simp
 obtain ⟨r, h1, h2⟩ := h
 rw [h1]; exact cont_of h2
theorem lok_iff {N : Nat} {y : List Int} : LOk N y ↔ y.length = N ∧ badL y = false := by
 unfold badL
 constructor
 ·intro h
  refine ⟨h.len, ?_⟩
  rw [List.any_eq_false]
  intro x hx; have := h.rng x hx; simpa using this
 ·rintro ⟨h1, h2⟩
  refine ⟨h1, fun x hx => ?_⟩
  rw [List.any_eq_false] at h2
  have := h2 x hx; simpa using this
theorem LValid_plain {g : T_api_Graph} (h0 : 0 ≤ g.N) {y : List Int} (hl : y.length ≤ 1000000) : T (labelling_Valid_m g y) fun b => b = true ↔ LOk g.N.toNat y := by
 unfold labelling_Valid_m
 refine T.cond (fun c => ?_) fun c => .ret ?_
 ·have e : (y.length : Int) = g.N := eq_of_beq c
  rw [contV_plain hl, some_bind]
  refine .ret ?_
  rw [lok_iff]
  cases badL y <;> simp <;> omega
 ·have e : ¬ (y.length : Int) = g.N := fun e => by rw [e] at c; simp at c
  constructor
  ·intro h; cases h
  ·intro h; have := h.len; exact absurd (by omega) e

theorem llegal_plain {g : T_api_Graph} (h : GVal g) (hg : g.L.length ≤ 100000) {y : List Int} (hy : LOk g.N.toNat y) {i : Nat} (hi : i < g.N.toNat) : labelling_legal_m g y (i : Int) = some (legalP g y i) := by
 have hl := hy.len; have hn1 := h.n1; have hal := attsP_len h (i := (i : Int))
 unfold labelling_legal_m
 rw [gAttackers_plain h hg (by omega), some_bind]
 have : T (loopC (labelling_legal_l1 y (attsP g i)) (0, 0, 0, 0, 0)) fun q => q.2.2.1 = (((attsP g i).countP (fun a => uOf y a == 2) : Nat) : Int) ∧ q.2.1 = (((attsP g i).countP (fun a => uOf y a == 1) : Nat) : Int) := by
  refine T.loopK (attsP g i).length (fun k s => k ≤ (attsP g i).length ∧ s.1 = (k : Int) ∧ 0 ≤ s.2.1 ∧ s.2.1 ≤ (k : Int) ∧ s.2.2.1 = ((((attsP g i).take k).countP (fun a => uOf y a == 1) : Nat) : Int) ∧ s.2.2.2.1 = ((((attsP g i).take k).countP (fun a => uOf y a == 2) : Nat) : Int) ∧ 0 ≤ s.2.2.2.2 ∧ s.2.2.2.2 ≤ (k : Int)) ⟨by omega, rfl, by simp, by simp, by simp, by simp, by simp, by simp⟩ ?_
  rintro k ⟨_, c0, c1, c2, c3⟩ ⟨hk, rfl, p0, p1, p2, p3, p4, p5⟩
  dsimp only at p0 p1 p2 p3 p4 p5
  dsimp only [labelling_legal_l1]
  refine T.cond (fun c => ?_) fun c => ?_
  ·have hk2 : k < (attsP g i).length := by simpa using c
   have hr := attsP_rng h _ (List.getElem_mem hk2)
   obtain ⟨a, ha⟩ : ∃ a : Nat, (attsP g i)[k] = (a : Int) := ⟨((attsP g i)[k]).toNat, by omega⟩
   have hu : idxM y (attsP g i)[k] = some (uOf y (attsP g i)[k]) := by
    rw [ha]; unfold uOf; rw [Int.toNat_natCast]; exact idx_sf (by omega)
   have hv : uOf y (attsP g i)[k] = 1 ∨ uOf y (attsP g i)[k] = 2 ∨ uOf y (attsP g i)[k] = 3 := by
    rw [ha]; unfold uOf; rw [Int.toNat_natCast]; exact hy.at (by omega)
   have ht : ∀ p : Int → Bool, ((attsP g i).take (k + 1)).countP p = ((attsP g i).take k).countP p + if p (attsP g i)[k] then 1 else 0 := fun p => by
    rw [List.take_add_one, List.getElem?_eq_getElem hk2, Option.toList_some, List.countP_append, List.countP_singleton]
   have b1 : ∀ p : Int → Bool, ((attsP g i).take k).countP p ≤ 40 := fun p => by
    have h1 := List.countP_le_length (p := p) (l := (attsP g i).take k); simp at h1; omega
   have a1 := b1 fun a => uOf y a == 1; have a2 := b1 fun a => uOf y a == 2
   rw [idxM_nat hk2, some_bind, hu, some_bind, iadd1 (by omega), p2, p3, iadd1 (by omega), iadd1 (by omega), iadd64 (x := c0) (by omega) (by omega), iadd64 (x := c3) (by omega) (by omega)]
   rcases hv with e | e | e
   ·rw [e]
    refine .ret ⟨hk2, hk2, rfl, p0, by simp only; omega, ?_, ?_, p4, by simp only; omega⟩
    ·simp only; rw [ht, e]; simp
    ·simp only; rw [ht, e]; simp
   ·rw [e]
    refine .ret ⟨hk2, hk2, rfl, p0, by simp only; omega, ?_, ?_, p4, by simp only; omega⟩
    ·simp only; rw [ht, e]; simp
    ·simp only; rw [ht, e]; simp
   ·rw [e]
    refine .ret ⟨hk2, hk2, rfl, p0, by simp only; omega, ?_, ?_, by simp only; omega, by simp only; omega⟩
    ·simp only; rw [ht, e]; simp
    ·simp only; rw [ht, e]; simp
  ·have e : k = (attsP g i).length := by have : ¬ (k : Int) < (attsP g i).length := of_decide_eq_false c; omega
   subst e
   rw [List.take_length] at p2 p3
   exact .ret ⟨p3, p2⟩
 obtain ⟨⟨q0, q1, q2, q3⟩, e, f1, f2⟩ := this
 dsimp only at f1 f2
 subst f1; subst f2
 rw [e, some_bind, idx_sf (by omega), some_bind]
 dsimp only
 unfold legalP
 have all2 : ((((attsP g i).countP (fun a => uOf y a == 2) : Nat) : Int) == ((attsP g i).length : Int)) = (attsP g i).all fun a => uOf y a == 2 := by
  rw [Bool.eq_iff_iff, beq_iff_eq, List.all_eq_true]
  constructor
  ·intro h1; exact List.countP_eq_length.1 (by omega)
  ·intro h1; rw [List.countP_eq_length.2 h1]
 have any1 : decide ((((attsP g i).countP (fun a => uOf y a == 1) : Nat) : Int) > 0) = (attsP g i).any fun a => uOf y a == 1 := by
  rw [Bool.eq_iff_iff, decide_eq_true_iff, List.any_eq_true]
  constructor
  ·intro h1; exact List.countP_pos_iff.1 (by omega)
  ·intro h1; have := List.countP_pos_iff.2 h1; omega
 rcases hy.at hi with e | e | e
 ·rw [e, if_pos rfl, show ((1 : Int) == 1) = true from rfl, cond_true, all2]
 ·rw [e, if_neg (by omega), if_pos rfl, show ((2 : Int) == 1) = false from rfl, cond_false, show ((2 : Int) == 2) = true from rfl, cond_true, any1]
 ·rw [e, if_neg (by omega), if_neg (by omega), show ((3 : Int) == 1) = false from rfl, cond_false, show ((3 : Int) == 2) = false from rfl, cond_false]
  have z1 : ((((attsP g i).countP (fun a => uOf y a == 1) : Nat) : Int) == 0) = !((attsP g i).any fun a => uOf y a == 1) := by
   rw [← any1, Bool.eq_iff_iff]; simp
  have z2 : decide ((((attsP g i).countP (fun a => uOf y a == 2) : Nat) : Int) < ((attsP g i).length : Int)) = !((attsP g i).all fun a => uOf y a == 2) := by
   rw [← all2, Bool.eq_iff_iff]
   have := List.countP_le_length (p := fun a => uOf y a == 2) (l := attsP g i)
   simp; omega
  rw [z1, z2]
  cases !((attsP g i).any fun a => uOf y a == 1) <;> cases !((attsP g i).all fun a => uOf y a == 2) <;> rfl

theorem LComplete_plain {g : T_api_Graph} (h : GVal g) (hg : g.L.length ≤ 100000) {y : List Int} (hl : y.length ≤ 1000000) : T (labelling_IsComplete_m g y) fun b => b = true ↔ LOk g.N.toNat y ∧ compP g y = true := by
 have hn0 := h.n0; have hn1 := h.n1
 obtain ⟨b, eb, hb⟩ := LValid_plain hn0 hl (y := y)
 unfold labelling_IsComplete_m labelling_Illegal_m
 rw [eb, some_bind]
 refine T.cond (fun c => ?_) fun c => .ret ⟨fun h => (by cases h), fun h => by rw [hb.2 h.1] at c; cases c⟩
 have hy := hb.1 c
 have hyl := hy.len
 rw [some_bind, c, show (!true) = false from rfl, cond_false]
 have hI : T (loopC (labelling_Illegal_l1 g y) (0, [])) fun r => (r.length = 0 ↔ compP g y = true) := by
  refine T.loopK g.N.toNat (fun k s => k ≤ g.N.toNat ∧ s.1 = (k : Int) ∧ s.2.length ≤ k ∧ (s.2.length = 0 ↔ ∀ i, i < k → legalP g y i = true)) ⟨by omega, rfl, by simp, by simp⟩ ?_
  rintro k ⟨_, o⟩ ⟨hk, rfl, ho, hi⟩
  dsimp only at ho hi
  dsimp only [labelling_Illegal_l1]
  refine T.cond (fun c => ?_) fun c => ?_
  ·have hk2 : k < g.N.toNat := by have := of_decide_eq_true c; omega
   rw [llegal_plain h hg hy hk2, some_bind, iadd1 (by omega)]
   refine T.cond (fun c2 => ?_) fun c2 => ?_
   ·rw [appM_eq (by simp; omega), some_bind]
    refine .ret ⟨hk2, hk2, rfl, by simp; omega, ?_⟩
    simp only [List.length_append, List.length_singleton]
    constructor
    ·intro e; omega
    ·intro h1; have := h1 k (by omega); rw [this] at c2; cases c2
   ·have e : legalP g y k = true := by simpa using c2
    refine .ret ⟨hk2, hk2, rfl, by simp only; omega, ?_⟩
    simp only
    rw [hi]
    constructor
    ·intro h1 i hik
     by_cases e2 : i = k
     ·subst e2; exact e
     ·exact h1 i (by omega)
    ·intro h1 i hik; exact h1 i (by omega)
  ·have e : k = g.N.toNat := by have := of_decide_eq_false c; omega
   subst e
   refine .ret ?_
   show o.length = 0 ↔ _
   rw [hi]; unfold compP; exact range_all.symm
 obtain ⟨r, e, hr⟩ := hI
 rw [e, some_bind, some_bind]
 refine .ret ?_
 rw [show ((((r.length : Int) : Int) == 0) = true ↔ r.length = 0) by simp, hr]
 exact ⟨fun h => ⟨hy, h⟩, fun h => h.2⟩

theorem With_plain {y : List Int} {x : Int} (hl : y.length ≤ 1000000) : T (labelling_With_m y x) fun r => r.length > 0 ↔ (y.any fun z => z == x) = true := by
 unfold labelling_With_m
 refine T.bind (P := fun r => r.length > 0 ↔ (y.any fun z => z == x) = true) ?_ fun r hr => .ret hr
 refine T.loopK y.length (fun k s => k ≤ y.length ∧ s.1 = (k : Int) ∧ s.2.length ≤ k ∧ (s.2.length > 0 ↔ ((y.take k).any fun z => z == x) = true)) ⟨by omega, rfl, by simp, by simp⟩ ?_
 rintro k ⟨_, o⟩ ⟨hk, rfl, ho, hi⟩
 dsimp only at ho hi
 dsimp only [labelling_With_l1]
 refine T.cond (fun c => ?_) fun c => ?_
 ·have hk2 : k < y.length := by simpa using c
  have tk : ((y.take (k + 1)).any fun z => z == x) = (((y.take k).any fun z => z == x) || y[k] == x) := by
   rw [List.take_add_one, List.getElem?_eq_getElem hk2, Option.toList_some, List.any_append]; simp
  rw [idxM_nat hk2, some_bind, iadd1 (by omega)]
  refine T.cond (fun c2 => ?_) fun c2 => .ret ⟨hk2, hk2, rfl, by simp only; omega, ?_⟩
  ·rw [appM_eq (by simp; omega), some_bind]
   refine .ret ⟨hk2, hk2, rfl, by simp; omega, ?_⟩
   simp only
   rw [tk, c2]; simp
  ·simp only
   rw [tk, c2, hi]; simp
 ·have e : k = y.length := by have : ¬ (k : Int) < y.length := of_decide_eq_false c; omega
  subst e
  rw [List.take_length] at hi
  exact .ret hi
theorem shown_plain {g : T_api_Graph} (h : GVal g) (hg : g.L.length ≤ 100000) {y : List Int} (hl : y.length ≤ 1000000) {q : Int} {n : Nat} (hn : n < g.N.toNat) : T (verdict_shown_m g q (n : Int) y) fun b => b = true ↔ LOk g.N.toNat y ∧ forP g q n y = true := by
 unfold verdict_shown_m
 refine T.join ?_
 refine T.bind (LComplete_plain h hg hl) fun b hb => ?_
 refine T.cond (fun c => .ret ⟨fun h => (by cases h), fun h => ?_⟩) fun c => ?_
 ·have h2 := h.2
  unfold forP at h2
  simp only [Bool.and_eq_true] at h2
  rw [hb.2 ⟨h.1, h2.1.1⟩] at c; cases c
 ·have hb2 : b = true := by simpa using c
  obtain ⟨hy, hc⟩ := hb.1 hb2
  have hyl := hy.len
  have fin : ∀ u : Bool, u = (q == 1 || !(y.any fun z => z == 3)) → u = true → T (Option.bind (idxM y (n : Int)) fun t5 => some (((t5 : Int) == 1) == ((q : Int) != 3))) fun b => b = true ↔ LOk g.N.toNat y ∧ forP g q n y = true := by
   intro u hu hu2
   rw [idx_sf (by omega), some_bind]
   refine .ret ?_
   unfold forP
   rw [hc, ← hu, hu2]
   simp only [Bool.true_and]
   exact ⟨fun h => ⟨hy, h⟩, fun h => h.2⟩
  refine T.cond (fun c2 => ?_) fun c2 => ?_
  ·have hq : (q == 1) = false := by simpa using c2
   refine T.bind (With_plain (x := 3) hl) fun r hr => ?_
   refine T.cond (fun c3 => .ret ⟨fun h => (by cases h), fun h => ?_⟩) fun c3 => ?_
   ·have := hr.1 (by have := of_decide_eq_true c3; omega)
    have h2 := h.2
    unfold forP at h2
    rw [hq, this] at h2; simp at h2
   ·have : (y.any fun z => z == 3) = false := by
     cases h3 : y.any fun z => z == 3 with
     | false => rfl
     | true => have := hr.2 h3; have := of_decide_eq_false c3; omega
    exact fin true (by rw [hq, this]; rfl) rfl
  ·have hq : (q == 1) = true := by simpa using c2
   exact fin true (by rw [hq]; rfl) rfl
end Go.Dc

namespace Go.Dc
section
variable {α β : Type} [DecidableEq α]
theorem mapGet_mem {d : List (α × β)} {x : α} {z : β} (h : mapHas d x = true) : (x, mapGet d x z) ∈ d := by
 unfold mapHas at h
 unfold mapGet
 cases e : mapIx d x with
 | none => rw [e] at h; cases h
 | some i =>
  have e' := e
  unfold mapIx at e'
  rw [List.findIdx?_eq_some_iff_getElem] at e'
  obtain ⟨hlt, hp, _⟩ := e'
  simp only [List.getElem?_eq_getElem hlt, Option.map_some, Option.getD_some]
  have : d[i].1 = x := by simpa using hp
  rw [← this]
  exact List.getElem_mem hlt
theorem mapPut_mem {d : List (α × β)} {x : α} {y : β} {p : α × β} (h : p ∈ mapPut d x y) : p ∈ d ∨ p = (x, y) := by
 unfold mapPut at h
 split at h
 ·exact List.mem_or_eq_of_mem_set h
 ·simpa using h
end

theorem decDigits_three {i : Nat} (h1 : ¬ i < 100) (h2 : i < 1000) : Lib.decDigits i = [UInt8.ofNat (48 + i / 10 / 10), UInt8.ofNat (48 + i / 10 % 10), UInt8.ofNat (48 + i % 10)] := by
 rw [Lib.decDigits, dif_neg (by omega), Lib.decDigits_two (by omega) (by omega)]
 rfl
def digS (u : Nat) : List UInt8 := if u < 10 then [UInt8.ofNat (48 + u)] else if u < 100 then [UInt8.ofNat (48 + u / 10), UInt8.ofNat (48 + u % 10)] else [UInt8.ofNat (48 + u / 10 / 10), UInt8.ofNat (48 + u / 10 % 10), UInt8.ofNat (48 + u % 10)]
theorem digS_eq {u : Nat} (h : u < 1000) : Lib.decDigits u = digS u := by
 unfold digS
 by_cases h1 : u < 10
 ·rw [if_pos h1, Lib.decDigits_one h1]
 ·by_cases h2 : u < 100
  ·rw [if_neg h1, if_pos h2, Lib.decDigits_two h1 h2]
  ·rw [if_neg h1, if_neg h2, decDigits_three h2 h]
def itoS (s : Bool) (u : Nat) : List UInt8 := if s then 45 :: digS u else digS u
theorem itoa_S {x : Int} (h : x.natAbs < 1000) : Lib.itoa x = itoS (decide (x < 0)) x.natAbs := by
 unfold Lib.itoa itoS
 by_cases hx : x < 0
 ·rw [if_pos hx, decide_eq_true hx, if_pos rfl, digS_eq h]
 ·rw [if_neg hx, decide_eq_false hx, show x.toNat = x.natAbs by omega, digS_eq h]; rfl
def rdS (l : List UInt8) : Bool × Nat := match l with
 | 45 :: r => (true, r.foldl (fun a d => a * 10 + (d.toNat - 48)) 0)
 | r => (false, r.foldl (fun a d => a * 10 + (d.toNat - 48)) 0)
theorem rdS_ok : ∀ u : Nat, u < 201 → ∀ s : Bool, rdS (itoS s u) = (s, u) ∧ (itoS s u).all (fun d => d != 32) = true := by decide +kernel

theorem split32 : ∀ {a b r s : List UInt8}, a.all (fun d => d != 32) = true → b.all (fun d => d != 32) = true → a ++ 32 :: r = b ++ 32 :: s → a = b ∧ r = s
 | [], [], r, s, _, _, h => ⟨rfl, by simpa using h⟩
 | [], y :: b, r, s, _, hb, h => by
  simp only [List.nil_append, List.cons_append, List.cons.injEq] at h
  rw [← h.1] at hb; simp at hb
 | x :: a, [], r, s, ha, _, h => by
  simp only [List.nil_append, List.cons_append, List.cons.injEq] at h
  rw [h.1] at ha; simp at ha
 | x :: a, y :: b, r, s, ha, hb, h => by
  simp only [List.cons_append, List.cons.injEq] at h
  simp only [List.all_cons, Bool.and_eq_true] at ha hb
  obtain ⟨h1, h2⟩ := split32 ha.2 hb.2 h.2
  exact ⟨by rw [h.1, h1], h2⟩

theorem keyBytes_inj : ∀ {a b : List Int}, (∀ x ∈ a, x.natAbs ≤ 200) → (∀ x ∈ b, x.natAbs ≤ 200) → keyBytes a = keyBytes b → a = b
 | [], [], _, _, _ => rfl
 | [], y :: b, _, _, h => by simp [keyBytes] at h
 | x :: a, [], _, _, h => by simp [keyBytes] at h
 | x :: a, y :: b, ha, hb, h => by
  have hx := ha x (by simp)
  have hy := hb y (by simp)
  have e : ∀ (z : Int) (l : List Int), keyBytes (z :: l) = Lib.itoa z ++ 32 :: keyBytes l := fun z l => by simp [keyBytes]
  rw [e, e, itoa_S (by omega), itoa_S (by omega)] at h
  have h1 := rdS_ok x.natAbs (by omega) (decide (x < 0))
  have h2 := rdS_ok y.natAbs (by omega) (decide (y < 0))
  obtain ⟨h3, h4⟩ := split32 h1.2 h2.2 h
  have h5 := h1.1
  rw [h3, h2.1] at h5
  simp only [Prod.mk.injEq, decide_eq_decide] at h5
  have hxy : x = y := by omega
  rw [hxy, keyBytes_inj (fun z hz => ha z (by simp [hz])) (fun z hz => hb z (by simp [hz])) h4]

theorem keyM_some {c : List Int} (hl : c.length ≤ 50) (h : ∀ x ∈ c, x.natAbs ≤ 200) : keyM c = some ⟨(keyBytes c).toArray⟩ := by
 unfold keyM
 rw [if_pos ⟨by omega, List.all_eq_true.2 fun x hx => by have := h x hx; simp [i64Ok]; omega⟩]
theorem keyM_inj {a b : List Int} {t : ByteArray} (la : a.length ≤ 50) (lb : b.length ≤ 50) (ha : ∀ x ∈ a, x.natAbs ≤ 200) (hb : ∀ x ∈ b, x.natAbs ≤ 200) (h1 : keyM a = some t) (h2 : keyM b = some t) : a = b := by
 rw [keyM_some la ha] at h1
 rw [keyM_some lb hb] at h2
 rw [← h2] at h1
 simp only [Option.some.injEq, ByteArray.mk.injEq] at h1
 exact keyBytes_inj ha hb (by simpa using congrArg Array.toList h1)
end Go.Dc

namespace Go.Dc

structure VV (n : Int) (V : List Int) : Prop where
 len : (V.length : Int) = n
 val : ∀ i, V.getD i 0 = 1 ∨ V.getD i 0 = -1 ∨ V.getD i 0 = 0
def valP (V : List Int) (x : Int) : Int := if 0 < x then V.getD (x.natAbs - 1) 0 else -V.getD (x.natAbs - 1) 0
theorem valP_neg {V : List Int} {x : Int} (h : x ≠ 0) : valP V (-x) = -valP V x := by
 unfold valP
 rw [Int.natAbs_neg]
 by_cases h1 : 0 < x
 ·rw [if_pos h1, if_neg (by omega)]
 ·rw [if_neg h1, if_pos (by omega)]; omega
theorem VV.valP {n : Int} {V : List Int} (h : VV n V) (x : Int) : valP V x = 1 ∨ valP V x = -1 ∨ valP V x = 0 := by
 unfold Go.Dc.valP
 have := h.val (x.natAbs - 1)
 split <;> omega

section
variable {n : Int} {V : List Int} {C : List (List Int)} {K : List (ByteArray × Int)} {S : List T_api_Step} {nd : Int} {st : Bool}
theorem value_plain (hV : VV n V) (hn : n ≤ 200) {x : Int} (h0 : x ≠ 0) (h1 : -n ≤ x) (h2 : x ≤ n) : proof_search_value_m V C K S nd st x = some (valP V x) := by
 have hl := hV.len
 unfold proof_search_value_m valP
 by_cases hx : 0 < x
 ·rw [if_pos hx, show decide (x > 0) = true by simp [hx], cond_true, isub64 (by omega) (by omega), show x - 1 = ((x.natAbs - 1 : Nat) : Int) by omega, idxM_getD (z := 0) (by omega), some_bind]
 ·rw [if_neg hx, show decide (x > 0) = false by simp; omega, cond_false, ineg64 (by omega) (by omega), isub64 (by omega) (by omega), show -x - 1 = ((x.natAbs - 1 : Nat) : Int) by omega, idxM_getD (z := 0) (by omega), some_bind]
  have := hV.val (x.natAbs - 1)
  rw [ineg64 (by omega) (by omega)]

def FalC (V : List Int) (c : List Int) : Prop := ∀ y ∈ c, valP V y = -1
def UniC (V : List Int) (c : List Int) (x : Int) : Prop := x ∈ c ∧ valP V x = 0 ∧ ∀ y ∈ c, y = x ∨ valP V y = -1
def OpnC (V : List Int) (c : List Int) : Prop := ∃ y ∈ c, valP V y = 1 ∨ valP V y = 0

theorem look_l1 (hV : VV n V) (hn : n ≤ 200) {c : List Int} (hc : COk n c) :
  T (loopC (proof_search_look_l1 V C K S nd st c) (0, 0)) fun r => match r with
   | .inl (.inl _) => False
   | .inl (.inr _) => OpnC V c
   | .inr x => x = 0 ∧ FalC V c ∨ x ≠ 0 ∧ UniC V c x := by
 have hcl := hc.len
 refine T.loopK c.length (fun k s => s.2 = (k : Int) ∧ k ≤ c.length ∧ (s.1 = 0 ∧ FalC V (c.take k) ∨ s.1 ≠ 0 ∧ UniC V (c.take k) s.1)) ⟨rfl, by omega, .inl ⟨rfl, by simp [FalC]⟩⟩ ?_
 rintro k ⟨o, i⟩ ⟨e, hk, hI⟩
 dsimp only at e hI
 subst e
 unfold proof_search_look_l1
 dsimp only
 refine T.cond (fun h => ?_) fun h => .ret ?_
 ·have hk2 : k < c.length := by simpa using h
  have hr := hc.rng _ (List.getElem_mem hk2)
  have hm : c[k] ∈ c := List.getElem_mem hk2
  rw [idxM_nat hk2, some_bind, value_plain hV hn hr.1 hr.2.1 hr.2.2, some_bind, iadd1 (by omega)]
  have e5 : c.take (k + 1) = c.take k ++ [c[k]] := (List.take_append_getElem hk2).symm
  have hv := hV.valP c[k]
  simp only [joinM_eq]
  by_cases g1 : valP V c[k] > 0
  ·rw [decide_eq_true g1, cond_true, cond_true]
   exact .ret ⟨_, hm, .inl (by omega)⟩
  ·rw [decide_eq_false g1, cond_false]
   by_cases g2 : valP V c[k] = 0
   ·rw [g2, show ((0 : Int) == 0) = true from rfl, cond_true]
    rcases hI with ⟨rfl, hF⟩ | ⟨ho, hU⟩
    ·rw [show ((0 : Int) != 0) = false from rfl, cond_false, cond_true]
     refine .ret ⟨hk2, rfl, hk2, .inr ⟨hr.1, by rw [e5]; exact List.mem_append_right _ (List.mem_singleton.2 rfl), g2, fun y hy => ?_⟩⟩
     rw [e5] at hy
     rcases List.mem_append.1 hy with h2 | h2
     ·exact .inr (hF y h2)
     ·exact .inl (List.mem_singleton.1 h2)
    ·rw [show (o != 0) = true by simp [ho], cond_true]
     exact .ret ⟨_, hm, .inr g2⟩
   ·rw [show (valP V c[k] == 0) = false from beq_false_of_ne g2, cond_false, cond_false, cond_false]
    have g3 : valP V c[k] = -1 := by omega
    refine .ret ⟨hk2, rfl, hk2, ?_⟩
    rcases hI with ⟨rfl, hF⟩ | ⟨ho, hU⟩
    ·refine .inl ⟨rfl, fun y hy => ?_⟩
     rw [e5] at hy
     rcases List.mem_append.1 hy with h2 | h2
     ·exact hF y h2
     ·rw [List.mem_singleton.1 h2]; exact g3
    ·refine .inr ⟨ho, by rw [e5]; exact List.mem_append_left _ hU.1, hU.2.1, fun y hy => ?_⟩
     rw [e5] at hy
     rcases List.mem_append.1 hy with h2 | h2
     ·exact hU.2.2 y h2
     ·rw [List.mem_singleton.1 h2]; exact .inr g3
 ·have : k = c.length := by simp at h; omega
  subst this
  rw [List.take_length] at hI
  exact hI

def LookR (V : List Int) (C : List (List Int)) (r : Int × Int) : Prop :=
 r.1 = -1 ∧ r.2 = 0 ∧ (∀ c ∈ C, OpnC V c) ∨ 0 ≤ r.1 ∧ r.1 < C.length ∧ (r.2 = 0 ∧ FalC V (C.getD r.1.toNat []) ∨ r.2 ≠ 0 ∧ UniC V (C.getD r.1.toNat []) r.2)

theorem look_plain (hV : VV n V) (hn : n ≤ 200) (hC : ∀ c ∈ C, COk n c) (hl : C.length ≤ 100000) : T (proof_search_look_m V C K S nd st) (LookR V C) := by
 unfold proof_search_look_m
 refine T.bind (P := fun r => match r with | .inl r => LookR V C r | .inr r => LookR V C r) ?_ fun r hr => by
  match r, hr with
  | .inl r, hr => exact .ret hr
  | .inr r, hr => exact .ret hr
 refine T.loopK C.length (fun k (s : Int × Int × Int) => s.2.2 = (k : Int) ∧ k ≤ C.length ∧ (s.1 = -1 ∧ s.2.1 = 0 ∧ (∀ c ∈ C.take k, OpnC V c) ∨ 0 ≤ s.1 ∧ s.1 < C.length ∧ s.2.1 ≠ 0 ∧ UniC V (C.getD s.1.toNat []) s.2.1)) ⟨rfl, by omega, .inl ⟨rfl, rfl, by simp⟩⟩ ?_
 rintro k ⟨u, x, i⟩ ⟨e, hk, hI⟩
 dsimp only at e hI
 subst e
 unfold proof_search_look_l2
 dsimp only
 refine T.cond (fun h => ?_) fun h => .ret ?_
 ·have hk2 : k < C.length := by simpa using h
  rw [idxM_nat hk2, some_bind, iadd1 (by omega)]
  have hg : C.getD k [] = C[k] := by simp [List.getD, hk2]
  refine T.bind (look_l1 hV hn (hC _ (List.getElem_mem hk2))) fun r hr => ?_
  match r, hr with
  | .inl (.inr _), hr =>
   refine .ret ⟨hk2, rfl, hk2, ?_⟩
   rcases hI with ⟨h1, h2, h3⟩ | hI
   ·refine .inl ⟨h1, h2, fun c hc => ?_⟩
    rw [← List.take_append_getElem hk2] at hc
    rcases List.mem_append.1 hc with h4 | h4
    ·exact h3 c h4
    ·rw [List.mem_singleton.1 h4]; exact hr
   ·exact .inr hI
  | .inr y, hr =>
   simp only [sumK_inr]
   rcases hr with ⟨rfl, hF⟩ | ⟨hy, hU⟩
   ·refine .ret ?_
    exact .inr ⟨by simp, by simpa using hk2, .inl ⟨rfl, by show FalC V (C.getD (Int.toNat (k : Int)) []); rw [Int.toNat_natCast, hg]; exact hF⟩⟩
   ·rw [show (y == 0) = false from beq_false_of_ne hy, cond_false]
    refine T.cond (fun h5 => .ret ⟨hk2, rfl, hk2, .inr ⟨by simp, by simpa using hk2, hy, by show UniC V (C.getD (Int.toNat (k : Int)) []) y; rw [Int.toNat_natCast, hg]; exact hU⟩⟩) fun h5 => .ret ⟨hk2, rfl, hk2, ?_⟩
    simp only [decide_eq_false_iff_not] at h5
    rcases hI with ⟨h1, _⟩ | hI
    ·omega
    ·exact .inr hI
 ·have : k = C.length := by simp at h; omega
  subst this
  rcases hI with ⟨h1, h2, h3⟩ | ⟨h1, h2, h3, h4⟩
  ·exact .inl ⟨h1, h2, by simpa using h3⟩
  ·exact .inr ⟨h1, h2, .inr ⟨h3, h4⟩⟩

theorem branch_l1 (hV : VV n V) (hn : n ≤ 200) {c : List Int} (hc : COk n c) :
  T (loopC (proof_search_branch_l1 V C K S nd st c) (0, 0)) fun r => match r with
   | .inl (.inl _) => False
   | .inl (.inr _) => ∃ y ∈ c, valP V y = 1
   | .inr x => x = 0 ∧ FalC V c ∨ x ≠ 0 ∧ x ∈ c ∧ valP V x = 0 := by
 have hcl := hc.len
 refine T.loopK c.length (fun k s => s.2 = (k : Int) ∧ k ≤ c.length ∧ (s.1 = 0 ∧ FalC V (c.take k) ∨ s.1 ≠ 0 ∧ s.1 ∈ c ∧ valP V s.1 = 0)) ⟨rfl, by omega, .inl ⟨rfl, by simp [FalC]⟩⟩ ?_
 rintro k ⟨o, i⟩ ⟨e, hk, hI⟩
 dsimp only at e hI
 subst e
 unfold proof_search_branch_l1
 dsimp only
 refine T.cond (fun h => ?_) fun h => .ret ?_
 ·have hk2 : k < c.length := by simpa using h
  have hr := hc.rng _ (List.getElem_mem hk2)
  have hm : c[k] ∈ c := List.getElem_mem hk2
  rw [idxM_nat hk2, some_bind, value_plain hV hn hr.1 hr.2.1 hr.2.2, some_bind, iadd1 (by omega)]
  have e5 : c.take (k + 1) = c.take k ++ [c[k]] := (List.take_append_getElem hk2).symm
  have hv := hV.valP c[k]
  refine T.cond (fun g1 => .ret ⟨_, hm, eq_of_beq g1⟩) fun g1 => ?_
  refine T.cond (fun g2 => ?_) fun g2 => ?_
  ·have g2 := eq_of_beq g2
   refine T.cond (fun g3 => .ret ⟨hk2, rfl, hk2, .inr ⟨hr.1, hm, g2⟩⟩) fun g3 => .ret ⟨hk2, rfl, hk2, ?_⟩
   rcases hI with ⟨rfl, _⟩ | hI
   ·cases g3
   ·exact .inr hI
  ·have g3 : valP V c[k] = -1 := by
    have a1 : valP V c[k] ≠ 1 := fun e => by rw [e] at g1; cases g1
    have a2 : valP V c[k] ≠ 0 := fun e => by rw [e] at g2; cases g2
    omega
   refine .ret ⟨hk2, rfl, hk2, ?_⟩
   rcases hI with ⟨rfl, hF⟩ | hI
   ·refine .inl ⟨rfl, fun y hy => ?_⟩
    rw [e5] at hy
    rcases List.mem_append.1 hy with h2 | h2
    ·exact hF y h2
    ·rw [List.mem_singleton.1 h2]; exact g3
   ·exact .inr hI
 ·have : k = c.length := by simp at h; omega
  subst this
  rw [List.take_length] at hI
  exact hI

theorem branch_plain (hV : VV n V) (hn : n ≤ 200) (hC : ∀ c ∈ C, COk n c) (hl : C.length ≤ 100000) (ho : ∀ c ∈ C, OpnC V c) :
  T (proof_search_branch_m V C K S nd st) fun x => x = 0 ∧ (∀ c ∈ C, ∃ y ∈ c, valP V y = 1) ∨ x ≠ 0 ∧ valP V x = 0 ∧ ∃ c ∈ C, x ∈ c := by
 unfold proof_search_branch_m
 refine T.bind (P := fun r => match r with | .inl x => x ≠ 0 ∧ valP V x = 0 ∧ ∃ c ∈ C, x ∈ c | .inr _ => ∀ c ∈ C, ∃ y ∈ c, valP V y = 1) ?_ fun r hr => by
  match r, hr with
  | .inl r, hr => exact .ret (.inr hr)
  | .inr r, hr => exact .ret (.inl ⟨rfl, hr⟩)
 refine T.loopK C.length (fun k s => s = (k : Int) ∧ k ≤ C.length ∧ ∀ c ∈ C.take k, ∃ y ∈ c, valP V y = 1) ⟨rfl, by omega, by simp⟩ ?_
 rintro k _ ⟨rfl, hk, hI⟩
 unfold proof_search_branch_l2
 refine T.cond (fun h => ?_) fun h => .ret ?_
 ·have hk2 : k < C.length := by simpa using h
  rw [idxM_nat hk2, some_bind, iadd1 (by omega)]
  refine T.bind (branch_l1 hV hn (hC _ (List.getElem_mem hk2))) fun r hr => ?_
  match r, hr with
  | .inl (.inr _), hr =>
   refine .ret ⟨hk2, rfl, hk2, fun c hc => ?_⟩
   rw [← List.take_append_getElem hk2] at hc
   rcases List.mem_append.1 hc with h4 | h4
   ·exact hI c h4
   ·rw [List.mem_singleton.1 h4]; exact hr
  | .inr y, hr =>
   simp only [sumK_inr]
   refine .ret ?_
   rcases hr with ⟨rfl, hF⟩ | ⟨hy, hm, hv⟩
   ·obtain ⟨z, hz, h5⟩ := ho _ (List.getElem_mem hk2)
    have := hF z hz
    omega
   ·exact ⟨hy, hv, _, List.getElem_mem hk2, hm⟩
 ·have : k = C.length := by simp at h; omega
  subst this
  simpa using hI

def setP (V : List Int) (x b : Int) : List Int := V.set (x.natAbs - 1) (if x < 0 then -b else b)
theorem set_plain (hl : (V.length : Int) = n) (hn : n ≤ 200) {x b : Int} (h0 : x ≠ 0) (h1 : -n ≤ x) (h2 : x ≤ n) (hb : b = 0 ∨ b = 1) : proof_search_set_m V C K S nd st x b = some (setP V x b) := by
 unfold proof_search_set_m setP
 by_cases hx : x < 0
 ·rw [decide_eq_true hx, if_pos hx, cond_true, ineg64 (by omega) (by omega), isub64 (by omega) (by omega), show -x - 1 = ((x.natAbs - 1 : Nat) : Int) by omega, idxM_nat (show x.natAbs - 1 < V.length by omega), some_bind, ineg64 (by omega) (by omega)]
  rfl
 ·rw [decide_eq_false hx, if_neg hx, cond_false, isub64 (by omega) (by omega), show x - 1 = ((x.natAbs - 1 : Nat) : Int) by omega, idxM_nat (show x.natAbs - 1 < V.length by omega), some_bind]
  rfl

theorem setP_len {x b : Int} : (setP V x b).length = V.length := by simp [setP]
theorem setP_VV (hV : VV n V) {x b : Int} (hb : b = 0 ∨ b = 1) : VV n (setP V x b) := by
 refine ⟨by rw [setP_len]; exact hV.len, fun i => ?_⟩
 unfold setP
 by_cases hi : x.natAbs - 1 < V.length
 ·rw [getD_set hi]
  split
  ·split <;> omega
  ·exact hV.val i
 ·rw [List.set_eq_of_length_le (by omega)]; exact hV.val i
theorem setP_val (hl : (V.length : Int) = n) {x y b : Int} (h0 : x ≠ 0) (h1 : -n ≤ x) (h2 : x ≤ n) (hy : y ≠ 0) :
  valP (setP V x b) y = if y = x then b else if y = -x then -b else valP V y := by
 unfold valP setP
 rw [getD_set (by omega)]
 by_cases e1 : y = x
 ·subst e1
  rw [if_pos rfl, if_pos rfl]
  split <;> split <;> omega
 ·by_cases e2 : y = -x
  ·subst e2
   rw [if_neg e1, if_pos rfl, Int.natAbs_neg, if_pos rfl]
   split <;> split <;> omega
  ·rw [if_neg e1, if_neg e2, if_neg (show ¬ (x.natAbs - 1 = y.natAbs - 1) by omega)]
theorem setP_back (hl : (V.length : Int) = n) {x : Int} (h0 : x ≠ 0) (h1 : -n ≤ x) (h2 : x ≤ n) (hv : valP V x = 0) : setP (setP V x 1) x 0 = V := by
 unfold setP
 rw [List.set_set]
 unfold valP at hv
 have : V.getD (x.natAbs - 1) 0 = 0 := by split at hv <;> omega
 have hi : x.natAbs - 1 < V.length := by omega
 have e : (if x < 0 then -(0 : Int) else 0) = V[x.natAbs - 1] := by
  have h3 : V.getD (x.natAbs - 1) 0 = V[x.natAbs - 1] := by simp [List.getD, hi]
  rw [← h3, this]; split <;> rfl
 rw [e]; exact List.set_getElem_self hi
end
end Go.Dc

namespace Go.Dc

def occ (L : List (List Int)) (v : Nat) : Bool := L.any fun c => c.contains (v : Int) || c.contains (-(v : Int))
theorem occ_of {L : List (List Int)} {c : List Int} {x : Int} (hc : c ∈ L) (hx : x ∈ c) : occ L x.natAbs = true := by
 unfold occ
 refine List.any_eq_true.2 ⟨c, hc, ?_⟩
 simp only [Bool.or_eq_true, List.contains_iff_mem]
 by_cases h : 0 ≤ x
 ·left; rw [show ((x.natAbs : Nat) : Int) = x by omega]; exact hx
 ·right; rw [show -((x.natAbs : Nat) : Int) = x by omega]; exact hx
def nvs (L : List (List Int)) (n : Int) : Nat := ((List.range' 1 200).filter fun v : Nat => decide ((v : Int) ≤ n) && occ L v).length
def opn (L : List (List Int)) (V : List Int) : Nat := ((List.range' 1 200).filter fun v => decide (V.getD (v - 1) 1 = 0) && occ L v).length

theorem filter_le {α : Type} {p q : α → Bool} : ∀ {l : List α}, (∀ a ∈ l, p a = true → q a = true) → (l.filter p).length ≤ (l.filter q).length
 | [], _ => by simp
 | a :: l, h => by
  have ih := filter_le (p := p) (q := q) (l := l) fun b hb => h b (by simp [hb])
  have ha := h a (by simp)
  cases hp : p a <;> cases hq : q a
  ·rw [List.filter_cons_of_neg (by simp [hp]), List.filter_cons_of_neg (by simp [hq])]; exact ih
  ·rw [List.filter_cons_of_neg (by simp [hp]), List.filter_cons_of_pos (by simp [hq]), List.length_cons]; omega
  ·rw [ha hp] at hq; cases hq
  ·rw [List.filter_cons_of_pos (by simp [hp]), List.filter_cons_of_pos (by simp [hq]), List.length_cons, List.length_cons]; omega
theorem filter_lt {α : Type} {p q : α → Bool} : ∀ {l : List α}, (∀ a ∈ l, p a = true → q a = true) → (∃ a ∈ l, q a = true ∧ p a = false) → (l.filter p).length < (l.filter q).length
 | [], _, ⟨a, h, _⟩ => by simp at h
 | a :: l, h, ⟨b, hb, h1, h2⟩ => by
  have hr : ∀ c ∈ l, p c = true → q c = true := fun c hc => h c (by simp [hc])
  have ih := filter_le hr
  have ha := h a (by simp)
  rcases List.mem_cons.1 hb with e | hb
  ·subst e
   rw [List.filter_cons_of_neg (by simp [h2]), List.filter_cons_of_pos (by simp [h1]), List.length_cons]; omega
  ·have ih2 := filter_lt hr ⟨b, hb, h1, h2⟩
   cases hp : p a <;> cases hq : q a
   ·rw [List.filter_cons_of_neg (by simp [hp]), List.filter_cons_of_neg (by simp [hq])]; exact ih2
   ·rw [List.filter_cons_of_neg (by simp [hp]), List.filter_cons_of_pos (by simp [hq]), List.length_cons]; omega
   ·rw [ha hp] at hq; cases hq
   ·rw [List.filter_cons_of_pos (by simp [hp]), List.filter_cons_of_pos (by simp [hq]), List.length_cons, List.length_cons]; omega

theorem opn_le {L : List (List Int)} {V : List Int} {n : Int} (h : (V.length : Int) = n) : opn L V ≤ nvs L n := by
 unfold opn nvs
 refine filter_le fun v hv h1 => ?_
 simp only [Bool.and_eq_true, decide_eq_true_eq] at h1 ⊢
 refine ⟨?_, h1.2⟩
 by_cases hl : v - 1 < V.length
 ·omega
 ·have : V.getD (v - 1) 1 = 1 := by simp [List.getD, List.getElem?_eq_none (show V.length ≤ v - 1 by omega)]
  rw [this] at h1
  exact absurd h1.1 (by decide)
theorem opn_lt {L : List (List Int)} {V : List Int} {n x : Int} (hl : (V.length : Int) = n) (hn : n ≤ 200) (h0 : x ≠ 0) (h1 : -n ≤ x) (h2 : x ≤ n) (ho : occ L x.natAbs = true) (hv : valP V x = 0) : opn L (setP V x 1) < opn L V := by
 unfold opn
 have hi : x.natAbs - 1 < V.length := by omega
 have hg : ∀ z : Int, V.getD (x.natAbs - 1) z = 0 := fun z => by
  unfold valP at hv
  have : V.getD (x.natAbs - 1) 0 = 0 := by split at hv <;> omega
  simpa [List.getD, hi] using this
 refine filter_lt (fun v _ h => ?_) ⟨x.natAbs, List.mem_range'_1.2 ⟨by omega, by omega⟩, ?_, ?_⟩
 ·simp only [Bool.and_eq_true, decide_eq_true_eq] at h ⊢
  refine ⟨?_, h.2⟩
  have h3 := h.1
  unfold setP at h3
  rw [getD_set hi] at h3
  split at h3
  ·rename_i e; rw [← e]; exact hg 1
  ·exact h3
 ·simp only [Bool.and_eq_true, decide_eq_true_eq]; exact ⟨hg 1, ho⟩
 ·unfold setP
  rw [getD_set hi, if_pos rfl]
  have : (if x < 0 then -(1 : Int) else 1) ≠ 0 := by split <;> omega
  simp [this]

def StepOk (m : Nat) (C : List (List Int)) (j : Nat) (s : T_api_Step) : Prop :=
 0 ≤ s.Left ∧ s.Left < ((m + j : Nat) : Int) ∧ 0 ≤ s.Right ∧ s.Right < ((m + j : Nat) : Int) ∧ ResolveP (C.getD s.Left.toNat []) (C.getD s.Right.toNat []) s.Pivot = (true, C.getD (m + j) [])
structure CInv (n : Int) (L C : List (List Int)) (K : List (ByteArray × Int)) (S : List T_api_Step) : Prop where
 n0 : 0 ≤ n
 n1 : n ≤ 200
 lenL : L.length ≤ 4000
 lenC : C.length = L.length + S.length
 lenS : S.length ≤ 20000
 pre : ∀ i, i < L.length → C.getD i [] = L.getD i []
 ok : ∀ c ∈ C, COk n c
 oc : ∀ c ∈ C, ∀ x ∈ c, occ L x.natAbs = true
 stp : ∀ j (hj : j < S.length), StepOk L.length C j S[j]
 kn : ∀ p ∈ K, 0 ≤ p.2 ∧ p.2 < C.length ∧ keyM (C.getD p.2.toNat []) = some p.1

theorem getD_app {α : Type} {C : List α} {c z : α} {i : Nat} (h : i < C.length) : (C ++ [c]).getD i z = C.getD i z := by
 simp [List.getD, List.getElem?_append_left h]
theorem getD_last {α : Type} {C : List α} {c z : α} : (C ++ [c]).getD C.length z = c := by simp [List.getD]
theorem getD_mem {α : Type} {C : List α} {z : α} {i : Nat} (h : i < C.length) : C.getD i z ∈ C := by
 simp only [List.getD, List.getElem?_eq_getElem h, Option.getD_some]; exact List.getElem_mem h

theorem COk.abs {n : Int} {c : List Int} (h : COk n c) (hn : n ≤ 200) {x : Int} (hx : x ∈ c) : x.natAbs ≤ 200 := by have := h.rng x hx; omega

theorem CInv.add {n : Int} {L C : List (List Int)} {K : List (ByteArray × Int)} {S : List T_api_Step} (h : CInv n L C K S) (hs : S.length < 20000) {i k p : Int} {c : List Int} {t : ByteArray}
  (hi0 : 0 ≤ i) (hi : i < C.length) (hk0 : 0 ≤ k) (hk : k < C.length) (hr : ResolveP (C.getD i.toNat []) (C.getD k.toNat []) p = (true, c)) (ht : keyM c = some t) :
  CInv n L (C ++ [c]) (mapPut K t (C.length : Int)) (S ++ [⟨i, k, p⟩]) := by
 obtain ⟨r1, r2, r3, r4, r5, r6, r7⟩ := ResolveP_true hr
 have hic : C.getD i.toNat [] ∈ C := getD_mem (by omega)
 have hkc : C.getD k.toNat [] ∈ C := getD_mem (by omega)
 have hcm : ∀ x ∈ c, x ∈ C.getD i.toNat [] ∨ x ∈ C.getD k.toNat [] := fun x hx => (mem_lits.1 ((r7 x).1 hx)).1
 have hcok : COk n c := ⟨r6.len, fun x hx => by
  rcases hcm x hx with h1 | h1
  ·exact (h.ok _ hic).rng x h1
  ·exact (h.ok _ hkc).rng x h1, r6.asc⟩
 have hlC := h.lenC
 refine ⟨h.n0, h.n1, h.lenL, by simp; omega, by simp; omega, fun j hj => by rw [getD_app (by omega)]; exact h.pre j hj, fun d hd => ?_, fun d hd x hx => ?_, fun j hj => ?_, fun q hq => ?_⟩
 ·rcases List.mem_append.1 hd with h1 | h1
  ·exact h.ok d h1
  ·rw [List.mem_singleton.1 h1]; exact hcok
 ·rcases List.mem_append.1 hd with h1 | h1
  ·exact h.oc d h1 x hx
  ·rw [List.mem_singleton.1 h1] at hx
   rcases hcm x hx with h2 | h2
   ·exact h.oc _ hic x h2
   ·exact h.oc _ hkc x h2
 ·by_cases e : j < S.length
  ·rw [List.getElem_append_left e]
   obtain ⟨q1, q2, q3, q4, q5⟩ := h.stp j e
   refine ⟨q1, q2, q3, q4, ?_⟩
   rw [getD_app (by omega), getD_app (by omega), getD_app (by omega)]; exact q5
  ·have e2 : j = S.length := by simp at hj; omega
   subst e2
   rw [List.getElem_append_right (Nat.le_refl _)]
   simp only [Nat.sub_self, List.getElem_cons_zero]
   refine ⟨hi0, by dsimp only; omega, hk0, by dsimp only; omega, ?_⟩
   dsimp only
   rw [getD_app (by omega), getD_app (by omega), ← hlC, getD_last]; exact hr
 ·rcases mapPut_mem hq with h1 | h1
  ·obtain ⟨q1, q2, q3⟩ := h.kn q h1
   refine ⟨q1, by simp; omega, ?_⟩
   rw [getD_app (by omega)]; exact q3
  ·subst h1
   refine ⟨by dsimp only; omega, by dsimp only; simp only [List.length_append, List.length_cons, List.length_nil]; omega, ?_⟩
   dsimp only
   rw [Int.toNat_natCast, getD_last]; exact ht

theorem outR_nvs {n : Int} {L : List (List Int)} {X : List Int} (h : ∀ x ∈ X, (x.natAbs : Int) ≤ n ∧ occ L x.natAbs = true) : (outR X).length ≤ nvs L n := by
 unfold outR nvs
 suffices hh : ∀ l : List Nat, (l.filterMap (pickV X)).length ≤ (l.filter fun v : Nat => decide ((v : Int) ≤ n) && occ L v).length from hh _
 intro l
 induction l with
 | nil => simp
 | cons v l ih =>
  cases hp : pickV X v with
  | none =>
   rw [List.filterMap_cons_none hp]
   refine Nat.le_trans ih ?_
   cases hq : (decide ((v : Int) ≤ n) && occ L v) with
   | true => rw [List.filter_cons_of_pos (by simpa using hq), List.length_cons]; omega
   | false => rw [List.filter_cons_of_neg (by simpa using hq)]; exact Nat.le_refl _
  | some x =>
   obtain ⟨h1, h2⟩ := pickV_abs hp
   have h3 := h x h2
   rw [h1] at h3
   rw [List.filterMap_cons_some hp, List.filter_cons_of_pos (by simp [h3]), List.length_cons, List.length_cons]
   omega

structure LPost (n : Int) (L : List (List Int)) (V : List Int) (C : List (List Int)) (S : List T_api_Step) (nd : Int) (r : Int × List (ByteArray × Int) × Int × Bool × List (List Int) × List T_api_Step) : Prop where
 inv : CInv n L r.2.2.2.2.1 r.2.1 r.2.2.2.2.2
 nd : r.2.2.1 = nd
 lenC : C.length ≤ r.2.2.2.2.1.length
 lenS : r.2.2.2.2.2.length ≤ S.length + 1
 ext : ∀ i, i < C.length → r.2.2.2.2.1.getD i [] = C.getD i []
 sure : S.length < 20000 → nvs L n ≤ 50 → r.2.2.2.1 = false
 res : r.2.2.2.1 = false → 0 ≤ r.1 ∧ r.1 < r.2.2.2.2.1.length ∧ FalC V (r.2.2.2.2.1.getD r.1.toNat []) ∧ ∀ i, i < r.2.2.2.2.1.length → r.2.2.2.2.1.getD i [] = [] → (i : Int) = r.1 ∧ i + 1 = r.2.2.2.2.1.length

theorem learn_plain {n : Int} {L : List (List Int)} {V : List Int} {C : List (List Int)} {K : List (ByteArray × Int)} {S : List T_api_Step} {nd : Int} (hI : CInv n L C K S) (hV : VV n V) (hne : ∀ c ∈ C, c ≠ [])
  {i k x : Int} (h0 : x ≠ 0) (hi0 : 0 ≤ i) (hi : i < C.length) (hk0 : 0 ≤ k) (hk : k < C.length) (hix : x ∈ C.getD i.toNat []) (hkx : -x ∈ C.getD k.toNat [])
  (hiF : ∀ y ∈ C.getD i.toNat [], y = x ∨ valP V y = -1) (hkF : ∀ y ∈ C.getD k.toNat [], y = -x ∨ valP V y = -1) :
  T (proof_search_learn_m V C K S nd false i k x) (LPost n L V C S nd) := by
 have hn0 := hI.n0
 have hn1 := hI.n1
 have hlC := hI.lenC
 have hlL := hI.lenL
 have hlS := hI.lenS
 have hxr := (hI.ok _ (getD_mem (z := []) (show i.toNat < C.length by omega))).rng x hix
 unfold proof_search_learn_m
 -- the two ways
 refine T.joinP (P := fun j => 0 ≤ j.1 ∧ j.1 < C.length ∧ 0 ≤ j.2.1 ∧ j.2.1 < C.length ∧ 0 < j.2.2 ∧ j.2.2 ∈ C.getD j.1.toNat [] ∧ -j.2.2 ∈ C.getD j.2.1.toNat [] ∧ (∀ y ∈ C.getD j.1.toNat [], y = j.2.2 ∨ valP V y = -1) ∧ (∀ y ∈ C.getD j.2.1.toNat [], y = -j.2.2 ∨ valP V y = -1)) ?_ ?_
 rotate_left
 ·intro kk hkk
  refine T.cond (fun h => hkk _ ?_) fun h => hkk _ ?_
  ·have h := of_decide_eq_true h
   rw [ineg64 (by omega) (by omega)]
   refine ⟨hk0, hk, hi0, hi, by dsimp only; omega, hkx, by dsimp only; rw [Int.neg_neg]; exact hix, hkF, fun y hy => ?_⟩
   dsimp only; rw [Int.neg_neg]; exact hiF y hy
  ·have h := of_decide_eq_false h
   exact ⟨hi0, hi, hk0, hk, by dsimp only; omega, hix, hkx, hiF, hkF⟩
 rintro ⟨a, b, p⟩ ⟨a0, a1, b0, b1, p0, pa, pb, fa, fb⟩
 dsimp only at a0 a1 b0 b1 p0 pa pb fa fb ⊢
 have hac : C.getD a.toNat [] ∈ C := getD_mem (by omega)
 have hbc : C.getD b.toNat [] ∈ C := getD_mem (by omega)
 rw [idxM_getD' [] a0 a1, some_bind, idxM_getD' [] b0 b1, some_bind, Resolve_plain, some_bind]
 generalize hA : C.getD a.toNat [] = A at *
 generalize hB : C.getD b.toNat [] = B at *
 have c200 : ∀ c ∈ C, COk 200 c := fun c hc => ⟨(hI.ok c hc).len, fun x hx => by have := (hI.ok c hc).rng x hx; omega, (hI.ok c hc).asc⟩
 have hlit : ∀ y ∈ litsR A B p, valP V y = -1 ∧ y ≠ 0 ∧ (y.natAbs : Int) ≤ n ∧ occ L y.natAbs = true := fun y hy => by
  obtain ⟨h1, h2⟩ := mem_lits.1 hy
  rcases h1 with h1 | h1
  ·have h3 := (hI.ok _ hac).rng y h1
   refine ⟨(fa y h1).resolve_left (by omega), by omega, by omega, hI.oc _ hac y h1⟩
  ·have h3 := (hI.ok _ hbc).rng y h1
   refine ⟨(fb y h1).resolve_left (by omega), by omega, by omega, hI.oc _ hbc y h1⟩
 have htaut : ∀ y ∈ litsR A B p, -y ∉ litsR A B p := fun y hy hy2 => by
  have h1 := hlit y hy
  have h2 := (hlit _ hy2).1
  rw [valP_neg h1.2.1] at h2
  omega
 have hshort : (outR (litsR A B p)).length ≤ nvs L n := outR_nvs fun y hy => (hlit y hy).2.2
 refine T.joinP (P := fun j => (j = true → S.length = 20000 ∨ 50 < nvs L n) ∧ (j = false → S.length < 20000 ∧ ResolveP A B p = (true, (ResolveP A B p).2))) ?_ ?_
 rotate_left
 ·intro kk hkk
  refine T.cond (fun h => hkk _ ⟨fun _ => .inr ?_, fun h => by cases h⟩) fun h => hkk _ ⟨fun h1 => .inl ?_, fun h1 => ⟨?_, ?_⟩⟩
  ·refine Nat.lt_of_not_le fun hle => ?_
   rw [ResolveP_some (by omega) (c200 _ hac) (c200 _ hbc) pa pb htaut (by omega)] at h
   cases h
  ·have := eq_of_beq h1; omega
  ·have : ¬ (S.length : Int) = 20000 := fun e => by rw [e] at h1; cases h1
   omega
  ·have h2 : (ResolveP A B p).1 = true := by cases hh : (ResolveP A B p).1 <;> rw [hh] at h <;> first | rfl | cases h
   rw [← h2]
 rintro j ⟨j1, j2⟩
 refine T.cond (fun h => .ret ?_) fun h => ?_
 ·refine ⟨hI, rfl, Nat.le_refl _, by dsimp only; omega, fun i hi => rfl, fun h1 h2 => ?_, fun h => by cases h⟩
  rcases j1 h with h3 | h3
  ·omega
  ·omega
 obtain ⟨hS, hR⟩ := j2 h
 generalize (ResolveP A B p).2 = c at hR ⊢
 rw [← hA, ← hB] at hR
 have hR' := ResolveP_true hR
 rw [hA, hB] at hR'
 obtain ⟨r1, r2, r3, r4, r5, r6, r7⟩ := hR'
 have hcF : FalC V c := fun y hy => (hlit y ((r7 y).1 hy)).1
 have hcabs : ∀ y ∈ c, y.natAbs ≤ 200 := fun y hy => by have := (hlit y ((r7 y).1 hy)).2.2.1; omega
 obtain ⟨t, ht⟩ : ∃ t, keyM c = some t := ⟨_, keyM_some r6.len hcabs⟩
 rw [ht, some_bind]
 refine T.joinP (P := fun _ => True) ?_ ?_
 ·intro _ _
  rw [appM_eq (by simp; omega), some_bind, appM_eq (by simp; omega), some_bind]
  have hlen : isub .i64 (((C ++ [c]).length : Nat) : Int) 1 = (C.length : Int) := by
   have e : (((C ++ [c]).length : Nat) : Int) = C.length + 1 := by simp
   rw [e, isub64 (by omega) (by omega)]; omega
  rw [hlen]
  refine .ret ⟨hI.add hS a0 a1 b0 b1 hR ht, rfl, by simp, by simp, fun i hi => getD_app hi, fun _ _ => rfl, fun _ => ⟨by dsimp only; omega, by dsimp only; simp only [List.length_append, List.length_cons, List.length_nil]; omega, ?_, fun i hi he => ?_⟩⟩
  ·dsimp only; rw [Int.toNat_natCast, getD_last]; exact hcF
  ·dsimp only at hi he ⊢
   by_cases e : i < C.length
   ·rw [getD_app e] at he
    exact absurd he (hne _ (getD_mem e))
   ·have : i = C.length := by simp at hi; omega
    subst this
    exact ⟨rfl, by simp⟩
 ·intro kk hkk
  refine T.cond (fun h1 => T.cond (fun h2 => .ret ?_) fun _ => hkk _ trivial) fun _ => hkk _ trivial
  obtain ⟨q1, q2, q3⟩ := hI.kn _ (mapGet_mem (z := 0) h1)
  dsimp only at q1 q2 q3
  have hqc : C.getD (mapGet K t 0).toNat [] ∈ C := getD_mem (by omega)
  have he : C.getD (mapGet K t 0).toNat [] = c := keyM_inj (hI.ok _ hqc).len r6.len (fun y hy => (hI.ok _ hqc).abs hn1 hy) hcabs q3 ht
  refine ⟨hI, rfl, Nat.le_refl _, by dsimp only; omega, fun i hi => rfl, fun _ _ => rfl, fun _ => ⟨q1, q2, ?_, fun i hi he2 => absurd he2 (hne _ (getD_mem hi))⟩⟩
  dsimp only; rw [he]; exact hcF
end Go.Dc

namespace Go.Dc
variable {α β σ ρ S A B R : Type}

def Le (m m' : Option α) : Prop := ∀ r, m = some r → m' = some r
def loopF (k : Nat) (f : σ → Option (Sum ρ σ)) (s : σ) : Option ρ := loopN f k s

theorem Le.refl (m : Option α) : Le m m := fun _ h => h
theorem Le.bind {m m' : Option α} {f f' : α → Option β} (h : Le m m') (hf : ∀ a, Le (f a) (f' a)) : Le (m.bind f) (m'.bind f') := by
 intro r hr
 cases hm : m with
 | none => rw [hm] at hr; cases hr
 | some a => rw [hm] at hr; rw [h a hm]; exact hf a r hr
theorem Le.cond {b : Bool} {x y x' y' : Option α} (h1 : Le x x') (h2 : Le y y') : Le (bif b then x else y) (bif b then x' else y') := by
 cases b
 ·exact h2
 ·exact h1
theorem Le.letM {x : S} {k k' : S → Option α} (h : ∀ a, Le (k a) (k' a)) : Le (letM x k) (letM x k') := h x
theorem Le.join {f f' : S → Option R} {g g' : (S → Option R) → Option R} (h1 : ∀ x, Le (f x) (f' x)) (h2 : ∀ k k' : S → Option R, (∀ x, Le (k x) (k' x)) → Le (g k) (g' k')) :
  Le (joinM f g) (joinM f' g') := h2 f f' h1
theorem Le.sumK {kr : A → Option R} {kb kb' : B → Option R} (h : ∀ b, Le (kb b) (kb' b)) : ∀ a, Le (sumK kr kb a) (sumK kr kb' a)
 | .inl a => .refl _
 | .inr b => h b
theorem Le.loop {k : Nat} {f f' : σ → Option (Sum ρ σ)} {s : σ} (h : ∀ s, Le (f s) (f' s)) : Le (loopF k f s) (loopC f' s) := by
 intro r hr
 refine loopC_iff.2 ⟨k, ?_⟩
 unfold loopF at hr
 induction k generalizing s with
 | zero => simp [loopN] at hr
 | succ k ih =>
  simp only [loopN] at hr ⊢
  cases hf : f s with
  | none => rw [hf] at hr; cases hr
  | some o =>
   rw [hf] at hr
   rw [h s o hf]
   cases o with
   | inl q => exact hr
   | inr s' => exact ih hr
end Go.Dc

namespace Go.Dc
variable {α β σ ρ S A B C R : Type}
def meetF [DecidableEq A] (x y : Option A) : Option A := match x, y with
 | some a, some b => if a = b then some a else none
 | _, _ => none
theorem Le.meetO {m1 m2 m1' m2' : Option A} (h1 : Le m1 m1') (h2 : Le m2 m2') : Le (meetO m1 m2) (meetO m1' m2') := fun r h => by
 obtain ⟨a, b⟩ := meetO_some h
 rw [h1 r a, h2 r b, meetO_self]
theorem Le.meet [DecidableEq A] {m1 m2 m1' m2' : Option A} (h1 : Le m1 m1') (h2 : Le m2 m2') : Le (meetF m1 m2) (Go.Dc.meetO m1' m2') := fun r h => by
 cases m1 with
 | none => simp [meetF] at h
 | some a =>
  cases m2 with
  | none => simp [meetF] at h
  | some b =>
   unfold meetF at h
   simp only at h
   by_cases e : a = b
   ·rw [if_pos e] at h
    subst e; cases h
    rw [h1 _ rfl, h2 _ rfl, meetO_self]
   ·rw [if_neg e] at h; cases h
theorem Le.sumKK {k1 k1' : A → Option R} {k2 k2' : B → Option R} (h1 : ∀ a, Le (k1 a) (k1' a)) (h2 : ∀ b, Le (k2 b) (k2' b)) : ∀ a, Le (Go.Dc.sumK k1 k2 a) (Go.Dc.sumK k1' k2' a)
 | .inl a => h1 a
 | .inr b => h2 b
theorem Le.loopC {f f' : σ → Option (Sum ρ σ)} {s : σ} (h : ∀ s, Le (f s) (f' s)) : Le (Go.Dc.loopC f s) (Go.Dc.loopC f' s) := by
 intro r hr
 obtain ⟨n, hn⟩ := loopC_iff.1 hr
 exact Le.loop (k := n) h r hn
def meet1 {A : Type} (x _ : Option A) : Option A := x
theorem Le.meet1 {A : Type} {m1 m2 m1' m2' : Option A} (h1 : Le m1 m1') (h2 : m1' = m2') : Le (Go.Dc.meet1 m1 m2) (Go.Dc.meetO m1' m2') := fun r h => by
 rw [← h2, meetO_self]; exact h1 r h
end Go.Dc

namespace Go.Dc
open Go.Proofs Go.Sort

def lexC : List Int → List Int → Int
 | [], [] => 0
 | [], _ :: _ => -1
 | _ :: _, [] => 1
 | x :: a, y :: b => if x < y then -1 else if y < x then 1 else lexC a b
theorem lexC_self : ∀ {a : List Int}, lexC a a = 0
 | [] => rfl
 | x :: a => by unfold lexC; rw [if_neg (by omega), if_neg (by omega)]; exact lexC_self
theorem lexC_tr : ∀ {a b c : List Int}, lexC a b < 0 → lexC b c < 0 → lexC a c < 0
 | [], [], _, h, _ => by simp [lexC] at h
 | [], _ :: _, [], _, h => by simp [lexC] at h
 | [], _ :: _, _ :: _, _, _ => by simp [lexC]
 | _ :: _, [], _, h, _ => by simp [lexC] at h
 | _ :: _, _ :: _, [], _, h => by simp [lexC] at h
 | x :: a, y :: b, z :: c, h1, h2 => by
  unfold lexC at *
  by_cases e1 : x < y
  ·by_cases e2 : z < y
   ·rw [if_neg (by omega), if_pos e2] at h2; omega
   ·rw [if_pos (by omega)]; omega
  ·rw [if_neg e1] at h1
   by_cases e3 : y < x
   ·rw [if_pos e3] at h1; omega
   ·rw [if_neg e3] at h1
    have : x = y := by omega
    subst this
    split at h2
    ·rw [if_pos (by omega)]; omega
    ·rw [if_neg (by omega)]
     split at h2
     ·omega
     ·rw [if_neg (by omega)]; exact lexC_tr h1 h2
theorem lexC_ge : ∀ {a b c : List Int}, 0 ≤ lexC a b → 0 ≤ lexC b c → 0 ≤ lexC a c
 | [], [], _, _, h => h
 | [], _ :: _, _, h, _ => by simp [lexC] at h
 | _ :: _, [], [], _, _ => by simp [lexC]
 | _ :: _, [], _ :: _, _, h => by simp [lexC] at h
 | _ :: _, _ :: _, [], _, _ => by simp [lexC]
 | x :: a, y :: b, z :: c, h1, h2 => by
  unfold lexC at *
  by_cases e1 : x < y
  ·rw [if_pos e1] at h1; omega
  ·rw [if_neg e1] at h1
   by_cases e2 : y < z
   ·rw [if_pos e2] at h2; omega
   ·rw [if_neg e2] at h2
    rw [if_neg (by omega)]
    by_cases e3 : z < x
    ·rw [if_pos e3]; omega
    ·rw [if_neg e3]
     rw [if_neg (by omega)] at h1
     rw [if_neg (by omega)] at h2
     exact lexC_ge h1 h2
theorem lexC_eq : ∀ {a b : List Int}, 0 ≤ lexC a b → 0 ≤ lexC b a → a = b
 | [], [], _, _ => rfl
 | [], _ :: _, h, _ => by simp [lexC] at h
 | _ :: _, [], _, h => by simp [lexC] at h
 | x :: a, y :: b, h1, h2 => by
  unfold lexC at *
  by_cases e1 : x < y
  ·rw [if_pos e1] at h1; omega
  ·by_cases e2 : y < x
   ·rw [if_pos e2] at h2; omega
   ·rw [if_neg e1, if_neg e2] at h1
    rw [if_neg e2, if_neg e1] at h2
    rw [lexC_eq h1 h2, show x = y by omega]

theorem cmpL {a b : List Int} (ha : a.length ≤ 1000000) : ∀ (m k : Nat), k + m = a.length → k ≤ b.length →
  Option.bind (loopC (slices_Compare_int_int_l1 a b) (k : Int)) (sumK (fun a : Int => some a) fun q23 : Unit => bif decide (((a.length : Int)) < ((b.length : Int))) then some ((-1)) else some 0) = some (lexC (a.drop k) (b.drop k))
 | 0, k, h1, h2 => by
  rw [loopC_eq]
  unfold slices_Compare_int_int_l1
  rw [show decide ((k : Int) < (a.length : Int)) = false from decide_eq_false (by omega)]
  have e : k = a.length := by omega
  subst e
  simp only [cond_false, sumK, some_bind]
  rw [List.drop_length]
  rcases Nat.lt_or_ge a.length b.length with h | h
  ·rw [decide_eq_true (by omega)]
   rw [List.drop_eq_getElem_cons h]; rfl
  ·rw [decide_eq_false (by omega), List.drop_eq_nil_of_le h]; rfl
 | m + 1, k, h1, h2 => by
  have hk : k < a.length := by omega
  rw [loopC_eq]
  unfold slices_Compare_int_int_l1
  rw [show decide ((k : Int) < (a.length : Int)) = true from decide_eq_true (by omega)]
  simp only [cond_true]
  rw [idxM_nat hk, some_bind, List.drop_eq_getElem_cons hk]
  rcases Nat.lt_or_ge k b.length with hb | hb
  ·rw [show decide ((k : Int) ≥ (b.length : Int)) = false from decide_eq_false (by omega)]
   simp only [cond_false]
   rw [idxM_nat hb, some_bind, cmp_plain, some_bind, List.drop_eq_getElem_cons hb]
   unfold lexC
   by_cases e1 : a[k] < b[k]
   ·rw [if_pos e1, if_pos e1]; rfl
   ·rw [if_neg e1, if_neg e1]
    by_cases e2 : b[k] < a[k]
    ·rw [if_pos e2, if_pos e2]; rfl
    ·rw [if_neg e2, if_neg e2]
     have := cmpL (b := b) ha m (k + 1) (by omega) (by omega)
     rw [show ((0 : Int) != 0) = false from rfl]
     simp only [cond_false, sumK, some_bind]
     rw [iadd1 (by omega)]
     exact this
  ·rw [show decide ((k : Int) ≥ (b.length : Int)) = true from decide_eq_true (by omega)]
   simp only [cond_true, sumK, some_bind]
   rw [List.drop_eq_nil_of_le hb]; rfl
theorem least2_plain {a b : List Int} (ha : a.length ≤ 1000000) : explain_least_2_m a b = some (lexC a b) := by
 unfold explain_least_2_m slices_Compare_int_int_m
 have := cmpL (b := b) ha a.length 0 (by omega) (by omega)
 simp only [List.drop_zero] at this
 rw [show ((0 : Nat) : Int) = 0 from rfl] at this
 rw [this]; rfl
theorem cfo_L {a b : List Int} (ha : a.length ≤ 1000000) : cfo explain_least_2_m a b = lexC a b := by unfold cfo; rw [least2_plain ha]; rfl
theorem cmpOn_L {l : List (List Int)} (h : ∀ x ∈ l, x.length ≤ 1000000) (hd : l.Nodup) : CmpOn explain_least_2_m l := by
 have hx : ∀ i : Fin l.length, l[i].length ≤ 1000000 := fun i => h _ (List.getElem_mem i.2)
 have hlt : ∀ i j : Fin l.length, (ltOf fun i j : Fin l.length => cfo explain_least_2_m l[i] l[j]) i j = decide (lexC l[i] l[j] < 0) := fun i j => by unfold ltOf; show decide (cfo explain_least_2_m l[i] l[j] < 0) = _; rw [cfo_L (hx i)]
 refine ⟨fun x hx y hy => by rw [cfo_L (h x hx), least2_plain (h x hx)], ⟨fun i => ?_, fun i j k h1 h2 => ?_, fun i j k h1 h2 => ?_⟩, fun i j h1 h2 => ?_⟩
 ·rw [hlt, lexC_self]; rfl
 ·rw [hlt, decide_eq_true_iff] at *; exact lexC_tr h1 h2
 ·rw [hlt, decide_eq_false_iff_not] at *; have := lexC_ge (Int.not_lt.1 h1) (Int.not_lt.1 h2); omega
 ·rw [hlt, decide_eq_false_iff_not] at *
  have e := lexC_eq (Int.not_lt.1 h1) (Int.not_lt.1 h2)
  exact Fin.ext ((List.getElem_inj hd).1 e)
theorem sortN_L {l : List (List Int)} (hl : l.length ≤ 1000000) (h : ∀ x ∈ l, x.length ≤ 1000000) (hd : l.Nodup) : ∃ r, sortNM explain_least_2_m l = some r ∧ r.Perm l :=
 ⟨sortL explain_least_2_m l, by unfold sortNM; rw [if_pos ⟨by omega, cmpOn_L h hd⟩], List.mergeSort_perm _ _⟩

def sortNF (l : List (List Int)) : Option (List (List Int)) := match l with
 | [x] => if x.length ≤ 1000000 then some [x] else none
 | _ => none
theorem sortNF_le {l : List (List Int)} : Le (sortNF l) (sortNM explain_least_2_m l) := fun r h => by
 unfold sortNF at h
 split at h
 ·rename_i x
  split at h
  ·rename_i hx
   cases h
   obtain ⟨r, h1, h2⟩ := sortN_L (l := [x]) (by simp) (fun y hy => by rw [List.mem_singleton.1 hy]; exact hx) (by simp)
   rw [h1, List.perm_singleton.1 h2]
  ·cases h
 ·cases h
def sortEF (l : List T_api_Pair) : Option (List T_api_Pair) := match l with
 | [] => some []
 | [x] => some [x]
 | [x, y] => if plt x y then some [x, y] else if plt y x then some [y, x] else none
 | _ => none
theorem sort_two {x y : T_api_Pair} {r : List T_api_Pair} (h1 : r.Perm [x, y]) (h2 : r.Pairwise fun x y => plt x y ∨ x = y) (h : plt x y) : r = [x, y] := by
 have hl := h1.length_eq
 match r, hl with
 | [a, b], _ =>
  have h3 := (List.pairwise_cons.1 h2).1 b (by simp)
  have ha : a ∈ [x, y] := h1.subset (by simp)
  have hb : b ∈ [x, y] := h1.subset (by simp)
  have hx : x ∈ [a, b] := h1.symm.subset (by simp)
  have hy : y ∈ [a, b] := h1.symm.subset (by simp)
  have hne : x ≠ y := fun e => plt_irr (e ▸ h)
  simp only [List.mem_cons, List.not_mem_nil, or_false] at ha hb hx hy
  rcases ha with rfl | rfl
  ·rcases hy with e | rfl
   ·exact absurd e.symm hne
   ·rfl
  ·rcases hx with e | rfl
   ·exact absurd e hne
   ·rcases h3 with h3 | h3
    ·exact absurd (plt_trans h h3) plt_irr
    ·exact absurd h3.symm hne
theorem enforce_cmp : enforce_compare_m = graph_compare_m := rfl
theorem sortEF_le {l : List T_api_Pair} : Le (sortEF l) (sortFM enforce_compare_m l) := fun r h => by
 rw [enforce_cmp]
 unfold sortEF at h
 split at h
 ·cases h
  obtain ⟨r, h1, h2, _⟩ := sort_P (l := []) (by simp)
  rw [h1, List.perm_nil.1 h2]
 ·cases h
  rename_i x
  obtain ⟨r, h1, h2, _⟩ := sort_P (l := [x]) (by simp)
  rw [h1, List.perm_singleton.1 h2]
 ·rename_i x y
  obtain ⟨r', h1, h2, h3⟩ := sort_P (l := [x, y]) (by simp)
  split at h
  ·rename_i hp; cases h; rw [h1, sort_two h2 h3 hp]
  ·split at h
   ·rename_i hp; cases h; rw [h1, sort_two (h2.trans (List.Perm.swap y x [])) h3 hp]
   ·cases h
 ·cases h
end Go.Dc
