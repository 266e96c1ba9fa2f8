/- Part P52.KeyI of a proof: lemmas. -/
import Derived.Test.YtkkgghdjclkknaaGreatDoorLAWTEW
import Derived.Test.YtkkgghdjclkknaaGreatDoorMData
import Derived.Test.YtkkgghdjclkknaaGreatDoorDcCpt
import Derived.Test.YtkkgghdjclkknaaGreatDoorMBridgeM
set_option linter.unusedVariables false
set_option linter.unusedSimpArgs false
set_option linter.unusedSectionVars false
namespace Go.Dc
theorem Yc {x n : Int} (hn : n ≤ 4611686018427387904) : T (B_ x n) fun r => 1 ≤ n → 0 ≤ r ∧ r < n := by
 unfold B_
 refine T.cond (fun h => .ret fun h1 => ?_) fun h => ?_
 ·simp at h; omega
 ·simp at h
  have h1 : OV .i64 x n = some (x.tmod n) := by unfold OV; rw [if_neg (by omega)]; rfl
  have h2 := Int.tmod_lt_of_pos x (show 0 < n by omega)
  have h3 := Int.lt_tmod_of_pos x (show 0 < n by omega)
  rw [h1]
  refine T.bind (T.ret rfl) fun a ha => ?_
  subst ha
  refine T.cond (fun h => .T4 (.ret fun _ => ?_)) fun h => .ret fun _ => ?_
  ·simp at h; rw [iz (by omega) (by omega)]; omega
  ·simp at h; omega
def EI (s : ay) : Prop := 0 ≤ s.At ∧ s.L.length ≤ 2000
theorem X9 {s : ay} (h : EI s) : T (sZ s) fun r => EI r.2 := by
 unfold sZ
 obtain ⟨h1, h2⟩ := h
 refine T.cond (fun h => .ret ⟨h1, h2⟩) fun h => ?_
 simp at h
 rw [iz (by omega) (by omega), Cc (by omega) (by omega), VR (by omega) (by omega)]
 exact T.bind (T.ret rfl) fun a _ => .ret ⟨by simp only; omega, h2⟩
theorem LL {s : ay} (h : EI s) {n : Int} (hn : n ≤ 4611686018427387904) : T (mK s n) fun r => EI r.2 ∧ (1 ≤ n → 0 ≤ r.1 ∧ r.1 < n) := by
 unfold mK
 exact T.bind (X9 h) fun t ht => T.bind (Yc hn) fun a ha => .ret ⟨ht, ha⟩
theorem Ya {l : List Int} : T (B9 l) fun r => EI ⟨r.1, r.2⟩ := by
 unfold B9
 have h : GQ (l.length : Int) 2000 = (l.length : Int) ∨ GQ (l.length : Int) 2000 = 2000 := by unfold GQ; split <;> simp
 have h2 : 0 ≤ GQ (l.length : Int) 2000 ∧ GQ (l.length : Int) 2000 ≤ l.length ∧ GQ (l.length : Int) 2000 ≤ 2000 := by unfold GQ; split <;> omega
 rw [slM_eq (by omega) (by omega) (by omega)]
 exact T.bind (T.ret rfl) fun a ha => .ret ⟨by simp, by subst ha; simp; omega⟩
end Go.Dc
namespace Go.Dc
theorem LQ {n : Nat} (h : n < 2 ^ 64) : IntKind.wrap .u64 (n : Int) = (n : Int) := by
 simp [IntKind.wrap, IntKind.signed, IntKind.bits]; omega
def Lm (a b : Nat) : Nat := (BitVec.ofNat 64 a &&& ~~~BitVec.ofNat 64 b).toNat
theorem Wp {a b : Nat} : Lm a b < 2 ^ 64 := BitVec.isLt _
theorem Bs {a b i : Nat} (ha : a < 2 ^ 64) : (Lm a b).testBit i = (a.testBit i && !b.testBit i) := by
 unfold Lm
 rw [BitVec.testBit_toNat]
 simp only [BitVec.getLsbD_and, BitVec.getLsbD_not, BitVec.getLsbD_ofNat]
 by_cases h : i < 64
 ·simp [h]
 ·have : a.testBit i = false := Nat.testBit_lt_two_pow (Nat.lt_of_lt_of_le ha (Nat.pow_le_pow_right (by decide) (by omega)))
  simp [h, this]
theorem and_lt {a b : Nat} (ha : a < 2 ^ 64) : a &&& b < 2 ^ 64 := Nat.lt_of_le_of_lt Nat.and_le_left ha
theorem Vw {a b : Nat} (ha : a < 2 ^ 64) (hb : b < 2 ^ 64) : a ||| b < 2 ^ 64 := Nat.or_lt_two_pow ha hb
theorem MU {a b : Nat} (ha : a < 2 ^ 64) (hb : b < 2 ^ 64) : cE .u64 (a : Int) (b : Int) = ((a &&& b : Nat) : Int) := by
 unfold cE
 have : (BitVec.ofInt 64 (a : Int) &&& BitVec.ofInt 64 (b : Int)).toNat = a &&& b := by
  simp only [BitVec.toNat_and, BitVec.ofInt_natCast, BitVec.toNat_ofNat]
  rw [Nat.mod_eq_of_lt ha, Nat.mod_eq_of_lt hb]
 rw [show IntKind.bits .u64 = 64 from rfl, this, LQ (and_lt ha)]
theorem VP {a b : Nat} (ha : a < 2 ^ 64) (hb : b < 2 ^ 64) : Yo .u64 (a : Int) (b : Int) = ((a ||| b : Nat) : Int) := by
 unfold Yo
 have : (BitVec.ofInt 64 (a : Int) ||| BitVec.ofInt 64 (b : Int)).toNat = a ||| b := by
  simp only [BitVec.toNat_or, BitVec.ofInt_natCast, BitVec.toNat_ofNat]
  rw [Nat.mod_eq_of_lt ha, Nat.mod_eq_of_lt hb]
 rw [show IntKind.bits .u64 = 64 from rfl, this, LQ (Vw ha hb)]
theorem Qq {a b : Nat} : s_ .u64 (a : Int) (b : Int) = ((Lm a b : Nat) : Int) := by
 unfold s_ Lm
 rw [show IntKind.bits .u64 = 64 from rfl, BitVec.ofInt_natCast, BitVec.ofInt_natCast, LQ (BitVec.isLt _)]
theorem isub_u {a b : Nat} (ha : a < 2 ^ 64) (hb : b ≤ a) : qq .u64 (a : Int) (b : Int) = ((a - b : Nat) : Int) := by
 unfold qq
 rw [show (a : Int) - (b : Int) = ((a - b : Nat) : Int) by omega, LQ (by omega)]
theorem isub1_u {a : Nat} (ha : a < 2 ^ 64) (hb : 1 ≤ a) : qq .u64 (a : Int) 1 = ((a - 1 : Nat) : Int) := isub_u (b := 1) ha hb
theorem aat {n : Nat} (h : n < 64) : XA .u64 1 (n : Int) = ((2 ^ n : Nat) : Int) := by
 unfold XA
 rw [show min ((n : Int).toNat) (IntKind.bits .u64) = n by simp [IntKind.bits]; omega, Int.one_mul]
 rw [show (2 : Int) ^ n = ((2 ^ n : Nat) : Int) by simp]
 exact LQ (Nat.pow_lt_pow_right (by decide) h)
theorem ishr_u {a n : Nat} (h : n ≤ 64) : Xz .u64 (a : Int) (n : Int) = ((a >>> n : Nat) : Int) := by
 unfold Xz
 rw [show min ((n : Int).toNat) (IntKind.bits .u64) = n by simp [IntKind.bits]; omega, Int.fdiv_eq_ediv_of_nonneg _ (Int.le_of_lt (Int.pow_pos (show (0 : Int) < 2 by decide))), Nat.shiftRight_eq_div_pow]
 simp
theorem T0 {s : Nat} (h : s ≠ 0) : ∃ k, s.testBit k = true ∧ ∀ j, j < k → s.testBit j = false := by
 obtain ⟨i, hi⟩ := Nat.exists_testBit_of_ne_zero h
 induction i using Nat.strongRecOn with
 | _ i ih =>
  by_cases hx : ∃ j, j < i ∧ s.testBit j = true
  ·obtain ⟨j, hj, hb⟩ := hx; exact ih j hj hb
  ·exact ⟨i, hi, fun j hj => by cases hb : s.testBit j; rfl; exact absurd ⟨j, hj, hb⟩ hx⟩
section low
variable {s k : Nat}
theorem aad (hk : s.testBit k = true) (hl : ∀ j, j < k → s.testBit j = false) : s = 2 ^ (k + 1) * (s / 2 ^ (k + 1)) + 2 ^ k := by
 have h1 : s % 2 ^ (k + 1) = 2 ^ k := by
  apply Nat.eq_of_testBit_eq
  intro j
  rw [Nat.testBit_mod_two_pow, Nat.testBit_two_pow]
  by_cases e : j < k
  ·simp [hl j e]; omega
  ·by_cases e2 : j = k
   ·subst e2; simp [hk]
   ·have : ¬ j < k + 1 := by omega
    have h3 : ¬ k = j := fun h => e2 h.symm
    simp [this, h3]
 have := Nat.div_add_mod s (2 ^ (k + 1))
 omega
theorem RQ (hk : s.testBit k = true) (hl : ∀ j, j < k → s.testBit j = false) (j : Nat) : (s - 1).testBit j = if j < k then true else if j = k then false else s.testBit j := by
 have hf := aad hk hl
 have hp : 0 < 2 ^ k := Nat.two_pow_pos k
 have h2 : 2 ^ k - 1 < 2 ^ (k + 1) := by rw [Nat.pow_succ]; omega
 have h3 : 2 ^ k < 2 ^ (k + 1) := by rw [Nat.pow_succ]; omega
 have e : s - 1 = 2 ^ (k + 1) * (s / 2 ^ (k + 1)) + (2 ^ k - 1) := by omega
 rw [e, Nat.testBit_two_pow_mul_add _ h2, Nat.testBit_two_pow_sub_one]
 have hs : s.testBit j = if j < k + 1 then (2 ^ k).testBit j else (s / 2 ^ (k + 1)).testBit (j - (k + 1)) := by
  conv => lhs; rw [hf]
  rw [Nat.testBit_two_pow_mul_add _ h3]
 by_cases h1 : j < k
 ·simp [h1, show j < k + 1 by omega]
 ·by_cases h4 : j = k
  ·subst h4; simp
  ·rw [hs, if_neg h1, if_neg h4, if_neg (by omega), if_neg (by omega)]
theorem JI (hk : s.testBit k = true) (hl : ∀ j, j < k → s.testBit j = false) (j : Nat) : (s &&& (s - 1)).testBit j = if j ≤ k then false else s.testBit j := by
 rw [Nat.testBit_and, RQ hk hl]
 by_cases h1 : j < k
 ·simp [h1, hl j h1, show j ≤ k by omega]
 ·by_cases h4 : j = k
  ·subst h4; simp
  ·simp [h1, h4, show ¬ j ≤ k by omega]
theorem low_neg (hs : s < 2 ^ 64) (hk : s.testBit k = true) (hl : ∀ j, j < k → s.testBit j = false) : s &&& (2 ^ 64 - s) = 2 ^ k := by
 have h0 : s ≠ 0 := fun e => by rw [e] at hk; simp at hk
 have hk64 : k < 64 := by
  by_cases h : k < 64
  ·exact h
  ·have := Nat.testBit_lt_two_pow (Nat.lt_of_lt_of_le hs (Nat.pow_le_pow_right (by decide : 0 < 2) (by omega : 64 ≤ k)))
   rw [this] at hk; cases hk
 apply Nat.eq_of_testBit_eq
 intro j
 rw [Nat.testBit_and, Nat.testBit_two_pow, show 2 ^ 64 - s = 2 ^ 64 - ((s - 1) + 1) by omega, Nat.testBit_two_pow_sub_succ (by omega), RQ hk hl]
 by_cases h1 : j < k
 ·simp [hl j h1]; omega
 ·by_cases h4 : j = k
  ·subst h4; simp [hk, hk64]
  ·have h5 : ¬ k = j := fun h => h4 h.symm
   simp only [if_neg h1, if_neg h4, h5, decide_false]
   cases s.testBit j <;> simp
end low
theorem bit_lt {s i : Nat} (hs : s < 2 ^ 64) (h : s.testBit i = true) : i < 64 := by
 by_cases h1 : i < 64
 ·exact h1
 ·have := Nat.testBit_lt_two_pow (Nat.lt_of_lt_of_le hs (Nat.pow_le_pow_right (by decide : 0 < 2) (by omega : 64 ≤ i)))
  rw [this] at h; cases h
def fD (s : Nat) : List Nat := (List.range 64).filter s.testBit
theorem o8 {s i : Nat} (hs : s < 2 ^ 64) : i ∈ fD s ↔ s.testBit i = true := by
 unfold fD
 rw [List.mem_filter, List.mem_range]
 exact ⟨fun h => h.2, fun h => ⟨bit_lt hs h, h⟩⟩
theorem UM : fD 0 = [] := by
 unfold fD
 rw [List.filter_eq_nil_iff]; simp
theorem UN {s k : Nat} (hs : s < 2 ^ 64) (hk : s.testBit k = true) (hl : ∀ j, j < k → s.testBit j = false) : fD s = k :: fD (s &&& (s - 1)) := by
 have hk64 := bit_lt hs hk
 have hr : List.range 64 = List.range k ++ (k :: (List.range (63 - k)).map (k + 1 + ·)) := by
  rw [show 64 = (k + 1) + (63 - k) by omega, List.range_add, List.range_succ]; simp
 unfold fD
 rw [hr, List.filter_append, List.filter_append, List.filter_cons_of_pos hk]
 have h1 : (List.range k).filter s.testBit = [] := List.filter_eq_nil_iff.2 fun j hj => by simp [hl j (List.mem_range.1 hj)]
 have h2 : (List.range k).filter (s &&& (s - 1)).testBit = [] := List.filter_eq_nil_iff.2 fun j hj => by
  rw [JI hk hl, if_pos (by have := List.mem_range.1 hj; omega)]; simp
 have h3 : ¬ (s &&& (s - 1)).testBit k = true := by rw [JI hk hl]; simp
 rw [h1, h2, List.filter_cons_of_neg h3]
 simp only [List.nil_append]
 congr 1
 refine List.filter_congr fun j hj => ?_
 obtain ⟨m, _, rfl⟩ := List.mem_map.1 hj
 rw [JI hk hl, if_neg (by omega)]
theorem uO {s : Nat} : (fD s).length ≤ 64 := by
 unfold fD
 exact Nat.le_trans (List.length_filter_le _ _) (by simp)
theorem low_lt {s : Nat} (h : s ≠ 0) : s &&& (s - 1) < s := Nat.lt_of_le_of_lt Nat.and_le_right (by omega)
theorem Jc {a : Nat} : a = 0 ↔ ∀ i, a.testBit i = false := by
 constructor
 ·rintro rfl i; simp
 ·intro h; exact Nat.eq_of_testBit_eq fun i => by rw [h i]; simp
end Go.Dc
namespace Go.Dc
open Go.Proofs Go.Sort
def zi (p q : ah) : Prop := p.bw < q.bw ∨ p.bw = q.bw ∧ p.To < q.To
instance : DecidablePred fun x : ah × ah => zi x.1 x.2 := fun _ => inferInstanceAs (Decidable (_ ∨ _))
instance (p q : ah) : Decidable (zi p q) := inferInstanceAs (Decidable (_ ∨ _))
theorem AA {p q r : ah} (h : zi p q) (k : zi q r) : zi p r := by unfold zi at *; omega
theorem BS {p : ah} : ¬ zi p p := by unfold zi; omega
theorem RB {p q : ah} (h : p.bw = q.bw) (k : p.To = q.To) : p = q := by cases p; cases q; simp_all
theorem Vu {p q : ah} (h : ¬ zi p q) (k : ¬ zi q p) : p = q := RB (by unfold zi at *; omega) (by unfold zi at *; omega)
structure cu (g : af) : Prop where
 n0 : 0 ≤ g.N
 n1 : g.N ≤ 40
 v : ∀ p ∈ g.L, 0 ≤ p.bw ∧ p.bw < g.N ∧ 0 ≤ p.To ∧ p.To < g.N
 s : g.L.Pairwise zi
theorem J8 {x y : Int} : bT x y = some (if x < y then -1 else if y < x then 1 else 0) := by
 unfold bT iP
 simp only [aj, bne_self_eq_false, cond_false]
 by_cases h : x < y
 ·simp [h]
 ·by_cases h2 : y < x <;> simp [h, h2]
theorem ZJ {a b : Int} : gU [a, b] = some (if a = 0 then b else a) := by
 have h0 : eR [a, b] 0 = some (bif a != 0 then .inl (.inl a) else .inr 1) := by
  unfold eR
  rw [show decide ((0 : Int) < (([a, b] : List Int).length : Int)) = true from rfl, show aL [a, b] 0 = some a from rfl, iz (by omega) (by omega)]
  simp only [cond_true, aj]
  cases a != 0 <;> rfl
 have h1 : eR [a, b] 1 = some (bif b != 0 then .inl (.inl b) else .inr 2) := by
  unfold eR
  rw [show decide ((1 : Int) < (([a, b] : List Int).length : Int)) = true from rfl, show aL [a, b] 1 = some b from rfl, iz (by omega) (by omega)]
  simp only [cond_true, aj]
  cases b != 0 <;> rfl
 have h2 : eR [a, b] 2 = some (.inl (.inr ())) := by
  unfold eR
  rw [show decide ((2 : Int) < (([a, b] : List Int).length : Int)) = false from rfl]; rfl
 unfold gU
 rw [gq, h0]
 by_cases ha : a = 0
 ·subst ha
  rw [if_pos rfl, show ((0 : Int) != 0) = false from rfl]
  simp only [cond_false, Option.bind_some]
  rw [gq, h1]
  by_cases hb : b = 0
  ·subst hb
   rw [show ((0 : Int) != 0) = false from rfl]
   simp only [cond_false, Option.bind_some]
   rw [gq, h2]; rfl
  ·rw [show (b != 0) = true from by simp [hb]]; rfl
 ·rw [if_neg ha, show (a != 0) = true from by simp [ha]]; rfl
def Xf (p q : ah) : Int := if zi p q then -1 else if zi q p then 1 else 0
theorem Mn {p q : ah} : bA p q = some (Xf p q) := by
 unfold bA
 rw [J8, aj, J8, aj, ZJ, aj]
 unfold Xf zi
 congr 1
 by_cases h1 : p.bw < q.bw <;> by_cases h2 : q.bw < p.bw <;> by_cases h3 : p.To < q.To <;> by_cases h4 : q.To < p.To <;> simp [h1, h2, h3, h4] <;> omega
theorem cfo_P {p q : ah} : wP bA p q = Xf p q := by unfold wP; rw [Mn]; rfl
theorem TY {p q : ah} : ltOf (wP bA) p q = true ↔ zi p q := by
 unfold ltOf; rw [cfo_P, decide_eq_true_iff]; unfold Xf; split
 ·simp [*]
 ·split <;> simp [*]
theorem Ih {p q : ah} : ltOf (wP bA) p q = false ↔ ¬ zi p q := by
 rw [← TY]; simp
theorem cmpOk_P : S9 bA where
 tot := fun x y => by rw [cfo_P, Mn]
 swo := ⟨fun x => by rw [Ih]; exact BS, fun x y z h1 h2 => by rw [TY] at *; exact AA h1 h2, fun x y z h1 h2 => by rw [Ih] at *; unfold zi at *; omega⟩
 sep := fun x y h1 h2 => by rw [Ih] at *; exact Vu h1 h2
theorem L4 {l : List ah} (h : l.length ≤ 100000) : ∃ r, gX bA l = some r ∧ r.Perm l ∧ r.Pairwise fun x y => zi x y ∨ x = y := by
 refine ⟨nM bA l, by unfold gX; rw [if_pos ⟨by omega, cmpOk_P⟩], List.mergeSort_perm _ _, ?_⟩
 have hs := List.pairwise_mergeSort (le := fun x y => !(ltOf (wP bA)) y x)
  (fun a b c h1 h2 => by simp only [Bool.not_eq_true', Ih] at *; unfold zi at *; omega)
  (fun a b => by
   cases h1 : ltOf (wP bA) b a with
   | false => rfl
   | true =>
    cases h2 : ltOf (wP bA) a b with
    | false => rfl
    | true => rw [TY] at h1 h2; exact absurd (AA h1 h2) BS) l
 refine hs.imp fun {x y} h => ?_
 simp only [Bool.not_eq_true', Ih] at h
 by_cases hx : zi x y
 ·exact .inl hx
 ·exact .inr (Vu hx h)
def pOk (N : Int) (p : ah) : Prop := 0 ≤ p.bw ∧ p.bw < N ∧ 0 ≤ p.To ∧ p.To < N
def Fine (g : af) (i : Nat) : Prop := ∀ k (hk : k < g.L.length), k < i → pOk g.N g.L[k] ∧ ∀ h : 1 ≤ k, zi (g.L[k - 1]'(by omega)) g.L[k]
theorem pw_of {l : List ah} (h : ∀ k (hk : k < l.length), ∀ h1 : 1 ≤ k, zi (l[k - 1]'(by omega)) l[k]) : l.Pairwise zi := by
 rw [List.pairwise_iff_getElem]
 intro i j hi hj hij
 induction j with
 | zero => omega
 | succ j ih =>
  have h1 := h (j + 1) hj (by omega)
  simp only [Nat.add_sub_cancel] at h1
  by_cases e : i = j
  ·subst e; exact h1
  ·exact AA (ih (by omega) (by omega)) h1
theorem gval_of {g : af} (h0 : 0 ≤ g.N) (h1 : g.N ≤ 40) (h : Fine g g.L.length) : cu g :=
 ⟨h0, h1, fun p hp => by obtain ⟨i, hi, rfl⟩ := List.getElem_of_mem hp; exact (h i hi hi).1, pw_of fun k hk h1 => (h k hk hk).2 h1⟩
theorem cu.pw {g : af} (h : cu g) {i : Nat} (h0 : 1 ≤ i) (hi : i < g.L.length) : zi (g.L[i - 1]'(by omega)) g.L[i] :=
 List.pairwise_iff_getElem.1 h.s (i - 1) i (by omega) hi (by omega)
theorem Fine.step {g : af} {i : Nat} (h : Fine g i) (hi : i < g.L.length) (h1 : pOk g.N g.L[i]) (h2 : ∀ h : 1 ≤ i, zi (g.L[i - 1]'(by omega)) g.L[i]) : Fine g (i + 1) := fun k hk hki => by
 by_cases e : k = i
 ·subst e; exact ⟨h1, h2⟩
 ·exact h k hk (by omega)
theorem zX {g : af} (hl : g.L.length ≤ 1000000) : T (b_ g) fun r => r = 0 ↔ cu g := by
 unfold b_
 refine T.cond (fun c => .ret ⟨fun h => (by cases h), fun h => by have := h.n0; simp at c; omega⟩) fun c0 => T.cond (fun c => .ret ⟨fun h => (by cases h), fun h => by have := h.n1; simp at c; omega⟩) fun c1 => ?_
 simp at c0 c1
 refine T.bind (P := fun r => match r with | .inl a => a ≠ 0 ∧ ¬ cu g | .inr _ => cu g) ?_ fun q hq => ?_
 ·refine T.cS g.L.length (fun i s => s = (i : Int) ∧ i ≤ g.L.length ∧ Fine g i) ⟨rfl, by omega, fun k hk Ce => by omega⟩ ?_
  rintro i _ ⟨rfl, hi, hf⟩
  dsimp only [nV]
  refine T.cond (fun g1 => ?_) fun g1 => .ret ?_
  ·have hlt : i < g.L.length := by simpa using g1
   rw [a_ hlt, aj, cN (by omega)]
   have hmn : GQ g.L[i].bw g.L[i].To < 0 ↔ g.L[i].bw < 0 ∨ g.L[i].To < 0 := by unfold GQ; split <;> omega
   have hmx : imax g.L[i].bw g.L[i].To ≥ g.N ↔ g.L[i].bw ≥ g.N ∨ g.L[i].To ≥ g.N := by unfold imax; split <;> omega
   have bad : ¬ pOk g.N g.L[i] → ¬ cu g := fun hb hv => hb (hv.v _ (List.getElem_mem hlt))
   refine T.cond (fun g2 => .ret ⟨by decide, bad fun hp => ?_⟩) fun g2 => T.cond (fun g3 => .ret ⟨by decide, bad fun hp => ?_⟩) fun g3 => ?_
   ·have := hmn.1 (of_decide_eq_true g2); obtain ⟨a, b, c, d⟩ := hp; omega
   ·have := hmx.1 (of_decide_eq_true g3); obtain ⟨a, b, c, d⟩ := hp; omega
   have h2 : ¬ (g.L[i].bw < 0 ∨ g.L[i].To < 0) := fun h => of_decide_eq_false g2 (hmn.2 h)
   have h3 : ¬ (g.L[i].bw ≥ g.N ∨ g.L[i].To ≥ g.N) := fun h => of_decide_eq_false g3 (hmx.2 h)
   have hp : pOk g.N g.L[i] := by unfold pOk; omega
   refine T.cond (fun g4 => ?_) fun g4 => .ret ⟨hlt, rfl, by omega, hf.step hlt hp fun h => by simp at g4; omega⟩
   simp at g4
   rw [isub1 (by omega), show (i : Int) - 1 = ((i - 1 : Nat) : Int) from by omega, a_ (by omega), aj, Mn, aj]
   refine T.cond (fun g5 => .ret ⟨by decide, fun hv => ?_⟩) fun g5 => .ret ⟨hlt, rfl, by omega, hf.step hlt hp fun h => ?_⟩
   ·have := hv.pw (by omega : 1 ≤ i) hlt
    have g5 := of_decide_eq_true g5
    unfold Xf at g5; rw [if_pos this] at g5; omega
   ·have g5 := of_decide_eq_false g5
    unfold Xf at g5
    refine Classical.byContradiction fun hn => g5 ?_
    rw [if_neg hn]; split <;> omega
  ·have e : i = g.L.length := by have : ¬ (i : Int) < g.L.length := of_decide_eq_false g1; omega
   subst e
   exact gval_of (by omega) (by omega) hf
 ·cases q with
  | inl a => exact .ret ⟨fun h => absurd h hq.1, fun h => absurd h hq.2⟩
  | inr a => exact .ret ⟨fun _ => hq, fun _ => rfl⟩
theorem nu {g : af} (h : cu g) (hl : g.L.length ≤ 1000000) : b_ g = some 0 := by
 obtain ⟨r, e, hr⟩ := zX (g := g) hl
 rw [e, hr.2 h]
end Go.Dc
namespace Go.Dc
open Go.Proofs Go.Sort
def sf (l : List Int) : Nat → Int := fun i => l.getD i 0
theorem Ee {l : List Int} {i : Nat} (h : i < l.length) : aL l (i : Int) = some (sf l i) := xD h
theorem mw {l : List Int} {i j : Nat} {x : Int} (h : i < l.length) : sf (l.set i x) j = if i = j then x else sf l j := A5 h
def qe (g : af) (a b : Int) : Prop := ∃ p ∈ g.L, p.bw = a ∧ p.To = b
theorem YJ {s k : Nat} (hs : s < 2 ^ 64) (hk : s.testBit k = true) (hl : ∀ j, j < k → s.testBit j = false) : YK (s : Int) = some (k : Int) := by
 have h0 : s ≠ 0 := fun e => by rw [e] at hk; simp at hk
 unfold YK
 rw [if_pos ⟨by omega, by omega⟩, Int.toNat_natCast]
 have h1 := (Lib.lowest_bit 64 s h0 hs).1
 rw [low_neg hs hk hl] at h1
 rw [← (Nat.pow_right_inj (by omega)).1 h1]
theorem MH {m : Nat} (hm : m < 2 ^ 64) : td (m : Int) = some ((fD m).map fun k : Nat => (k : Int)) := by
 unfold td
 refine T.eq (T.bind (P := fun q => q = (fD m).map fun k : Nat => (k : Int)) ?_ fun q hq => .ret hq)
 refine T.loopM (fun s => ∃ t : Nat, s.1 = (t : Int) ∧ t < 2 ^ 64 ∧ s.2 ++ ((fD t).map fun k : Nat => (k : Int)) = (fD m).map fun k : Nat => (k : Int)) (fun s => s.1.toNat) ⟨m, rfl, hm, rfl⟩ ?_
 rintro ⟨_, out⟩ ⟨t, rfl, ht, ho⟩
 dsimp only [Gc] at ho ⊢
 have hlen : out.length ≤ 64 := by
  have := congrArg List.length ho
  simp only [List.length_append, List.length_map] at this
  have := uO (s := m)
  omega
 refine T.cond (fun c => ?_) fun c => ?_
 ·have h0 : t ≠ 0 := fun e => by rw [e] at c; simp at c
  obtain ⟨k, hk, hl⟩ := T0 h0
  rw [YJ ht hk hl, aj, cL (by simp; omega), aj, isub1_u ht (by omega), MU ht (by omega)]
  refine .ret ⟨⟨t &&& (t - 1), rfl, Nat.lt_of_le_of_lt Nat.and_le_left ht, ?_⟩, ?_⟩
  ·rw [UN ht hk hl] at ho
   rw [← ho]; simp
  ·simp only [Int.toNat_natCast]; exact low_lt h0
 ·have h0 : t = 0 := by simpa using c
  subst h0
  rw [UM, List.map_nil, List.append_nil] at ho
  exact .ret ho
theorem NH {g : af} (h : cu g) (hl : g.L.length ≤ 100000) {i : Nat} (hi : (i : Int) < g.N) : ∃ L, pg g (i : Int) = some L ∧ (∀ j : Int, j ∈ L ↔ qe g i j) ∧ L.Pairwise (· < ·) ∧ L.length ≤ 64 := by
 obtain ⟨N, hN⟩ : ∃ N : Nat, g.N = (N : Int) := ⟨g.N.toNat, by have := h.n0; omega⟩
 have Te := h.n1
 suffices hm : T (uY g) fun d => d.length = N ∧ ∀ a : Nat, a < N → ∃ m : Nat, sf d a = (m : Int) ∧ m < 2 ^ 64 ∧ ∀ j : Nat, m.testBit j = true ↔ qe g a j by
  obtain ⟨d, e1, hd, hd2⟩ := hm
  obtain ⟨m, hm1, hm2, hm3⟩ := hd2 i (by omega)
  refine ⟨(fD m).map fun k : Nat => (k : Int), ?_, fun j => ?_, ?_, by rw [List.length_map]; exact uO⟩
  ·unfold pg oL
   rw [nu h (by omega), aj, show ((0 : Int) != 0) = false from rfl, cond_false, aj, decide_eq_false (by omega), cond_false, decide_eq_false (by omega), cond_false, e1, aj, Ee (by omega), hm1, aj, MH hm2]; rfl
  ·rw [List.mem_map]
   constructor
   ·rintro ⟨k, hk, rfl⟩
    exact (hm3 k).1 ((o8 hm2).1 hk)
   ·intro hj
    obtain ⟨p, hp, h1, h2⟩ := hj
    have := h.v p hp
    exact ⟨j.toNat, (o8 hm2).2 ((hm3 j.toNat).2 ⟨p, hp, h1, by omega⟩), by omega⟩
  ·rw [List.pairwise_map]
   unfold fD
   refine List.Pairwise.imp ?_ (List.Pairwise.filter _ (List.pairwise_lt_range (n := 64)))
   intro a b hab
   omega
 unfold uY
 rw [hN, Z6 (by omega), aj]
 refine T.bind (P := fun d => d.length = N ∧ ∀ a : Nat, a < N → ∃ m : Nat, sf d a = (m : Int) ∧ m < 2 ^ 64 ∧ ∀ j : Nat, m.testBit j = true ↔ qe g a j) ?_ fun d hd => .ret hd
 refine T.cS g.L.length (fun k s => k ≤ g.L.length ∧ s.1 = (k : Int) ∧ s.2.length = N ∧ ∀ a : Nat, a < N → ∃ m : Nat, sf s.2 a = (m : Int) ∧ m < 2 ^ 64 ∧ ∀ j : Nat, m.testBit j = true ↔ ∃ p ∈ g.L.take k, p.bw = a ∧ p.To = j) ⟨by omega, rfl, by simp, fun a ha => ⟨0, by simp [sf, ha], by omega, by simp⟩⟩ ?_
 rintro k ⟨_, d⟩ ⟨hk, rfl, hd, hd2⟩
 dsimp only [Eh] at hd hd2 ⊢
 refine T.cond (fun c => ?_) fun c => ?_
 ·have hk2 : k < g.L.length := by have := of_decide_eq_true c; omega
  obtain ⟨v0, v1, v2, v3⟩ := h.v _ (List.getElem_mem hk2)
  obtain ⟨a, ha⟩ : ∃ a : Nat, g.L[k].bw = (a : Int) := ⟨g.L[k].bw.toNat, by omega⟩
  obtain ⟨t, ht⟩ : ∃ t : Nat, g.L[k].To = (t : Int) := ⟨g.L[k].To.toNat, by omega⟩
  obtain ⟨m, m1, m2, m3⟩ := hd2 a (by omega)
  have hsh : Ed .u64 1 (t : Int) = some (((2 ^ t : Nat) : Int)) := by
   unfold Ed
   rw [if_neg (by omega), aat (by omega)]
  have p2 : 2 ^ t < 2 ^ 64 := Nat.pow_lt_pow_right (by omega) (by omega)
  rw [a_ hk2, aj, ha, ht, Ee (by omega), aj, hsh, aj, aj, m1, VP m2 p2, cN (by omega), Int.toNat_natCast]
  refine .ret ⟨hk2, hk2, rfl, by simp [hd], fun b hb => ?_⟩
  have Qr : ∀ q : ah, q ∈ g.L.take (k + 1) ↔ q ∈ g.L.take k ∨ q = g.L[k] := fun q => by
   rw [List.take_add_one, List.getElem?_eq_getElem hk2]; simp only [Option.toList_some, List.mem_append, List.mem_singleton]
  simp only
  rw [mw (by omega)]
  by_cases e : a = b
  ·subst e
   rw [if_pos rfl]
   refine ⟨_, rfl, Vw m2 p2, fun j => ?_⟩
   rw [Nat.testBit_or, Bool.or_eq_true, m3, Nat.testBit_two_pow, decide_eq_true_iff]
   constructor
   ·rintro (⟨p, hp, q1, q2⟩ | rfl)
    ·exact ⟨p, (Qr p).2 (.inl hp), q1, q2⟩
    ·exact ⟨_, (Qr _).2 (.inr rfl), ha, ht⟩
   ·rintro ⟨p, hp, q1, q2⟩
    rcases (Qr p).1 hp with hp | rfl
    ·exact .inl ⟨p, hp, q1, q2⟩
    ·exact .inr (by omega)
  ·rw [if_neg e]
   obtain ⟨m', n1, n2, n3⟩ := hd2 b hb
   refine ⟨m', n1, n2, fun j => ?_⟩
   rw [n3]
   constructor
   ·rintro ⟨p, hp, q1, q2⟩; exact ⟨p, (Qr p).2 (.inl hp), q1, q2⟩
   ·rintro ⟨p, hp, q1, q2⟩
    rcases (Qr p).1 hp with hp | rfl
    ·exact ⟨p, hp, q1, q2⟩
    ·exact absurd (by omega) e
 ·have e : k = g.L.length := by have := of_decide_eq_false c; omega
  subst e
  rw [List.take_length] at hd2
  exact .ret ⟨hd, hd2⟩
def aK (g : af) (i : Int) : List Int := (g.L.filter fun p => p.To == i).map (·.bw)
theorem EU {g : af} {i j : Int} : j ∈ aK g i ↔ qe g j i := by
 unfold aK qe
 rw [List.mem_map]
 constructor
 ·rintro ⟨p, hp, rfl⟩
  rw [List.mem_filter] at hp
  exact ⟨p, hp.1, rfl, eq_of_beq hp.2⟩
 ·rintro ⟨p, hp, rfl, rfl⟩
  exact ⟨p, List.mem_filter.2 ⟨hp, by simp⟩, rfl⟩
theorem Kk {g : af} (h : g.L.Pairwise zi) {i : Int} : (aK g i).Pairwise (· < ·) := by
 unfold aK
 rw [List.pairwise_map, List.pairwise_filter]
 refine h.imp fun {p q} hpq hp hq => ?_
 have := eq_of_beq hp; have := eq_of_beq hq
 unfold zi at hpq; omega
theorem asc_eq : ∀ {a b : List Int}, a.Pairwise (· < ·) → b.Pairwise (· < ·) → (∀ x, x ∈ a ↔ x ∈ b) → a = b
 | [], [], _, _, _ => rfl
 | [], y :: b, _, _, h => absurd ((h y).2 (by simp)) (by simp)
 | x :: a, [], _, _, h => absurd ((h x).1 (by simp)) (by simp)
 | x :: a, y :: b, ha, hb, h => by
  obtain ⟨a1, a2⟩ := List.pairwise_cons.1 ha
  obtain ⟨b1, b2⟩ := List.pairwise_cons.1 hb
  have e : x = y := by
   have h1 := (h x).1 (by simp)
   have h2 := (h y).2 (by simp)
   rcases List.mem_cons.1 h1 with h1 | h1
   ·exact h1
   ·rcases List.mem_cons.1 h2 with h2 | h2
    ·exact h2.symm
    ·have := b1 x h1; have := a1 y h2; omega
  subst e
  congr 1
  refine asc_eq a2 b2 fun z => ⟨fun hz => ?_, fun hz => ?_⟩
  ·rcases List.mem_cons.1 ((h z).1 (List.mem_cons_of_mem _ hz)) with e | e
   ·have := a1 z hz; omega
   ·exact e
  ·rcases List.mem_cons.1 ((h z).2 (List.mem_cons_of_mem _ hz)) with e | e
   ·have := b1 z hz; omega
   ·exact e
def LX (p : ah) : ah := ⟨p.To, p.bw⟩
theorem N8 {g : af} (h : cu g) (hl : g.L.length ≤ 100000) : ∃ r, qE g = some ⟨g.N, r⟩ ∧ r.Perm (g.L.map LX) ∧ cu ⟨g.N, r⟩ := by
 have VU : aI (uH g) (0, []) = some (g.L.map LX) := by
  refine T.eq (T.cS g.L.length (fun k s => k ≤ g.L.length ∧ s.1 = (k : Int) ∧ s.2 = (g.L.take k).map LX) ⟨by omega, rfl, by simp⟩ ?_)
  rintro k ⟨_, d⟩ ⟨hk, rfl, hd⟩
  dsimp only at hd
  subst hd
  dsimp only [uH]
  refine T.cond (fun c => ?_) fun c => ?_
  ·have hk2 : k < g.L.length := by simpa using c
   rw [a_ hk2, aj, cL (by simp; omega), aj, cN (by omega)]
   refine .ret ⟨hk2, hk2, rfl, ?_⟩
   rw [List.take_add_one, List.getElem?_eq_getElem hk2, Option.toList_some, List.map_append]; rfl
  ·have e : k = g.L.length := by have : ¬ (k : Int) < g.L.length := of_decide_eq_false c; omega
   subst e
   exact .ret (by simp)
 obtain ⟨r, hr, hp, hs⟩ := L4 (l := g.L.map LX) (by simpa using hl)
 refine ⟨r, ?_, hp, h.n0, h.n1, fun p hp' => ?_, ?_⟩
 ·unfold qE oL
  rw [nu h (by omega), aj, show ((0 : Int) != 0) = false from rfl, cond_false, aj, VU, aj, hr]; rfl
 ·obtain ⟨q, hq, rfl⟩ := List.mem_map.1 (hp.mem_iff.1 hp')
  have := h.v q hq
  simp only [LX]; omega
 ·have hn : r.Nodup := hp.nodup_iff.2 (by
   unfold List.Nodup
   rw [List.pairwise_map]
   refine h.s.imp fun {p q} hpq e => ?_
   have e1 := congrArg ah.bw e; have e2 := congrArg ah.To e
   simp only [LX] at e1 e2
   unfold zi at hpq; omega)
  have := List.Pairwise.and hs hn
  exact this.imp fun {p q} ⟨h1, h2⟩ => h1.resolve_right h2
theorem uI {g : af} (h : cu g) (hl : g.L.length ≤ 100000) {i : Nat} (hi : (i : Int) < g.N) : fJ g (i : Int) = some (aK g i) := by
 obtain ⟨r, h1, h2, h3⟩ := N8 h hl
 have hrl : r.length ≤ 100000 := by rw [h2.length_eq, List.length_map]; exact hl
 obtain ⟨L, e1, e2, e3, e4⟩ := NH h3 hrl (i := i) hi
 unfold fJ
 rw [h1, aj, e1, aj]
 congr 1
 refine asc_eq e3 (Kk h.s) fun j => ?_
 rw [e2, EU]
 unfold qe
 constructor
 ·rintro ⟨p, hp, q1, q2⟩
  obtain ⟨q, hq, rfl⟩ := List.mem_map.1 (h2.mem_iff.1 hp)
  exact ⟨q, hq, q2, q1⟩
 ·rintro ⟨p, hp, q1, q2⟩
  exact ⟨LX p, h2.mem_iff.2 (List.mem_map.2 ⟨p, hp, rfl⟩), q2, q1⟩
end Go.Dc
namespace Go.Dc
variable {α β ρ : Type}
theorem OZ {l : List α} {f : β × Int → Option (Sum ρ (β × Int))} (g : β → α → β) (fin : β → ρ) (I : β → Prop) {b0 : β} (h0 : I b0)
  (h : ∀ b i (hi : i < l.length), I b → f (b, (i : Int)) = some (.inr (g b l[i], ((i + 1 : Nat) : Int))) ∧ I (g b l[i])) (he : ∀ b, I b → f (b, (l.length : Int)) = some (.inl (fin b))) :
  aI f (b0, 0) = some (fin (l.foldl g b0)) ∧ I (l.foldl g b0) := by
 suffices hh : ∀ m i b, l.length - i ≤ m → i ≤ l.length → I b → aI f (b, (i : Int)) = some (fin ((l.drop i).foldl g b)) ∧ I ((l.drop i).foldl g b) by
  simpa using hh _ 0 b0 (Nat.le_refl _) (Nat.zero_le _) h0
 intro m
 induction m with
 | zero =>
  intro i b h1 h2 hb
  have e : i = l.length := by omega
  subst e
  rw [gq, he b hb, List.drop_length]; exact ⟨rfl, hb⟩
 | succ m ih =>
  intro i b h1 h2 hb
  by_cases e : i = l.length
  ·subst e; rw [gq, he b hb, List.drop_length]; exact ⟨rfl, hb⟩
  ·have hi : i < l.length := by omega
   obtain ⟨h3, h4⟩ := h b i hi hb
   rw [gq, h3, List.drop_eq_getElem_cons hi, List.foldl_cons]
   exact ih (i + 1) (g b l[i]) (by omega) (by omega) h4
abbrev il (l : List Nat) : List Int := l.map fun x : Nat => (x : Int)
theorem s6 {l : List Nat} {i : Nat} (h : i < l.length) : aL (il l) (i : Int) = some ((l.getD i 0 : Nat) : Int) := by
 rw [a_ (by simpa using h)]; simp [List.getD, h]
theorem aaz {l : List Nat} {i : Nat} {x : Nat} : (il l).set i (x : Int) = il (l.set i x) := by simp [il, List.map_set]
theorem zW {l : List Nat} : (il l).length = l.length := by simp
def orL (g : Nat → Nat) (l : List Nat) : Nat := l.foldl (fun a i => a ||| g i) 0
theorem ZK {g : Nat → Nat} {l : List Nat} {a j : Nat} : (l.foldl (fun a i => a ||| g i) a).testBit j = (a.testBit j || l.any fun i => (g i).testBit j) := by
 induction l generalizing a with
 | nil => simp
 | cons x l ih => rw [List.foldl_cons, ih, Nat.testBit_or, List.any_cons, Bool.or_assoc]
theorem PY {g : Nat → Nat} {l : List Nat} {j : Nat} : (orL g l).testBit j = true ↔ ∃ i ∈ l, (g i).testBit j = true := by
 unfold orL
 rw [ZK]; simp
theorem oG {a n : Nat} (h : ∀ j, a.testBit j = true → j < n) : a < 2 ^ n := Nat.lt_pow_two_of_testBit a fun j hj => by
 cases hb : a.testBit j
 ·rfl
 ·have := h j hb; omega
theorem GL {a n : Nat} (ha : a < 2 ^ n) (hn : n ≤ 64) : a < 2 ^ 64 := Nat.lt_of_lt_of_le ha (Nat.pow_le_pow_right (by decide) hn)
def Lp (a b : Nat) : Prop := ∀ i, a.testBit i = true → b.testBit i = true
end Go.Dc
namespace Go.Dc
section
variable {α β ρ R : Type}
theorem E3 {l : List α} {f : Int → Option (Sum (Sum ρ Unit) Int)} (g : α → Option ρ)
  (h : ∀ i (hi : i < l.length), f (i : Int) = some (match g l[i] with | some r => .inl (.inl r) | none => .inr ((i : Int) + 1)))
  (hend : f (l.length : Int) = some (.inl (.inr ()))) {kr : ρ → Option R} {kb : Unit → Option R} :
  (aI f 0).bind (eH kr kb) = match l.findSome? g with | some r => kr r | none => kb () := by
 rw [XM g h hend]; cases l.findSome? g <;> rfl
end
theorem pY {x : Int} (h0 : -4611686018427387904 ≤ x) (h1 : x ≤ 4611686018427387904) : pZ .i64 x = -x := by
 unfold pZ; rw [wrap64 (by omega) (by omega)]; omega
theorem R3 {x : Int} : imax x (-x) = (x.natAbs : Int) := by unfold imax; split <;> omega
theorem Kl {x : Int} (h0 : -4611686018427387904 ≤ x) (h1 : x ≤ 4611686018427387904) : ia x = some (x.natAbs : Int) := by
 unfold ia; rw [pY h0 h1, R3]
def XD (n x : Int) : Bool := x != 0 && decide (-n ≤ x) && decide (x ≤ n)
theorem E1 {n x : Int} : XD n x = true ↔ x ≠ 0 ∧ -n ≤ x ∧ x ≤ n := by simp [XD, and_assoc]
abbrev Tf (c : List Int) : Prop := c.Pairwise fun x y => x.natAbs < y.natAbs
def ep (n : Int) (c : List Int) : Int := if 50 < c.length then 2 else if c.all (XD n) = true then if Tf c then 0 else 8 else 1
structure Ob (n : Int) (c : List Int) : Prop where
 len : c.length ≤ 50
 NJ : ∀ x ∈ c, x ≠ 0 ∧ -n ≤ x ∧ x ≤ n
 asc : Tf c
theorem lp {n : Int} {c : List Int} : ep n c = 0 ↔ Ob n c := by
 unfold ep
 constructor
 ·intro h
  split at h
  ·omega
  ·rename_i h1
   split at h
   ·rename_i h2
    split at h
    ·rename_i h3
     exact ⟨by omega, fun x hx => E1.1 (List.all_eq_true.1 h2 x hx), h3⟩
    ·omega
   ·omega
 ·rintro ⟨h1, h2, h3⟩
  rw [if_neg (by omega), if_pos (List.all_eq_true.2 fun x hx => E1.2 (h2 x hx)), if_pos h3]
theorem asc_snoc {c : List Int} {i : Nat} (hi : i + 1 < c.length) (h : Tf (c.take (i + 1))) (hx : c[i].natAbs < c[i + 1].natAbs) : Tf (c.take (i + 2)) := by
 rw [← List.take_append_getElem hi]
 refine List.pairwise_append.2 ⟨h, by simp, fun x hx' y hy => ?_⟩
 rw [List.mem_singleton.1 hy]
 rw [← List.take_append_getElem (show i < c.length by omega)] at h hx'
 rcases List.mem_append.1 hx' with h1 | h1
 ·have := (List.pairwise_append.1 h).2.2 x h1 c[i] (by simp)
  omega
 ·rw [List.mem_singleton.1 h1]; exact hx
theorem Lg {n : Int} {c : List Int} (hc : c.length ≤ 50) (hr : ∀ x ∈ c, x ≠ 0 ∧ -n ≤ x ∧ x ≤ n) (hn : n ≤ 1000) :
  aI (vZ c) 1 = some (if Tf c then .inr () else .inl 8) := by
 refine T.eq (T.cS c.length (fun k s => s = (k : Int) + 1 ∧ Tf (c.take (k + 1))) ⟨rfl, ?_⟩ fun k s hs => ?_)
 ·cases c with
  | nil => simp
  | cons x c => simp
 ·obtain ⟨rfl, ha⟩ := hs
  unfold vZ
  refine T.cond (fun h => ?_) fun h => ?_
  ·simp only [decide_eq_true_eq] at h
   have hk : k + 1 < c.length := by omega
   have h1 := hr _ (List.getElem_mem (show k < c.length by omega))
   have h2 := hr _ (List.getElem_mem hk)
   rw [Cc (by omega) (by omega), show (k : Int) + 1 - 1 = ((k : Nat) : Int) by omega, show (k : Int) + 1 = ((k + 1 : Nat) : Int) by omega, a_ (show k < c.length by omega), a_ hk]
   simp only [Option.bind_some]
   rw [Kl (by omega) (by omega), Kl (by omega) (by omega)]
   simp only [Option.bind_some]
   refine T.cond (fun h3 => .ret ?_) fun h3 => .ret ?_
   ·simp only [ge_iff_le, decide_eq_true_eq] at h3
    show _ = _
    rw [if_neg]
    intro h4
    have := List.pairwise_iff_getElem.1 h4 k (k + 1) (by omega) hk (by omega)
    omega
   ·simp only [ge_iff_le, decide_eq_false_iff_not] at h3
    rw [iz (by omega) (by omega)]
    exact ⟨by omega, by omega, asc_snoc hk ha (by omega)⟩
  ·simp only [decide_eq_false_iff_not] at h
   refine .ret ?_
   show _ = _
   rw [List.take_of_length_le (by omega)] at ha
   rw [if_pos ha]
theorem xq {n : Int} {c : List Int} (hn0 : 0 ≤ n) (hn : n ≤ 1000) : jH n c = some (ep n c) := by
 unfold jH ep
 by_cases hl : 50 < c.length
 ·rw [if_pos hl, show decide ((c.length : Int) > 50) = true by simp; omega]; rfl
 ·rw [if_neg hl, show decide ((c.length : Int) > 50) = false by simp; omega, cond_false]
  rw [E3 (l := c) (fun x => if XD n x = true then none else some 1) (fun i hi => by
   unfold v7
   rw [show decide ((i : Int) < (c.length : Int)) = true by simp [hi], cond_true, a_ hi, pY (by omega) (by omega), iz (by omega) (by omega)]
   simp only [Option.bind_some]
   by_cases h0 : c[i] = 0
   ·have e : XD n c[i] = false := by simp [XD, h0]
    rw [e]; simp [h0]
   ·have e0 : (c[i] == 0) = false := beq_false_of_ne h0
    by_cases h1 : c[i] < -n
    ·have e : XD n c[i] = false := Bool.eq_false_iff.2 fun h => by have := E1.1 h; omega
     rw [e, e0]; simp [h1]
    ·by_cases h2 : n < c[i]
     ·have e : XD n c[i] = false := Bool.eq_false_iff.2 fun h => by have := E1.1 h; omega
      rw [e, e0]; simp [h1, h2]
     ·have e : XD n c[i] = true := E1.2 ⟨h0, by omega, by omega⟩
      rw [e, e0]; simp [h1, h2]) (by unfold v7; simp)]
  ·by_cases ha : c.all (XD n) = true
   ·rw [if_pos ha]
    have h1 : c.findSome? (fun x => if XD n x = true then none else some (1 : Int)) = none := by
     rw [List.findSome?_eq_none_iff]; intro x hx; rw [if_pos (List.all_eq_true.1 ha x hx)]
    rw [h1]
    rw [Lg (n := n) (by omega) (fun x hx => E1.1 (List.all_eq_true.1 ha x hx)) hn]
    by_cases h3 : Tf c
    ·rw [if_pos h3, if_pos h3]; rfl
    ·rw [if_neg h3, if_neg h3]; rfl
   ·rw [if_neg ha]
    have h1 : c.findSome? (fun x => if XD n x = true then none else some (1 : Int)) = some 1 := by
     obtain ⟨x, hx, hx2⟩ := List.all_eq_false.1 (by simpa using ha)
     cases hf : c.findSome? (fun x => if XD n x = true then none else some (1 : Int)) with
     | none => rw [List.findSome?_eq_none_iff] at hf; have := hf x hx; rw [if_neg hx2] at this; cases this
     | some r =>
      obtain ⟨y, _, hy⟩ := List.exists_of_findSome?_eq_some hf
      split at hy
      ·cases hy
      ·exact hy ▸ rfl
    rw [h1]
theorem QA : @sI = @jH := rfl
def EH (n : Int) (l : List (List Int)) : Int := if n < 0 ∨ 200 < n then 1 else if 4000 < l.length then 2 else (l.findSome? fun c => if ep n c = 0 then none else some (ep n c)).getD 0
structure VOk (n : Int) (l : List (List Int)) : Prop where
 n0 : 0 ≤ n
 n1 : n ≤ 200
 len : l.length ≤ 4000
 cl : ∀ c ∈ l, Ob n c
theorem Pf {n : Int} {l : List (List Int)} : EH n l = 0 ↔ VOk n l := by
 unfold EH
 constructor
 ·intro h
  split at h
  ·omega
  ·split at h
   ·omega
   ·refine ⟨by omega, by omega, by omega, fun c hc => ?_⟩
    cases hf : l.findSome? fun c => if ep n c = 0 then none else some (ep n c) with
    | none =>
     rw [List.findSome?_eq_none_iff] at hf
     have := hf c hc
     split at this
     ·rename_i h3; exact lp.1 h3
     ·cases this
    | some r =>
     rw [hf] at h
     obtain ⟨y, _, hy⟩ := List.exists_of_findSome?_eq_some hf
     split at hy
     ·cases hy
     ·rename_i h3; cases hy; exact absurd h h3
 ·rintro ⟨h1, h2, h3, h4⟩
  rw [if_neg (by omega), if_neg (by omega)]
  have : (l.findSome? fun c => if ep n c = 0 then none else some (ep n c)) = none := by
   rw [List.findSome?_eq_none_iff]; intro c hc; rw [if_pos (lp.2 (h4 c hc))]
  rw [this]; rfl
theorem Ny {n : Int} {l : List (List Int)} : lD n l = some (EH n l) := by
 unfold lD EH
 by_cases h1 : n < 0
 ·rw [if_pos (.inl h1), decide_eq_true h1]; rfl
 ·by_cases h2 : 200 < n
  ·rw [if_pos (.inr h2), decide_eq_false h1, show decide (n > 200) = true by simp [h2]]; rfl
  ·rw [if_neg (by omega), decide_eq_false h1, show decide (n > 200) = false by simp; omega]
   by_cases h3 : 4000 < l.length
   ·rw [if_pos h3, show decide ((l.length : Int) > 4000) = true by simp; omega]; rfl
   ·rw [if_neg h3, show decide ((l.length : Int) > 4000) = false by simp; omega]
    simp only [cond_false]
    rw [E3 (l := l) (fun c => if ep n c = 0 then none else some (ep n c)) (fun i hi => by
     unfold oy
     rw [show decide ((i : Int) < (l.length : Int)) = true by simp [hi], cond_true, a_ hi, iz (by omega) (by omega)]
     simp only [Option.bind_some]
     rw [xq (by omega) (by omega)]
     simp only [Option.bind_some]
     by_cases h : ep n l[i] = 0
     ·rw [if_pos h, h]; rfl
     ·rw [if_neg h, show (ep n l[i] != 0) = true by simp [h]]; rfl) (by unfold oy; simp)]
    cases l.findSome? fun c => if ep n c = 0 then none else some (ep n c) <;> rfl
end Go.Dc
namespace Go.Dc
open Go.Proofs Go.Sort
theorem X5 {l : List Int} : ∀ {lo n : Int}, lo ≤ n → l.Pairwise (· < ·) → (∀ x ∈ l, lo ≤ x ∧ x < n) → (l.length : Int) ≤ n - lo := by
 induction l with
 | nil => intro lo n h _ _; simp; omega
 | cons x l ih =>
  intro lo n h hp hx
  have h1 := hx x (by simp)
  obtain ⟨h2, h3⟩ := List.pairwise_cons.1 hp
  have := ih (lo := x + 1) (n := n) (by omega) h3 fun y hy => ⟨by have := h2 y hy; omega, (hx y (by simp [hy])).2⟩
  simp; omega
theorem uP {g : af} (h : cu g) {i : Int} : ∀ a ∈ aK g i, 0 ≤ a ∧ a < g.N := fun a ha => by
 obtain ⟨p, hp, rfl, _⟩ := EU.1 ha
 have := h.v p hp; omega
theorem pF {g : af} (h : cu g) {i : Int} : (aK g i).length ≤ 40 := by
 have := X5 (lo := 0) (n := g.N) h.n0 (Kk h.s (i := i)) (uP h)
 have := h.n1; omega
def c2 (x y : Int) : List Int := [x, y]
def DY (g : af) (i : Int) (st : Bool) : List (List Int) :=
 [[-(i + 1), -(g.N + i + 1)]] ++ (aK g i).map (fun a => [-(i + 1), g.N + a + 1]) ++ [(i + 1) :: (aK g i).map (fun a => -(g.N + a + 1))] ++
  (aK g i).map (fun a => [-(a + 1), g.N + i + 1]) ++ [(aK g i).map (fun a => a + 1) ++ [-(g.N + i + 1)]] ++ (if st then [[i + 1, g.N + i + 1]] else [])
theorem Xj {g : af} (h : cu g) {i : Int} {st : Bool} : (DY g i st).length ≤ 84 := by
 have := pF h (i := i)
 unfold DY
 cases st <;> simp <;> omega
theorem uR {α β : Type} {l : List α} {f : α → β} {k : Nat} (hk : k < l.length) : (l.take (k + 1)).map f = (l.take k).map f ++ [f l[k]] := by
 rw [List.take_add_one, List.getElem?_eq_getElem hk, Option.toList_some, List.map_append]; rfl
section
variable {g : af} (h : cu g) {i : Nat} (hi : (i : Int) < g.N) {l : List (List Int)} (hl : l.length ≤ 500000)
include h hi hl
theorem XC {n : Int} {l : List (List Int)} {a : Int} (h0 : -1000 ≤ a) (h1 : a ≤ 1000) : bf n l a = some (a + 1) := by
 unfold bf; rw [iz (by omega) (by omega)]
theorem OH {n : Int} {l : List (List Int)} {a : Int} (h0 : -1000 ≤ a) (h1 : a ≤ 1000) (h2 : -1000 ≤ n) (h3 : n ≤ 1000) : aX n l a = some (n + a + 1) := by
 unfold aX; rw [show aN .i64 n a = n + a from iz (by omega) (by omega), iz (by omega) (by omega)]
theorem Pe {n : Int} {l : List (List Int)} {c : List Int} (hl : l.length ≤ 1000000) : aR n l c = some (n, l ++ [c]) := by
 unfold aR; rw [cL (by simp; omega), aj]
theorem node_l1 : aI (jE (i : Int) (aK g i)) (0, g.N, [(i : Int) + 1], [], l) =
  some (g.N, ((i : Int) + 1) :: (aK g i).map (fun a => -(g.N + a + 1)), (aK g i).map (fun a => a + 1), l ++ (aK g i).map (fun a => [-((i : Int) + 1), g.N + a + 1])) := by
 have hn0 := h.n0; have hn1 := h.n1; have hal := pF h (i := i)
 refine T.eq (T.cS (aK g i).length (fun k s => k ≤ (aK g i).length ∧ s = ((k : Int), g.N, ((i : Int) + 1) :: ((aK g i).take k).map (fun a => -(g.N + a + 1)), ((aK g i).take k).map (fun a => a + 1), l ++ ((aK g i).take k).map (fun a => [-((i : Int) + 1), g.N + a + 1])))
  ⟨by omega, by simp⟩ ?_)
 rintro k _ ⟨hk, rfl⟩
 dsimp only [jE]
 refine T.cond (fun c => ?_) fun c => ?_
 ·have hk2 : k < (aK g i).length := by simpa using c
  have hr := uP h _ (List.getElem_mem hk2)
  have e1 : ∀ f : Int → List Int, (l ++ ((aK g i).take k).map f).length ≤ 1000000 := fun f => by simp; omega
  rw [a_ hk2, aj, XC h hi hl (by omega) (by omega), aj, OH h hi hl (by omega) (by omega) (by omega) (by omega), aj, Pe h hi hl (e1 _), aj,
   OH h hi hl (by omega) (by omega) (by omega) (by omega), aj, cL (by simp; omega), aj, XC h hi hl (by omega) (by omega), aj, cL (by simp; omega), aj, cN (by omega), pY (by omega) (by omega), pY (by omega) (by omega)]
  refine .ret ⟨hk2, hk2, ?_⟩
  rw [uR hk2, uR hk2, uR hk2]
  simp
 ·have e : k = (aK g i).length := by have : ¬ (k : Int) < (aK g i).length := of_decide_eq_false c; omega
  subst e
  exact .ret (by simp)
theorem node_l2 : aI (jD (i : Int) (aK g i)) (0, g.N, l) = some (g.N, l ++ (aK g i).map (fun a => [-(a + 1), g.N + (i : Int) + 1])) := by
 have hn0 := h.n0; have hn1 := h.n1; have hal := pF h (i := i)
 refine T.eq (T.cS (aK g i).length (fun k s => k ≤ (aK g i).length ∧ s = ((k : Int), g.N, l ++ ((aK g i).take k).map (fun a => [-(a + 1), g.N + (i : Int) + 1]))) ⟨by omega, by simp⟩ ?_)
 rintro k _ ⟨hk, rfl⟩
 dsimp only [jD]
 refine T.cond (fun c => ?_) fun c => ?_
 ·have hk2 : k < (aK g i).length := by simpa using c
  have hr := uP h _ (List.getElem_mem hk2)
  have e1 : ∀ f : Int → List Int, (l ++ ((aK g i).take k).map f).length ≤ 1000000 := fun f => by simp; omega
  rw [a_ hk2, aj, XC h hi hl (by omega) (by omega), aj, OH h hi hl (by omega) (by omega) (by omega) (by omega), aj, Pe h hi hl (e1 _), aj, cN (by omega), pY (by omega) (by omega)]
  refine .ret ⟨hk2, hk2, ?_⟩
  rw [uR hk2]
  simp
 ·have e : k = (aK g i).length := by have : ¬ (k : Int) < (aK g i).length := of_decide_eq_false c; omega
  subst e
  exact .ret (by simp)
theorem TQ (hg : g.L.length ≤ 100000) (hl2 : l.length ≤ 400000) {st : Bool} : f_ g.N l g (i : Int) st = some (g.N, l ++ DY g i st) := by
 have hn0 := h.n0; have hn1 := h.n1; have hal := pF h (i := i)
 unfold f_
 rw [uI h hg hi, aj, XC h hi hl (by omega) (by omega), aj, OH h hi hl (by omega) (by omega) (by omega) (by omega), aj, Pe h hi hl (by omega), aj, XC h hi hl (by omega) (by omega), aj]
 rw [node_l1 h hi (by simp; omega), aj, Pe h hi hl (by simp; omega), aj, node_l2 h hi (by simp; omega), aj, OH h hi hl (by omega) (by omega) (by omega) (by omega), aj, cL (by simp; omega), aj, Pe h hi hl (by simp; omega), aj]
 rw [pY (by omega) (by omega), pY (by omega) (by omega)]
 unfold DY
 cases st with
 | false => simp
 | true =>
  rw [cond_true, XC h hi hl (by omega) (by omega), aj, OH h hi hl (by omega) (by omega) (by omega) (by omega), aj, Pe h hi hl (by simp; omega), aj]
  simp
end
end Go.Dc
namespace Go.Dc
open Go.Proofs Go.Sort
def uv (g : af) (q : Int) (k : Nat) : List (List Int) := (List.range k).flatMap fun i : Nat => DY g (i : Int) (q != 1)
def Ew (g : af) (q n : Int) : List (List Int) := uv g q g.N.toNat ++ [[if q = 3 then -(n + 1) else n + 1]]
theorem DX {g : af} {q : Int} {k : Nat} : uv g q (k + 1) = uv g q k ++ DY g (k : Int) (q != 1) := by
 unfold uv; rw [List.range_succ, List.flatMap_append]; simp
theorem BW {g : af} (h : cu g) {q : Int} : ∀ {k : Nat}, (uv g q k).length ≤ 84 * k
 | 0 => by simp [uv]
 | k + 1 => by rw [DX, List.length_append]; have := BW h (q := q) (k := k); have := Xj h (i := (k : Int)) (st := q != 1); omega
section
variable {g : af} (h : cu g) (hg : g.L.length ≤ 100000)
include h hg
theorem enc_loop {q : Int} : aI (nL g q) (0, g.N, []) = some (g.N, uv g q g.N.toNat) := by
 have hn0 := h.n0; have hn1 := h.n1
 refine T.eq (T.cS g.N.toNat (fun k s => k ≤ g.N.toNat ∧ s = ((k : Int), g.N, uv g q k)) ⟨by omega, by simp [uv]⟩ ?_)
 rintro k _ ⟨hk, rfl⟩
 have hlen := BW h (q := q) (k := k)
 dsimp only [nL]
 refine T.cond (fun c => ?_) fun c => ?_
 ·have hk2 : (k : Int) < g.N := of_decide_eq_true c
  rw [TQ h hk2 (by omega) hg (by omega), aj, cN (by omega)]
  exact .ret ⟨by omega, by omega, by rw [DX]⟩
 ·have e : k = g.N.toNat := by have := of_decide_eq_false c; omega
  subst e
  exact .ret rfl
end
theorem EE {g : af} (hg : g.L.length ≤ 100000) {n : Int} : T (kf g n) fun r => (r = 0 ∧ cu g ∧ 0 ≤ n ∧ n < g.N) ∨ (r = 1 ∧ ¬ (cu g ∧ 0 ≤ n ∧ n < g.N)) := by
 unfold kf
 refine T.bind (zX (by omega)) fun r hr => ?_
 refine T.cond (fun c => .ret (.inr ⟨rfl, fun h => ?_⟩)) fun c => ?_
 ·rw [hr.2 h.1] at c; simp at c
 ·have hv := hr.1 (by simpa using c)
  refine T.cond (fun c1 => .ret (.inr ⟨rfl, fun h => ?_⟩)) fun c1 => T.cond (fun c2 => .ret (.inr ⟨rfl, fun h => ?_⟩)) fun c2 => .ret (.inl ⟨rfl, hv, ?_, ?_⟩)
  ·have := of_decide_eq_true c1; omega
  ·have := of_decide_eq_true c2; omega
  ·have := of_decide_eq_false c1; omega
  ·have := of_decide_eq_false c2; omega
def EncR (g : af) (q n : Int) (r : Int × Int × List (List Int)) : Prop :=
 (cu g ∧ 0 ≤ n ∧ n < g.N ∧ 1 ≤ q ∧ q ≤ 3 ∧ r = (2 * g.N, 0, Ew g q n)) ∨ (cu g ∧ 0 ≤ n ∧ n < g.N ∧ ¬ (1 ≤ q ∧ q ≤ 3) ∧ r = (0, 4, [])) ∨ (¬ (cu g ∧ 0 ≤ n ∧ n < g.N) ∧ r = (0, 1, []))
theorem QT {g : af} (hg : g.L.length ≤ 100000) {q n : Int} : T (oU g q n) (EncR g q n) := by
 unfold oU
 refine T.bind (EE hg) fun r hr => ?_
 rcases hr with ⟨rfl, hv, h0, h1⟩ | ⟨rfl, hn⟩
 ·have hn1 := hv.n1; have hn0 := hv.n0
  rw [show ((0 : Int) != 0) = false from rfl, cond_false]
  have hin : gW g.N n = some (n + 1) := by unfold gW; rw [iz (by omega) (by omega)]
  rw [hin, aj]
  have hlen := BW hv (q := q) (k := g.N.toNat)
  have k6 : ∀ j : Int, ((aI (nL g q) ((0, g.N, []))).bind fun q24 : Int × (List (List Int)) =>
    (aR q24.1 q24.2 [j]).bind fun t25 => some ((XE .i64 2 g.N, (0 : Int), t25.2))) = some (2 * g.N, 0, uv g q g.N.toNat ++ [[j]]) := fun j => by
   rw [enc_loop hv hg, aj]
   unfold aR
   rw [cL (by simp; omega), aj, aj, imul64 (by omega) (by omega)]
  simp only [qp, k6]
  by_cases h1q : q = 1
  ·subst h1q
   refine .ret (.inl ⟨hv, h0, h1, by omega, by omega, ?_⟩)
   unfold Ew; rw [if_neg (by omega)]
  ·by_cases h2q : q = 2
   ·subst h2q
    refine .ret (.inl ⟨hv, h0, h1, by omega, by omega, ?_⟩)
    unfold Ew; rw [if_neg (by omega)]
   ·by_cases h3q : q = 3
    ·subst h3q
     refine .ret (.inl ⟨hv, h0, h1, by omega, by omega, ?_⟩)
     unfold Ew; rw [if_pos rfl, pY (by omega) (by omega)]
    ·have e1 : ((q : Int) == 1) = false := by simp [h1q]
     have e2 : ((q : Int) == 2) = false := by simp [h2q]
     have e3 : ((q : Int) == 3) = false := by simp [h3q]
     rw [e1, e2, e3]
     exact .ret (.inr (.inl ⟨hv, h0, h1, by omega, rfl⟩))
 ·exact .ret (.inr (.inr ⟨hn, rfl⟩))
end Go.Dc
namespace Go.Dc
open Go.Proofs Go.Sort
def Bv (n : Int) (a b : Nat) (l : List ah) : Prop :=
 l.length ≤ a * n.toNat + b ∧ (∀ p ∈ l, 0 ≤ p.bw ∧ p.bw < n ∧ 0 ≤ p.To ∧ p.To < n ∧ (p.bw < a ∨ p.bw = a ∧ p.To < b)) ∧ l.Pairwise zi
theorem Bv.up {n : Int} {a b : Nat} {l : List ah} (h : Bv n a b l) : Bv n a (b + 1) l :=
 ⟨by have := h.1; omega, fun p hp => by have := h.2.1 p hp; omega, h.2.2⟩
theorem Bv.add {n : Int} {a b : Nat} {l : List ah} (h : Bv n a b l) (ha : (a : Int) < n) (hb : (b : Int) < n) : Bv n a (b + 1) (l ++ [⟨(a : Int), (b : Int)⟩]) := by
 obtain ⟨l1, l2, l3⟩ := h
 refine ⟨by simp; omega, fun p hp => ?_, ?_⟩
 ·rcases List.mem_append.1 hp with hp | hp
  ·have := l2 p hp; omega
  ·rw [List.mem_singleton.1 hp]
   exact ⟨Int.natCast_nonneg _, ha, Int.natCast_nonneg _, hb, .inr ⟨rfl, (by omega : (b : Int) < ((b + 1 : Nat) : Int))⟩⟩
 ·refine List.pairwise_append.2 ⟨l3, List.pairwise_singleton _ _, fun p hp q hq => ?_⟩
  rw [List.mem_singleton.1 hq]
  have := (l2 p hp).2.2.2.2
  unfold zi; simp only; omega
theorem S6 {s : ay} (h : EI s) {n : Int} (h1 : 0 ≤ n) (h2 : n ≤ 40) : T (o_ s n) fun r => cu r.1 ∧ r.1.N ≤ n ∧ r.1.L.length ≤ 1640 ∧ EI r.2 := by
 unfold o_
 rw [iz (by omega) (by omega)]
 refine T.bind (LL h (by omega)) fun t ⟨ht, hb⟩ => ?_
 have hb := hb (by omega)
 refine T.bind (LL ht (by omega)) fun d ⟨hd, hdb⟩ => ?_
 have hdb := hdb (by omega)
 obtain ⟨N, hN⟩ : ∃ N : Nat, t.1 = (N : Int) := ⟨t.1.toNat, by omega⟩
 refine T.bind (P := fun q : List Int × Int × List ah => EI ⟨q.1, q.2.1⟩ ∧ Bv t.1 N 0 q.2.2) ?_ fun q ⟨hq1, Yq, hq3, hq4⟩ => .ret ⟨⟨by simp only; omega, by simp only; omega, fun p hp => ?_, hq4⟩, by simp only; omega, ?_, hq1⟩
 ·refine T.cS N (fun a s => s.1 = (a : Int) ∧ a ≤ N ∧ EI ⟨s.2.1, s.2.2.1⟩ ∧ Bv t.1 a 0 s.2.2.2) ⟨rfl, by omega, hd, by simp [Bv]⟩ ?_
  rintro a ⟨_, sl, sa, l⟩ ⟨rfl, ha, hsr, hl⟩
  dsimp only [zu] at *
  refine T.cond (fun c => ?_) fun c => ?_
  ·have hc := of_decide_eq_true c
   refine T.bind (P := fun q : List Int × Int × List ah => EI ⟨q.1, q.2.1⟩ ∧ Bv t.1 a N q.2.2) ?_ fun q ⟨hq1, Yq, hq3, hq4⟩ => ?_
   ·refine T.cS N (fun b s => s.1 = (b : Int) ∧ b ≤ N ∧ EI ⟨s.2.1, s.2.2.1⟩ ∧ Bv t.1 a b s.2.2.2) ⟨rfl, by omega, hsr, hl⟩ ?_
    rintro b ⟨_, sl', sa', l'⟩ ⟨rfl, hb', hsr', hl'⟩
    dsimp only [zw] at *
    refine T.cond (fun c2 => ?_) fun c2 => ?_
    ·have hc2 := of_decide_eq_true c2
     refine T.bind (LL hsr' (by omega)) fun k ⟨hk, hkb⟩ => ?_
     have hmul : a * t.1.toNat ≤ 40 * 40 := Nat.mul_le_mul (by omega) (by omega)
     have key : ∀ j : Bool, T (bif j then (dh 16 l' [(ah.mk (a : Int) (b : Int))]).bind fun t62 => some (Sum.inr (aN .i64 (b : Int) 1, k.2.L, k.2.At, t62)) else some (Sum.inr (aN .i64 (b : Int) 1, k.2.L, k.2.At, l')) : Option (Sum (List Int × Int × List ah) (Int × List Int × Int × List ah)))
       (onO (fun r => EI ⟨r.1, r.2.1⟩ ∧ Bv t.1 a N r.2.2) fun s' => b < N ∧ s'.1 = ((b + 1 : Nat) : Int) ∧ b + 1 ≤ N ∧ EI ⟨s'.2.1, s'.2.2.1⟩ ∧ Bv t.1 a (b + 1) s'.2.2.2) := by
      intro j
      rw [cN (by omega)]
      have l1 := hl'.1
      refine T.cond (fun _ => ?_) fun _ => .ret ⟨by omega, rfl, by omega, hk, hl'.up⟩
      rw [cL (by simp; omega), aj]
      exact .ret ⟨by omega, rfl, by omega, hk, hl'.add (by omega) (by omega)⟩
     exact T.join (T.cond (fun _ => T.cond (fun _ => key _) fun _ => key _) fun _ => key _)
    ·have e : b = N := by have := of_decide_eq_false c2; omega
     subst e
     exact .ret ⟨hsr', hl'⟩
   ·rw [cN (by omega)]
    refine .ret ⟨by omega, rfl, by omega, hq1, ?_, fun p hp => ?_, hq4⟩
    ·have e : (a + 1) * t.1.toNat = a * t.1.toNat + t.1.toNat := by rw [Nat.add_mul, Nat.one_mul]
     simp only; omega
    ·have := hq3 p hp; omega
  ·have e : a = N := by have := of_decide_eq_false c; omega
   subst e
   exact .ret ⟨hsr, hl⟩
 ·have := hq3 p hp; simp only; omega
 ·have hmul : N * t.1.toNat ≤ 40 * 40 := Nat.mul_le_mul (by omega) (by omega)
  simp only; omega
end Go.Dc
namespace Go.Dc
open Go.Proofs Go.Sort
theorem QJ {α : Type} : ∀ {l : List α} {p q : α → Bool}, (∀ a ∈ l, p a = q a) → l.all p = l.all q
 | [], _, _, _ => rfl
 | x :: l, p, q, h => by rw [List.all_cons, List.all_cons, h x (by simp), QJ fun a ha => h a (List.mem_cons_of_mem _ ha)]
theorem QI {α : Type} : ∀ {l : List α} {p q : α → Bool}, (∀ a ∈ l, p a = q a) → l.any p = l.any q
 | [], _, _, _ => rfl
 | x :: l, p, q, h => by rw [List.any_cons, List.any_cons, h x (by simp), QI fun a ha => h a (List.mem_cons_of_mem _ ha)]
structure NF (N : Nat) (y : List Int) : Prop where
 len : y.length = N
 NJ : ∀ x ∈ y, 1 ≤ x ∧ x ≤ 3
theorem NF.at {N : Nat} {y : List Int} (h : NF N y) {i : Nat} (hi : i < N) : sf y i = 1 ∨ sf y i = 2 ∨ sf y i = 3 := by
 have h1 : i < y.length := by rw [h.len]; exact hi
 have e : sf y i = y[i] := by unfold sf; simp [List.getD, h1]
 have := h.NJ _ (List.getElem_mem h1)
 rw [e]; omega
def fA (y : List Int) (a : Int) : Int := sf y a.toNat
def jO (g : af) (y : List Int) (i : Nat) : Bool :=
 if sf y i = 1 then (aK g i).all (fun a => fA y a == 2) else if sf y i = 2 then (aK g i).any (fun a => fA y a == 1) else !((aK g i).any fun a => fA y a == 1) && !((aK g i).all fun a => fA y a == 2)
def O6 (g : af) (y : List Int) : Bool := (List.range g.N.toNat).all (jO g y)
theorem xC {n : Nat} {p : Nat → Bool} : (List.range n).all p = true ↔ ∀ i, i < n → p i = true := by simp [List.all_eq_true]
def Fp (g : af) (q : Int) (n : Nat) (y : List Int) : Bool := O6 g y && (q == 1 || !(y.any fun z => z == 3)) && ((sf y n == 1) == (q != 3))
end Go.Dc
namespace Go.Dc
open Go.Proofs Go.Sort
def uD (m : List Bool) (x : Int) : Bool := m.getD (x.natAbs - 1) false == decide (x > 0)
structure MOk (N : Nat) (y : List Int) (m : List Bool) : Prop where
 len : m.length = 2 * N
 i : ∀ j, j < N → m.getD j false = (sf y j == 1)
 o : ∀ j, j < N → m.getD (N + j) false = (sf y j == 2)
section
variable {N : Nat} {y : List Int} {m : List Bool} (hm : MOk N y m)
include hm
theorem T3 {a : Int} (h0 : 0 ≤ a) (h1 : a < N) : uD m (a + 1) = (fA y a == 1) := by
 unfold uD fA
 rw [show (a + 1).natAbs - 1 = a.toNat by omega, hm.i _ (by omega), show decide (a + 1 > 0) = true by simp; omega]; simp
theorem Qe {a : Int} (h0 : 0 ≤ a) (h1 : a < N) : uD m (-(a + 1)) = !(fA y a == 1) := by
 unfold uD fA
 rw [show (-(a + 1)).natAbs - 1 = a.toNat by omega, hm.i _ (by omega), show decide (-(a + 1) > 0) = false by simp; omega]; simp
theorem VJ {n a : Int} (hn : n = N) (h0 : 0 ≤ a) (h1 : a < N) : uD m (n + a + 1) = (fA y a == 2) := by
 unfold uD fA
 rw [show (n + a + 1).natAbs - 1 = N + a.toNat by omega, hm.o _ (by omega), show decide (n + a + 1 > 0) = true by simp; omega]; simp
theorem RS {n a : Int} (hn : n = N) (h0 : 0 ≤ a) (h1 : a < N) : uD m (-(n + a + 1)) = !(fA y a == 2) := by
 unfold uD fA
 rw [show (-(n + a + 1)).natAbs - 1 = N + a.toNat by omega, hm.o _ (by omega), show decide (-(n + a + 1) > 0) = false by simp; omega]; simp
end
def NO (m : List Bool) (l : List (List Int)) : Bool := l.all fun c => c.any (uD m)
theorem ZN {g : af} (h : cu g) {y : List Int} (hy : NF g.N.toNat y) {m : List Bool} (hm : MOk g.N.toNat y m) {i : Nat} (hi : i < g.N.toNat) {st : Bool} :
  NO m (DY g (i : Int) st) = (jO g y i && (!st || !(sf y i == 3))) := by
 have hn0 := h.n0
 have hN : g.N = (g.N.toNat : Int) := by omega
 have r := uP h (i := (i : Int))
 have ui : fA y (i : Int) = sf y i := by unfold fA; rw [Int.toNat_natCast]
 have ii := T3 hm (a := (i : Int)) (by omega) (by omega)
 have ni := Qe hm (a := (i : Int)) (by omega) (by omega)
 have oi := VJ hm hN (a := (i : Int)) (by omega) (by omega)
 have no := RS hm hN (a := (i : Int)) (by omega) (by omega)
 rw [ui] at ii ni oi no
 have e1 : ((aK g i).map fun a => [-((i : Int) + 1), g.N + a + 1]).all (fun c => c.any (uD m)) = (aK g i).all fun a => !(sf y i == 1) || fA y a == 2 := by
  rw [List.all_map]
  exact QJ fun a ha => by have := r a ha; simp only [Function.comp, List.any_cons, List.any_nil, Bool.or_false, ni, VJ hm hN (a := a) (by omega) (by omega)]
 have e2 : ((aK g i).map fun a => -(g.N + a + 1)).any (uD m) = (aK g i).any fun a => !(fA y a == 2) := by
  rw [List.any_map]
  exact QI fun a ha => by have := r a ha; simp only [Function.comp, RS hm hN (a := a) (by omega) (by omega)]
 have e3 : ((aK g i).map fun a => [-(a + 1), g.N + (i : Int) + 1]).all (fun c => c.any (uD m)) = (aK g i).all fun a => !(fA y a == 1) || sf y i == 2 := by
  rw [List.all_map]
  exact QJ fun a ha => by have := r a ha; simp only [Function.comp, List.any_cons, List.any_nil, Bool.or_false, oi, Qe hm (a := a) (by omega) (by omega)]
 have e4 : ((aK g i).map fun a => a + 1).any (uD m) = (aK g i).any fun a => fA y a == 1 := by
  rw [List.any_map]
  exact QI fun a ha => by have := r a ha; simp only [Function.comp, T3 hm (a := a) (by omega) (by omega)]
 have e5 : (if st = true then [[(i : Int) + 1, g.N + (i : Int) + 1]] else []).all (fun c => c.any (uD m)) = (!st || (sf y i == 1 || sf y i == 2)) := by
  cases st
  ·rfl
  ·simp only [if_true, List.all_cons, List.all_nil, List.any_cons, List.any_nil, ii, oi, Bool.or_false, Bool.and_true, Bool.not_true, Bool.false_or]
 unfold NO DY
 simp only [List.all_append, List.all_cons, List.all_nil, List.any_cons, List.any_append, List.any_nil, Bool.or_false, Bool.and_true, ii, ni, no, e1, e2, e3, e4, e5]
 have nall : ((aK g i).any fun a => !(fA y a == 2)) = !((aK g i).all fun a => fA y a == 2) := by rw [List.not_all_eq_any_not]
 have nany : ((aK g i).all fun a => !(fA y a == 1)) = !((aK g i).any fun a => fA y a == 1) := by rw [List.not_any_eq_all_not]
 unfold jO
 rcases hy.at hi with e | e | e
 ·rw [e, if_pos rfl]
  simp only [show ((1 : Int) == 1) = true from rfl, show ((1 : Int) == 2) = false from rfl, show ((1 : Int) == 3) = false from rfl, Bool.not_true, Bool.not_false, Bool.false_or, Bool.or_true, Bool.true_or, Bool.true_and, Bool.and_true, Bool.or_false]
  rw [nany]
  cases ha : (aK g i).all fun a => fA y a == 2 with
  | false => rfl
  | true =>
   have : ((aK g i).any fun a => fA y a == 1) = false := by
    rw [List.any_eq_false]
    intro a haa
    have := eq_of_beq (List.all_eq_true.1 ha a haa)
    rw [this]; decide
   rw [this]; rfl
 ·rw [e, if_neg (by omega), if_pos rfl]
  simp only [show ((2 : Int) == 1) = false from rfl, show ((2 : Int) == 2) = true from rfl, show ((2 : Int) == 3) = false from rfl, Bool.not_true, Bool.not_false, Bool.false_or, Bool.or_true, Bool.true_or, Bool.true_and, Bool.and_true, Bool.or_false]
  rw [nall]
  cases ha : (aK g i).any fun a => fA y a == 1 with
  | false => simp
  | true =>
   have : ((aK g i).all fun a => fA y a == 2) = false := by
    cases hb : (aK g i).all fun a => fA y a == 2 with
    | false => rfl
    | true =>
     obtain ⟨a, haa, hab⟩ := List.any_eq_true.1 ha
     have h1 := eq_of_beq hab
     have h2 := eq_of_beq (List.all_eq_true.1 hb a haa)
     omega
   rw [this]; simp
 ·rw [e, if_neg (by omega), if_neg (by omega)]
  simp only [show ((3 : Int) == 1) = false from rfl, show ((3 : Int) == 2) = false from rfl, show ((3 : Int) == 3) = true from rfl, Bool.not_true, Bool.not_false, Bool.false_or, Bool.or_true, Bool.true_or, Bool.true_and, Bool.and_true, Bool.or_false]
  rw [nall, nany]
  have tt : ((aK g i).all fun _ : Int => true) = true := List.all_eq_true.2 fun _ _ => rfl
  simp only [tt]
  cases st <;> cases (aK g i).any (fun a => fA y a == 1) <;> cases (aK g i).all (fun a => fA y a == 2) <;> rfl
theorem Kz {m : List Bool} {a b : List (List Int)} : NO m (a ++ b) = (NO m a && NO m b) := by unfold NO; rw [List.all_append]
theorem OM {g : af} (h : cu g) {y : List Int} (hy : NF g.N.toNat y) {m : List Bool} (hm : MOk g.N.toNat y m) {q : Int} : ∀ {k : Nat}, k ≤ g.N.toNat →
  NO m (uv g q k) = (List.range k).all fun i => jO g y i && (!(q != 1) || !(sf y i == 3))
 | 0, _ => rfl
 | k + 1, hk => by rw [DX, Kz, OM h hy hm (by omega), ZN h hy hm (by omega), List.range_succ, List.all_append]; simp
theorem V9 {g : af} (h : cu g) {y : List Int} (hy : NF g.N.toNat y) {m : List Bool} (hm : MOk g.N.toNat y m) {q : Int} {n : Nat} (hn : n < g.N.toNat) : NO m (Ew g q (n : Int)) = Fp g q n y := by
 have hN : g.N = (g.N.toNat : Int) := by have := h.n0; omega
 have un : fA y (n : Int) = sf y n := by unfold fA; rw [Int.toNat_natCast]
 have hl := hy.len
 unfold Ew
 rw [Kz, OM h hy hm (Nat.le_refl _)]
 unfold Fp
 congr 1
 ·rw [Bool.eq_iff_iff, xC, Bool.and_eq_true]
  unfold O6
  rw [xC]
  have st : ((q == 1 || !(y.any fun z => z == 3)) = true) ↔ ∀ i, i < g.N.toNat → (!(q != 1) || !(sf y i == 3)) = true := by
   by_cases hq : q = 1
   ·subst hq; simp
   ·rw [show (q == 1) = false by simp [hq], show (q != 1) = true by simp [hq]]
    simp only [Bool.false_or, Bool.not_true, Bool.not_eq_true']
    rw [List.any_eq_false]
    constructor
    ·intro h1 i hi
     have h2 : i < y.length := by omega
     have e : sf y i = y[i] := by unfold sf; simp [List.getD, h2]
     rw [e]
     simpa using h1 _ (List.getElem_mem h2)
    ·intro h1 x hx
     obtain ⟨i, hi, rfl⟩ := List.getElem_of_mem hx
     have e : sf y i = y[i] := by unfold sf; simp [List.getD, hi]
     rw [← e]
     have := h1 i (by omega)
     simpa using this
  rw [st]
  constructor
  ·intro h1
   exact ⟨fun i hi => (Bool.and_eq_true _ _ ▸ h1 i hi).1, fun i hi => (Bool.and_eq_true _ _ ▸ h1 i hi).2⟩
  ·rintro ⟨h1, h2⟩ i hi
   rw [Bool.and_eq_true]; exact ⟨h1 i hi, h2 i hi⟩
 ·unfold NO
  by_cases hq : q = 3
  ·subst hq
   rw [if_pos rfl]
   simp only [List.all_cons, List.all_nil, List.any_cons, List.any_nil, Bool.or_false, Bool.and_true, Qe hm (a := (n : Int)) (by omega) (by omega), un]
   cases (sf y n == 1) <;> rfl
  ·rw [if_neg hq]
   simp only [List.all_cons, List.all_nil, List.any_cons, List.any_nil, Bool.or_false, Bool.and_true, T3 hm (a := (n : Int)) (by omega) (by omega), un]
   rw [show (q != 3) = true by simp [hq]]
   cases (sf y n == 1) <;> rfl
theorem node_ok {g : af} (h : cu g) {i : Nat} (hi : i < g.N.toNat) {st : Bool} : ∀ c ∈ DY g (i : Int) st, Ob (2 * g.N) c := fun c hc => by
 have hal := pF h (i := (i : Int)); have r := uP h (i := (i : Int)); have hasc := Kk h.s (i := (i : Int)); have hn0 := h.n0; have hn1 := h.n1
 unfold DY at hc
 simp only [List.mem_append, List.mem_singleton, List.mem_map] at hc
 rcases hc with ((((rfl | ⟨a, ha, rfl⟩) | rfl) | ⟨a, ha, rfl⟩) | rfl) | hc
 ·exact ⟨by simp, fun x hx => by simp only [List.mem_cons, List.not_mem_nil, or_false] at hx; rcases hx with rfl | rfl <;> omega, by simp [Tf]; omega⟩
 ·have := r a ha
  exact ⟨by simp, fun x hx => by simp only [List.mem_cons, List.not_mem_nil, or_false] at hx; rcases hx with rfl | rfl <;> omega, by simp [Tf]; omega⟩
 ·refine ⟨by simp; omega, fun x hx => ?_, ?_⟩
  ·rcases List.mem_cons.1 hx with rfl | hx
   ·omega
   ·obtain ⟨a, ha, rfl⟩ := List.mem_map.1 hx
    have := r a ha; omega
  ·refine List.pairwise_cons.2 ⟨fun x hx => ?_, ?_⟩
   ·obtain ⟨a, ha, rfl⟩ := List.mem_map.1 hx
    have := r a ha; omega
   ·rw [List.pairwise_map]
    refine List.Pairwise.imp_of_mem (fun {a b} ha hb hab => ?_) hasc
    have := r a ha; have := r b hb; omega
 ·have := r a ha
  exact ⟨by simp, fun x hx => by simp only [List.mem_cons, List.not_mem_nil, or_false] at hx; rcases hx with rfl | rfl <;> omega, by simp [Tf]; omega⟩
 ·refine ⟨by simp; omega, fun x hx => ?_, ?_⟩
  ·rcases List.mem_append.1 hx with hx | hx
   ·obtain ⟨a, ha, rfl⟩ := List.mem_map.1 hx
    have := r a ha; omega
   ·rw [List.mem_singleton.1 hx]; omega
  ·refine List.pairwise_append.2 ⟨?_, List.pairwise_singleton _ _, fun x hx z hz => ?_⟩
   ·rw [List.pairwise_map]
    refine List.Pairwise.imp_of_mem (fun {a b} ha hb hab => ?_) hasc
    have := r a ha; have := r b hb; omega
   ·obtain ⟨a, ha, rfl⟩ := List.mem_map.1 hx
    rw [List.mem_singleton.1 hz]
    have := r a ha; omega
 ·cases st
  ·simp at hc
  ·simp only [if_true, List.mem_singleton] at hc
   subst hc
   exact ⟨by simp, fun x hx => by simp only [List.mem_cons, List.not_mem_nil, or_false] at hx; rcases hx with rfl | rfl <;> omega, by simp [Tf]; omega⟩
theorem enc_ok {g : af} (h : cu g) {q : Int} {n : Nat} (hn : n < g.N.toNat) : VOk (2 * g.N) (Ew g q (n : Int)) := by
 have hn0 := h.n0; have hn1 := h.n1; have hl := BW h (q := q) (k := g.N.toNat)
 refine ⟨by omega, by omega, by simp [Ew]; omega, fun c hc => ?_⟩
 unfold Ew at hc
 rcases List.mem_append.1 hc with hc | hc
 ·unfold uv at hc
  obtain ⟨i, hi, hci⟩ := List.mem_flatMap.1 hc
  exact node_ok h (List.mem_range.1 hi) c hci
 ·rw [List.mem_singleton.1 hc]
  exact ⟨by simp, fun x hx => by rw [List.mem_singleton.1 hx]; split <;> omega, by simp [Tf]⟩
end Go.Dc
namespace Go.Dc
open Go.Proofs
theorem KM {zs : List Int} : Lib.compact zs = ((List.range zs.length).filter (Lib.keeps zs.toArray)).map (fun j => zs[j]?.getD 0) := by
 unfold Lib.compact Lib.compactUpTo
 apply List.map_congr_left
 intro j hj
 have : j < zs.length := by have := (List.mem_filter.1 hj).1; simpa using this
 simp [this]
theorem JO {zs : List Int} {j : Nat} (hj : j < zs.length) : Lib.keeps zs.toArray j = true ↔ j = 0 ∨ zs[j]?.getD 0 ≠ zs[j - 1]?.getD 0 := by
 have h1 : j - 1 < zs.length := by omega
 unfold Lib.keeps
 by_cases h : j = 0
 ·simp [h]
 ·simp [h, hj, h1]
theorem RO {zs : List Int} {x : Int} : x ∈ Lib.compact zs ↔ x ∈ zs := by
 rw [KM, List.mem_map]
 constructor
 ·rintro ⟨j, hj, rfl⟩
  have hj : j < zs.length := by simpa using (List.mem_filter.1 hj).1
  rw [List.getElem?_eq_getElem hj]; exact List.getElem_mem hj
 ·intro hx
  obtain ⟨j, hj, rfl⟩ := List.getElem_of_mem hx
  suffices ∀ n j (hj : j < zs.length), j ≤ n → ∃ i, i ∈ (List.range zs.length).filter (Lib.keeps zs.toArray) ∧ zs[i]?.getD 0 = zs[j] from this j j hj (Nat.le_refl _)
  intro n
  induction n with
  | zero =>
   intro j hj hn
   exact ⟨j, List.mem_filter.2 ⟨by simpa using hj, (JO hj).2 (.inl (by omega))⟩, by simp [hj]⟩
  | succ n ih =>
   intro j hj hn
   by_cases hk : Lib.keeps zs.toArray j = true
   ·exact ⟨j, List.mem_filter.2 ⟨by simpa using hj, hk⟩, by simp [hj]⟩
   ·have h2 := fun h => hk ((JO hj).2 h)
    have h0 : j ≠ 0 := fun h => h2 (.inl h)
    have h3 : zs[j]?.getD 0 = zs[j - 1]?.getD 0 := Classical.byContradiction fun h => h2 (.inr h)
    obtain ⟨i, hi, he⟩ := ih (j - 1) (by omega) (by omega)
    refine ⟨i, hi, he.trans ?_⟩
    have h4 : j - 1 < zs.length := by omega
    simpa [hj, h4] using h3.symm
theorem SH {lt : Int → Int → Prop} (tr : ∀ x y z, lt x y → lt y z → lt x z) {zs : List Int} (h : zs.Pairwise fun x y => lt x y ∨ x = y) : (Lib.compact zs).Pairwise lt := by
 rw [KM, List.pairwise_map]
 have hp : ((List.range zs.length).filter (Lib.keeps zs.toArray)).Pairwise (· < ·) := List.Pairwise.filter _ List.pairwise_lt_range
 refine List.Pairwise.imp_of_mem ?_ hp
 intro i j hi hj hij
 have hi' : i < zs.length := by simpa using (List.mem_filter.1 hi).1
 have hj' : j < zs.length := by simpa using (List.mem_filter.1 hj).1
 have hk := (JO hj').1 (List.mem_filter.1 hj).2
 have hg := List.pairwise_iff_getElem.1 h
 have h1 : j - 1 < zs.length := by omega
 have h2 : lt zs[i] zs[j - 1] ∨ zs[i] = zs[j - 1] := by
  by_cases e : i = j - 1
  ·subst e; exact .inr rfl
  ·exact hg i (j - 1) hi' h1 (by omega)
 have h3 : lt zs[j - 1] zs[j] ∨ zs[j - 1] = zs[j] := hg (j - 1) j h1 hj' (by omega)
 rcases hk with hk | hk
 ·omega
 ·simp [hi', hj', h1] at hk ⊢
  rcases h3 with h3 | h3
  ·rcases h2 with h2 | h2
   ·exact tr _ _ _ h2 h3
   ·rw [h2]; exact h3
  ·exact absurd h3.symm hk
end Go.Dc
namespace Go.Dc
open Go.Proofs Go.Sort Go.Shelf
theorem Wk : ∀ {a b : List Int}, Tf a → Tf b → (∀ x, x ∈ a ↔ x ∈ b) → a = b
 | [], [], _, _, _ => rfl
 | [], y :: b, _, _, h => by have := (h y).2 (by simp); simp at this
 | x :: a, [], _, _, h => by have := (h x).1 (by simp); simp at this
 | x :: a, y :: b, ha, hb, h => by
  have ha' := List.pairwise_cons.1 ha
  have hb' := List.pairwise_cons.1 hb
  have hxy : x = y := by
   rcases List.mem_cons.1 ((h x).1 (by simp)) with e | e
   ·exact e
   ·rcases List.mem_cons.1 ((h y).2 (by simp)) with e2 | e2
    ·exact e2.symm
    ·have := ha'.1 y e2; have := hb'.1 x e; omega
  subst hxy
  congr 1
  refine Wk ha'.2 hb'.2 fun z => ⟨fun hz => ?_, fun hz => ?_⟩
  ·rcases List.mem_cons.1 ((h z).1 (by simp [hz])) with e | e
   ·have := ha'.1 z hz; subst e; omega
   ·exact e
  ·rcases List.mem_cons.1 ((h z).2 (by simp [hz])) with e | e
   ·have := hb'.1 z hz; subst e; omega
   ·exact e
def FX (x : Int) : Int := imax x (pZ .i64 x)
theorem Ws {x : Int} (h0 : -1000 ≤ x) (h1 : x ≤ 1000) : FX x = x.natAbs := by unfold FX; rw [pY (by omega) (by omega), R3]
def XV (x y : Int) : Int := if x < y then -1 else if y < x then 1 else 0
theorem Oa {x y : Int} : bT x y = some (XV x y) := by
 unfold bT iP XV
 simp only [bne_self_eq_false, Option.bind_some, cond_false]
 by_cases h : x < y
 ·simp [h]
 ·by_cases h2 : y < x
  ·simp [h, h2]
  ·simp [h, h2]
def cmpR (x y : Int) : Int := if XV (FX x) (FX y) = 0 then XV x y else XV (FX x) (FX y)
theorem Or_plain {x y : Int} : gU [x, y] = some (if x = 0 then y else x) := by
 unfold gU
 rw [E3 (l := [x, y]) (fun a => if a = 0 then none else some a) (fun i hi => by
  unfold eR
  rw [show decide ((i : Int) < (([x, y] : List Int).length : Int)) = true by simp at hi ⊢; omega, cond_true, a_ hi, iz (by simp at hi; omega) (by simp at hi; omega)]
  simp only [Option.bind_some]
  by_cases h : [x, y][i] = 0
  ·rw [if_pos h, h]; rfl
  ·rw [if_neg h, show ([x, y][i] != 0) = true from by simpa using h]; rfl) (by unfold eR; simp)]
 by_cases hx : x = 0
 ·by_cases hy : y = 0
  ·simp [hx, hy]
  ·simp [hx, hy]
 ·simp [hx]
theorem CQ {x y : Int} : bK x y = some (cmpR x y) := by
 unfold bK ia
 simp only [Option.bind_some, Oa, Or_plain]
 rfl
def Td (x y : Int) : Prop := FX x < FX y ∨ FX x = FX y ∧ x < y
theorem cmpR_lt {x y : Int} : cmpR x y < 0 ↔ Td x y := by
 unfold cmpR XV Td
 by_cases h1 : FX x < FX y
 ·simp [h1]
 ·by_cases h2 : FX y < FX x
  ·simp [h1, h2]; omega
  ·have : FX x = FX y := by omega
   simp only [this, Int.lt_irrefl, if_false, if_true, false_or, true_and]
   by_cases h3 : x < y
   ·simp [h3]
   ·by_cases h4 : y < x <;> simp [h3, h4]
theorem cfo_R {x y : Int} : wP bK x y = cmpR x y := by unfold wP; rw [CQ]; rfl
theorem TX {x y : Int} : ltOf (wP bK) x y = true ↔ Td x y := by unfold ltOf; rw [decide_eq_true_iff, cfo_R, cmpR_lt]
theorem Ig {x y : Int} : ltOf (wP bK) x y = false ↔ ¬ Td x y := by rw [← TX]; simp
theorem ON (x y z : Int) (h1 : Td x y) (h2 : Td y z) : Td x z := by unfold Td at *; omega
theorem cmpOk_R : S9 bK where
 tot := fun x y => by rw [cfo_R, CQ]
 swo := ⟨fun x => by rw [Ig]; unfold Td; omega, fun x y z h1 h2 => by rw [TX] at *; exact ON x y z h1 h2, fun x y z h1 h2 => by rw [Ig] at *; unfold Td at *; omega⟩
 sep := fun x y h1 h2 => by rw [Ig] at *; unfold Td at *; omega
theorem sort_R {l : List Int} (h : l.length ≤ 1000) : ∃ r, gX bK l = some r ∧ r.Perm l ∧ r.Pairwise fun x y => Td x y ∨ x = y := by
 refine ⟨nM bK l, by unfold gX; rw [if_pos ⟨by omega, cmpOk_R⟩], List.mergeSort_perm _ _, ?_⟩
 have hs := List.pairwise_mergeSort (le := fun x y => !(ltOf (wP bK)) y x)
  (fun a b c h1 h2 => by simp only [Bool.not_eq_true', Ig] at *; unfold Td at *; omega)
  (fun a b => by
   cases h1 : ltOf (wP bK) b a with
   | false => rfl
   | true =>
    cases h2 : ltOf (wP bK) a b with
    | false => rfl
    | true => rw [TX] at h1 h2; unfold Td at h1 h2; omega) l
 refine hs.imp fun {x y} h => ?_
 simp only [Bool.not_eq_true', Ig] at h
 unfold Td at *
 omega
def iy (a b : List Int) (p : Int) : List Int := (a ++ b).filter fun x => decide ((x.natAbs : Int) ≠ p)
def OA (L : List Int) (v : Nat) : Option Int := if (v : Int) ∈ L then some v else if -(v : Int) ∈ L then some (-(v : Int)) else none
def Fi (L : List Int) : List Int := (List.range' 1 200).filterMap (OA L)
def Kw (L : List Int) : Bool := L.any fun x => L.contains (-x)
def gv (a b : List Int) (p : Int) : Bool × List Int :=
 if p < 1 ∨ ep 200 a ≠ 0 ∨ ep 200 b ≠ 0 ∨ p ∉ a ∨ -p ∉ b then (false, []) else
 if Kw (iy a b p) = true then (false, []) else if 50 < (Fi (iy a b p)).length then (false, []) else (true, Fi (iy a b p))
theorem D8 {a b : List Int} {p x : Int} : x ∈ iy a b p ↔ (x ∈ a ∨ x ∈ b) ∧ (x.natAbs : Int) ≠ p := by
 simp only [iy, List.mem_filter, List.mem_append, decide_eq_true_eq]
theorem MG {a b : List Int} {p x : Int} (ha : Ob 200 a) (hb : Ob 200 b) (h : x ∈ iy a b p) : x ≠ 0 ∧ -200 ≤ x ∧ x ≤ 200 := by
 rcases (D8.1 h).1 with h1 | h1
 ·exact ha.NJ x h1
 ·exact hb.NJ x h1
theorem ER {L : List Int} {v : Nat} {x : Int} (h : OA L v = some x) : x.natAbs = v ∧ x ∈ L := by
 unfold OA at h
 split at h
 ·cases h; exact ⟨by omega, by assumption⟩
 ·split at h
  ·cases h; exact ⟨by omega, by assumption⟩
  ·cases h
theorem RE {L : List Int} : Tf (Fi L) := by
 unfold Fi
 refine List.pairwise_filterMap.2 ?_
 refine (List.pairwise_lt_range' (s := 1) (n := 200)).imp fun {u v} huv x hx y hy => ?_
 rw [(ER hx).1, (ER hy).1]; exact huv
theorem EM {L : List Int} : Kw L = true ↔ ∃ x ∈ L, -x ∈ L := by simp [Kw]
theorem RN {L : List Int} (hr : ∀ x ∈ L, x ≠ 0 ∧ -200 ≤ x ∧ x ≤ 200) (ht : Kw L = false) {x : Int} : x ∈ Fi L ↔ x ∈ L := by
 unfold Fi
 rw [List.mem_filterMap]
 constructor
 ·rintro ⟨v, _, hv⟩; exact (ER hv).2
 ·intro hx
  have h1 := hr x hx
  refine ⟨x.natAbs, List.mem_range'_1.2 ⟨by omega, by omega⟩, ?_⟩
  have hno : ¬ (-x ∈ L) := fun h => by rw [EM.2 ⟨x, hx, h⟩] at ht; cases ht
  unfold OA
  by_cases hp : 0 < x
  ·rw [show ((x.natAbs : Nat) : Int) = x by omega, if_pos hx]
  ·have e : ((x.natAbs : Nat) : Int) = -x := by omega
   rw [e, if_neg hno, Int.neg_neg, if_pos hx]
theorem Ab {a b : List Int} {p : Int} {c : List Int} (h : gv a b p = (true, c)) :
  1 ≤ p ∧ Ob 200 a ∧ Ob 200 b ∧ p ∈ a ∧ -p ∈ b ∧ Ob 200 c ∧ ∀ x, x ∈ c ↔ x ∈ iy a b p := by
 unfold gv at h
 split at h
 ·cases h
 ·rename_i h1
  simp only [not_or, Classical.not_not] at h1
  obtain ⟨q1, q2, q3, q4, q5⟩ := h1
  split at h
  ·cases h
  ·rename_i h2
   split at h
   ·cases h
   ·rename_i h3
    cases h
    have ha := lp.1 q2
    have hb := lp.1 q3
    have hm : ∀ x, x ∈ Fi (iy a b p) ↔ x ∈ iy a b p := fun x => RN (fun x hx => MG ha hb hx) (by simpa using h2)
    exact ⟨by omega, ha, hb, q4, q5, ⟨by omega, fun x hx => MG ha hb ((hm x).1 hx), RE⟩, hm⟩
theorem N_ {a b : List Int} {p : Int} (hp : 1 ≤ p) (ha : Ob 200 a) (hb : Ob 200 b) (h1 : p ∈ a) (h2 : -p ∈ b) (ht : ∀ x ∈ iy a b p, -x ∉ iy a b p) (hl : (Fi (iy a b p)).length ≤ 50) :
  gv a b p = (true, Fi (iy a b p)) := by
 unfold gv
 rw [if_neg (by simp only [not_or, Classical.not_not]; exact ⟨by omega, lp.2 ha, lp.2 hb, h1, h2⟩)]
 have : Kw (iy a b p) = false := by
  cases h : Kw (iy a b p) with
  | false => rfl
  | true => obtain ⟨x, hx, hy⟩ := EM.1 h; exact absurd hy (ht x hx)
 rw [this, if_neg (by simp), if_neg (by omega)]
theorem yN {l : List Int} {x : Int} (hl : l.length ≤ 1000) : bE l x = some (decide (x ∈ l)) := by
 have h : T (jd l x) fun r => 0 ≤ r ↔ x ∈ l := by
  unfold jd
  refine T.bind (P := fun r => match r with | .inl r => 0 ≤ r ∧ x ∈ l | .inr _ => x ∉ l) (T.cS l.length (fun k s => s = (k : Int) ∧ x ∉ l.take k) ⟨rfl, by simp⟩ fun k s hs => ?_) fun r hr => ?_
  ·obtain ⟨rfl, hn⟩ := hs
   unfold ry
   refine T.cond (fun h => ?_) fun h => .ret ?_
   ·simp only [decide_eq_true_eq] at h
    have hk : k < l.length := by omega
    rw [a_ hk, iz (by omega) (by omega)]
    simp only [Option.bind_some]
    refine T.cond (fun h2 => .ret ⟨by omega, ?_⟩) fun h2 => .ret ⟨hk, by omega, ?_⟩
    ·rw [eq_of_beq h2]; exact List.getElem_mem hk
    ·rw [← List.take_append_getElem hk, List.mem_append, List.mem_singleton]
     rintro (h3 | h3)
     ·exact hn h3
     ·subst h3; simp at h2
   ·simp only [decide_eq_false_iff_not] at h
    rw [List.take_of_length_le (by omega)] at hn
    exact hn
  ·match r, hr with
   | .inl r, hr => exact .ret ⟨fun _ => hr.2, fun _ => hr.1⟩
   | .inr u, hr => exact .ret ⟨fun h => by omega, fun h => absurd h hr⟩
 unfold bE
 obtain ⟨r, h1, h2⟩ := h
 rw [h1]
 simp only [Option.bind_some]
 by_cases hx : x ∈ l
 ·rw [decide_eq_true hx]; simp [h2.2 hx]
 ·rw [decide_eq_false hx]; have : ¬ 0 ≤ r := fun h => hx (h2.1 h); simp [this]
theorem Bu {p : Int} {t out : List Int} (ht : t.length ≤ 50) (hr : ∀ x ∈ t, -200 ≤ x ∧ x ≤ 200) (ho : out.length ≤ 50) :
  aI (uu p t) (0, out) = some (out ++ t.filter fun x => decide ((x.natAbs : Int) ≠ p)) := by
 refine T.eq (T.cS t.length (fun k s => s.1 = (k : Int) ∧ k ≤ t.length ∧ s.2 = out ++ (t.take k).filter fun x => decide ((x.natAbs : Int) ≠ p)) ⟨rfl, by omega, by simp⟩ fun k s hs => ?_)
 obtain ⟨i, o⟩ := s
 obtain ⟨e1, e2, e3⟩ := hs
 dsimp only at e1 e3
 subst e1
 unfold uu
 dsimp only
 have hol : o.length ≤ 50 + k := by
  rw [e3, List.length_append]
  have := List.length_filter_le (fun x : Int => decide ((x.natAbs : Int) ≠ p)) (t.take k)
  simp only [List.length_take] at this
  omega
 refine T.cond (fun h => ?_) fun h => .ret ?_
 ·simp only [decide_eq_true_eq] at h
  have hk : k < t.length := by omega
  have h1 := hr _ (List.getElem_mem hk)
  rw [a_ hk, iz (by omega) (by omega)]
  simp only [Option.bind_some]
  rw [Kl (by omega) (by omega)]
  simp only [Option.bind_some]
  have e4 : (t.take (k + 1)).filter (fun x => decide ((x.natAbs : Int) ≠ p)) = (t.take k).filter (fun x => decide ((x.natAbs : Int) ≠ p)) ++ if (t[k].natAbs : Int) ≠ p then [t[k]] else [] := by
   rw [← List.take_append_getElem hk, List.filter_append]
   congr 1
   by_cases h2 : (t[k].natAbs : Int) = p
   ·simp [h2]
   ·simp [h2]
  refine T.cond (fun h2 => ?_) fun h2 => .ret ⟨hk, by omega, by omega, ?_⟩
  ·rw [cL (by simp; omega)]
   refine .ret ⟨hk, by dsimp only; omega, by omega, ?_⟩
   rw [e4, if_pos (by simpa using h2), e3, List.append_assoc]
  ·rw [e4, if_neg (by simpa using h2), e3, List.append_nil]
 ·simp only [decide_eq_false_iff_not] at h
  rw [List.take_of_length_le (by omega)] at e3
  exact e3
theorem Ko {a b : List Int} {p : Int} (ha : Ob 200 a) (hb : Ob 200 b) : aI (gD a b p) (0, []) = some (iy a b p) := by
 have ra : ∀ x ∈ a, -200 ≤ x ∧ x ≤ 200 := fun x hx => (ha.NJ x hx).2
 have rb : ∀ x ∈ b, -200 ≤ x ∧ x ≤ 200 := fun x hx => (hb.NJ x hx).2
 have fa : (a.filter fun x => decide ((x.natAbs : Int) ≠ p)).length ≤ 50 := Nat.le_trans (List.length_filter_le _ _) ha.len
 have s0 : gD a b p (0, []) = some (.inr (1, a.filter fun x => decide ((x.natAbs : Int) ≠ p))) := by
  unfold gD
  dsimp only
  rw [show aL [a, b] 0 = some a from rfl, Option.bind_some, Bu ha.len ra (by simp)]
  rfl
 have s1 : gD a b p (1, a.filter fun x => decide ((x.natAbs : Int) ≠ p)) = some (.inr (2, iy a b p)) := by
  unfold gD
  dsimp only
  rw [show aL [a, b] 1 = some b from rfl, Option.bind_some, Bu hb.len rb fa, Option.bind_some, iy, List.filter_append]
  rfl
 have s2 : gD a b p (2, iy a b p) = some (.inl (iy a b p)) := rfl
 rw [gq, s0]; simp only [Option.bind_some]
 rw [gq, s1]; simp only [Option.bind_some]
 rw [gq, s2]; rfl
theorem N9 {a b : List Int} {p : Int} : qB a b p = some (gv a b p) := by
 unfold qB gv
 by_cases h1 : p < 1
 ·rw [if_pos (.inl h1), decide_eq_true h1]; rfl
 rw [decide_eq_false h1, cond_false, xq (by omega) (by omega), Option.bind_some]
 by_cases h2 : ep 200 a = 0
 rotate_left
 ·rw [if_pos (.inr (.inl h2)), show (ep 200 a != 0) = true by simp [h2]]; rfl
 rw [h2, xq (by omega) (by omega)]
 simp only [bne_self_eq_false, cond_false, Option.bind_some]
 by_cases h3 : ep 200 b = 0
 rotate_left
 ·rw [if_pos (.inr (.inr (.inl h3))), show (ep 200 b != 0) = true by simp [h3]]; rfl
 have ha := lp.1 h2
 have hb := lp.1 h3
 rw [h3, yN (by have := ha.len; omega)]
 simp only [bne_self_eq_false, cond_false, Option.bind_some]
 by_cases h4 : p ∈ a
 rotate_left
 ·rw [if_pos (.inr (.inr (.inr (.inl h4)))), decide_eq_false h4]; rfl
 have hp := ha.NJ p h4
 rw [decide_eq_true h4, yN (by have := hb.len; omega), pY (by omega) (by omega)]
 simp only [Bool.not_true, cond_false, Option.bind_some]
 by_cases h5 : -p ∈ b
 rotate_left
 ·rw [if_pos (.inr (.inr (.inr (.inr h5)))), decide_eq_false h5]; rfl
 rw [decide_eq_true h5, Ko ha hb]
 simp only [Bool.not_true, cond_false, Option.bind_some]
 rw [if_neg (by simp only [not_or, Classical.not_not]; exact ⟨h1, trivial, trivial, h4, h5⟩)]
 have hlen : (iy a b p).length ≤ 100 := by
  have := List.length_filter_le (fun x : Int => decide ((x.natAbs : Int) ≠ p)) (a ++ b)
  have := ha.len; have := hb.len
  simp only [List.length_append] at *
  unfold iy; omega
 obtain ⟨S, e1, e2, e3⟩ := sort_R (l := iy a b p) (by omega)
 rw [e1, Option.bind_some]
 have e4 : ym S = some (Lib.compact S) := by unfold ym; rw [if_pos (by rw [e2.length_eq]; omega)]
 rw [e4, Option.bind_some, QA, xq (by omega) (by omega), Option.bind_some]
 have hmem : ∀ x, x ∈ Lib.compact S ↔ x ∈ iy a b p := fun x => by rw [RO, e2.mem_iff]
 have hpw := SH ON e3
 have aaC : ∀ x ∈ iy a b p, x ≠ 0 ∧ -200 ≤ x ∧ x ≤ 200 := fun x hx => MG ha hb hx
 by_cases ht : Kw (iy a b p) = true
 ·rw [if_pos ht]
  obtain ⟨x, hx, hy⟩ := EM.1 ht
  have hnz := (aaC x hx).1
  have : ep 200 (Lib.compact S) ≠ 0 := fun h => by
   have hA := (lp.1 h).asc
   have hne : x ≠ -x := by omega
   obtain ⟨i, hi, ei⟩ := List.getElem_of_mem ((hmem x).2 hx)
   obtain ⟨j, hj, ej⟩ := List.getElem_of_mem ((hmem (-x)).2 hy)
   have hij : i ≠ j := fun e => by subst e; omega
   rcases Nat.lt_or_gt_of_ne hij with q | q
   ·have := List.pairwise_iff_getElem.1 hA i j hi hj q; rw [ei, ej] at this; omega
   ·have := List.pairwise_iff_getElem.1 hA j i hj hi q; rw [ei, ej] at this; omega
  rw [show (ep 200 (Lib.compact S) != 0) = true by simp [this]]; rfl
 ·rw [if_neg ht]
  have ht' : Kw (iy a b p) = false := by simpa using ht
  have hA : Tf (Lib.compact S) := by
   refine hpw.imp_of_mem fun {x y} hx hy hlt => ?_
   have hx' := (hmem x).1 hx
   have hy' := (hmem y).1 hy
   have q1 := aaC x hx'
   have q2 := aaC y hy'
   unfold Td at hlt
   rw [Ws (by omega) (by omega), Ws (by omega) (by omega)] at hlt
   rcases hlt with hlt | ⟨hlt, hxy⟩
   ·omega
   ·have : y = -x := by omega
    subst this
    rw [EM.2 ⟨x, hx', hy'⟩] at ht'; cases ht'
  have he : Lib.compact S = Fi (iy a b p) := Wk hA RE fun x => by rw [hmem x, RN aaC ht']
  rw [he] at hA hmem ⊢
  by_cases hl : 50 < (Fi (iy a b p)).length
  ·rw [if_pos hl]
   have : ep 200 (Fi (iy a b p)) = 2 := by unfold ep; rw [if_pos hl]
   rw [this]; rfl
  ·rw [if_neg hl]
   have : ep 200 (Fi (iy a b p)) = 0 := lp.2 ⟨by omega, fun x hx => aaC x ((hmem x).1 hx), hA⟩
   rw [this]; rfl
end Go.Dc
set_option maxHeartbeats 1000000
namespace Go.Dc
theorem aah {m : List Bool} {x : Int} (h : x ≠ 0) : uD m (-x) = !uD m x := by
 unfold uD
 rw [Int.natAbs_neg]
 have : decide (-x > 0) = !decide (x > 0) := by
  by_cases h1 : x > 0
  ·simp [h1]; omega
  ·simp [h1]; omega
 rw [this]
 cases m.getD (x.natAbs - 1) false <;> cases decide (x > 0) <;> rfl
theorem W5 {a b c : List Int} {p : Int} {m : List Bool} (h : gv a b p = (true, c)) (ha : a.any (uD m) = true) (hb : b.any (uD m) = true) : c.any (uD m) = true := by
 obtain ⟨h1, h2, h3, h4, h5, h6, h7⟩ := Ab h
 obtain ⟨x, hx, hxt⟩ := List.any_eq_true.1 ha
 obtain ⟨y, hy, hyt⟩ := List.any_eq_true.1 hb
 by_cases e1 : (x.natAbs : Int) = p
 ·by_cases e2 : (y.natAbs : Int) = p
  · -- x = p (a has no -p beside p), y = -p
   have ux : x = p := by
    by_cases e : x = p
    ·exact e
    ·obtain ⟨i, hi, ei⟩ := List.getElem_of_mem hx
     obtain ⟨j, hj, ej⟩ := List.getElem_of_mem h4
     have hij : i ≠ j := fun q => by subst q; rw [ei] at ej; exact absurd ej e
     rcases Nat.lt_or_gt_of_ne hij with q | q
     ·have := List.pairwise_iff_getElem.1 h2.asc i j hi hj q; rw [ei, ej] at this; omega
     ·have := List.pairwise_iff_getElem.1 h2.asc j i hj hi q; rw [ei, ej] at this; omega
   have uy : y = -p := by
    by_cases e : y = -p
    ·exact e
    ·obtain ⟨i, hi, ei⟩ := List.getElem_of_mem hy
     obtain ⟨j, hj, ej⟩ := List.getElem_of_mem h5
     have hij : i ≠ j := fun q => by subst q; rw [ei] at ej; exact absurd ej e
     rcases Nat.lt_or_gt_of_ne hij with q | q
     ·have := List.pairwise_iff_getElem.1 h3.asc i j hi hj q; rw [ei, ej] at this; omega
     ·have := List.pairwise_iff_getElem.1 h3.asc j i hj hi q; rw [ei, ej] at this; omega
   subst ux; subst uy
   rw [aah (by omega), hxt] at hyt
   cases hyt
  ·exact List.any_eq_true.2 ⟨y, (h7 y).2 (D8.2 ⟨.inr hy, e2⟩), hyt⟩
 ·exact List.any_eq_true.2 ⟨x, (h7 x).2 (D8.2 ⟨.inl hx, e1⟩), hxt⟩
def Y6 (l : List (List Int)) (m : List Bool) : Bool := l.all fun c => c.any (uD m)
def HE (all : List (List Int)) (s : aB) : Option (List (List Int)) :=
 if s.Left < 0 ∨ (all.length : Int) ≤ s.Left ∨ s.Right < 0 ∨ (all.length : Int) ≤ s.Right then none else
 if (gv (all.getD s.Left.toNat []) (all.getD s.Right.toNat []) s.I7).1 = true then some (all ++ [(gv (all.getD s.Left.toNat []) (all.getD s.Right.toNat []) s.I7).2]) else none
def CY : List (List Int) → List aB → Option (List (List Int))
 | all, [] => some all
 | all, s :: r => (HE all s).bind fun a => CY a r
def TF (l : List (List Int)) (steps : List aB) : Bool := match CY l steps with
 | none => false
 | some all => if steps = [] then l.any List.isEmpty else (all.getD (all.length - 1) [1]).isEmpty
theorem WI {all : List (List Int)} {s : aB} {a : List (List Int)} (h : HE all s = some a) : a.length = all.length + 1 := by
 unfold HE at h
 split at h
 ·cases h
 ·split at h
  ·cases h; simp
  ·cases h
theorem Ro : ∀ {steps : List aB} {all a : List (List Int)}, CY all steps = some a → a.length = all.length + steps.length
 | [], all, a, h => by cases h; simp
 | s :: r, all, a, h => by
  simp only [CY, Option.bind_eq_some_iff] at h
  obtain ⟨b, h1, h2⟩ := h
  have := WI h1
  have := Ro h2
  simp; omega
theorem Rp : ∀ {x y : List aB} {all : List (List Int)}, CY all (x ++ y) = (CY all x).bind fun a => CY a y
 | [], y, all => rfl
 | s :: r, y, all => by
  simp only [List.cons_append, CY, Option.bind_assoc]
  cases HE all s with
  | none => rfl
  | some a => simp only [Option.bind_some]; exact Rp
theorem W0 {l all : List (List Int)} {steps : List aB} {k : Nat} (hk : k < steps.length) (h : CY l (steps.take k) = some all) : CY l (steps.take (k + 1)) = HE all steps[k] := by
 rw [← List.take_append_getElem hk, Rp, h]
 simp only [Option.bind_some, CY]
 cases HE all steps[k] <;> rfl
theorem YP {all : List (List Int)} {s : aB} (h0 : 0 ≤ s.Left) (h1 : s.Left < all.length) (h2 : 0 ≤ s.Right) (h3 : s.Right < all.length) :
  HE all s = if (gv (all.getD s.Left.toNat []) (all.getD s.Right.toNat []) s.I7).1 = true then some (all ++ [(gv (all.getD s.Left.toNat []) (all.getD s.Right.toNat []) s.I7).2]) else none := by
 unfold HE; rw [if_neg (by omega)]
theorem IN {r : Int} {b : Bool} (h : 0 ≤ r ↔ b = true) : (some r).bind (fun t1 => some (decide (t1 ≥ 0))) = some b := by
 cases b with
 | true => simp; exact h.2 rfl
 | false => simp; exact Int.lt_of_not_ge fun h1 => by have := h.1 h1; cases this
theorem vF {α : Type} {l : List α} {p : α → Bool} {f : Int → Option (Sum (Sum Int Unit) Int)} (hf : ∀ i (hi : i < l.length), f (i : Int) = some (bif p l[i] then .inl (.inl (i : Int)) else .inr ((i : Int) + 1)))
  (he : f (l.length : Int) = some (.inl (.inr ()))) : T ((aI f 0).bind (eH (fun a : Int => some a) fun _ : Unit => some (-1))) fun r => 0 ≤ r ↔ l.any p = true := by
 refine T.bind (P := fun r => match r with | .inl r => 0 ≤ r ∧ l.any p = true | .inr _ => l.any p = false) (T.cS l.length (fun k s => s = (k : Int) ∧ k ≤ l.length ∧ (l.take k).any p = false) ⟨rfl, by omega, by simp⟩ ?_) fun r hr => ?_
 ·rintro k _ ⟨rfl, hk, hn⟩
  by_cases hk2 : k < l.length
  ·rw [hf k hk2]
   refine .ret ?_
   cases hp : p l[k] with
   | true => exact ⟨by omega, List.any_eq_true.2 ⟨_, List.getElem_mem hk2, hp⟩⟩
   | false =>
    refine ⟨hk2, by omega, hk2, ?_⟩
    rw [← List.take_append_getElem hk2, List.any_append, hn]; simp [hp]
  ·have : k = l.length := by omega
   subst this
   rw [he]
   refine .ret ?_
   rw [List.take_length] at hn; exact hn
 ·match r, hr with
  | .inl r, hr => exact .ret ⟨fun _ => hr.2, fun _ => hr.1⟩
  | .inr u, hr => exact .ret ⟨fun h => by omega, fun h => by rw [hr] at h; cases h⟩
theorem TE {l : List (List Int)} {steps : List aB} {m : List Bool} (h : TF l steps = true) : Y6 l m = false := by
 cases hs : Y6 l m with
 | false => rfl
 | true =>
  exfalso
  have hall : ∀ (st : List aB) (all a : List (List Int)), (∀ c ∈ all, c.any (uD m) = true) → CY all st = some a → ∀ c ∈ a, c.any (uD m) = true := by
   intro st
   induction st with
   | nil => intro all a h1 h2; cases h2; exact h1
   | cons s r ih =>
    intro all a h1 h2
    simp only [CY, Option.bind_eq_some_iff] at h2
    obtain ⟨b, h3, h4⟩ := h2
    refine ih b a ?_ h4
    unfold HE at h3
    split at h3
    ·cases h3
    ·rename_i hn
     split at h3
     ·rename_i hr
      cases h3
      intro c hc
      rcases List.mem_append.1 hc with h5 | h5
      ·exact h1 c h5
      ·rw [List.mem_singleton.1 h5]
       have mem : ∀ i : Int, ¬ i < 0 → ¬ (all.length : Int) ≤ i → all.getD i.toNat [] ∈ all := fun i h6 h7 => by
        have : i.toNat < all.length := by omega
        simp only [List.getD, List.getElem?_eq_getElem this, Option.getD_some]; exact List.getElem_mem this
       exact W5 (p := s.I7) (a := all.getD s.Left.toNat []) (b := all.getD s.Right.toNat []) (by rw [← hr]) (h1 _ (mem _ (by omega) (by omega))) (h1 _ (mem _ (by omega) (by omega)))
     ·cases h3
  unfold TF at h
  cases hr : CY l steps with
  | none => rw [hr] at h; cases h
  | some a =>
   rw [hr] at h
   have hA := hall steps l a (fun c hc => List.all_eq_true.1 hs c hc) hr
   have hal := Ro hr
   simp only at h
   by_cases h3 : steps = []
   ·rw [if_pos h3] at h
    obtain ⟨c, hc, he⟩ := List.any_eq_true.1 h
    have := List.all_eq_true.1 hs c hc
    rw [List.isEmpty_iff.1 he] at this; simp at this
   ·rw [if_neg h3] at h
    have hp := List.length_pos_iff.2 h3
    have hlt : a.length - 1 < a.length := by omega
    have hm : a.getD (a.length - 1) [1] ∈ a := by
     simp only [List.getD, List.getElem?_eq_getElem hlt, Option.getD_some]; exact List.getElem_mem hlt
    have := hA _ hm
    rw [List.isEmpty_iff.1 h] at this; simp at this
end Go.Dc
namespace Go.Dc
open Go.Proofs Go.Sort
theorem N7 {x : Int} : lE x = some (decide (¬ (1 ≤ x ∧ x ≤ 3))) := by
 unfold lE
 by_cases h1 : x = 1
 ·subst h1; rfl
 ·by_cases h2 : x = 2
  ·subst h2; rfl
  ·by_cases h3 : x = 3
   ·subst h3; rfl
   ·rw [show (x != 1) = true by simp [h1], show (x != 2) = true by simp [h2], show (x != 3) = true by simp [h3]]
    simp only [cond_true]
    congr 1
    rw [eq_comm, decide_eq_true_iff]; omega
def badL (y : List Int) : Bool := y.any fun x => decide (¬ (1 ≤ x ∧ x ≤ 3))
theorem SE {y : List Int} (hl : y.length ≤ 1000000) : eE y = some (badL y) := by
 unfold eE
 have h : T (fF y) fun r => 0 ≤ r ↔ badL y = true := by
  unfold fF
  refine vF (l := y) (fun i hi => ?_) ?_
  ·unfold je
   rw [show decide ((i : Int) < (y.length : Int)) = true by simp [hi], cond_true, a_ hi, iz (by omega) (by omega)]
   simp only [Option.bind_some]
   rw [N7, aj]
   cases decide (¬ (1 ≤ y[i] ∧ y[i] ≤ 3)) <;> rfl
  ·unfold je; simp
 obtain ⟨r, h1, h2⟩ := h
 rw [h1]; exact IN h2
theorem lok_iff {N : Nat} {y : List Int} : NF N y ↔ y.length = N ∧ badL y = false := by
 unfold badL
 constructor
 ·intro h
  refine ⟨h.len, ?_⟩
  rw [List.any_eq_false]
  intro x hx; have := h.NJ x hx; simpa using this
 ·rintro ⟨h1, h2⟩
  refine ⟨h1, fun x hx => ?_⟩
  rw [List.any_eq_false] at h2
  have := h2 x hx; simpa using this
theorem QO {g : af} (h0 : 0 ≤ g.N) {y : List Int} (hl : y.length ≤ 1000000) : T (kK g y) fun b => b = true ↔ NF g.N.toNat y := by
 unfold kK
 refine T.cond (fun c => ?_) fun c => .ret ?_
 ·have e : (y.length : Int) = g.N := eq_of_beq c
  rw [SE hl, aj]
  refine .ret ?_
  rw [lok_iff]
  cases badL y <;> simp <;> omega
 ·have e : ¬ (y.length : Int) = g.N := fun e => by rw [e] at c; simp at c
  constructor
  ·intro h; cases h
  ·intro h; have := h.len; exact absurd (by omega) e
theorem Qd {g : af} (h : cu g) (hg : g.L.length ≤ 100000) {y : List Int} (hy : NF g.N.toNat y) {i : Nat} (hi : i < g.N.toNat) : nU g y (i : Int) = some (jO g y i) := by
 have hl := hy.len; have hn1 := h.n1; have hal := pF h (i := (i : Int))
 unfold nU
 rw [uI h hg (by omega), aj]
 have : T (aI (qU y (aK g i)) (0, 0, 0, 0, 0)) fun q => q.2.2.1 = (((aK g i).countP (fun a => fA y a == 2) : Nat) : Int) ∧ q.2.1 = (((aK g i).countP (fun a => fA y a == 1) : Nat) : Int) := by
  refine T.cS (aK g i).length (fun k s => k ≤ (aK g i).length ∧ s.1 = (k : Int) ∧ 0 ≤ s.2.1 ∧ s.2.1 ≤ (k : Int) ∧ s.2.2.1 = ((((aK g i).take k).countP (fun a => fA y a == 1) : Nat) : Int) ∧ s.2.2.2.1 = ((((aK g i).take k).countP (fun a => fA y a == 2) : Nat) : Int) ∧ 0 ≤ s.2.2.2.2 ∧ s.2.2.2.2 ≤ (k : Int)) ⟨by omega, rfl, by simp, by simp, by simp, by simp, by simp, by simp⟩ ?_
  rintro k ⟨_, c0, c1, c2, c3⟩ ⟨hk, rfl, p0, p1, p2, p3, p4, p5⟩
  dsimp only at p0 p1 p2 p3 p4 p5
  dsimp only [qU]
  refine T.cond (fun c => ?_) fun c => ?_
  ·have hk2 : k < (aK g i).length := by simpa using c
   have hr := uP h _ (List.getElem_mem hk2)
   obtain ⟨a, ha⟩ : ∃ a : Nat, (aK g i)[k] = (a : Int) := ⟨((aK g i)[k]).toNat, by omega⟩
   have hu : aL y (aK g i)[k] = some (fA y (aK g i)[k]) := by
    rw [ha]; unfold fA; rw [Int.toNat_natCast]; exact Ee (by omega)
   have hv : fA y (aK g i)[k] = 1 ∨ fA y (aK g i)[k] = 2 ∨ fA y (aK g i)[k] = 3 := by
    rw [ha]; unfold fA; rw [Int.toNat_natCast]; exact hy.at (by omega)
   have ht : ∀ p : Int → Bool, ((aK g i).take (k + 1)).countP p = ((aK g i).take k).countP p + if p (aK g i)[k] then 1 else 0 := fun p => by
    rw [List.take_add_one, List.getElem?_eq_getElem hk2, Option.toList_some, List.countP_append, List.countP_singleton]
   have b1 : ∀ p : Int → Bool, ((aK g i).take k).countP p ≤ 40 := fun p => by
    have h1 := List.countP_le_length (p := p) (l := (aK g i).take k); simp at h1; omega
   have a1 := b1 fun a => fA y a == 1; have a2 := b1 fun a => fA y a == 2
   rw [a_ hk2, aj, hu, aj, cN (by omega), p2, p3, cN (by omega), cN (by omega), iz (x := c0) (by omega) (by omega), iz (x := c3) (by omega) (by omega)]
   rcases hv with e | e | e
   ·rw [e]
    refine .ret ⟨hk2, hk2, rfl, p0, by simp only; omega, ?_, ?_, p4, by simp only; omega⟩
    ·simp only; rw [ht, e]; simp
    ·simp only; rw [ht, e]; simp
   ·rw [e]
    refine .ret ⟨hk2, hk2, rfl, p0, by simp only; omega, ?_, ?_, p4, by simp only; omega⟩
    ·simp only; rw [ht, e]; simp
    ·simp only; rw [ht, e]; simp
   ·rw [e]
    refine .ret ⟨hk2, hk2, rfl, p0, by simp only; omega, ?_, ?_, by simp only; omega, by simp only; omega⟩
    ·simp only; rw [ht, e]; simp
    ·simp only; rw [ht, e]; simp
  ·have e : k = (aK g i).length := by have : ¬ (k : Int) < (aK g i).length := of_decide_eq_false c; omega
   subst e
   rw [List.take_length] at p2 p3
   exact .ret ⟨p3, p2⟩
 obtain ⟨⟨q0, q1, q2, q3⟩, e, f1, f2⟩ := this
 dsimp only at f1 f2
 subst f1; subst f2
 rw [e, aj, Ee (by omega), aj]
 dsimp only
 unfold jO
 have all2 : ((((aK g i).countP (fun a => fA y a == 2) : Nat) : Int) == ((aK g i).length : Int)) = (aK g i).all fun a => fA y a == 2 := by
  rw [Bool.eq_iff_iff, beq_iff_eq, List.all_eq_true]
  constructor
  ·intro h1; exact List.countP_eq_length.1 (by omega)
  ·intro h1; rw [List.countP_eq_length.2 h1]
 have any1 : decide ((((aK g i).countP (fun a => fA y a == 1) : Nat) : Int) > 0) = (aK g i).any fun a => fA y a == 1 := by
  rw [Bool.eq_iff_iff, decide_eq_true_iff, List.any_eq_true]
  constructor
  ·intro h1; exact List.countP_pos_iff.1 (by omega)
  ·intro h1; have := List.countP_pos_iff.2 h1; omega
 rcases hy.at hi with e | e | e
 ·rw [e, if_pos rfl, show ((1 : Int) == 1) = true from rfl, cond_true, all2]
 ·rw [e, if_neg (by omega), if_pos rfl, show ((2 : Int) == 1) = false from rfl, cond_false, show ((2 : Int) == 2) = true from rfl, cond_true, any1]
 ·rw [e, if_neg (by omega), if_neg (by omega), show ((3 : Int) == 1) = false from rfl, cond_false, show ((3 : Int) == 2) = false from rfl, cond_false]
  have z1 : ((((aK g i).countP (fun a => fA y a == 1) : Nat) : Int) == 0) = !((aK g i).any fun a => fA y a == 1) := by
   rw [← any1, Bool.eq_iff_iff]; simp
  have z2 : decide ((((aK g i).countP (fun a => fA y a == 2) : Nat) : Int) < ((aK g i).length : Int)) = !((aK g i).all fun a => fA y a == 2) := by
   rw [← all2, Bool.eq_iff_iff]
   have := List.countP_le_length (p := fun a => fA y a == 2) (l := aK g i)
   simp; omega
  rw [z1, z2]
  cases !((aK g i).any fun a => fA y a == 1) <;> cases !((aK g i).all fun a => fA y a == 2) <;> rfl
theorem Lr {g : af} (h : cu g) (hg : g.L.length ≤ 100000) {y : List Int} (hl : y.length ≤ 1000000) : T (jm g y) fun b => b = true ↔ NF g.N.toNat y ∧ O6 g y = true := by
 have hn0 := h.n0; have hn1 := h.n1
 obtain ⟨b, eb, hb⟩ := QO hn0 hl (y := y)
 unfold jm pX
 rw [eb, aj]
 refine T.cond (fun c => ?_) fun c => .ret ⟨fun h => (by cases h), fun h => by rw [hb.2 h.1] at c; cases c⟩
 have hy := hb.1 c
 have hyl := hy.len
 rw [aj, c, show (!true) = false from rfl, cond_false]
 have hI : T (aI (oI g y) (0, [])) fun r => (r.length = 0 ↔ O6 g y = true) := by
  refine T.cS g.N.toNat (fun k s => k ≤ g.N.toNat ∧ s.1 = (k : Int) ∧ s.2.length ≤ k ∧ (s.2.length = 0 ↔ ∀ i, i < k → jO g y i = true)) ⟨by omega, rfl, by simp, by simp⟩ ?_
  rintro k ⟨_, o⟩ ⟨hk, rfl, ho, hi⟩
  dsimp only at ho hi
  dsimp only [oI]
  refine T.cond (fun c => ?_) fun c => ?_
  ·have hk2 : k < g.N.toNat := by have := of_decide_eq_true c; omega
   rw [Qd h hg hy hk2, aj, cN (by omega)]
   refine T.cond (fun c2 => ?_) fun c2 => ?_
   ·rw [cL (by simp; omega), aj]
    refine .ret ⟨hk2, hk2, rfl, by simp; omega, ?_⟩
    simp only [List.length_append, List.length_singleton]
    constructor
    ·intro e; omega
    ·intro h1; have := h1 k (by omega); rw [this] at c2; cases c2
   ·have e : jO g y k = true := by simpa using c2
    refine .ret ⟨hk2, hk2, rfl, by simp only; omega, ?_⟩
    simp only
    rw [hi]
    constructor
    ·intro h1 i hik
     by_cases e2 : i = k
     ·subst e2; exact e
     ·exact h1 i (by omega)
    ·intro h1 i hik; exact h1 i (by omega)
  ·have e : k = g.N.toNat := by have := of_decide_eq_false c; omega
   subst e
   refine .ret ?_
   show o.length = 0 ↔ _
   rw [hi]; unfold O6; exact xC.symm
 obtain ⟨r, e, hr⟩ := hI
 rw [e, aj, aj]
 refine .ret ?_
 rw [show ((((r.length : Int) : Int) == 0) = true ↔ r.length = 0) by simp, hr]
 exact ⟨fun h => ⟨hy, h⟩, fun h => h.2⟩
theorem US {y : List Int} {x : Int} (hl : y.length ≤ 1000000) : T (b9 y x) fun r => r.length > 0 ↔ (y.any fun z => z == x) = true := by
 unfold b9
 refine T.bind (P := fun r => r.length > 0 ↔ (y.any fun z => z == x) = true) ?_ fun r hr => .ret hr
 refine T.cS y.length (fun k s => k ≤ y.length ∧ s.1 = (k : Int) ∧ s.2.length ≤ k ∧ (s.2.length > 0 ↔ ((y.take k).any fun z => z == x) = true)) ⟨by omega, rfl, by simp, by simp⟩ ?_
 rintro k ⟨_, o⟩ ⟨hk, rfl, ho, hi⟩
 dsimp only at ho hi
 dsimp only [sW]
 refine T.cond (fun c => ?_) fun c => ?_
 ·have hk2 : k < y.length := by simpa using c
  have tk : ((y.take (k + 1)).any fun z => z == x) = (((y.take k).any fun z => z == x) || y[k] == x) := by
   rw [List.take_add_one, List.getElem?_eq_getElem hk2, Option.toList_some, List.any_append]; simp
  rw [a_ hk2, aj, cN (by omega)]
  refine T.cond (fun c2 => ?_) fun c2 => .ret ⟨hk2, hk2, rfl, by simp only; omega, ?_⟩
  ·rw [cL (by simp; omega), aj]
   refine .ret ⟨hk2, hk2, rfl, by simp; omega, ?_⟩
   simp only
   rw [tk, c2]; simp
  ·simp only
   rw [tk, c2, hi]; simp
 ·have e : k = y.length := by have : ¬ (k : Int) < y.length := of_decide_eq_false c; omega
  subst e
  rw [List.take_length] at hi
  exact .ret hi
theorem Rj {g : af} (h : cu g) (hg : g.L.length ≤ 100000) {y : List Int} (hl : y.length ≤ 1000000) {q : Int} {n : Nat} (hn : n < g.N.toNat) : T (mX g q (n : Int) y) fun b => b = true ↔ NF g.N.toNat y ∧ Fp g q n y = true := by
 unfold mX
 refine T.join ?_
 refine T.bind (Lr h hg hl) fun b hb => ?_
 refine T.cond (fun c => .ret ⟨fun h => (by cases h), fun h => ?_⟩) fun c => ?_
 ·have h2 := h.2
  unfold Fp at h2
  simp only [Bool.and_eq_true] at h2
  rw [hb.2 ⟨h.1, h2.1.1⟩] at c; cases c
 ·have rQ : b = true := by simpa using c
  obtain ⟨hy, hc⟩ := hb.1 rQ
  have hyl := hy.len
  have fin : ∀ u : Bool, u = (q == 1 || !(y.any fun z => z == 3)) → u = true → T ((aL y (n : Int)).bind fun t5 => some (((t5 : Int) == 1) == ((q : Int) != 3))) fun b => b = true ↔ NF g.N.toNat y ∧ Fp g q n y = true := by
   intro u hu hu2
   rw [Ee (by omega), aj]
   refine .ret ?_
   unfold Fp
   rw [hc, ← hu, hu2]
   simp only [Bool.true_and]
   exact ⟨fun h => ⟨hy, h⟩, fun h => h.2⟩
  refine T.cond (fun c2 => ?_) fun c2 => ?_
  ·have hq : (q == 1) = false := by simpa using c2
   refine T.bind (US (x := 3) hl) fun r hr => ?_
   refine T.cond (fun c3 => .ret ⟨fun h => (by cases h), fun h => ?_⟩) fun c3 => ?_
   ·have := hr.1 (by have := of_decide_eq_true c3; omega)
    have h2 := h.2
    unfold Fp at h2
    rw [hq, this] at h2; simp at h2
   ·have : (y.any fun z => z == 3) = false := by
     cases h3 : y.any fun z => z == 3 with
     | false => rfl
     | true => have := hr.2 h3; have := of_decide_eq_false c3; omega
    exact fin true (by rw [hq, this]; rfl) rfl
  ·have hq : (q == 1) = true := by simpa using c2
   exact fin true (by rw [hq]; rfl) rfl
end Go.Dc
namespace Go.Dc
variable {α β σ ρ S A B R : Type}
def Le (m m' : Option α) : Prop := ∀ r, m = some r → m' = some r
def mh (k : Nat) (f : σ → Option (Sum ρ σ)) (s : σ) : Option ρ := sV f k s
theorem Le.refl (m : Option α) : Le m m := fun _ h => h
theorem Le.bind {m m' : Option α} {f f' : α → Option β} (h : Le m m') (hf : ∀ a, Le (f a) (f' a)) : Le (m.bind f) (m'.bind f') := by
 intro r hr
 cases hm : m with
 | none => rw [hm] at hr; cases hr
 | some a => rw [hm] at hr; rw [h a hm]; exact hf a r hr
theorem Le.cond {b : Bool} {x y x' y' : Option α} (h1 : Le x x') (h2 : Le y y') : Le (bif b then x else y) (bif b then x' else y') := by
 cases b
 ·exact h2
 ·exact h1
theorem Le.join {f f' : S → Option R} {g g' : (S → Option R) → Option R} (h1 : ∀ x, Le (f x) (f' x)) (h2 : ∀ k k' : S → Option R, (∀ x, Le (k x) (k' x)) → Le (g k) (g' k')) :
  Le (dx f g) (dx f' g') := h2 f f' h1
theorem Le.loop {k : Nat} {f f' : σ → Option (Sum ρ σ)} {s : σ} (h : ∀ s, Le (f s) (f' s)) : Le (mh k f s) (aI f' s) := by
 intro r hr
 refine o9.2 ⟨k, ?_⟩
 unfold mh at hr
 induction k generalizing s with
 | zero => simp [sV] at hr
 | succ k ih =>
  simp only [sV] at hr ⊢
  cases hf : f s with
  | none => rw [hf] at hr; cases hr
  | some o =>
   rw [hf] at hr
   rw [h s o hf]
   cases o with
   | inl q => exact hr
   | inr s' => exact ih hr
end Go.Dc
namespace Go.Dc
variable {α β σ ρ S A B C R : Type}
def tV [DecidableEq A] (x y : Option A) : Option A := match x, y with
 | some a, some b => if a = b then some a else none
 | _, _ => none
theorem Le.meet [DecidableEq A] {m1 m2 m1' m2' : Option A} (h1 : Le m1 m1') (h2 : Le m2 m2') : Le (tV m1 m2) (Go.Dc.mg m1' m2') := fun r h => by
 cases m1 with
 | none => simp [tV] at h
 | some a =>
  cases m2 with
  | none => simp [tV] at h
  | some b =>
   unfold tV at h
   simp only at h
   by_cases e : a = b
   ·rw [if_pos e] at h
    subst e; cases h
    rw [h1 _ rfl, h2 _ rfl, uC]
   ·rw [if_neg e] at h; cases h
theorem Le.Oh {k1 k1' : A → Option R} {k2 k2' : B → Option R} (h1 : ∀ a, Le (k1 a) (k1' a)) (h2 : ∀ b, Le (k2 b) (k2' b)) : ∀ a, Le (Go.Dc.eH k1 k2 a) (Go.Dc.eH k1' k2' a)
 | .inl a => h1 a
 | .inr b => h2 b
theorem Le.aI {f f' : σ → Option (Sum ρ σ)} {s : σ} (h : ∀ s, Le (f s) (f' s)) : Le (Go.Dc.aI f s) (Go.Dc.aI f' s) := by
 intro r hr
 obtain ⟨n, hn⟩ := o9.1 hr
 exact Le.loop (k := n) h r hn
end Go.Dc
set_option maxRecDepth 100000
namespace Go.Dc
theorem Ay {aU h_ : (List Int) → (List (List Int)) → (List (ByteArray × Int)) → (List aB) → Int → Bool → Option (Int × (List Int) × (List (ByteArray × Int)) × Int × Bool × (List (List Int)) × (List aB))} (cT : ∀ a0 a1 a2 a3 a4 a5, Le (aU a0 a1 a2 a3 a4 a5) (h_ a0 a1 a2 a3 a4 a5)) {aT : (List Int)} {aP : (List (List Int))} {bh : (List (ByteArray × Int))} {bn : (List aB)} {bB : Int} {cq : Bool} {x_1 : Int} : Le (cB aU aT aP bh bn bB cq x_1) (cB h_ aT aP bh bn bB cq x_1) := by
 unfold cB
 repeat' with_reducible (first | exact Le.refl _ | exact cT _ _ _ _ _ _ | refine Le.bind ?_ (fun _ => ?_) | refine Le.cond ?_ ?_)
theorem zR {aU h_ : (List Int) → (List (List Int)) → (List (ByteArray × Int)) → (List aB) → Int → Bool → Option (Int × (List Int) × (List (ByteArray × Int)) × Int × Bool × (List (List Int)) × (List aB))} (cT : ∀ a0 a1 a2 a3 a4 a5, Le (aU a0 a1 a2 a3 a4 a5) (h_ a0 a1 a2 a3 a4 a5)) {aT : (List Int)} {aP : (List (List Int))} {bh : (List (ByteArray × Int))} {bn : (List aB)} {bB : Int} {cq : Bool} : Le (eA aU aT aP bh bn bB cq) (eA h_ aT aP bh bn bB cq) := by
 unfold eA
 repeat' with_reducible (first | exact Le.refl _ | exact cT _ _ _ _ _ _ | refine Ay cT | refine Le.bind ?_ (fun _ => ?_) | refine Le.cond ?_ ?_ | refine Le.join (fun _ => ?_) (fun _ _ hj => ?_) | exact hj _)
theorem qm : ∀ (n_ : Nat) a0 a1 a2 a3 a4 a5, Le (cV n_ a0 a1 a2 a3 a4 a5) (cV (n_ + 1) a0 a1 a2 a3 a4 a5)
 | 0, _, _, _, _, _, _ => fun _ h => by cases h
 | n_ + 1, _, _, _, _, _, _ => zR (qm n_)
theorem BQ {n_ : Nat} {aT : (List Int)} {aP : (List (List Int))} {bh : (List (ByteArray × Int))} {bn : (List aB)} {bB : Int} {cq : Bool} {r} (h : cV n_ aT aP bh bn bB cq = some r) : pS aT aP bh bn bB cq = some r :=
 (RU (m := fun n (a : (List Int) × (List (List Int)) × (List (ByteArray × Int)) × (List aB) × Int × Bool) => cV n a.1 a.2.1 a.2.2.1 a.2.2.2.1 a.2.2.2.2.1 a.2.2.2.2.2) (fun n a r h => qm n _ _ _ _ _ _ r h)).2 ⟨n_, h⟩
end Go.Dc
namespace Go.Dc
section
variable {α β : Type} [DecidableEq α]
theorem TW {d : List (α × β)} {x : α} {z : β} (h : sU d x = true) : (x, cF d x z) ∈ d := by
 unfold sU at h
 unfold cF
 cases e : nT d x with
 | none => rw [e] at h; cases h
 | some i =>
  have e' := e
  unfold nT at e'
  rw [List.findIdx?_eq_some_iff_getElem] at e'
  obtain ⟨hlt, hp, _⟩ := e'
  simp only [List.getElem?_eq_getElem hlt, Option.map_some, Option.getD_some]
  have : d[i].1 = x := by simpa using hp
  rw [← this]
  exact List.getElem_mem hlt
theorem TV {d : List (α × β)} {x : α} {y : β} {p : α × β} (h : p ∈ iq d x y) : p ∈ d ∨ p = (x, y) := by
 unfold iq at h
 split at h
 ·exact List.mem_or_eq_of_mem_set h
 ·simpa using h
end
theorem Lb {i : Nat} (h1 : ¬ i < 100) (h2 : i < 1000) : Lib.decDigits i = [UInt8.ofNat (48 + i / 10 / 10), UInt8.ofNat (48 + i / 10 % 10), UInt8.ofNat (48 + i % 10)] := by
 rw [Lib.decDigits, dif_neg (by omega), Lib.decDigits_two (by omega) (by omega)]
 rfl
def digS (u : Nat) : List UInt8 := if u < 10 then [UInt8.ofNat (48 + u)] else if u < 100 then [UInt8.ofNat (48 + u / 10), UInt8.ofNat (48 + u % 10)] else [UInt8.ofNat (48 + u / 10 / 10), UInt8.ofNat (48 + u / 10 % 10), UInt8.ofNat (48 + u % 10)]
theorem Wb {u : Nat} (h : u < 1000) : Lib.decDigits u = digS u := by
 unfold digS
 by_cases h1 : u < 10
 ·rw [if_pos h1, Lib.decDigits_one h1]
 ·by_cases h2 : u < 100
  ·rw [if_neg h1, if_pos h2, Lib.decDigits_two h1 h2]
  ·rw [if_neg h1, if_neg h2, Lb h2 h]
def itoS (s : Bool) (u : Nat) : List UInt8 := if s then 45 :: digS u else digS u
theorem aas {x : Int} (h : x.natAbs < 1000) : Lib.itoa x = itoS (decide (x < 0)) x.natAbs := by
 unfold Lib.itoa itoS
 by_cases hx : x < 0
 ·rw [if_pos hx, decide_eq_true hx, if_pos rfl, Wb h]
 ·rw [if_neg hx, decide_eq_false hx, show x.toNat = x.natAbs by omega, Wb h]; rfl
def rdS (l : List UInt8) : Bool × Nat := match l with
 | 45 :: r => (true, r.foldl (fun a d => a * 10 + (d.toNat - 48)) 0)
 | r => (false, r.foldl (fun a d => a * 10 + (d.toNat - 48)) 0)
theorem Zl : ∀ u : Nat, u < 201 → ∀ s : Bool, rdS (itoS s u) = (s, u) ∧ (itoS s u).all (fun d => d != 32) = true := by decide +kernel
theorem Va : ∀ {a b r s : List UInt8}, a.all (fun d => d != 32) = true → b.all (fun d => d != 32) = true → a ++ 32 :: r = b ++ 32 :: s → a = b ∧ r = s
 | [], [], r, s, _, _, h => ⟨rfl, by simpa using h⟩
 | [], y :: b, r, s, _, hb, h => by
  simp only [List.nil_append, List.cons_append, List.cons.injEq] at h
  rw [← h.1] at hb; simp at hb
 | x :: a, [], r, s, ha, _, h => by
  simp only [List.nil_append, List.cons_append, List.cons.injEq] at h
  rw [h.1] at ha; simp at ha
 | x :: a, y :: b, r, s, ha, hb, h => by
  simp only [List.cons_append, List.cons.injEq] at h
  simp only [List.all_cons, Bool.and_eq_true] at ha hb
  obtain ⟨h1, h2⟩ := Va ha.2 hb.2 h.2
  exact ⟨by rw [h.1, h1], h2⟩
theorem keyBytes_inj : ∀ {a b : List Int}, (∀ x ∈ a, x.natAbs ≤ 200) → (∀ x ∈ b, x.natAbs ≤ 200) → keyBytes a = keyBytes b → a = b
 | [], [], _, _, _ => rfl
 | [], y :: b, _, _, h => by simp [keyBytes] at h
 | x :: a, [], _, _, h => by simp [keyBytes] at h
 | x :: a, y :: b, ha, hb, h => by
  have hx := ha x (by simp)
  have hy := hb y (by simp)
  have e : ∀ (z : Int) (l : List Int), keyBytes (z :: l) = Lib.itoa z ++ 32 :: keyBytes l := fun z l => by simp [keyBytes]
  rw [e, e, aas (by omega), aas (by omega)] at h
  have h1 := Zl x.natAbs (by omega) (decide (x < 0))
  have h2 := Zl y.natAbs (by omega) (decide (y < 0))
  obtain ⟨h3, h4⟩ := Va h1.2 h2.2 h
  have h5 := h1.1
  rw [h3, h2.1] at h5
  simp only [Prod.mk.injEq, decide_eq_decide] at h5
  have hxy : x = y := by omega
  rw [hxy, keyBytes_inj (fun z hz => ha z (by simp [hz])) (fun z hz => hb z (by simp [hz])) h4]
theorem JM {c : List Int} (hl : c.length ≤ 50) (h : ∀ x ∈ c, x.natAbs ≤ 200) : K3 c = some ⟨(keyBytes c).toArray⟩ := by
 unfold K3
 rw [if_pos ⟨by omega, List.all_eq_true.2 fun x hx => by have := h x hx; simp [MV]; omega⟩]
theorem aam {a b : List Int} {t : ByteArray} (la : a.length ≤ 50) (lb : b.length ≤ 50) (ha : ∀ x ∈ a, x.natAbs ≤ 200) (hb : ∀ x ∈ b, x.natAbs ≤ 200) (h1 : K3 a = some t) (h2 : K3 b = some t) : a = b := by
 rw [JM la ha] at h1
 rw [JM lb hb] at h2
 rw [← h2] at h1
 simp only [Option.some.injEq, ByteArray.mk.injEq] at h1
 exact keyBytes_inj ha hb (by simpa using congrArg Array.toList h1)
end Go.Dc
