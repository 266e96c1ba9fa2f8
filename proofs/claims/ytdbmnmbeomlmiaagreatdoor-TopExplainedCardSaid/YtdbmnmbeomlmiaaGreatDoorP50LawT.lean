/- Part P50.LawT of a proof: lemmas. -/
import Derived.Test.YtdbmnmbeomlmiaaGreatDoorP50Ind
import Derived.Test.YtdbmnmbeomlmiaaGreatDoorP50SortC
import Derived.Test.YtdbmnmbeomlmiaaGreatDoorLAWTXF
import Derived.KernelRfl
import Derived.Test.YtdbmnmbeomlmiaaGreatDoorDcCptP
set_option linter.unusedVariables false
set_option linter.unusedSimpArgs false
set_option linter.unusedSectionVars false
namespace Go.Dc
open Go.Proofs Go.Sort
variable {g : T_api_Graph}

theorem IndexD_plain {l : List Int} {x : Int} (hl : l.length ≤ 1000) : T (slices_IndexFunc_int_int_m l x) fun r => (r = -1 ∧ x ∉ l) ∨ ∃ (k : Nat) (hk : k < l.length), r = (k : Int) ∧ l[k] = x ∧ x ∉ l.take k := by
 unfold slices_IndexFunc_int_int_m
 refine T.bind (P := fun r => match r with | .inl r => ∃ (k : Nat) (hk : k < l.length), r = (k : Int) ∧ l[k] = x ∧ x ∉ l.take k | .inr _ => x ∉ l) (T.loopK l.length (fun k s => s = (k : Int) ∧ x ∉ l.take k) ⟨rfl, by simp⟩ fun k s hs => ?_) fun r hr => ?_
 ·obtain ⟨rfl, hn⟩ := hs
  unfold slices_IndexFunc_int_int_l1 explain_Removals_1_m
  refine T.cond (fun h => ?_) fun h => .ret ?_
  ·simp only [decide_eq_true_eq] at h
   have hk : k < l.length := by omega
   rw [idxM_nat hk, iadd1 (by omega)]
   simp only [Option.bind_some]
   refine T.cond (fun h2 => .ret ⟨k, hk, rfl, eq_of_beq h2, hn⟩) fun h2 => .ret ⟨hk, rfl, ?_⟩
   rw [← List.take_append_getElem hk, List.mem_append, List.mem_singleton]
   rintro (h3 | h3)
   ·exact hn h3
   ·subst h3; simp at h2
  ·simp only [decide_eq_false_iff_not] at h
   rw [List.take_of_length_le (by omega)] at hn
   exact hn
 ·match r, hr with
  | .inl r, hr => exact .ret (.inr hr)
  | .inr u, hr => exact .ret (.inl ⟨rfl, hr⟩)
theorem take_set_succ {l : List Int} {i : Nat} {x : Int} (hi : i < l.length) : (l.set i x).take (i + 1) = l.take i ++ [x] := by
 rw [List.take_add_one, List.getElem?_set_self hi, List.take_set_of_le (Nat.le_refl i)]; rfl
theorem Delete_plain {l : List Int} {x : Int} (hl : l.length ≤ 1000) : slices_DeleteFunc_int_int_m l x = some (l.filter fun y => !(y == x)) := by
 refine T.eq ?_
 unfold slices_DeleteFunc_int_int_m
 refine T.bind (IndexD_plain hl) fun r hr => ?_
 rcases hr with ⟨rfl, hx⟩ | ⟨k, hk, rfl, hkx, hx⟩
 ·rw [show ((-1 : Int) == -1) = true from rfl, cond_true]
  refine .ret (List.filter_eq_self.2 fun y hy => ?_).symm
  have : y ≠ x := fun e => hx (e ▸ hy)
  simp [this]
 ·have hno : ∀ y ∈ l.take k, (!(y == x)) = true := fun y hy => by
   have : y ≠ x := fun e => hx (e ▸ hy)
   simp [this]
  rw [show ((k : Int) == -1) = false from beq_false_of_ne (by omega), cond_false]
  refine T.bind (P := fun q : Int × List Int => ∃ i : Nat, q.1 = (i : Int) ∧ i < l.length ∧ q.2.length = l.length ∧ q.2.take i = l.filter fun y => !(y == x)) ?_ ?_
  ·refine T.loopK l.length (fun m s => m ≤ l.length ∧ ∃ i j : Nat, s.1 = (i : Int) ∧ s.2.1 = (j : Int) ∧ j ≤ l.length ∧ j = k + 1 + m ∧ i < j ∧ s.2.2.length = l.length ∧ s.2.2.take i = (l.take j).filter (fun y => !(y == x)) ∧ ∀ p, j ≤ p → s.2.2.getD p 0 = l.getD p 0)
    ⟨by omega, k, k + 1, rfl, iadd1 (by omega), by omega, rfl, by omega, rfl, ?_, fun p _ => rfl⟩ ?_
   ·rw [← List.take_append_getElem hk, List.filter_append, List.filter_eq_self.2 hno, hkx]
    simp
   ·rintro m ⟨_, _, s⟩ ⟨hm, i, j, rfl, rfl, hj, hjm, hij, hs, ht, hd⟩
    dsimp only at hs ht hd
    dsimp only [slices_DeleteFunc_int_int_l1]
    unfold explain_Removals_1_m
    refine T.cond (fun c => ?_) fun c => ?_
    ·have hj2 : j < l.length := by have := of_decide_eq_true c; omega
     have e1 : s.getD j 0 = l[j] := by rw [hd j (Nat.le_refl _)]; simp [List.getD, hj2]
     have tk : l.take (j + 1) = l.take j ++ [l[j]] := by rw [List.take_add_one, List.getElem?_eq_getElem hj2]; rfl
     rw [idxM_getD (z := 0) (by omega), some_bind, some_bind, e1, iadd1 (by omega), iadd1 (by omega)]
     refine T.cond (fun c2 => ?_) fun c2 => ?_
     ·rw [idxM_getD (z := 0) (by omega), some_bind, Int.toNat_natCast]
      refine .ret ⟨by omega, by omega, i + 1, j + 1, rfl, rfl, by omega, by omega, by omega, by simpa using hs, ?_, fun p hp => ?_⟩
      ·rw [take_set_succ (by omega), tk, List.filter_append, ht]
       congr 1
       rw [List.filter_cons, if_pos c2]; rfl
      ·rw [getD_set (by omega), if_neg (by omega)]; exact hd p (by omega)
     ·refine .ret ⟨by omega, by omega, i, j + 1, rfl, rfl, by omega, by omega, by omega, hs, ?_, fun p hp => hd p (by omega)⟩
      rw [tk, List.filter_append, ht, List.filter_cons, if_neg (by simpa using c2)]; simp
    ·have hj2 : j = l.length := by have : ¬ (j : Int) < s.length := of_decide_eq_false c; omega
     subst hj2
     rw [List.take_length] at ht
     exact .ret ⟨i, rfl, hij, hs, ht⟩
  ·rintro ⟨_, s⟩ ⟨i, rfl, hi, hs, ht⟩
   dsimp only at hs ht ⊢
   rw [slM_eq (by omega) (by omega) (by omega), some_bind, slM_eq (by omega) (by omega) (by simp; omega), some_bind]
   refine .ret ?_
   simp only [Int.toNat_natCast, Int.toNat_zero, List.drop_zero]
   rw [← ht, List.append_assoc, List.take_append_of_le_length (by simp; omega), List.take_take, Nat.min_self]

theorem and1b {a : Nat} : iand .i64 (a : Int) 1 = ((a % 2 : Nat) : Int) := by
 unfold iand
 have h1 : (BitVec.ofInt 64 (a : Int) &&& BitVec.ofInt 64 1).toNat = a % 2 := by
  simp only [BitVec.toNat_and, BitVec.ofInt_natCast, BitVec.toNat_ofNat]
  rw [show (BitVec.ofInt 64 1).toNat = 1 from rfl, Nat.and_one_is_mod, Nat.mod_mod_of_dvd _ (by decide)]
 rw [show IntKind.bits .i64 = 64 from rfl, h1]
 exact wrap64 (by omega) (by omega)
theorem shr1 {m i : Nat} (hi : i ≤ 60) : ishr .i64 (m : Int) (i : Int) = ((m / 2 ^ i : Nat) : Int) := by
 rw [ishr_eq (by omega) (by omega)]
 rw [Int.toNat_natCast]; norm_cast
theorem shl1 {i : Nat} (hi : i ≤ 60) : ishl .i64 1 (i : Int) = ((2 ^ i : Nat) : Int) := by
 rw [ishl_eq (by omega), Int.toNat_natCast, Int.one_mul]
 have h : 2 ^ i ≤ 2 ^ 60 := Nat.pow_le_pow_right (by decide) hi
 have h2 : ((2 : Int) ^ i) = ((2 ^ i : Nat) : Int) := by norm_cast
 rw [h2]
 have h3 : (0 : Int) ≤ ((2 ^ i : Nat) : Int) := Int.natCast_nonneg _
 have h4 : ((2 ^ i : Nat) : Int) ≤ ((2 ^ 60 : Nat) : Int) := by exact_mod_cast h
 exact wrap64 (Int.le_trans (by decide) h3) (Int.le_trans h4 (by decide))

def subM (L : List Nat) (m k : Nat) : List Nat := (ndsP k m.testBit).map fun i => L.getD i 0
theorem subM_len {L : List Nat} {m k : Nat} : (subM L m k).length ≤ k := by unfold subM; rw [List.length_map]; exact nds_len
theorem mem_subM {L : List Nat} {m k x : Nat} : x ∈ subM L m k ↔ ∃ i, i < k ∧ m.testBit i = true ∧ L.getD i 0 = x := by
 unfold subM
 rw [List.mem_map]
 exact ⟨fun ⟨i, h1, h2⟩ => ⟨i, (mem_nds.1 h1).1, (mem_nds.1 h1).2, h2⟩, fun ⟨i, h1, h2, h3⟩ => ⟨i, mem_nds.2 ⟨h1, h2⟩, h3⟩⟩
theorem getD_inj {L : List Nat} (hN : L.Nodup) {i j : Nat} (hi : i < L.length) (hj : j < L.length) (h : L.getD i 0 = L.getD j 0) : i = j := by
 have e1 : L.getD i 0 = L[i] := by simp [List.getD, hi]
 have e2 : L.getD j 0 = L[j] := by simp [List.getD, hj]
 rw [e1, e2] at h
 exact (List.getElem_inj hN).1 h
theorem subM_bit {L : List Nat} (hN : L.Nodup) {m i : Nat} (hi : i < L.length) : L.getD i 0 ∈ subM L m L.length ↔ m.testBit i = true := by
 rw [mem_subM]
 exact ⟨fun ⟨j, h1, h2, h3⟩ => by rw [getD_inj hN h1 hi h3] at h2; exact h2, fun h => ⟨i, hi, h, rfl⟩⟩
theorem subM_inj {L : List Nat} (hN : L.Nodup) {m m' : Nat} (hm : m < 2 ^ L.length) (hm' : m' < 2 ^ L.length) (h : subM L m L.length = subM L m' L.length) : m = m' := by
 refine Nat.eq_of_testBit_eq fun i => ?_
 by_cases hi : i < L.length
 ·rw [Bool.eq_iff_iff, ← subM_bit hN hi, ← subM_bit hN hi, h]
 ·have h1 : 2 ^ L.length ≤ 2 ^ i := Nat.pow_le_pow_right (by decide) (by omega)
  rw [Nat.testBit_lt_two_pow (by omega), Nat.testBit_lt_two_pow (by omega)]
theorem il_inj {a b : List Nat} (h : il a = il b) : a = b := by
 unfold il at h
 exact (List.map_inj_right (f := fun n : Nat => (n : Int)) (fun x y (e : (x : Int) = (y : Int)) => by omega)).1 h

section
variable {L : List Nat} (hL : L.length ≤ 10) (hN : L.Nodup) {B : Nat → Bool} {a0 : Int} {a1 a2 : List Int} {b0 c0 : Int} {d0 : Bool}
 (hB : ∀ m, m < 2 ^ L.length → explain_Removals_2_s1_m (il (subM L m L.length)) a0 a1 a2 b0 c0 d0 = some (B m))
structure LstI (L : List Nat) (B : Nat → Bool) (m : Nat) (out : List (List Int)) : Prop where
 len : out.length ≤ m
 nd : out.Nodup
 el : ∀ x ∈ out, ∃ j, j < m ∧ x = il (subM L j L.length) ∧ B j = true
 no : out = [] → ∀ j, j < m → B j = false
include hL in
theorem sub_loop {m : Nat} {out : List (List Int)} : loopC (explain_all_l1 (il L) ((m : Int), out)) (0, []) = some (il (subM L m L.length)) := by
 refine T.eq (T.loopK L.length (fun k s => k ≤ L.length ∧ s = ((k : Int), il (subM L m k))) ⟨by omega, rfl⟩ ?_)
 rintro k _ ⟨hk, rfl⟩
 dsimp only [explain_all_l1]
 rw [il_len]
 refine T.cond (fun c => ?_) fun c => ?_
 ·have hk2 : k < L.length := by simpa using c
  have hs := subM_len (L := L) (m := m) (k := k)
  unfold ishrM
  rw [il_idx hk2, some_bind, if_neg (by omega), some_bind, shr1 (by omega), and1b, iadd1 (by omega)]
  have hb : (((m / 2 ^ k % 2 : Nat) : Int) == 1) = m.testBit k := by
   rw [Nat.testBit_eq_decide_div_mod_eq, Bool.eq_iff_iff, beq_iff_eq, decide_eq_true_iff]; omega
  rw [hb]
  refine T.cond (fun c2 => ?_) fun c2 => ?_
  ·rw [appM_eq (by simp; omega), some_bind]
   refine .ret ⟨hk2, hk2, ?_⟩
   unfold subM
   rw [ndsP_succ, c2, if_pos rfl]; simp [il]
  ·refine .ret ⟨hk2, hk2, ?_⟩
   unfold subM
   rw [ndsP_succ, c2]; simp
 ·have e : k = L.length := by have : ¬ (k : Int) < L.length := of_decide_eq_false c; omega
  subst e; exact .ret rfl
include hL hN hB in
theorem step_plain {m : Nat} (hm : m < 2 ^ L.length) {out : List (List Int)} (hI : LstI L B m out) : T (explain_least_1_s1_m (il (subM L m L.length)) out a0 a1 a2 b0 c0 d0) (LstI L B (m + 1)) := by
  have h2 : 2 ^ L.length ≤ 2 ^ 10 := Nat.pow_le_pow_right (by decide) hL
  have hl := hI.len
  have hfresh : il (subM L m L.length) ∉ out := fun hmem => by
    obtain ⟨j, hj, e, _⟩ := hI.el _ hmem
    have := subM_inj hN hm (by omega) (il_inj e); omega
  have keep : B m = false ∨ out ≠ [] → LstI L B (m + 1) out := fun hk => ⟨by omega, hI.nd, fun x hx => by obtain ⟨j, h1, h2⟩ := hI.el x hx; exact ⟨j, by omega, h2⟩, fun e j hj => by
    rcases hk with hk | hk
    · by_cases e2 : j = m
      · rw [e2]; exact hk
      · exact hI.no e j (by omega)
    · exact absurd e hk⟩
  have one : B m = true → LstI L B (m + 1) [il (subM L m L.length)] := fun hb => ⟨by simp, by simp, fun x hx => ⟨m, by omega, List.mem_singleton.1 hx, hb⟩, fun e => by simp at e⟩
  have more : B m = true → LstI L B (m + 1) (out ++ [il (subM L m L.length)]) := fun hb => ⟨by simp; omega, by
      refine List.nodup_append.2 ⟨hI.nd, by simp, fun a ha b hb => ?_⟩
      rw [List.mem_singleton.1 hb]; exact fun e => hfresh (e ▸ ha), fun x hx => by
      rcases List.mem_append.1 hx with hx | hx
      · obtain ⟨j, h1, h2⟩ := hI.el x hx; exact ⟨j, by omega, h2⟩
      · exact ⟨m, by omega, List.mem_singleton.1 hx, hb⟩, fun e => by simp at e⟩
  have pos : decide ((out.length : Int) > 0) = true → out ≠ [] := fun h e => by rw [e] at h; simp at h
  have k4 : B m = true → T ((fun j5 : Unit =>
      bif decide (((out.length : Int)) > 0) then
      Option.bind (idxM out 0) fun t6 =>
      bif decide ((((il (subM L m L.length)).length : Int)) < ((t6.length : Int))) then
      Option.bind (appM 24 [] [il (subM L m L.length)]) fun t7 =>
      some t7
      else
      Option.bind (appM 24 out [il (subM L m L.length)]) fun t8 =>
      some t8
      else
      Option.bind (appM 24 out [il (subM L m L.length)]) fun t9 =>
      some t9) ()) (LstI L B (m + 1)) := fun hb => by
    dsimp only
    refine T.cond (fun c => ?_) fun c => ?_
    · have hp : 0 < out.length := by simpa using c
      rw [show (0 : Int) = ((0 : Nat) : Int) from rfl, idxM_nat hp, some_bind]
      refine T.cond (fun c2 => ?_) fun c2 => ?_
      · rw [appM_eq (by simp), some_bind]; exact .ret (one hb)
      · rw [appM_eq (by simp; omega), some_bind]; exact .ret (more hb)
    · rw [appM_eq (by simp; omega), some_bind]; exact .ret (more hb)
  unfold explain_least_1_s1_m
  refine T.join ?_
  refine T.cond (fun c => ?_) fun c => ?_
  · have hp : 0 < out.length := by simpa using c
    refine T.bind (P := fun _ => True) ⟨_, idxM_nat (n := 0) hp, trivial⟩ fun t10 _ => ?_
    refine T.cond (fun c2 => .ret (keep (.inr (pos c)))) fun c2 => ?_
    rw [hB m hm, some_bind]
    refine T.cond (fun c3 => .ret (keep (.inr (pos c)))) fun c3 => k4 (by simpa using c3)
  · rw [hB m hm, some_bind]
    refine T.cond (fun c3 => .ret (keep (.inl (by simpa using c3)))) fun c3 => k4 (by simpa using c3)
include hL hN hB in
theorem least_plain : T (explain_least_m (il L) a0 a1 a2 b0 c0 d0) fun r => r.length ≤ 1024 ∧ (∀ x ∈ r, ∃ j, j < 2 ^ L.length ∧ x = il (subM L j L.length) ∧ B j = true) ∧ (r = [] → ∀ j, j < 2 ^ L.length → B j = false) := by
  have h2 : 2 ^ L.length ≤ 2 ^ 10 := Nat.pow_le_pow_right (by decide) hL
  unfold explain_least_m explain_all_m ishlM
  refine T.bind (P := LstI L B (2 ^ L.length)) ?_ fun t ht => ?_
  · rw [if_neg (by omega), some_bind, il_len, shl1 (by omega)]
    refine T.bind (P := LstI L B (2 ^ L.length)) ?_ fun q hq => .ret hq
    refine T.loopK (2 ^ L.length) (fun k s => k ≤ 2 ^ L.length ∧ s.1 = (k : Int) ∧ LstI L B k s.2) ⟨Nat.zero_le _, rfl, by simp, by simp, by simp, fun _ j hj => by omega⟩ ?_
    rintro k ⟨_, out⟩ ⟨hk, rfl, hI⟩
    dsimp only at hI
    dsimp only [explain_all_l2]
    refine T.cond (fun c => ?_) fun c => ?_
    · have hk2 : k < 2 ^ L.length := by have := of_decide_eq_true c; omega
      rw [sub_loop hL, some_bind]
      refine T.bind (step_plain hL hN hB hk2 hI) fun t ht => ?_
      rw [iadd1 (by omega)]
      exact .ret ⟨hk2, hk2, rfl, ht⟩
    · have e : k = 2 ^ L.length := by have := of_decide_eq_false c; omega
      subst e; exact .ret hI
  · obtain ⟨r, h3, h4⟩ := sortN_L (l := t) (by have := ht.len; omega) (fun x hx => by
      obtain ⟨j, _, rfl, _⟩ := ht.el x hx
      have := subM_len (L := L) (m := j) (k := L.length); simp; omega) ht.nd
    rw [h3, some_bind]
    refine .ret ⟨by rw [h4.length_eq]; have := ht.len; omega, fun x hx => ht.el x (h4.subset hx), fun e => ht.no ?_⟩
    rw [e] at h4; exact List.nil_perm.1 h4
end
end Go.Dc

set_option maxRecDepth 100000
namespace Go.Dc
theorem awake : top_awake25_m = some true := top_awake25_f_le (k_ := 1000) true (by kernel_rfl)
end Go.Dc

namespace Go.Dc
open Go.Proofs Go.Sort
variable {g : T_api_Graph}

theorem nds_cut {p : Nat → Bool} {N : Nat} (hp : ∀ i, p i = true → i < N) : ∀ d, ndsP (N + d) p = ndsP N p
 | 0 => rfl
 | d + 1 => by
  rw [show N + (d + 1) = (N + d) + 1 from rfl, ndsP_succ, nds_cut hp d]
  have : p (N + d) = false := by
   cases h : p (N + d) with
   | false => rfl
   | true => have := hp _ h; omega
  rw [this]; simp
theorem bits_len {s N : Nat} (hN : N ≤ 64) (h : ∀ i, s.testBit i = true → i < N) : (bitsL s).length ≤ N := by
 have e : bitsL s = ndsP (N + (64 - N)) s.testBit := by rw [show N + (64 - N) = 64 by omega]; rfl
 rw [e, nds_cut h]; exact nds_len

def Out (g : T_api_Graph) (x : List Int) (k : Nat) : Prop := k < g.N.toNat ∧ ¬ (k : Int) ∈ x
theorem Removals_plain (h : GVal g) (hg : g.L.length ≤ 100000) (h6 : g.N ≤ 6) {q : Int} (hq1 : 1 ≤ q) (hq4 : q ≤ 4) {i : Nat} (hi : i < g.N.toNat) :
    T (explain_Removals_m g q (i : Int)) fun r => r.2.length ≤ 1024 ∧
      ((r.1 = 0 ∧ ∀ x ∈ r.2, x.length ≤ 10 ∧ ¬ (i : Int) ∈ x ∧ ¬ (TruS g (Out g x) q i ↔ TruS g (· < g.N.toNat) q i)) ∨
       (r = (9, []) ∧ ∀ k : Nat, k < g.N.toNat → k ≠ i → (TruS g (Out g [(k : Int)]) q i ↔ TruS g (· < g.N.toNat) q i))) := by
  classical
  have h0 := h.n0
  unfold explain_Removals_m network_Question_m
  rw [gValidate_plain h (by omega), some_bind, show ((0 : Int) != 0) = false from rfl, cond_false, show decide (q ≥ 1) = true from decide_eq_true hq1, cond_true, some_bind, show decide (q ≤ 4) = true from decide_eq_true hq4]
  rw [show (!true) = false from rfl, cond_false]
  refine T.join ?_
  rw [show decide ((i : Int) < 0) = false from decide_eq_false (by omega), cond_false, show decide ((i : Int) ≥ g.N) = false from decide_eq_false (by omega)]
  dsimp only
  rw [cond_false, show decide (g.N > 10) = false from decide_eq_false (by omega), cond_false]
  refine T.bind (New_net h hg) ?_
  rintro _ ⟨n, rfl, hn⟩
  have hall := hn.ok.allLt
  rw [Answer_tru hn hq1 hq4 (by omega), some_bind, show n.t.All = (n.all : Int) from rfl, show n.t.By = il n.by_ from rfl, show n.t.Out = il n.out from rfl, List_plain hall, some_bind]
  have hbl : (bitsL n.all).length ≤ g.N.toNat := bits_len (by omega) fun j hj => (hn.all j).1 hj
  rw [Delete_plain (by simp; omega), some_bind]
  have hLe : ((il (bitsL n.all)).filter fun y => !(y == (i : Int))) = il ((bitsL n.all).filter fun y => !(y == i)) := by
    unfold il
    rw [List.filter_map]
    congr 1
    refine List.filter_congr fun y _ => ?_
    simp only [Function.comp]
    congr 1
    rw [Bool.eq_iff_iff, beq_iff_eq, beq_iff_eq]; omega
  rw [hLe]
  generalize hLd : ((bitsL n.all).filter fun y => !(y == i)) = L
  have hmem : ∀ k, k ∈ L ↔ k < g.N.toNat ∧ k ≠ i := fun k => by
    rw [← hLd, List.mem_filter, mem_bitsL hall, hn.all]; simp
  have hL : L.length ≤ 10 := by rw [← hLd]; have := List.length_filter_le (fun y => !(y == i)) (bitsL n.all); omega
  have hN : L.Nodup := by
    rw [← hLd]
    unfold bitsL
    exact List.Pairwise.filter _ (List.Pairwise.filter _ List.nodup_range)
  have hsub : ∀ j k, k ∈ subM L j L.length → k ∈ L := fun j k hk => by
    obtain ⟨a, ha, _, rfl⟩ := mem_subM.1 hk
    have : L.getD a 0 = L[a] := by simp [List.getD, ha]
    rw [this]; exact List.getElem_mem ha
  have hB : ∀ m, m < 2 ^ L.length → explain_Removals_2_s1_m (il (subM L m L.length)) (n.all : Int) (il n.by_) (il n.out) q (i : Int) (decide (TruS g (· < g.N.toNat) q i)) = some (!(decide (TruS g (Out g (il (subM L m L.length))) q i) == decide (TruS g (· < g.N.toNat) q i))) := fun m hm => by
    have hlt : ∀ x ∈ subM L m L.length, x < 64 := fun x hx => by have := (hmem x).1 (hsub m x hx); omega
    have hsl := subM_len (L := L) (m := m) (k := L.length)
    refine T.eq ?_
    unfold explain_Removals_2_s1_m
    rw [Of_plain hlt (by omega), some_bind, iandn_u, show T_network_Net.mk (n.all : Int) (il n.by_) (il n.out) = n.t from rfl]
    refine T.bind (Within_net hn andn_lt) ?_
    rintro _ ⟨n', rfl, hn'⟩
    rw [Answer_tru hn' hq1 hq4 (by omega), some_bind]
    refine .ret ?_
    have : (fun k => k < g.N.toNat ∧ (andn n.all (setOf (subM L m L.length))).testBit k = true) = Out g (il (subM L m L.length)) := funext fun k => propext (by
      unfold Out
      rw [andn_bit hall, Bool.and_eq_true, hn.all, Bool.not_eq_true', ← Bool.not_eq_true, setOf_bit, il_mem]
      constructor
      · rintro ⟨a, b, c⟩; exact ⟨a, fun ⟨y, hy, e⟩ => c (by rw [show k = y by omega]; exact hy)⟩
      · rintro ⟨a, c⟩; exact ⟨a, a, fun hy => c ⟨k, hy, rfl⟩⟩)
    rw [this]
  refine T.bind (least_plain (B := fun m => !(decide (TruS g (Out g (il (subM L m L.length))) q i) == decide (TruS g (· < g.N.toNat) q i))) hL hN hB) fun r ⟨r1, r2, r3⟩ => ?_
  refine T.cond (fun c => .ret ⟨by simp, .inr ⟨rfl, fun k hk hki => ?_⟩⟩) fun c => .ret ⟨r1, .inl ⟨rfl, fun x hx => ?_⟩⟩
  · have hr : r = [] := List.eq_nil_of_length_eq_zero (by have := eq_of_beq c; omega)
    obtain ⟨a, ha, e⟩ := List.getElem_of_mem ((hmem k).2 ⟨hk, hki⟩)
    have hb := r3 hr (2 ^ a) (Nat.pow_lt_pow_right (by decide) ha)
    have eq : Out g (il (subM L (2 ^ a) L.length)) = Out g [(k : Int)] := funext fun j => propext (by
      unfold Out
      rw [il_mem, List.mem_singleton]
      have hin : ∀ y, y ∈ subM L (2 ^ a) L.length ↔ y = k := fun y => by
        rw [mem_subM]
        constructor
        · rintro ⟨b, hb1, hb2, rfl⟩
          rw [Nat.testBit_two_pow] at hb2
          have : a = b := by simpa using hb2
          subst this
          simp [List.getD, ha, e]
        · rintro rfl
          exact ⟨a, ha, by rw [Nat.testBit_two_pow]; simp, by simp [List.getD, ha, e]⟩
      constructor
      · rintro ⟨u, v⟩; exact ⟨u, fun hh => v ⟨k, (hin k).2 rfl, hh⟩⟩
      · rintro ⟨u, v⟩; exact ⟨u, fun ⟨y, hy, hh⟩ => v (by rw [hh, (hin y).1 hy])⟩)
    rw [eq] at hb
    simp only [Bool.not_eq_false', beq_iff_eq, decide_eq_decide] at hb
    exact hb
  · obtain ⟨j, hj, rfl, hb⟩ := r2 x hx
    have hsl := subM_len (L := L) (m := j) (k := L.length)
    refine ⟨by simp; omega, fun hh => ?_, fun hh => ?_⟩
    · obtain ⟨y, hy, e⟩ := il_mem.1 hh
      exact ((hmem y).1 (hsub j y hy)).2 (by omega)
    · simp only [Bool.not_eq_true', beq_eq_false_iff_ne, ne_eq, decide_eq_decide] at hb
      exact hb hh

theorem In_plain {l : List Int} {x : Int} (hl : l.length ≤ 1000000) : keep_In_m l x = some (decide (x ∈ l)) := by
 unfold keep_In_m
 refine T.eq (T.bind (P := fun r => match r with | .inl b => b = decide (x ∈ l) | .inr _ => x ∉ l) (T.loopK l.length (fun k s => s = (k : Int) ∧ x ∉ l.take k) ⟨rfl, by simp⟩ fun k s hs => ?_) fun r hr => ?_)
 ·obtain ⟨rfl, hn⟩ := hs
  unfold keep_In_l1
  refine T.cond (fun h => ?_) fun h => .ret ?_
  ·simp only [decide_eq_true_eq] at h
   have hk : k < l.length := by omega
   rw [idxM_nat hk, iadd1 (by omega)]
   simp only [Option.bind_some]
   refine T.cond (fun h2 => .ret ?_) fun h2 => .ret ⟨hk, rfl, ?_⟩
   ·show true = decide (x ∈ l)
    exact (decide_eq_true (by rw [← eq_of_beq h2]; exact List.getElem_mem hk)).symm
   ·rw [← List.take_append_getElem hk, List.mem_append, List.mem_singleton]
    rintro (h3 | h3)
    ·exact hn h3
    ·subst h3; simp at h2
  ·simp only [decide_eq_false_iff_not] at h
   rw [List.take_of_length_le (by omega)] at hn
   exact hn
 ·match r, hr with
  | .inl b, hr => exact .ret hr
  | .inr u, hr => exact .ret (decide_eq_false hr).symm

theorem rest_loop {t2 : T_api_Graph × T_deliberationkeep_Src} (h : GVal t2.1) {i : Nat} (hi : i < t2.1.N.toNat) {L : List Int} {c : Int} {x : List Int} (hx : x.length ≤ 1000) (hix : ¬ (i : Int) ∈ x) :
  T (loopC (top_TopExplained_l1 t2 ((i : Int), L, c) x) (0, 0, [])) fun r => ∃ a : Nat, r = ((a : Int), il (ndsP t2.1.N.toNat fun k => !decide ((k : Int) ∈ x))) ∧ a < (ndsP t2.1.N.toNat fun k => !decide ((k : Int) ∈ x)).length ∧
   (ndsP t2.1.N.toNat fun k => !decide ((k : Int) ∈ x)).getD a 0 = i := by
 have h40 := h.n1; have h0 := h.n0
 refine T.loopK t2.1.N.toNat (fun k s => k ≤ t2.1.N.toNat ∧ ∃ a : Nat, s = ((a : Int), (k : Int), il (ndsP k fun k => !decide ((k : Int) ∈ x))) ∧ (i < k → a < (ndsP k fun k => !decide ((k : Int) ∈ x)).length ∧
   (ndsP k fun k => !decide ((k : Int) ∈ x)).getD a 0 = i)) ⟨by omega, 0, rfl, fun hh => by omega⟩ ?_
 rintro k _ ⟨hk, a, rfl, ha⟩
 dsimp only [top_TopExplained_l1]
 have hln := nds_len (N := k) (p := fun k => !decide ((k : Int) ∈ x))
 refine T.cond (fun c => ?_) fun c => ?_
 ·have hk2 : k < t2.1.N.toNat := by have := of_decide_eq_true c; omega
  rw [In_plain (by omega), some_bind, iadd1 (by omega)]
  refine T.cond (fun c2 => ?_) fun c2 => ?_
  ·have e : ndsP (k + 1) (fun k => !decide ((k : Int) ∈ x)) = ndsP k fun k => !decide ((k : Int) ∈ x) := by rw [ndsP_succ, c2]; simp
   refine .ret ⟨hk2, hk2, a, by rw [e], fun hik => ?_⟩
   rw [e]
   refine ha ?_
   by_cases e2 : i = k
   ·subst e2; exact absurd (of_decide_eq_true c2) hix
   ·omega
  ·have e : ndsP (k + 1) (fun k => !decide ((k : Int) ∈ x)) = (ndsP k fun k => !decide ((k : Int) ∈ x)) ++ [k] := by rw [ndsP_succ, c2]; simp
   refine T.cond (fun c3 => ?_) fun c3 => ?_
   ·have eki : k = i := by have := eq_of_beq c3; omega
    rw [appM_eq (by simp; omega), some_bind, il_len]
    refine .ret ⟨hk2, hk2, (ndsP k fun k => !decide ((k : Int) ∈ x)).length, by rw [e]; simp [il], fun _ => ?_⟩
    rw [e]; simp [List.getD, eki]
   ·have eki : k ≠ i := fun e => by subst e; simp at c3
    rw [appM_eq (by simp; omega), some_bind]
    refine .ret ⟨hk2, hk2, a, by rw [e]; simp [il], fun hik => ?_⟩
    obtain ⟨a1, a2⟩ := ha (by omega)
    rw [e]
    refine ⟨by simp; omega, ?_⟩
    rw [List.getD_eq_getElem?_getD, List.getElem?_append_left a1, ← List.getD_eq_getElem?_getD]; exact a2
 ·have e : k = t2.1.N.toNat := by have := of_decide_eq_false c; omega
  subst e
  obtain ⟨a1, a2⟩ := ha hi
  exact .ret ⟨a, rfl, a1, a2⟩

theorem part_plain (h : GVal g) (hg : g.L.length ≤ 100000) (h6 : g.N ≤ 6) {q : Int} (hq1 : 1 ≤ q) (hq4 : q ≤ 4) {i a : Nat} {x : List Int}
  (ha : a < (ndsP g.N.toNat fun k => !decide ((k : Int) ∈ x)).length) (hai : (ndsP g.N.toNat fun k => !decide ((k : Int) ∈ x)).getD a 0 = i) :
  T (graph_Induced_m g (il (ndsP g.N.toNat fun k => !decide ((k : Int) ∈ x)))) fun r => T (verdict_Decide_m r q (a : Int)) fun w => w.2 = 0 ∧ (w.1.Holds = true ↔ TruS g (Out g x) q i) ∧ T (verdict_Check_m r q (a : Int) w.1) fun y => y = 0 := by
 have h0 := h.n0
 have hln := nds_len (N := g.N.toNat) (p := fun k => !decide ((k : Int) ∈ x))
 have hp : (fun k : Nat => decide ((k : Int) ∈ il (ndsP g.N.toNat fun k => !decide ((k : Int) ∈ x)))) = fun k : Nat => decide (k < g.N.toNat) && !decide ((k : Int) ∈ x) := funext fun k => by
  rw [Bool.eq_iff_iff, decide_eq_true_iff, il_mem, Bool.and_eq_true, decide_eq_true_iff]
  constructor
  ·rintro ⟨y, hy, e⟩
   rw [show k = y by omega]; exact mem_nds.1 hy
  ·intro hk; exact ⟨k, mem_nds.2 hk, rfl⟩
 have hnd : (ndsP g.N.toNat fun k : Nat => decide ((k : Int) ∈ il (ndsP g.N.toNat fun k => !decide ((k : Int) ∈ x)))) = ndsP g.N.toNat fun k => !decide ((k : Int) ∈ x) := by
  rw [hp]
  unfold ndsP
  refine List.filter_congr fun k hk => ?_
  rw [decide_eq_true (List.mem_range.1 hk)]; rfl
 have hOut : (fun k => k < g.N.toNat ∧ (k : Int) ∈ il (ndsP g.N.toNat fun k => !decide ((k : Int) ∈ x))) = Out g x := funext fun k => propext (by
  have := congrFun hp k
  rw [Bool.eq_iff_iff, decide_eq_true_iff, Bool.and_eq_true, decide_eq_true_iff] at this
  rw [this]
  unfold Out
  simp)
 refine (Induced_emb h hg (nodes := il (ndsP g.N.toNat fun k => !decide ((k : Int) ∈ x))) (by have := h.n1; simp; omega)).mono fun r ⟨r1, r2, r3, r4⟩ => ?_
 rw [hnd] at r3 r4
 rw [hOut] at r4
 have haM : a < r.N.toNat := by rw [r3]; simpa using ha
 refine (Decide_tru r1 (by omega) (by rw [r3]; omega) hq1 hq4 haM).mono fun w ⟨w1, w2, w3⟩ => ⟨w1, ?_, w3⟩
 rw [w2, ← r4.tru haM, hai]

theorem top_TopExplained_plain (l : List Int) {p0 : Prop} (_ : p0) : top_TopExplained_m l = some true := by
  refine T.eq ?_
  unfold top_TopExplained_m
  refine T.bind New_plain fun s hs => T.bind (Graph_plain hs (by omega) (by omega)) fun t ⟨h, h6, hg, hsr⟩ => ?_
  have h0 := h.n0
  refine T.bind (P := fun q => q = .inr ()) ?_ fun q hq => ?_
  · refine T.loopK t.1.N.toNat (fun k s => k ≤ t.1.N.toNat ∧ s.1 = (k : Int) ∧ RdOk ⟨s.2.1, s.2.2⟩) ⟨by omega, rfl, hsr⟩ ?_
    rintro i ⟨_, L, c⟩ ⟨hi, rfl, hr⟩
    dsimp only at hr
    dsimp only [top_TopExplained_l4]
    refine T.cond (fun c1 => ?_) fun c1 => .ret rfl
    have hi2 : i < t.1.N.toNat := by have := of_decide_eq_true c1; omega
    refine T.bind (N_plain hr (by omega)) fun u ⟨hu, hb⟩ => ?_
    have hb := hb (by omega)
    obtain ⟨q, hqq⟩ : ∃ q, q = iadd .i64 1 u.1 := ⟨_, rfl⟩
    rw [← hqq]
    have hq : q = 1 + u.1 := by rw [hqq, iadd64 (by omega) (by omega)]
    have hq1 : 1 ≤ q := by omega
    have hq4 : q ≤ 4 := by omega
    refine T.bind (Removals_plain h (by omega) h6 hq1 hq4 hi2) fun r ⟨r1, r2⟩ => T.bind (Decide_tru h (by omega) h6 hq1 hq4 hi2) fun v ⟨v1, v2, _⟩ => T.join ?_
    -- the law holds of every set that is looked at
    have body : ∀ (sets : List (List Int)), sets.length ≤ 2048 → (∀ x ∈ sets, x.length ≤ 10 ∧ (r.1 = 0 → ¬ (i : Int) ∈ x) ∧ (¬ (i : Int) ∈ x → ((TruS t.1 (Out t.1 x) q i ↔ TruS t.1 (· < t.1.N.toNat) q i) ↔ r.1 ≠ 0))) →
        T (Option.bind (loopC (top_TopExplained_l2 t ((i : Int), L, c) r u v sets) 0) (sumK (fun a : Bool => some (Sum.inl (Sum.inl a))) fun q352 : Unit => some (Sum.inr ((iadd .i64 ((i : Int), L, c).1 1, u.2.L, u.2.At))))) (onO (fun q => q = Sum.inr ()) fun s' => i < t.1.N.toNat ∧ i + 1 ≤ t.1.N.toNat ∧ s'.1 = ((i + 1 : Nat) : Int) ∧ RdOk ⟨s'.2.1, s'.2.2⟩) := fun sets hl hsets => by
      refine T.bind (P := fun q => q = .inr ()) ?_ fun q0 hq0 => ?_
      · refine T.loopK sets.length (fun k s => k ≤ sets.length ∧ s = (k : Int)) ⟨by omega, rfl⟩ ?_
        rintro k _ ⟨hk, rfl⟩
        dsimp only [top_TopExplained_l2]
        refine T.cond (fun c2 => ?_) fun c2 => .ret rfl
        have hk2 : k < sets.length := by simpa using c2
        obtain ⟨x1, x2, x3⟩ := hsets _ (List.getElem_mem hk2)
        rw [idxM_nat hk2, some_bind]
        generalize sets[k] = x at x1 x2 x3
        rw [In_plain (by omega), some_bind, iadd1 (by omega)]
        refine T.cond (fun c3 => ?_) fun c3 => ?_
        · have hin : (i : Int) ∈ x := of_decide_eq_true c3
          have hr0 : r.1 ≠ 0 := fun e => x2 e hin
          rw [show (r.1 == 0) = false from beq_false_of_ne hr0, cond_false]
          exact .ret ⟨hk2, hk2, rfl⟩
        · have hin : ¬ (i : Int) ∈ x := of_decide_eq_false c3
          refine T.bind (rest_loop h hi2 (by omega) hin) ?_
          rintro _ ⟨a, rfl, a1, a2⟩
          refine T.bind (part_plain h (by omega) h6 hq1 hq4 a1 a2) fun gr hgr => ?_
          dsimp only
          rw [← hqq]
          refine T.bind hgr fun w ⟨w1, w2, w3⟩ => ?_
          rw [w1, show ((0 : Int) != 0) = false from rfl, cond_false]
          refine T.bind w3 fun y hy => ?_
          subst hy
          rw [show ((0 : Int) != 0) = false from rfl, cond_false]
          have e1 : ((!(w.1.Holds == v.1.Holds)) == (r.1 == 0)) = true := by
            have h3 := x3 hin
            rw [← w2, ← v2] at h3
            by_cases hr0 : r.1 = 0
            · rw [hr0] at h3 ⊢
              cases hw : w.1.Holds <;> cases hv : v.1.Holds <;> simp [hw, hv] at h3 ⊢
            · rw [show (r.1 == 0) = false from beq_false_of_ne hr0]
              cases hw : w.1.Holds <;> cases hv : v.1.Holds <;> simp [hw, hv, hr0] at h3 ⊢
          rw [e1, show (!true) = false from rfl, cond_false]
          exact .ret ⟨hk2, hk2, rfl⟩
      · subst hq0
        rw [sumK_inr]
        dsimp only
        rw [iadd1 (by omega)]
        exact .ret ⟨hi2, hi2, rfl, hu⟩
    rcases r2 with ⟨e, hall⟩ | ⟨e, hall⟩
    · have b0 := body r.2 (by omega) fun x hx => by
        obtain ⟨q1, q2, q3⟩ := hall x hx
        exact ⟨q1, fun _ => q2, fun _ => ⟨fun hh => absurd hh q3, fun hh => absurd e hh⟩⟩
      rw [e, v1] at *
      exact b0
    · subst e
      dsimp only
      rw [v1]
      refine T.bind (P := fun sets : List (List Int) => sets = (List.range t.1.N.toNat).map fun k : Nat => [(k : Int)]) ?_ fun sets hsets => ?_
      · refine T.loopK t.1.N.toNat (fun k s => k ≤ t.1.N.toNat ∧ s = ((k : Int), (List.range k).map fun k : Nat => [(k : Int)])) ⟨by omega, rfl⟩ ?_
        rintro k _ ⟨hk, rfl⟩
        dsimp only [top_TopExplained_l3]
        refine T.cond (fun c2 => ?_) fun c2 => ?_
        · have hk2 : k < t.1.N.toNat := by have := of_decide_eq_true c2; omega
          rw [appM_eq (by simp; omega), some_bind, iadd1 (by omega)]
          exact .ret ⟨hk2, hk2, by rw [List.range_succ]; simp⟩
        · have e : k = t.1.N.toNat := by have := of_decide_eq_false c2; omega
          subst e; exact .ret rfl
      · subst hsets
        refine body _ (by simp; omega) fun x hx => ?_
        obtain ⟨k, hk, rfl⟩ := List.mem_map.1 hx
        refine ⟨by simp, fun hh => by simp at hh, fun hin => ?_⟩
        simp only [List.mem_singleton] at hin
        have := hall k (List.mem_range.1 hk) (by omega)
        simp [this]
  · subst hq
    rw [sumK_inr, awake, some_bind]
    exact .ret rfl
end Go.Dc
