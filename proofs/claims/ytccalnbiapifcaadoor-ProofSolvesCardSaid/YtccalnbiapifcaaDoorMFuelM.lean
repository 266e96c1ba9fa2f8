/- Part M.FuelM of a proof: lemmas. -/
import Derived.Test.YtccalnbiapifcaaDoorLAW04W
import Derived.Test.YtccalnbiapifcaaDoorMOps2
import Derived.Test.YtccalnbiapifcaaDoorDcCpt
import Derived.Test.YtccalnbiapifcaaDoorMEv2
set_option linter.unusedVariables false
set_option linter.unusedSimpArgs false
set_option linter.unusedSectionVars false
/-! The source of numbers, in plain words. -/
namespace Go.Dc

theorem Mod_plain {x n : Int} (hn : n ≤ 4611686018427387904) : T (keep_Mod_m x n) fun r => 1 ≤ n → 0 ≤ r ∧ r < n := by
  unfold keep_Mod_m
  refine T.cond (fun h => .ret fun h1 => ?_) fun h => ?_
  · simp at h; omega
  · simp at h
    have h1 : iremM .i64 x n = some (x.tmod n) := by unfold iremM; rw [if_neg (by omega)]; rfl
    have h2 := Int.tmod_lt_of_pos x (show 0 < n by omega)
    have h3 := Int.lt_tmod_of_pos x (show 0 < n by omega)
    rw [h1]
    refine T.bind (T.ret rfl) fun a ha => ?_
    subst ha
    refine T.cond (fun h => .letM (.ret fun _ => ?_)) fun h => .ret fun _ => ?_
    · simp at h; rw [iadd64 (by omega) (by omega)]; omega
    · simp at h; omega

def RdOk (s : T_deliberationkeep_Src) : Prop := 0 ≤ s.At ∧ s.L.length ≤ 2000

theorem Raw_plain {s : T_deliberationkeep_Src} (h : RdOk s) : T (keep_Src_Raw_m s) fun r => RdOk r.2 := by
  unfold keep_Src_Raw_m
  obtain ⟨h1, h2⟩ := h
  refine T.cond (fun h => .ret ⟨h1, h2⟩) fun h => ?_
  simp at h
  rw [iadd64 (by omega) (by omega), isub64 (by omega) (by omega), idxM_eq (by omega) (by omega)]
  exact T.bind (T.ret rfl) fun a _ => .ret ⟨by simp only; omega, h2⟩

theorem N_plain {s : T_deliberationkeep_Src} (h : RdOk s) {n : Int} (hn : n ≤ 4611686018427387904) : T (keep_Src_N_m s n) fun r => RdOk r.2 ∧ (1 ≤ n → 0 ≤ r.1 ∧ r.1 < n) := by
  unfold keep_Src_N_m
  exact T.bind (Raw_plain h) fun t ht => T.bind (Mod_plain hn) fun a ha => .ret ⟨ht, ha⟩

theorem New_plain {l : List Int} : T (keep_New_m l) fun r => RdOk ⟨r.1, r.2⟩ := by
  unfold keep_New_m
  have h : imin (l.length : Int) 2000 = (l.length : Int) ∨ imin (l.length : Int) 2000 = 2000 := by unfold imin; split <;> simp
  have h2 : 0 ≤ imin (l.length : Int) 2000 ∧ imin (l.length : Int) 2000 ≤ l.length ∧ imin (l.length : Int) 2000 ≤ 2000 := by unfold imin; split <;> omega
  rw [slM_eq (by omega) (by omega) (by omega)]
  exact T.bind (T.ret rfl) fun a ha => .ret ⟨by simp, by subst ha; simp; omega⟩
end Go.Dc

set_option linter.unusedVariables false
set_option linter.unusedSimpArgs false
/-! Sets of bits: numbers of 64 bits as sets of numbers below 64. -/
namespace Go.Dc

/-- the bits of a that b has not -/
def andn (a b : Nat) : Nat := (BitVec.ofNat 64 a &&& ~~~BitVec.ofNat 64 b).toNat

/-! ### the lowest bit -/
section low
variable {s k : Nat}
end low

/-- the table of TrailingZeros64 -/
def tzTab : List Int := [0, 1, 56, 2, 57, 49, 28, 3, 61, 58, 42, 50, 38, 29, 17, 4, 62, 47, 59, 36, 45, 43, 51, 22, 53, 39, 33, 30, 24, 18, 12, 5, 63, 55, 48, 27, 60, 41, 37, 16, 46, 35, 44, 21, 52, 32, 23, 11, 54, 26, 40, 15, 34, 20, 31, 10, 25, 14, 19, 9, 13, 8, 7, 6]
/-! ### the list of the bits -/
def bitsL (s : Nat) : List Nat := (List.range 64).filter s.testBit

end Go.Dc

set_option linter.unusedVariables false
set_option linter.unusedSimpArgs false
/-! Loops that fold over a list. -/
namespace Go.Dc
variable {α β ρ : Type}

/-- numbers of Nat as numbers -/
abbrev il (l : List Nat) : List Int := l.map fun x : Nat => (x : Int)
/-! ### unions of bits over a list -/
def orL (g : Nat → Nat) (l : List Nat) : Nat := l.foldl (fun a i => a ||| g i) 0
/-! ### subsets, downward -/
def SubB (a b : Nat) : Prop := ∀ i, a.testBit i = true → b.testBit i = true
theorem SubB.refl (a : Nat) : SubB a a := fun _ h => h
theorem SubB.and {a b : Nat} : SubB (a &&& b) b := fun i h => by rw [Nat.testBit_and, Bool.and_eq_true] at h; exact h.2
theorem SubB.trans {a b c : Nat} (h : SubB a b) (k : SubB b c) : SubB a c := fun i hi => k i (h i hi)
theorem SubB.zero {a : Nat} : SubB 0 a := fun i h => by simp at h

end Go.Dc

set_option linter.unusedVariables false
set_option linter.unusedSimpArgs false
set_option linter.unusedSectionVars false
/-! Clauses that are valid. -/
namespace Go.Dc
section
variable {α β ρ R : Type}
theorem find_bind {l : List α} {f : Int → Option (Sum (Sum ρ Unit) Int)} (g : α → Option ρ)
    (h : ∀ i (hi : i < l.length), f (i : Int) = some (match g l[i] with | some r => .inl (.inl r) | none => .inr ((i : Int) + 1)))
    (hend : f (l.length : Int) = some (.inl (.inr ()))) {kr : ρ → Option R} {kb : Unit → Option R} :
    (loopC f 0).bind (sumK kr kb) = match l.findSome? g with | some r => kr r | none => kb () := by
  rw [find_loop g h hend]; cases l.findSome? g <;> rfl
end

theorem ineg64 {x : Int} (h0 : -4611686018427387904 ≤ x) (h1 : x ≤ 4611686018427387904) : ineg .i64 x = -x := by
  unfold ineg; rw [wrap64 (by omega) (by omega)]; omega
theorem imax_abs {x : Int} : imax x (-x) = (x.natAbs : Int) := by unfold imax; split <;> omega
theorem abs_plain {x : Int} (h0 : -4611686018427387904 ≤ x) (h1 : x ≤ 4611686018427387904) : proof_abs_m x = some (x.natAbs : Int) := by
  unfold proof_abs_m; rw [ineg64 h0 h1, imax_abs]
theorem rabs_eq : @ref04_abs_m = @proof_abs_m := rfl

/-- an element of a clause over n variables -/
def inR (n x : Int) : Bool := x != 0 && decide (-n ≤ x) && decide (x ≤ n)
theorem inR_iff {n x : Int} : inR n x = true ↔ x ≠ 0 ∧ -n ≤ x ∧ x ≤ n := by simp [inR, and_assoc]
abbrev Asc (c : List Int) : Prop := c.Pairwise fun x y => x.natAbs < y.natAbs
/-- what is wrong with a clause -/
def clauseP (n : Int) (c : List Int) : Int := if 50 < c.length then 2 else if c.all (inR n) = true then if Asc c then 0 else 8 else 1
structure COk (n : Int) (c : List Int) : Prop where
  len : c.length ≤ 50
  rng : ∀ x ∈ c, x ≠ 0 ∧ -n ≤ x ∧ x ≤ n
  asc : Asc c
theorem clauseP_ok {n : Int} {c : List Int} : clauseP n c = 0 ↔ COk n c := by
  unfold clauseP
  constructor
  · intro h
    split at h
    · omega
    · rename_i h1
      split at h
      · rename_i h2
        split at h
        · rename_i h3
          exact ⟨by omega, fun x hx => inR_iff.1 (List.all_eq_true.1 h2 x hx), h3⟩
        · omega
      · omega
  · rintro ⟨h1, h2, h3⟩
    rw [if_neg (by omega), if_pos (List.all_eq_true.2 fun x hx => inR_iff.2 (h2 x hx)), if_pos h3]

theorem asc_snoc {c : List Int} {i : Nat} (hi : i + 1 < c.length) (h : Asc (c.take (i + 1))) (hx : c[i].natAbs < c[i + 1].natAbs) : Asc (c.take (i + 2)) := by
  rw [← List.take_append_getElem hi]
  refine List.pairwise_append.2 ⟨h, by simp, fun x hx' y hy => ?_⟩
  rw [List.mem_singleton.1 hy]
  rw [← List.take_append_getElem (show i < c.length by omega)] at h hx'
  rcases List.mem_append.1 hx' with h1 | h1
  · have := (List.pairwise_append.1 h).2.2 x h1 c[i] (by simp)
    omega
  · rw [List.mem_singleton.1 h1]; exact hx

theorem clause_l2_plain {n : Int} {c : List Int} (hc : c.length ≤ 50) (hr : ∀ x ∈ c, x ≠ 0 ∧ -n ≤ x ∧ x ≤ n) (hn : n ≤ 1000) :
    loopC (proof_clause_l2 c) 1 = some (if Asc c then .inr () else .inl 8) := by
  refine T.eq (T.loopK c.length (fun k s => s = (k : Int) + 1 ∧ Asc (c.take (k + 1))) ⟨rfl, ?_⟩ fun k s hs => ?_)
  · cases c with
    | nil => simp
    | cons x c => simp
  · obtain ⟨rfl, ha⟩ := hs
    unfold proof_clause_l2
    refine T.cond (fun h => ?_) fun h => ?_
    · simp only [decide_eq_true_eq] at h
      have hk : k + 1 < c.length := by omega
      have h1 := hr _ (List.getElem_mem (show k < c.length by omega))
      have h2 := hr _ (List.getElem_mem hk)
      rw [isub64 (by omega) (by omega), show (k : Int) + 1 - 1 = ((k : Nat) : Int) by omega, show (k : Int) + 1 = ((k + 1 : Nat) : Int) by omega, idxM_nat (show k < c.length by omega), idxM_nat hk]
      simp only [Option.bind_some]
      rw [abs_plain (by omega) (by omega), abs_plain (by omega) (by omega)]
      simp only [Option.bind_some]
      refine T.cond (fun h3 => .ret ?_) fun h3 => .ret ?_
      · simp only [ge_iff_le, decide_eq_true_eq] at h3
        show _ = _
        rw [if_neg]
        intro h4
        have := List.pairwise_iff_getElem.1 h4 k (k + 1) (by omega) hk (by omega)
        omega
      · simp only [ge_iff_le, decide_eq_false_iff_not] at h3
        rw [iadd64 (by omega) (by omega)]
        exact ⟨by omega, by omega, asc_snoc hk ha (by omega)⟩
    · simp only [decide_eq_false_iff_not] at h
      refine .ret ?_
      show _ = _
      rw [List.take_of_length_le (by omega)] at ha
      rw [if_pos ha]

theorem clause_plain {n : Int} {c : List Int} (hn0 : 0 ≤ n) (hn : n ≤ 1000) : proof_clause_m n c = some (clauseP n c) := by
  unfold proof_clause_m clauseP
  by_cases hl : 50 < c.length
  · rw [if_pos hl, show decide ((c.length : Int) > 50) = true by simp; omega]; rfl
  · rw [if_neg hl, show decide ((c.length : Int) > 50) = false by simp; omega, cond_false]
    rw [find_bind (l := c) (fun x => if inR n x = true then none else some 1) (fun i hi => by
      unfold proof_clause_l1
      rw [show decide ((i : Int) < (c.length : Int)) = true by simp [hi], cond_true, idxM_nat hi, ineg64 (by omega) (by omega), iadd64 (by omega) (by omega)]
      simp only [Option.bind_some]
      by_cases h0 : c[i] = 0
      · have e : inR n c[i] = false := by simp [inR, h0]
        rw [e]; simp [h0]
      · have e0 : (c[i] == 0) = false := beq_false_of_ne h0
        by_cases h1 : c[i] < -n
        · have e : inR n c[i] = false := Bool.eq_false_iff.2 fun h => by have := inR_iff.1 h; omega
          rw [e, e0]; simp [h1]
        · by_cases h2 : n < c[i]
          · have e : inR n c[i] = false := Bool.eq_false_iff.2 fun h => by have := inR_iff.1 h; omega
            rw [e, e0]; simp [h1, h2]
          · have e : inR n c[i] = true := inR_iff.2 ⟨h0, by omega, by omega⟩
            rw [e, e0]; simp [h1, h2]) (by unfold proof_clause_l1; simp)]
    · by_cases ha : c.all (inR n) = true
      · rw [if_pos ha]
        have h1 : c.findSome? (fun x => if inR n x = true then none else some (1 : Int)) = none := by
          rw [List.findSome?_eq_none_iff]; intro x hx; rw [if_pos (List.all_eq_true.1 ha x hx)]
        rw [h1]
        rw [clause_l2_plain (n := n) (by omega) (fun x hx => inR_iff.1 (List.all_eq_true.1 ha x hx)) hn]
        by_cases h3 : Asc c
        · rw [if_pos h3, if_pos h3]; rfl
        · rw [if_neg h3, if_neg h3]; rfl
      · rw [if_neg ha]
        have h1 : c.findSome? (fun x => if inR n x = true then none else some (1 : Int)) = some 1 := by
          obtain ⟨x, hx, hx2⟩ := List.all_eq_false.1 (by simpa using ha)
          cases hf : c.findSome? (fun x => if inR n x = true then none else some (1 : Int)) with
          | none => rw [List.findSome?_eq_none_iff] at hf; have := hf x hx; rw [if_neg hx2] at this; cases this
          | some r =>
            obtain ⟨y, _, hy⟩ := List.exists_of_findSome?_eq_some hf
            split at hy
            · cases hy
            · exact hy ▸ rfl
        rw [h1]
theorem clause_s1_eq : @proof_clause_s1_m = @proof_clause_m := rfl


theorem rclause_plain {n : Int} {c : List Int} (hn0 : 0 ≤ n) (hn : n ≤ 1000) : ref04_clause_m n c = some (clauseP n c) := by
  rw [← clause_plain hn0 hn]
  have e1 : ref04_clause_l1 n c = proof_clause_l1 n c := by
    funext s
    unfold ref04_clause_l1 proof_clause_l1
    by_cases hs : s < (c.length : Int)
    · rw [decide_eq_true hs]; simp only [cond_true]
      cases h1 : idxM c s with
      | none => rfl
      | some a => simp only [Option.bind_some]
    · rw [decide_eq_false hs]; rfl
  have e2 : ref04_clause_l2 c = proof_clause_l2 c := by
    funext s
    unfold ref04_clause_l2 proof_clause_l2
    rw [rabs_eq]
    by_cases hs : s < (c.length : Int)
    · rw [decide_eq_true hs]; simp only [cond_true]
      cases h1 : idxM c s with
      | none => cases h2 : idxM c (isub .i64 s 1) <;> rfl
      | some a =>
        cases h2 : idxM c (isub .i64 s 1) with
        | none => rfl
        | some b =>
          simp only [Option.bind_some]
          unfold proof_abs_m
          simp only [Option.bind_some]
    · rw [decide_eq_false hs]; rfl
  unfold ref04_clause_m proof_clause_m
  rw [e1, e2]

/-- what is wrong with clauses -/
def ValidP (n : Int) (l : List (List Int)) : Int := if n < 0 ∨ 200 < n then 1 else if 4000 < l.length then 2 else (l.findSome? fun c => if clauseP n c = 0 then none else some (clauseP n c)).getD 0
structure VOk (n : Int) (l : List (List Int)) : Prop where
  n0 : 0 ≤ n
  n1 : n ≤ 200
  len : l.length ≤ 4000
  cl : ∀ c ∈ l, COk n c
theorem ValidP_ok {n : Int} {l : List (List Int)} : ValidP n l = 0 ↔ VOk n l := by
  unfold ValidP
  constructor
  · intro h
    split at h
    · omega
    · split at h
      · omega
      · refine ⟨by omega, by omega, by omega, fun c hc => ?_⟩
        cases hf : l.findSome? fun c => if clauseP n c = 0 then none else some (clauseP n c) with
        | none =>
          rw [List.findSome?_eq_none_iff] at hf
          have := hf c hc
          split at this
          · rename_i h3; exact clauseP_ok.1 h3
          · cases this
        | some r =>
          rw [hf] at h
          obtain ⟨y, _, hy⟩ := List.exists_of_findSome?_eq_some hf
          split at hy
          · cases hy
          · rename_i h3; cases hy; exact absurd h h3
  · rintro ⟨h1, h2, h3, h4⟩
    rw [if_neg (by omega), if_neg (by omega)]
    have : (l.findSome? fun c => if clauseP n c = 0 then none else some (clauseP n c)) = none := by
      rw [List.findSome?_eq_none_iff]; intro c hc; rw [if_pos (clauseP_ok.2 (h4 c hc))]
    rw [this]; rfl

theorem Validate_plain {n : Int} {l : List (List Int)} : proof_Validate_m n l = some (ValidP n l) := by
  unfold proof_Validate_m ValidP
  by_cases h1 : n < 0
  · rw [if_pos (.inl h1), decide_eq_true h1]; rfl
  · by_cases h2 : 200 < n
    · rw [if_pos (.inr h2), decide_eq_false h1, show decide (n > 200) = true by simp [h2]]; rfl
    · rw [if_neg (by omega), decide_eq_false h1, show decide (n > 200) = false by simp; omega]
      by_cases h3 : 4000 < l.length
      · rw [if_pos h3, show decide ((l.length : Int) > 4000) = true by simp; omega]; rfl
      · rw [if_neg h3, show decide ((l.length : Int) > 4000) = false by simp; omega]
        simp only [cond_false]
        rw [find_bind (l := l) (fun c => if clauseP n c = 0 then none else some (clauseP n c)) (fun i hi => by
          unfold proof_Validate_l1
          rw [show decide ((i : Int) < (l.length : Int)) = true by simp [hi], cond_true, idxM_nat hi, iadd64 (by omega) (by omega)]
          simp only [Option.bind_some]
          rw [clause_plain (by omega) (by omega)]
          simp only [Option.bind_some]
          by_cases h : clauseP n l[i] = 0
          · rw [if_pos h, h]; rfl
          · rw [if_neg h, show (clauseP n l[i] != 0) = true by simp [h]]; rfl) (by unfold proof_Validate_l1; simp)]
        cases l.findSome? fun c => if clauseP n c = 0 then none else some (clauseP n c) <;> rfl
theorem rValidate_plain {n : Int} {l : List (List Int)} : ref04_Validate_m n l = some (ValidP n l) := by
  unfold ref04_Validate_m ValidP
  by_cases h1 : n < 0
  · rw [if_pos (.inl h1), decide_eq_true h1]; rfl
  · by_cases h2 : 200 < n
    · rw [if_pos (.inr h2), decide_eq_false h1, show decide (n > 200) = true by simp [h2]]; rfl
    · rw [if_neg (by omega), decide_eq_false h1, show decide (n > 200) = false by simp; omega]
      by_cases h3 : 4000 < l.length
      · rw [if_pos h3, show decide ((l.length : Int) > 4000) = true by simp; omega]; rfl
      · rw [if_neg h3, show decide ((l.length : Int) > 4000) = false by simp; omega]
        simp only [cond_false]
        rw [find_bind (l := l) (fun c => if clauseP n c = 0 then none else some (clauseP n c)) (fun i hi => by
          unfold ref04_Validate_l1
          rw [show decide ((i : Int) < (l.length : Int)) = true by simp [hi], cond_true, idxM_nat hi, iadd64 (by omega) (by omega)]
          simp only [Option.bind_some]
          rw [rclause_plain (by omega) (by omega)]
          simp only [Option.bind_some]
          by_cases h : clauseP n l[i] = 0
          · rw [if_pos h, h]; rfl
          · rw [if_neg h, show (clauseP n l[i] != 0) = true by simp [h]]; rfl) (by unfold ref04_Validate_l1; simp)]
        cases l.findSome? fun c => if clauseP n c = 0 then none else some (clauseP n c) <;> rfl
end Go.Dc

set_option linter.unusedVariables false
/-! Keys tell clauses apart; maps. -/
namespace Go.Dc
section
variable {α β : Type} [DecidableEq α]
theorem mapGet_mem {d : List (α × β)} {x : α} {z : β} (h : mapHas d x = true) : (x, mapGet d x z) ∈ d := by
  unfold mapHas at h
  unfold mapGet
  cases e : mapIx d x with
  | none => rw [e] at h; cases h
  | some i =>
    have e' := e
    unfold mapIx at e'
    rw [List.findIdx?_eq_some_iff_getElem] at e'
    obtain ⟨hlt, hp, _⟩ := e'
    simp only [List.getElem?_eq_getElem hlt, Option.map_some, Option.getD_some]
    have : d[i].1 = x := by simpa using hp
    rw [← this]
    exact List.getElem_mem hlt
theorem mapPut_mem {d : List (α × β)} {x : α} {y : β} {p : α × β} (h : p ∈ mapPut d x y) : p ∈ d ∨ p = (x, y) := by
  unfold mapPut at h
  split at h
  · exact List.mem_or_eq_of_mem_set h
  · simpa using h
end

theorem decDigits_three {i : Nat} (h1 : ¬ i < 100) (h2 : i < 1000) : Lib.decDigits i = [UInt8.ofNat (48 + i / 10 / 10), UInt8.ofNat (48 + i / 10 % 10), UInt8.ofNat (48 + i % 10)] := by
  rw [Lib.decDigits, dif_neg (by omega), Lib.decDigits_two (by omega) (by omega)]
  rfl
def digS (u : Nat) : List UInt8 := if u < 10 then [UInt8.ofNat (48 + u)] else if u < 100 then [UInt8.ofNat (48 + u / 10), UInt8.ofNat (48 + u % 10)] else [UInt8.ofNat (48 + u / 10 / 10), UInt8.ofNat (48 + u / 10 % 10), UInt8.ofNat (48 + u % 10)]
theorem digS_eq {u : Nat} (h : u < 1000) : Lib.decDigits u = digS u := by
  unfold digS
  by_cases h1 : u < 10
  · rw [if_pos h1, Lib.decDigits_one h1]
  · by_cases h2 : u < 100
    · rw [if_neg h1, if_pos h2, Lib.decDigits_two h1 h2]
    · rw [if_neg h1, if_neg h2, decDigits_three h2 h]
/-- a number's text, by its natAbs and sign -/
def itoS (s : Bool) (u : Nat) : List UInt8 := if s then 45 :: digS u else digS u
theorem itoa_S {x : Int} (h : x.natAbs < 1000) : Lib.itoa x = itoS (decide (x < 0)) x.natAbs := by
  unfold Lib.itoa itoS
  by_cases hx : x < 0
  · rw [if_pos hx, decide_eq_true hx, if_pos rfl, digS_eq h]
  · rw [if_neg hx, decide_eq_false hx, show x.toNat = x.natAbs by omega, digS_eq h]; rfl
/-- what a text says -/
def rdS (l : List UInt8) : Bool × Nat := match l with
  | 45 :: r => (true, r.foldl (fun a d => a * 10 + (d.toNat - 48)) 0)
  | r => (false, r.foldl (fun a d => a * 10 + (d.toNat - 48)) 0)
theorem rdS_ok : ∀ u : Nat, u < 201 → ∀ s : Bool, rdS (itoS s u) = (s, u) ∧ (itoS s u).all (fun d => d != 32) = true := by decide +kernel

theorem split32 : ∀ {a b r s : List UInt8}, a.all (fun d => d != 32) = true → b.all (fun d => d != 32) = true → a ++ 32 :: r = b ++ 32 :: s → a = b ∧ r = s
  | [], [], r, s, _, _, h => ⟨rfl, by simpa using h⟩
  | [], y :: b, r, s, _, hb, h => by
    simp only [List.nil_append, List.cons_append, List.cons.injEq] at h
    rw [← h.1] at hb; simp at hb
  | x :: a, [], r, s, ha, _, h => by
    simp only [List.nil_append, List.cons_append, List.cons.injEq] at h
    rw [h.1] at ha; simp at ha
  | x :: a, y :: b, r, s, ha, hb, h => by
    simp only [List.cons_append, List.cons.injEq] at h
    simp only [List.all_cons, Bool.and_eq_true] at ha hb
    obtain ⟨h1, h2⟩ := split32 ha.2 hb.2 h.2
    exact ⟨by rw [h.1, h1], h2⟩

theorem keyBytes_inj : ∀ {a b : List Int}, (∀ x ∈ a, x.natAbs ≤ 200) → (∀ x ∈ b, x.natAbs ≤ 200) → keyBytes a = keyBytes b → a = b
  | [], [], _, _, _ => rfl
  | [], y :: b, _, _, h => by simp [keyBytes] at h
  | x :: a, [], _, _, h => by simp [keyBytes] at h
  | x :: a, y :: b, ha, hb, h => by
    have hx := ha x (by simp)
    have hy := hb y (by simp)
    have e : ∀ (z : Int) (l : List Int), keyBytes (z :: l) = Lib.itoa z ++ 32 :: keyBytes l := fun z l => by simp [keyBytes]
    rw [e, e, itoa_S (by omega), itoa_S (by omega)] at h
    have h1 := rdS_ok x.natAbs (by omega) (decide (x < 0))
    have h2 := rdS_ok y.natAbs (by omega) (decide (y < 0))
    obtain ⟨h3, h4⟩ := split32 h1.2 h2.2 h
    have h5 := h1.1
    rw [h3, h2.1] at h5
    simp only [Prod.mk.injEq, decide_eq_decide] at h5
    have hxy : x = y := by omega
    rw [hxy, keyBytes_inj (fun z hz => ha z (by simp [hz])) (fun z hz => hb z (by simp [hz])) h4]

theorem keyM_some {c : List Int} (hl : c.length ≤ 50) (h : ∀ x ∈ c, x.natAbs ≤ 200) : keyM c = some ⟨(keyBytes c).toArray⟩ := by
  unfold keyM
  rw [if_pos ⟨by omega, List.all_eq_true.2 fun x hx => by have := h x hx; simp [i64Ok]; omega⟩]
theorem keyM_inj {a b : List Int} {t : ByteArray} (la : a.length ≤ 50) (lb : b.length ≤ 50) (ha : ∀ x ∈ a, x.natAbs ≤ 200) (hb : ∀ x ∈ b, x.natAbs ≤ 200) (h1 : keyM a = some t) (h2 : keyM b = some t) : a = b := by
  rw [keyM_some la ha] at h1
  rw [keyM_some lb hb] at h2
  rw [← h2] at h1
  simp only [Option.some.injEq, ByteArray.mk.injEq] at h1
  exact keyBytes_inj ha hb (by simpa using congrArg Array.toList h1)
end Go.Dc

set_option linter.unusedVariables false
set_option linter.unusedSimpArgs false
set_option linter.unusedSectionVars false
/-! What a search sees under its values. -/
namespace Go.Dc

/-- values: 1, -1 or 0 -/
structure VV (n : Int) (V : List Int) : Prop where
  len : (V.length : Int) = n
  val : ∀ i, V.getD i 0 = 1 ∨ V.getD i 0 = -1 ∨ V.getD i 0 = 0
/-- the value of an element -/
def valP (V : List Int) (x : Int) : Int := if 0 < x then V.getD (x.natAbs - 1) 0 else -V.getD (x.natAbs - 1) 0
theorem valP_neg {V : List Int} {x : Int} (h : x ≠ 0) : valP V (-x) = -valP V x := by
  unfold valP
  rw [Int.natAbs_neg]
  by_cases h1 : 0 < x
  · rw [if_pos h1, if_neg (by omega)]
  · rw [if_neg h1, if_pos (by omega)]; omega
theorem VV.valP {n : Int} {V : List Int} (h : VV n V) (x : Int) : valP V x = 1 ∨ valP V x = -1 ∨ valP V x = 0 := by
  unfold Go.Dc.valP
  have := h.val (x.natAbs - 1)
  split <;> omega

section
variable {n : Int} {V : List Int} {C : List (List Int)} {K : List (ByteArray × Int)} {S : List T_api_Step} {nd : Int} {st : Bool}
theorem value_plain (hV : VV n V) (hn : n ≤ 200) {x : Int} (h0 : x ≠ 0) (h1 : -n ≤ x) (h2 : x ≤ n) : proof_search_value_m V C K S nd st x = some (valP V x) := by
  have hl := hV.len
  unfold proof_search_value_m valP
  by_cases hx : 0 < x
  · rw [if_pos hx, show decide (x > 0) = true by simp [hx], cond_true, isub64 (by omega) (by omega), show x - 1 = ((x.natAbs - 1 : Nat) : Int) by omega, idxM_getD (z := 0) (by omega), some_bind]
  · rw [if_neg hx, show decide (x > 0) = false by simp; omega, cond_false, ineg64 (by omega) (by omega), isub64 (by omega) (by omega), show -x - 1 = ((x.natAbs - 1 : Nat) : Int) by omega, idxM_getD (z := 0) (by omega), some_bind]
    have := hV.val (x.natAbs - 1)
    rw [ineg64 (by omega) (by omega)]

/-- a clause that is false -/
def FalC (V : List Int) (c : List Int) : Prop := ∀ y ∈ c, valP V y = -1
/-- a clause with one open element -/
def UniC (V : List Int) (c : List Int) (x : Int) : Prop := x ∈ c ∧ valP V x = 0 ∧ ∀ y ∈ c, y = x ∨ valP V y = -1
/-- a clause that is neither -/
def OpnC (V : List Int) (c : List Int) : Prop := ∃ y ∈ c, valP V y = 1 ∨ valP V y = 0

theorem look_l1 (hV : VV n V) (hn : n ≤ 200) {c : List Int} (hc : COk n c) :
    T (loopC (proof_search_look_l1 V C K S nd st c) (0, 0)) fun r => match r with
      | .inl (.inl _) => False
      | .inl (.inr _) => OpnC V c
      | .inr x => x = 0 ∧ FalC V c ∨ x ≠ 0 ∧ UniC V c x := by
  have hcl := hc.len
  refine T.loopK c.length (fun k s => s.2 = (k : Int) ∧ k ≤ c.length ∧ (s.1 = 0 ∧ FalC V (c.take k) ∨ s.1 ≠ 0 ∧ UniC V (c.take k) s.1)) ⟨rfl, by omega, .inl ⟨rfl, by simp [FalC]⟩⟩ ?_
  rintro k ⟨o, i⟩ ⟨e, hk, hI⟩
  dsimp only at e hI
  subst e
  unfold proof_search_look_l1
  dsimp only
  refine T.cond (fun h => ?_) fun h => .ret ?_
  · have hk2 : k < c.length := by simpa using h
    have hr := hc.rng _ (List.getElem_mem hk2)
    have hm : c[k] ∈ c := List.getElem_mem hk2
    rw [idxM_nat hk2, some_bind, value_plain hV hn hr.1 hr.2.1 hr.2.2, some_bind, iadd1 (by omega)]
    have e5 : c.take (k + 1) = c.take k ++ [c[k]] := (List.take_append_getElem hk2).symm
    have hv := hV.valP c[k]
    simp only [joinM_eq]
    by_cases g1 : valP V c[k] > 0
    · rw [decide_eq_true g1, cond_true, cond_true]
      exact .ret ⟨_, hm, .inl (by omega)⟩
    · rw [decide_eq_false g1, cond_false]
      by_cases g2 : valP V c[k] = 0
      · rw [g2, show ((0 : Int) == 0) = true from rfl, cond_true]
        rcases hI with ⟨rfl, hF⟩ | ⟨ho, hU⟩
        · rw [show ((0 : Int) != 0) = false from rfl, cond_false, cond_true]
          refine .ret ⟨hk2, rfl, hk2, .inr ⟨hr.1, by rw [e5]; exact List.mem_append_right _ (List.mem_singleton.2 rfl), g2, fun y hy => ?_⟩⟩
          rw [e5] at hy
          rcases List.mem_append.1 hy with h2 | h2
          · exact .inr (hF y h2)
          · exact .inl (List.mem_singleton.1 h2)
        · rw [show (o != 0) = true by simp [ho], cond_true]
          exact .ret ⟨_, hm, .inr g2⟩
      · rw [show (valP V c[k] == 0) = false from beq_false_of_ne g2, cond_false, cond_false, cond_false]
        have g3 : valP V c[k] = -1 := by omega
        refine .ret ⟨hk2, rfl, hk2, ?_⟩
        rcases hI with ⟨rfl, hF⟩ | ⟨ho, hU⟩
        · refine .inl ⟨rfl, fun y hy => ?_⟩
          rw [e5] at hy
          rcases List.mem_append.1 hy with h2 | h2
          · exact hF y h2
          · rw [List.mem_singleton.1 h2]; exact g3
        · refine .inr ⟨ho, by rw [e5]; exact List.mem_append_left _ hU.1, hU.2.1, fun y hy => ?_⟩
          rw [e5] at hy
          rcases List.mem_append.1 hy with h2 | h2
          · exact hU.2.2 y h2
          · rw [List.mem_singleton.1 h2]; exact .inr g3
  · have : k = c.length := by simp at h; omega
    subst this
    rw [List.take_length] at hI
    exact hI

/-- what look returns -/
def LookR (V : List Int) (C : List (List Int)) (r : Int × Int) : Prop :=
  r.1 = -1 ∧ r.2 = 0 ∧ (∀ c ∈ C, OpnC V c) ∨ 0 ≤ r.1 ∧ r.1 < C.length ∧ (r.2 = 0 ∧ FalC V (C.getD r.1.toNat []) ∨ r.2 ≠ 0 ∧ UniC V (C.getD r.1.toNat []) r.2)

theorem look_plain (hV : VV n V) (hn : n ≤ 200) (hC : ∀ c ∈ C, COk n c) (hl : C.length ≤ 100000) : T (proof_search_look_m V C K S nd st) (LookR V C) := by
  unfold proof_search_look_m
  refine T.bind (P := fun r => match r with | .inl r => LookR V C r | .inr r => LookR V C r) ?_ fun r hr => by
    match r, hr with
    | .inl r, hr => exact .ret hr
    | .inr r, hr => exact .ret hr
  refine T.loopK C.length (fun k (s : Int × Int × Int) => s.2.2 = (k : Int) ∧ k ≤ C.length ∧ (s.1 = -1 ∧ s.2.1 = 0 ∧ (∀ c ∈ C.take k, OpnC V c) ∨ 0 ≤ s.1 ∧ s.1 < C.length ∧ s.2.1 ≠ 0 ∧ UniC V (C.getD s.1.toNat []) s.2.1)) ⟨rfl, by omega, .inl ⟨rfl, rfl, by simp⟩⟩ ?_
  rintro k ⟨u, x, i⟩ ⟨e, hk, hI⟩
  dsimp only at e hI
  subst e
  unfold proof_search_look_l2
  dsimp only
  refine T.cond (fun h => ?_) fun h => .ret ?_
  · have hk2 : k < C.length := by simpa using h
    rw [idxM_nat hk2, some_bind, iadd1 (by omega)]
    have hg : C.getD k [] = C[k] := by simp [List.getD, hk2]
    refine T.bind (look_l1 hV hn (hC _ (List.getElem_mem hk2))) fun r hr => ?_
    match r, hr with
    | .inl (.inr _), hr =>
      refine .ret ⟨hk2, rfl, hk2, ?_⟩
      rcases hI with ⟨h1, h2, h3⟩ | hI
      · refine .inl ⟨h1, h2, fun c hc => ?_⟩
        rw [← List.take_append_getElem hk2] at hc
        rcases List.mem_append.1 hc with h4 | h4
        · exact h3 c h4
        · rw [List.mem_singleton.1 h4]; exact hr
      · exact .inr hI
    | .inr y, hr =>
      simp only [sumK_inr]
      rcases hr with ⟨rfl, hF⟩ | ⟨hy, hU⟩
      · refine .ret ?_
        exact .inr ⟨by simp, by simpa using hk2, .inl ⟨rfl, by show FalC V (C.getD (Int.toNat (k : Int)) []); rw [Int.toNat_natCast, hg]; exact hF⟩⟩
      · rw [show (y == 0) = false from beq_false_of_ne hy, cond_false]
        refine T.cond (fun h5 => .ret ⟨hk2, rfl, hk2, .inr ⟨by simp, by simpa using hk2, hy, by show UniC V (C.getD (Int.toNat (k : Int)) []) y; rw [Int.toNat_natCast, hg]; exact hU⟩⟩) fun h5 => .ret ⟨hk2, rfl, hk2, ?_⟩
        simp only [decide_eq_false_iff_not] at h5
        rcases hI with ⟨h1, _⟩ | hI
        · omega
        · exact .inr hI
  · have : k = C.length := by simp at h; omega
    subst this
    rcases hI with ⟨h1, h2, h3⟩ | ⟨h1, h2, h3, h4⟩
    · exact .inl ⟨h1, h2, by simpa using h3⟩
    · exact .inr ⟨h1, h2, .inr ⟨h3, h4⟩⟩

theorem branch_l1 (hV : VV n V) (hn : n ≤ 200) {c : List Int} (hc : COk n c) :
    T (loopC (proof_search_branch_l1 V C K S nd st c) (0, 0)) fun r => match r with
      | .inl (.inl _) => False
      | .inl (.inr _) => ∃ y ∈ c, valP V y = 1
      | .inr x => x = 0 ∧ FalC V c ∨ x ≠ 0 ∧ x ∈ c ∧ valP V x = 0 := by
  have hcl := hc.len
  refine T.loopK c.length (fun k s => s.2 = (k : Int) ∧ k ≤ c.length ∧ (s.1 = 0 ∧ FalC V (c.take k) ∨ s.1 ≠ 0 ∧ s.1 ∈ c ∧ valP V s.1 = 0)) ⟨rfl, by omega, .inl ⟨rfl, by simp [FalC]⟩⟩ ?_
  rintro k ⟨o, i⟩ ⟨e, hk, hI⟩
  dsimp only at e hI
  subst e
  unfold proof_search_branch_l1
  dsimp only
  refine T.cond (fun h => ?_) fun h => .ret ?_
  · have hk2 : k < c.length := by simpa using h
    have hr := hc.rng _ (List.getElem_mem hk2)
    have hm : c[k] ∈ c := List.getElem_mem hk2
    rw [idxM_nat hk2, some_bind, value_plain hV hn hr.1 hr.2.1 hr.2.2, some_bind, iadd1 (by omega)]
    have e5 : c.take (k + 1) = c.take k ++ [c[k]] := (List.take_append_getElem hk2).symm
    have hv := hV.valP c[k]
    refine T.cond (fun g1 => .ret ⟨_, hm, eq_of_beq g1⟩) fun g1 => ?_
    refine T.cond (fun g2 => ?_) fun g2 => ?_
    · have g2 := eq_of_beq g2
      refine T.cond (fun g3 => .ret ⟨hk2, rfl, hk2, .inr ⟨hr.1, hm, g2⟩⟩) fun g3 => .ret ⟨hk2, rfl, hk2, ?_⟩
      rcases hI with ⟨rfl, _⟩ | hI
      · cases g3
      · exact .inr hI
    · have g3 : valP V c[k] = -1 := by
        have a1 : valP V c[k] ≠ 1 := fun e => by rw [e] at g1; cases g1
        have a2 : valP V c[k] ≠ 0 := fun e => by rw [e] at g2; cases g2
        omega
      refine .ret ⟨hk2, rfl, hk2, ?_⟩
      rcases hI with ⟨rfl, hF⟩ | hI
      · refine .inl ⟨rfl, fun y hy => ?_⟩
        rw [e5] at hy
        rcases List.mem_append.1 hy with h2 | h2
        · exact hF y h2
        · rw [List.mem_singleton.1 h2]; exact g3
      · exact .inr hI
  · have : k = c.length := by simp at h; omega
    subst this
    rw [List.take_length] at hI
    exact hI

/-- where look found nothing, branch gives an open element or all clauses are true -/
theorem branch_plain (hV : VV n V) (hn : n ≤ 200) (hC : ∀ c ∈ C, COk n c) (hl : C.length ≤ 100000) (ho : ∀ c ∈ C, OpnC V c) :
    T (proof_search_branch_m V C K S nd st) fun x => x = 0 ∧ (∀ c ∈ C, ∃ y ∈ c, valP V y = 1) ∨ x ≠ 0 ∧ valP V x = 0 ∧ ∃ c ∈ C, x ∈ c := by
  unfold proof_search_branch_m
  refine T.bind (P := fun r => match r with | .inl x => x ≠ 0 ∧ valP V x = 0 ∧ ∃ c ∈ C, x ∈ c | .inr _ => ∀ c ∈ C, ∃ y ∈ c, valP V y = 1) ?_ fun r hr => by
    match r, hr with
    | .inl r, hr => exact .ret (.inr hr)
    | .inr r, hr => exact .ret (.inl ⟨rfl, hr⟩)
  refine T.loopK C.length (fun k s => s = (k : Int) ∧ k ≤ C.length ∧ ∀ c ∈ C.take k, ∃ y ∈ c, valP V y = 1) ⟨rfl, by omega, by simp⟩ ?_
  rintro k _ ⟨rfl, hk, hI⟩
  unfold proof_search_branch_l2
  refine T.cond (fun h => ?_) fun h => .ret ?_
  · have hk2 : k < C.length := by simpa using h
    rw [idxM_nat hk2, some_bind, iadd1 (by omega)]
    refine T.bind (branch_l1 hV hn (hC _ (List.getElem_mem hk2))) fun r hr => ?_
    match r, hr with
    | .inl (.inr _), hr =>
      refine .ret ⟨hk2, rfl, hk2, fun c hc => ?_⟩
      rw [← List.take_append_getElem hk2] at hc
      rcases List.mem_append.1 hc with h4 | h4
      · exact hI c h4
      · rw [List.mem_singleton.1 h4]; exact hr
    | .inr y, hr =>
      simp only [sumK_inr]
      refine .ret ?_
      rcases hr with ⟨rfl, hF⟩ | ⟨hy, hm, hv⟩
      · obtain ⟨z, hz, h5⟩ := ho _ (List.getElem_mem hk2)
        have := hF z hz
        omega
      · exact ⟨hy, hv, _, List.getElem_mem hk2, hm⟩
  · have : k = C.length := by simp at h; omega
    subst this
    simpa using hI

/-- values with the element x made b -/
def setP (V : List Int) (x b : Int) : List Int := V.set (x.natAbs - 1) (if x < 0 then -b else b)
theorem set_plain (hl : (V.length : Int) = n) (hn : n ≤ 200) {x b : Int} (h0 : x ≠ 0) (h1 : -n ≤ x) (h2 : x ≤ n) (hb : b = 0 ∨ b = 1) : proof_search_set_m V C K S nd st x b = some (setP V x b) := by
  unfold proof_search_set_m setP
  by_cases hx : x < 0
  · rw [decide_eq_true hx, if_pos hx, cond_true, ineg64 (by omega) (by omega), isub64 (by omega) (by omega), show -x - 1 = ((x.natAbs - 1 : Nat) : Int) by omega, idxM_nat (show x.natAbs - 1 < V.length by omega), some_bind, ineg64 (by omega) (by omega)]
    rfl
  · rw [decide_eq_false hx, if_neg hx, cond_false, isub64 (by omega) (by omega), show x - 1 = ((x.natAbs - 1 : Nat) : Int) by omega, idxM_nat (show x.natAbs - 1 < V.length by omega), some_bind]
    rfl

theorem setP_len {x b : Int} : (setP V x b).length = V.length := by simp [setP]
theorem setP_VV (hV : VV n V) {x b : Int} (hb : b = 0 ∨ b = 1) : VV n (setP V x b) := by
  refine ⟨by rw [setP_len]; exact hV.len, fun i => ?_⟩
  unfold setP
  by_cases hi : x.natAbs - 1 < V.length
  · rw [getD_set hi]
    split
    · split <;> omega
    · exact hV.val i
  · rw [List.set_eq_of_length_le (by omega)]; exact hV.val i
theorem setP_val (hl : (V.length : Int) = n) {x y b : Int} (h0 : x ≠ 0) (h1 : -n ≤ x) (h2 : x ≤ n) (hy : y ≠ 0) :
    valP (setP V x b) y = if y = x then b else if y = -x then -b else valP V y := by
  unfold valP setP
  rw [getD_set (by omega)]
  by_cases e1 : y = x
  · subst e1
    rw [if_pos rfl, if_pos rfl]
    split <;> split <;> omega
  · by_cases e2 : y = -x
    · subst e2
      rw [if_neg e1, if_pos rfl, Int.natAbs_neg, if_pos rfl]
      split <;> split <;> omega
    · rw [if_neg e1, if_neg e2, if_neg (show ¬ (x.natAbs - 1 = y.natAbs - 1) by omega)]
theorem setP_back (hl : (V.length : Int) = n) {x : Int} (h0 : x ≠ 0) (h1 : -n ≤ x) (h2 : x ≤ n) (hv : valP V x = 0) : setP (setP V x 1) x 0 = V := by
  unfold setP
  rw [List.set_set]
  unfold valP at hv
  have : V.getD (x.natAbs - 1) 0 = 0 := by split at hv <;> omega
  have hi : x.natAbs - 1 < V.length := by omega
  have e : (if x < 0 then -(0 : Int) else 0) = V[x.natAbs - 1] := by
    have h3 : V.getD (x.natAbs - 1) 0 = V[x.natAbs - 1] := by simp [List.getD, hi]
    rw [← h3, this]; split <;> rfl
  rw [e]; exact List.set_getElem_self hi
end
end Go.Dc

set_option linter.unusedVariables false
set_option linter.unusedSimpArgs false
set_option linter.unusedSectionVars false
/-! The clauses that the statements make. -/
namespace Go.Dc

theorem COk.snoc {n v x : Int} {c : List Int} (h : COk n c) (hv : ∀ y ∈ c, (y.natAbs : Int) ≤ v) (hl : c.length ≤ 49) (hx : v < x.natAbs) (hx2 : (x.natAbs : Int) ≤ n) (hv0 : 0 ≤ v) : COk n (c ++ [x]) := by
  refine ⟨by simp; omega, fun y hy => ?_, List.pairwise_append.2 ⟨h.asc, by simp, fun y hy z hz => ?_⟩⟩
  · rcases List.mem_append.1 hy with h1 | h1
    · exact h.rng y h1
    · rw [List.mem_singleton.1 h1]; omega
  · rw [List.mem_singleton.1 hz]; have := hv y hy; omega

theorem Clause_plain {s : T_deliberationkeep_Src} (hs : RdOk s) {n : Int} (h0 : 0 ≤ n) (h1 : n ≤ 1000) : T (keep_Src_Clause_m s n) fun r => RdOk r.1 ∧ COk n r.2 ∧ r.2.length ≤ 4 := by
  unfold keep_Src_Clause_m
  refine T.bind (N_plain hs (by omega)) fun k hk => ?_
  obtain ⟨hk1, hk2⟩ := hk
  have hk3 := hk2 (by omega)
  refine T.bind (P := fun r => RdOk ⟨r.1, r.2.1⟩ ∧ COk n r.2.2 ∧ r.2.2.length ≤ 4) ?_ fun r hr => .ret hr
  refine T.loopM (fun s => 0 ≤ s.1 ∧ s.1 ≤ n ∧ -1 ≤ s.2.1 ∧ (s.2.2.2.2.length : Int) + s.2.1 ≤ 3 ∧ RdOk ⟨s.2.2.1, s.2.2.2.1⟩ ∧ COk n s.2.2.2.2 ∧ ∀ y ∈ s.2.2.2.2, (y.natAbs : Int) ≤ s.1) (fun s => (s.2.1 + 1).toNat) ⟨by simp, by simpa using h0, by simp only; omega, by simp; omega, hk1, ⟨by simp, by simp, by simp⟩, by simp⟩ fun s hs => ?_
  obtain ⟨v, k, L, At, out⟩ := s
  obtain ⟨a1, a2, a3, a4, a5, a6, a7⟩ := hs
  simp only at a1 a2 a3 a4 a5 a6 a7
  unfold keep_Src_Clause_l1
  dsimp only
  refine T.cond (fun h => ?_) fun h => .ret ⟨a5, a6, by dsimp only; omega⟩
  simp only [ge_iff_le, decide_eq_true_eq] at h
  refine T.cond (fun h2 => ?_) fun h2 => .ret ⟨a5, a6, by simp only; omega⟩
  simp only [decide_eq_true_eq] at h2
  refine T.bind (N_plain a5 (by omega)) fun t ht => ?_
  obtain ⟨b1, b2⟩ := ht
  have b3 := b2 (by omega)
  rw [iadd64 (x := 1) (by omega) (by omega), iadd64 (by omega) (by omega)]
  refine T.cond (fun h3 => .ret ⟨b1, a6, by simp only; omega⟩) fun h3 => ?_
  simp only [gt_iff_lt, decide_eq_false_iff_not, Int.not_lt] at h3
  refine T.bind (N_plain b1 (by omega)) fun u hu => ?_
  obtain ⟨c1, c2⟩ := hu
  have c3 := c2 (by omega)
  have c4 : u.1 = 0 ∨ u.1 = 1 := by omega
  have e2 : imul .i64 2 u.1 = 2 * u.1 := imul64 (by omega) (by omega)
  have e3 : isub .i64 1 (2 * u.1) = 1 - 2 * u.1 := isub64 (by omega) (by omega)
  have hx : ∃ x, imul .i64 (v + (1 + t.1)) (isub .i64 1 (imul .i64 2 u.1)) = x ∧ (x.natAbs : Int) = v + (1 + t.1) := by
    rw [e2, e3]
    refine ⟨_, imul64 ?_ ?_, ?_⟩ <;> rcases c4 with c4 | c4 <;> rw [c4] <;> omega
  obtain ⟨x, ex, ex2⟩ := hx
  rw [ex, appM_eq (by simp; omega), isub64 (by omega) (by omega)]
  refine .ret ⟨⟨by dsimp only; omega, by dsimp only; omega, by dsimp only; omega, by simp; omega, c1, a6.snoc a7 (by omega) (by omega) (by omega) (by omega), fun y hy => ?_⟩, by simp only; omega⟩
  rcases List.mem_append.1 hy with h5 | h5
  · have := a7 y h5; simp only; omega
  · rw [List.mem_singleton.1 h5]; simp only; omega

theorem Clauses_plain {s : T_deliberationkeep_Src} (hs : RdOk s) {n most : Int} (h0 : 0 ≤ n) (h1 : n ≤ 1000) (m0 : 0 ≤ most) (m1 : most ≤ 1000) :
    T (keep_Src_Clauses_m s most n) fun r => RdOk r.1 ∧ (∀ c ∈ r.2, COk n c ∧ c.length ≤ 4) ∧ (r.2.length : Int) ≤ most := by
  unfold keep_Src_Clauses_m
  rw [iadd64 (by omega) (by omega)]
  refine T.bind (N_plain hs (by omega)) fun k hk => ?_
  obtain ⟨hk1, hk2⟩ := hk
  have hk3 := hk2 (by omega)
  refine T.bind (P := fun r => RdOk ⟨r.1, r.2.1⟩ ∧ (∀ c ∈ r.2.2, COk n c ∧ c.length ≤ 4) ∧ (r.2.2.length : Int) ≤ most) ?_ fun r hr => .ret hr
  refine T.loopM (fun s => 0 ≤ s.1 ∧ (s.2.2.2.length : Int) + s.1 ≤ most ∧ RdOk ⟨s.2.1, s.2.2.1⟩ ∧ ∀ c ∈ s.2.2.2, COk n c ∧ c.length ≤ 4) (fun s => s.1.toNat) ⟨by simp only; omega, by simp; omega, hk1, by simp⟩ fun s hs => ?_
  obtain ⟨k, L, At, out⟩ := s
  obtain ⟨a1, a2, a3, a4⟩ := hs
  simp only at a1 a2 a3 a4
  unfold keep_Src_Clauses_l1
  dsimp only
  refine T.cond (fun h => ?_) fun h => .ret ⟨a3, a4, by simp only; omega⟩
  simp only [gt_iff_lt, decide_eq_true_eq] at h
  refine T.bind (Clause_plain a3 h0 h1) fun c hc => ?_
  obtain ⟨b1, b2, b3⟩ := hc
  have add : ∀ x ∈ out ++ [c.2], COk n x ∧ x.length ≤ 4 := fun x hx => by
    rcases List.mem_append.1 hx with h5 | h5
    · exact a4 x h5
    · rw [List.mem_singleton.1 h5]; exact ⟨b2, b3⟩
  rw [isub64 (by omega) (by omega)]
  refine T.cond (fun h3 => ?_) fun h3 => ?_
  · rw [appM_eq (by simp; omega)]
    exact .ret ⟨⟨by simp only; omega, by simp; omega, b1, add⟩, by simp only; omega⟩
  · refine T.bind (N_plain b1 (by omega)) fun t ht => ?_
    refine T.cond (fun h4 => ?_) fun h4 => .ret ⟨⟨by simp only; omega, by simp only; omega, ht.1, a4⟩, by simp only; omega⟩
    rw [appM_eq (by simp; omega)]
    exact .ret ⟨⟨by simp only; omega, by simp; omega, ht.1, add⟩, by simp only; omega⟩

theorem Pick_plain {s : T_deliberationkeep_Src} (hs : RdOk s) {l : List Int} (h0 : l ≠ []) (h1 : l.length ≤ 1000) : T (keep_Src_Pick_m s l) fun r => r.1 ∈ l ∧ RdOk r.2 := by
  unfold keep_Src_Pick_m
  refine T.bind (N_plain hs (by omega)) fun t ht => ?_
  have hl : 0 < l.length := List.length_pos_iff.2 h0
  have h2 := ht.2 (by omega)
  rw [idxM_eq h2.1 (by omega)]
  exact .ret ⟨List.getElem_mem _, ht.1⟩

/-- lists that are small enough for anything -/
def Sml (N : Nat) (l : List (List Int)) : Prop := l.length ≤ N ∧ ∀ c ∈ l, c.length ≤ N
theorem Sml.set {N : Nat} {l : List (List Int)} (h : Sml N l) {i : Nat} {c : List Int} (hc : c.length ≤ N) : Sml N (l.set i c) := by
  refine ⟨by simpa using h.1, fun x hx => ?_⟩
  rcases List.mem_or_eq_of_mem_set hx with h1 | h1
  · exact h.2 x h1
  · rw [h1]; exact hc
theorem Sml.mono {N M : Nat} {l : List (List Int)} (h : Sml N l) (hM : N ≤ M) : Sml M l := ⟨by have := h.1; omega, fun c hc => by have := h.2 c hc; omega⟩

theorem spoilt_plain {s : T_deliberationkeep_Src} (hs : RdOk s) {l : List (List Int)} {n : Int} {N : Nat} (hl : Sml N l) (hN : N ≤ 100) :
    T (law04_spoilt_s1_m s l n) fun r => RdOk r.1 ∧ Sml (N + 1) r.2 := by
  unfold law04_spoilt_s1_m
  have hl1 := hl.1
  rw [appM_eq (by simp; omega)]
  refine T.bind (T.ret rfl) fun o ho => ?_
  subst ho
  simp only [List.nil_append]
  refine T.cond (fun h => ?_) fun h => ?_
  · have : l = [] := by simpa using h
    subst this
    rw [appM_eq (by simp)]
    exact T.bind (T.ret rfl) fun a ha => .ret ⟨hs, by subst ha; exact ⟨by simp, by simp⟩⟩
  · have hne : l ≠ [] := by rintro rfl; simp at h
    have hpos := List.length_pos_iff.2 hne
    refine T.bind (N_plain hs (by omega)) fun i hi => ?_
    have hi2 := hi.2 (by omega)
    have hiN : i.1.toNat < l.length := by omega
    have hidx : idxM l i.1 = some l[i.1.toNat] := idxM_eq hi2.1 hiN
    have hc : l[i.1.toNat].length ≤ N := hl.2 _ (List.getElem_mem _)
    generalize l[i.1.toNat] = c at hc hidx
    rw [hidx]
    refine T.bind (T.ret rfl) fun t ht => ?_
    subst ht
    rw [appM_eq (by simp; omega)]
    refine T.bind (T.ret rfl) fun t ht => ?_
    subst ht
    simp only [List.nil_append]
    refine T.bind (N_plain hi.1 (by omega)) fun q hq => ?_
    have hl2 : Sml (N + 1) l := hl.mono (by omega)
    refine T.cond (fun h1 => ?_) fun h1 => T.cond (fun h2 => ?_) fun h2 => T.cond (fun h3 => ?_) fun h3 => ?_
    · refine T.bind (Pick_plain hq.1 (by simp) (by simp)) fun p hp => ?_
      rw [appM_eq (by simp; omega)]
      simp only [Option.bind_some]
      exact .ret ⟨hp.2, hl2.set (by simp; omega)⟩
    · refine T.cond (fun h4 => ?_) fun h4 => .ret ⟨hq.1, hl2.set (by omega)⟩
      have hc0 : 0 < c.length := by simpa using h4
      rw [show (0 : Int) = ((0 : Nat) : Int) from rfl, idxM_nat hc0]
      simp only [Option.bind_some]
      rw [appM_eq (by simp; omega)]
      exact .ret ⟨hq.1, hl2.set (by simp; omega)⟩
    · refine T.cond (fun h4 => ?_) fun h4 => .ret ⟨hq.1, hl2.set (by omega)⟩
      have hc0 : 1 < c.length := by simp at h4; omega
      have e0 : ∀ d : List Int, d.length = c.length → ∃ x, idxM d 0 = some x := fun d hd => ⟨_, idxM_nat (n := 0) (by omega)⟩
      have e1 : ∀ d : List Int, d.length = c.length → ∃ x, idxM d 1 = some x := fun d hd => ⟨_, idxM_nat (n := 1) (by omega)⟩
      obtain ⟨x0, f0⟩ := e0 c rfl
      obtain ⟨x1, f1⟩ := e1 c rfl
      obtain ⟨x2, f2⟩ := e1 (c.set (Int.toNat 0) x1) (by simp)
      rw [f1]; simp only [Option.bind_some]
      rw [f0]; simp only [Option.bind_some]
      rw [f2]; simp only [Option.bind_some]
      exact .ret ⟨hq.1, hl2.set (by simp; omega)⟩
    · rw [appM_eq (by simp; omega)]
      simp only [Option.bind_some]
      exact .ret ⟨hq.1, hl2.set (by simp; omega)⟩

theorem SmallLists_plain {l : List (List Int)} {n : Int} (hn : 0 ≤ n) (hn2 : n ≤ 1000) (hlen : l.length ≤ 9223372036854775807) : T (keep_SmallLists_m l n) fun b => b = true → Sml n.toNat l := by
  unfold keep_SmallLists_m
  rw [find_bind (l := l) (fun c => if n < c.length then some false else none) (fun i hi => by
    unfold keep_SmallLists_l1
    rw [show decide ((i : Int) < (l.length : Int)) = true by simp [hi], cond_true, idxM_nat hi, iadd64 (by omega) (by omega)]
    simp only [Option.bind_some]
    by_cases h : n < l[i].length
    · rw [if_pos h, show decide ((l[i].length : Int) > n) = true by simp [h]]; rfl
    · rw [if_neg h, show decide ((l[i].length : Int) > n) = false by simp; omega]; rfl) (by unfold keep_SmallLists_l1; simp)]
  cases hf : l.findSome? fun c => if n < c.length then some false else none with
  | some r =>
    obtain ⟨y, _, hy⟩ := List.exists_of_findSome?_eq_some hf
    split at hy
    · cases hy; exact .ret (by simp)
    · cases hy
  | none =>
    rw [List.findSome?_eq_none_iff] at hf
    refine .ret fun h => ?_
    simp only [decide_eq_true_eq] at h
    refine ⟨by omega, fun c hc => ?_⟩
    have := hf c hc
    split at this
    · cases this
    · omega
end Go.Dc

/-! What the compacted list is, in plain words. -/
set_option linter.unusedVariables false
namespace Go.Dc
open Go.Proofs

theorem compact_get {zs : List Int} : Lib.compact zs = ((List.range zs.length).filter (Lib.keeps zs.toArray)).map (fun j => zs[j]?.getD 0) := by
  unfold Lib.compact Lib.compactUpTo
  apply List.map_congr_left
  intro j hj
  have : j < zs.length := by have := (List.mem_filter.1 hj).1; simpa using this
  simp [this]

theorem keeps_iff {zs : List Int} {j : Nat} (hj : j < zs.length) : Lib.keeps zs.toArray j = true ↔ j = 0 ∨ zs[j]?.getD 0 ≠ zs[j - 1]?.getD 0 := by
  have h1 : j - 1 < zs.length := by omega
  unfold Lib.keeps
  by_cases h : j = 0
  · simp [h]
  · simp [h, hj, h1]

theorem mem_compact {zs : List Int} {x : Int} : x ∈ Lib.compact zs ↔ x ∈ zs := by
  rw [compact_get, List.mem_map]
  constructor
  · rintro ⟨j, hj, rfl⟩
    have hj : j < zs.length := by simpa using (List.mem_filter.1 hj).1
    rw [List.getElem?_eq_getElem hj]; exact List.getElem_mem hj
  · intro hx
    obtain ⟨j, hj, rfl⟩ := List.getElem_of_mem hx
    suffices ∀ n j (hj : j < zs.length), j ≤ n → ∃ i, i ∈ (List.range zs.length).filter (Lib.keeps zs.toArray) ∧ zs[i]?.getD 0 = zs[j] from this j j hj (Nat.le_refl _)
    intro n
    induction n with
    | zero =>
      intro j hj hn
      exact ⟨j, List.mem_filter.2 ⟨by simpa using hj, (keeps_iff hj).2 (.inl (by omega))⟩, by simp [hj]⟩
    | succ n ih =>
      intro j hj hn
      by_cases hk : Lib.keeps zs.toArray j = true
      · exact ⟨j, List.mem_filter.2 ⟨by simpa using hj, hk⟩, by simp [hj]⟩
      · have h2 := fun h => hk ((keeps_iff hj).2 h)
        have h0 : j ≠ 0 := fun h => h2 (.inl h)
        have h3 : zs[j]?.getD 0 = zs[j - 1]?.getD 0 := Classical.byContradiction fun h => h2 (.inr h)
        obtain ⟨i, hi, he⟩ := ih (j - 1) (by omega) (by omega)
        refine ⟨i, hi, he.trans ?_⟩
        have h4 : j - 1 < zs.length := by omega
        simpa [hj, h4] using h3.symm

theorem compact_rel {lt : Int → Int → Prop} (tr : ∀ x y z, lt x y → lt y z → lt x z) {zs : List Int} (h : zs.Pairwise fun x y => lt x y ∨ x = y) : (Lib.compact zs).Pairwise lt := by
  rw [compact_get, List.pairwise_map]
  have hp : ((List.range zs.length).filter (Lib.keeps zs.toArray)).Pairwise (· < ·) := List.Pairwise.filter _ List.pairwise_lt_range
  refine List.Pairwise.imp_of_mem ?_ hp
  intro i j hi hj hij
  have hi' : i < zs.length := by simpa using (List.mem_filter.1 hi).1
  have hj' : j < zs.length := by simpa using (List.mem_filter.1 hj).1
  have hk := (keeps_iff hj').1 (List.mem_filter.1 hj).2
  have hg := List.pairwise_iff_getElem.1 h
  have h1 : j - 1 < zs.length := by omega
  have h2 : lt zs[i] zs[j - 1] ∨ zs[i] = zs[j - 1] := by
    by_cases e : i = j - 1
    · subst e; exact .inr rfl
    · exact hg i (j - 1) hi' h1 (by omega)
  have h3 : lt zs[j - 1] zs[j] ∨ zs[j - 1] = zs[j] := hg (j - 1) j h1 hj' (by omega)
  rcases hk with hk | hk
  · omega
  · simp [hi', hj', h1] at hk ⊢
    rcases h3 with h3 | h3
    · rcases h2 with h2 | h2
      · exact tr _ _ _ h2 h3
      · rw [h2]; exact h3
    · exact absurd h3.symm hk

end Go.Dc

set_option linter.unusedVariables false
set_option linter.unusedSimpArgs false
set_option linter.unusedSectionVars false
/-! Resolvents. -/
namespace Go.Dc
open Go.Proofs Go.Sort Go.Shelf

/-! ### lists that ascend -/
theorem asc_ext : ∀ {a b : List Int}, Asc a → Asc b → (∀ x, x ∈ a ↔ x ∈ b) → a = b
  | [], [], _, _, _ => rfl
  | [], y :: b, _, _, h => by have := (h y).2 (by simp); simp at this
  | x :: a, [], _, _, h => by have := (h x).1 (by simp); simp at this
  | x :: a, y :: b, ha, hb, h => by
    have ha' := List.pairwise_cons.1 ha
    have hb' := List.pairwise_cons.1 hb
    have hxy : x = y := by
      rcases List.mem_cons.1 ((h x).1 (by simp)) with e | e
      · exact e
      · rcases List.mem_cons.1 ((h y).2 (by simp)) with e2 | e2
        · exact e2.symm
        · have := ha'.1 y e2; have := hb'.1 x e; omega
    subst hxy
    congr 1
    refine asc_ext ha'.2 hb'.2 fun z => ⟨fun hz => ?_, fun hz => ?_⟩
    · rcases List.mem_cons.1 ((h z).1 (by simp [hz])) with e | e
      · have := ha'.1 z hz; subst e; omega
      · exact e
    · rcases List.mem_cons.1 ((h z).2 (by simp [hz])) with e | e
      · have := hb'.1 z hz; subst e; omega
      · exact e

/-! ### the order -/
def absW (x : Int) : Int := imax x (ineg .i64 x)
theorem absW_eq {x : Int} (h0 : -1000 ≤ x) (h1 : x ≤ 1000) : absW x = x.natAbs := by unfold absW; rw [ineg64 (by omega) (by omega), imax_abs]
def cmpI (x y : Int) : Int := if x < y then -1 else if y < x then 1 else 0
theorem Compare_plain {x y : Int} : cmp_Compare_int_m x y = some (cmpI x y) := by
  unfold cmp_Compare_int_m cmp_isNaN_int_m cmpI
  simp only [bne_self_eq_false, Option.bind_some, cond_false]
  by_cases h : x < y
  · simp [h]
  · by_cases h2 : y < x
    · simp [h, h2]
    · simp [h, h2]
def cmpR (x y : Int) : Int := if cmpI (absW x) (absW y) = 0 then cmpI x y else cmpI (absW x) (absW y)
theorem Or_plain {x y : Int} : cmp_Or_int_m [x, y] = some (if x = 0 then y else x) := by
  unfold cmp_Or_int_m
  rw [find_bind (l := [x, y]) (fun a => if a = 0 then none else some a) (fun i hi => by
    unfold cmp_Or_int_l1
    rw [show decide ((i : Int) < (([x, y] : List Int).length : Int)) = true by simp at hi ⊢; omega, cond_true, idxM_nat hi, iadd64 (by simp at hi; omega) (by simp at hi; omega)]
    simp only [Option.bind_some]
    by_cases h : [x, y][i] = 0
    · rw [if_pos h, h]; rfl
    · rw [if_neg h, show ([x, y][i] != 0) = true from by simpa using h]; rfl) (by unfold cmp_Or_int_l1; simp)]
  by_cases hx : x = 0
  · by_cases hy : y = 0
    · simp [hx, hy]
    · simp [hx, hy]
  · simp [hx]
theorem Resolve_1_plain {x y : Int} : proof_Resolve_1_m x y = some (cmpR x y) := by
  unfold proof_Resolve_1_m proof_abs_m
  simp only [Option.bind_some, Compare_plain, Or_plain]
  rfl

def ltR (x y : Int) : Prop := absW x < absW y ∨ absW x = absW y ∧ x < y
theorem cmpR_lt {x y : Int} : cmpR x y < 0 ↔ ltR x y := by
  unfold cmpR cmpI ltR
  by_cases h1 : absW x < absW y
  · simp [h1]
  · by_cases h2 : absW y < absW x
    · simp [h1, h2]; omega
    · have : absW x = absW y := by omega
      simp only [this, Int.lt_irrefl, if_false, if_true, false_or, true_and]
      by_cases h3 : x < y
      · simp [h3]
      · by_cases h4 : y < x <;> simp [h3, h4]
theorem cfo_R {x y : Int} : cfo proof_Resolve_1_m x y = cmpR x y := by unfold cfo; rw [Resolve_1_plain]; rfl
theorem ltOf_R {x y : Int} : ltOf (cfo proof_Resolve_1_m) x y = true ↔ ltR x y := by unfold ltOf; rw [decide_eq_true_iff, cfo_R, cmpR_lt]
theorem ltOf_Rf {x y : Int} : ltOf (cfo proof_Resolve_1_m) x y = false ↔ ¬ ltR x y := by rw [← ltOf_R]; simp
theorem ltR_trans (x y z : Int) (h1 : ltR x y) (h2 : ltR y z) : ltR x z := by unfold ltR at *; omega
theorem cmpOk_R : CmpOk proof_Resolve_1_m where
  tot := fun x y => by rw [cfo_R, Resolve_1_plain]
  swo := ⟨fun x => by rw [ltOf_Rf]; unfold ltR; omega, fun x y z h1 h2 => by rw [ltOf_R] at *; exact ltR_trans x y z h1 h2, fun x y z h1 h2 => by rw [ltOf_Rf] at *; unfold ltR at *; omega⟩
  sep := fun x y h1 h2 => by rw [ltOf_Rf] at *; unfold ltR at *; omega

theorem sort_R {l : List Int} (h : l.length ≤ 1000) : ∃ r, sortFM proof_Resolve_1_m l = some r ∧ r.Perm l ∧ r.Pairwise fun x y => ltR x y ∨ x = y := by
  refine ⟨sortL proof_Resolve_1_m l, by unfold sortFM; rw [if_pos ⟨by omega, cmpOk_R⟩], List.mergeSort_perm _ _, ?_⟩
  have hs := List.pairwise_mergeSort (le := fun x y => !(ltOf (cfo proof_Resolve_1_m)) y x)
    (fun a b c h1 h2 => by simp only [Bool.not_eq_true', ltOf_Rf] at *; unfold ltR at *; omega)
    (fun a b => by
      cases h1 : ltOf (cfo proof_Resolve_1_m) b a with
      | false => rfl
      | true =>
        cases h2 : ltOf (cfo proof_Resolve_1_m) a b with
        | false => rfl
        | true => rw [ltOf_R] at h1 h2; unfold ltR at h1 h2; omega) l
  refine hs.imp fun {x y} h => ?_
  simp only [Bool.not_eq_true', ltOf_Rf] at h
  unfold ltR at *
  omega

/-! ### the resolvent -/
def litsR (a b : List Int) (p : Int) : List Int := (a ++ b).filter fun x => decide ((x.natAbs : Int) ≠ p)
def pickV (L : List Int) (v : Nat) : Option Int := if (v : Int) ∈ L then some v else if -(v : Int) ∈ L then some (-(v : Int)) else none
def outR (L : List Int) : List Int := (List.range' 1 200).filterMap (pickV L)
def tautR (L : List Int) : Bool := L.any fun x => L.contains (-x)
def ResolveP (a b : List Int) (p : Int) : Bool × List Int :=
  if p < 1 ∨ clauseP 200 a ≠ 0 ∨ clauseP 200 b ≠ 0 ∨ p ∉ a ∨ -p ∉ b then (false, []) else
  if tautR (litsR a b p) = true then (false, []) else if 50 < (outR (litsR a b p)).length then (false, []) else (true, outR (litsR a b p))

theorem mem_lits {a b : List Int} {p x : Int} : x ∈ litsR a b p ↔ (x ∈ a ∨ x ∈ b) ∧ (x.natAbs : Int) ≠ p := by
  simp only [litsR, List.mem_filter, List.mem_append, decide_eq_true_eq]
theorem lits_rng {a b : List Int} {p x : Int} (ha : COk 200 a) (hb : COk 200 b) (h : x ∈ litsR a b p) : x ≠ 0 ∧ -200 ≤ x ∧ x ≤ 200 := by
  rcases (mem_lits.1 h).1 with h1 | h1
  · exact ha.rng x h1
  · exact hb.rng x h1
theorem pickV_abs {L : List Int} {v : Nat} {x : Int} (h : pickV L v = some x) : x.natAbs = v ∧ x ∈ L := by
  unfold pickV at h
  split at h
  · cases h; exact ⟨by omega, by assumption⟩
  · split at h
    · cases h; exact ⟨by omega, by assumption⟩
    · cases h
theorem outR_asc {L : List Int} : Asc (outR L) := by
  unfold outR
  refine List.pairwise_filterMap.2 ?_
  refine (List.pairwise_lt_range' (s := 1) (n := 200)).imp fun {u v} huv x hx y hy => ?_
  rw [(pickV_abs hx).1, (pickV_abs hy).1]; exact huv
theorem tautR_iff {L : List Int} : tautR L = true ↔ ∃ x ∈ L, -x ∈ L := by simp [tautR]
theorem mem_outR {L : List Int} (hr : ∀ x ∈ L, x ≠ 0 ∧ -200 ≤ x ∧ x ≤ 200) (ht : tautR L = false) {x : Int} : x ∈ outR L ↔ x ∈ L := by
  unfold outR
  rw [List.mem_filterMap]
  constructor
  · rintro ⟨v, _, hv⟩; exact (pickV_abs hv).2
  · intro hx
    have h1 := hr x hx
    refine ⟨x.natAbs, List.mem_range'_1.2 ⟨by omega, by omega⟩, ?_⟩
    have hno : ¬ (-x ∈ L) := fun h => by rw [tautR_iff.2 ⟨x, hx, h⟩] at ht; cases ht
    unfold pickV
    by_cases hp : 0 < x
    · rw [show ((x.natAbs : Nat) : Int) = x by omega, if_pos hx]
    · have e : ((x.natAbs : Nat) : Int) = -x := by omega
      rw [e, if_neg hno, Int.neg_neg, if_pos hx]

/-- what is said of a resolvent -/
theorem ResolveP_true {a b : List Int} {p : Int} {c : List Int} (h : ResolveP a b p = (true, c)) :
    1 ≤ p ∧ COk 200 a ∧ COk 200 b ∧ p ∈ a ∧ -p ∈ b ∧ COk 200 c ∧ ∀ x, x ∈ c ↔ x ∈ litsR a b p := by
  unfold ResolveP at h
  split at h
  · cases h
  · rename_i h1
    simp only [not_or, Classical.not_not] at h1
    obtain ⟨q1, q2, q3, q4, q5⟩ := h1
    split at h
    · cases h
    · rename_i h2
      split at h
      · cases h
      · rename_i h3
        cases h
        have ha := clauseP_ok.1 q2
        have hb := clauseP_ok.1 q3
        have hm : ∀ x, x ∈ outR (litsR a b p) ↔ x ∈ litsR a b p := fun x => mem_outR (fun x hx => lits_rng ha hb hx) (by simpa using h2)
        exact ⟨by omega, ha, hb, q4, q5, ⟨by omega, fun x hx => lits_rng ha hb ((hm x).1 hx), outR_asc⟩, hm⟩
theorem ResolveP_some {a b : List Int} {p : Int} (hp : 1 ≤ p) (ha : COk 200 a) (hb : COk 200 b) (h1 : p ∈ a) (h2 : -p ∈ b) (ht : ∀ x ∈ litsR a b p, -x ∉ litsR a b p) (hl : (outR (litsR a b p)).length ≤ 50) :
    ResolveP a b p = (true, outR (litsR a b p)) := by
  unfold ResolveP
  rw [if_neg (by simp only [not_or, Classical.not_not]; exact ⟨by omega, clauseP_ok.2 ha, clauseP_ok.2 hb, h1, h2⟩)]
  have : tautR (litsR a b p) = false := by
    cases h : tautR (litsR a b p) with
    | false => rfl
    | true => obtain ⟨x, hx, hy⟩ := tautR_iff.1 h; exact absurd hy (ht x hx)
  rw [this, if_neg (by simp), if_neg (by omega)]

theorem Contains_plain {l : List Int} {x : Int} (hl : l.length ≤ 1000) : slices_Contains_int_int_m l x = some (decide (x ∈ l)) := by
  have h : T (slices_Index_int_int_m l x) fun r => 0 ≤ r ↔ x ∈ l := by
    unfold slices_Index_int_int_m
    refine T.bind (P := fun r => match r with | .inl r => 0 ≤ r ∧ x ∈ l | .inr _ => x ∉ l) (T.loopK l.length (fun k s => s = (k : Int) ∧ x ∉ l.take k) ⟨rfl, by simp⟩ fun k s hs => ?_) fun r hr => ?_
    · obtain ⟨rfl, hn⟩ := hs
      unfold slices_Index_int_int_l1
      refine T.cond (fun h => ?_) fun h => .ret ?_
      · simp only [decide_eq_true_eq] at h
        have hk : k < l.length := by omega
        rw [idxM_nat hk, iadd64 (by omega) (by omega)]
        simp only [Option.bind_some]
        refine T.cond (fun h2 => .ret ⟨by omega, ?_⟩) fun h2 => .ret ⟨hk, by omega, ?_⟩
        · rw [eq_of_beq h2]; exact List.getElem_mem hk
        · rw [← List.take_append_getElem hk, List.mem_append, List.mem_singleton]
          rintro (h3 | h3)
          · exact hn h3
          · subst h3; simp at h2
      · simp only [decide_eq_false_iff_not] at h
        rw [List.take_of_length_le (by omega)] at hn
        exact hn
    · match r, hr with
      | .inl r, hr => exact .ret ⟨fun _ => hr.2, fun _ => hr.1⟩
      | .inr u, hr => exact .ret ⟨fun h => by omega, fun h => absurd h hr⟩
  unfold slices_Contains_int_int_m
  obtain ⟨r, h1, h2⟩ := h
  rw [h1]
  simp only [Option.bind_some]
  by_cases hx : x ∈ l
  · rw [decide_eq_true hx]; simp [h2.2 hx]
  · rw [decide_eq_false hx]; have : ¬ 0 ≤ r := fun h => hx (h2.1 h); simp [this]

theorem Resolve_l1_plain {p : Int} {t out : List Int} (ht : t.length ≤ 50) (hr : ∀ x ∈ t, -200 ≤ x ∧ x ≤ 200) (ho : out.length ≤ 50) :
    loopC (proof_Resolve_l1 p t) (0, out) = some (out ++ t.filter fun x => decide ((x.natAbs : Int) ≠ p)) := by
  refine T.eq (T.loopK t.length (fun k s => s.1 = (k : Int) ∧ k ≤ t.length ∧ s.2 = out ++ (t.take k).filter fun x => decide ((x.natAbs : Int) ≠ p)) ⟨rfl, by omega, by simp⟩ fun k s hs => ?_)
  obtain ⟨i, o⟩ := s
  obtain ⟨e1, e2, e3⟩ := hs
  dsimp only at e1 e3
  subst e1
  unfold proof_Resolve_l1
  dsimp only
  have hol : o.length ≤ 50 + k := by
    rw [e3, List.length_append]
    have := List.length_filter_le (fun x : Int => decide ((x.natAbs : Int) ≠ p)) (t.take k)
    simp only [List.length_take] at this
    omega
  refine T.cond (fun h => ?_) fun h => .ret ?_
  · simp only [decide_eq_true_eq] at h
    have hk : k < t.length := by omega
    have h1 := hr _ (List.getElem_mem hk)
    rw [idxM_nat hk, iadd64 (by omega) (by omega)]
    simp only [Option.bind_some]
    rw [abs_plain (by omega) (by omega)]
    simp only [Option.bind_some]
    have e4 : (t.take (k + 1)).filter (fun x => decide ((x.natAbs : Int) ≠ p)) = (t.take k).filter (fun x => decide ((x.natAbs : Int) ≠ p)) ++ if (t[k].natAbs : Int) ≠ p then [t[k]] else [] := by
      rw [← List.take_append_getElem hk, List.filter_append]
      congr 1
      by_cases h2 : (t[k].natAbs : Int) = p
      · simp [h2]
      · simp [h2]
    refine T.cond (fun h2 => ?_) fun h2 => .ret ⟨hk, by omega, by omega, ?_⟩
    · rw [appM_eq (by simp; omega)]
      refine .ret ⟨hk, by dsimp only; omega, by omega, ?_⟩
      rw [e4, if_pos (by simpa using h2), e3, List.append_assoc]
    · rw [e4, if_neg (by simpa using h2), e3, List.append_nil]
  · simp only [decide_eq_false_iff_not] at h
    rw [List.take_of_length_le (by omega)] at e3
    exact e3

theorem Resolve_l2_plain {a b : List Int} {p : Int} (ha : COk 200 a) (hb : COk 200 b) : loopC (proof_Resolve_l2 a b p) (0, []) = some (litsR a b p) := by
  have ra : ∀ x ∈ a, -200 ≤ x ∧ x ≤ 200 := fun x hx => (ha.rng x hx).2
  have rb : ∀ x ∈ b, -200 ≤ x ∧ x ≤ 200 := fun x hx => (hb.rng x hx).2
  have fa : (a.filter fun x => decide ((x.natAbs : Int) ≠ p)).length ≤ 50 := Nat.le_trans (List.length_filter_le _ _) ha.len
  have s0 : proof_Resolve_l2 a b p (0, []) = some (.inr (1, a.filter fun x => decide ((x.natAbs : Int) ≠ p))) := by
    unfold proof_Resolve_l2
    dsimp only
    rw [show idxM [a, b] 0 = some a from rfl, Option.bind_some, Resolve_l1_plain ha.len ra (by simp)]
    rfl
  have s1 : proof_Resolve_l2 a b p (1, a.filter fun x => decide ((x.natAbs : Int) ≠ p)) = some (.inr (2, litsR a b p)) := by
    unfold proof_Resolve_l2
    dsimp only
    rw [show idxM [a, b] 1 = some b from rfl, Option.bind_some, Resolve_l1_plain hb.len rb fa, Option.bind_some, litsR, List.filter_append]
    rfl
  have s2 : proof_Resolve_l2 a b p (2, litsR a b p) = some (.inl (litsR a b p)) := rfl
  rw [loopC_eq, s0]; simp only [Option.bind_some]
  rw [loopC_eq, s1]; simp only [Option.bind_some]
  rw [loopC_eq, s2]; rfl

theorem Resolve_plain {a b : List Int} {p : Int} : proof_Resolve_m a b p = some (ResolveP a b p) := by
  unfold proof_Resolve_m ResolveP
  by_cases h1 : p < 1
  · rw [if_pos (.inl h1), decide_eq_true h1]; rfl
  rw [decide_eq_false h1, cond_false, clause_plain (by omega) (by omega), Option.bind_some]
  by_cases h2 : clauseP 200 a = 0
  rotate_left
  · rw [if_pos (.inr (.inl h2)), show (clauseP 200 a != 0) = true by simp [h2]]; rfl
  rw [h2, clause_plain (by omega) (by omega)]
  simp only [bne_self_eq_false, cond_false, Option.bind_some]
  by_cases h3 : clauseP 200 b = 0
  rotate_left
  · rw [if_pos (.inr (.inr (.inl h3))), show (clauseP 200 b != 0) = true by simp [h3]]; rfl
  have ha := clauseP_ok.1 h2
  have hb := clauseP_ok.1 h3
  rw [h3, Contains_plain (by have := ha.len; omega)]
  simp only [bne_self_eq_false, cond_false, Option.bind_some]
  by_cases h4 : p ∈ a
  rotate_left
  · rw [if_pos (.inr (.inr (.inr (.inl h4)))), decide_eq_false h4]; rfl
  have hp := ha.rng p h4
  rw [decide_eq_true h4, Contains_plain (by have := hb.len; omega), ineg64 (by omega) (by omega)]
  simp only [Bool.not_true, cond_false, Option.bind_some]
  by_cases h5 : -p ∈ b
  rotate_left
  · rw [if_pos (.inr (.inr (.inr (.inr h5)))), decide_eq_false h5]; rfl
  rw [decide_eq_true h5, Resolve_l2_plain ha hb]
  simp only [Bool.not_true, cond_false, Option.bind_some]
  rw [if_neg (by simp only [not_or, Classical.not_not]; exact ⟨h1, trivial, trivial, h4, h5⟩)]
  have hlen : (litsR a b p).length ≤ 100 := by
    have := List.length_filter_le (fun x : Int => decide ((x.natAbs : Int) ≠ p)) (a ++ b)
    have := ha.len; have := hb.len
    simp only [List.length_append] at *
    unfold litsR; omega
  obtain ⟨S, e1, e2, e3⟩ := sort_R (l := litsR a b p) (by omega)
  rw [e1, Option.bind_some]
  have e4 : compactM S = some (Lib.compact S) := by unfold compactM; rw [if_pos (by rw [e2.length_eq]; omega)]
  rw [e4, Option.bind_some, clause_s1_eq, clause_plain (by omega) (by omega), Option.bind_some]
  have hmem : ∀ x, x ∈ Lib.compact S ↔ x ∈ litsR a b p := fun x => by rw [mem_compact, e2.mem_iff]
  have hpw := compact_rel ltR_trans e3
  have hrng : ∀ x ∈ litsR a b p, x ≠ 0 ∧ -200 ≤ x ∧ x ≤ 200 := fun x hx => lits_rng ha hb hx
  by_cases ht : tautR (litsR a b p) = true
  · rw [if_pos ht]
    obtain ⟨x, hx, hy⟩ := tautR_iff.1 ht
    have hnz := (hrng x hx).1
    have : clauseP 200 (Lib.compact S) ≠ 0 := fun h => by
      have hA := (clauseP_ok.1 h).asc
      have hne : x ≠ -x := by omega
      obtain ⟨i, hi, ei⟩ := List.getElem_of_mem ((hmem x).2 hx)
      obtain ⟨j, hj, ej⟩ := List.getElem_of_mem ((hmem (-x)).2 hy)
      have hij : i ≠ j := fun e => by subst e; omega
      rcases Nat.lt_or_gt_of_ne hij with q | q
      · have := List.pairwise_iff_getElem.1 hA i j hi hj q; rw [ei, ej] at this; omega
      · have := List.pairwise_iff_getElem.1 hA j i hj hi q; rw [ei, ej] at this; omega
    rw [show (clauseP 200 (Lib.compact S) != 0) = true by simp [this]]; rfl
  · rw [if_neg ht]
    have ht' : tautR (litsR a b p) = false := by simpa using ht
    have hA : Asc (Lib.compact S) := by
      refine hpw.imp_of_mem fun {x y} hx hy hlt => ?_
      have hx' := (hmem x).1 hx
      have hy' := (hmem y).1 hy
      have q1 := hrng x hx'
      have q2 := hrng y hy'
      unfold ltR at hlt
      rw [absW_eq (by omega) (by omega), absW_eq (by omega) (by omega)] at hlt
      rcases hlt with hlt | ⟨hlt, hxy⟩
      · omega
      · have : y = -x := by omega
        subst this
        rw [tautR_iff.2 ⟨x, hx', hy'⟩] at ht'; cases ht'
    have he : Lib.compact S = outR (litsR a b p) := asc_ext hA outR_asc fun x => by rw [hmem x, mem_outR hrng ht']
    rw [he] at hA hmem ⊢
    by_cases hl : 50 < (outR (litsR a b p)).length
    · rw [if_pos hl]
      have : clauseP 200 (outR (litsR a b p)) = 2 := by unfold clauseP; rw [if_pos hl]
      rw [this]; rfl
    · rw [if_neg hl]
      have : clauseP 200 (outR (litsR a b p)) = 0 := clauseP_ok.2 ⟨by omega, fun x hx => hrng x ((hmem x).1 hx), hA⟩
      rw [this]; rfl
end Go.Dc

set_option linter.unusedVariables false
set_option linter.unusedSimpArgs false
set_option linter.unusedSectionVars false
/-! What a search has learned. -/
namespace Go.Dc

def occ (L : List (List Int)) (v : Nat) : Bool := L.any fun c => c.contains (v : Int) || c.contains (-(v : Int))
theorem occ_of {L : List (List Int)} {c : List Int} {x : Int} (hc : c ∈ L) (hx : x ∈ c) : occ L x.natAbs = true := by
  unfold occ
  refine List.any_eq_true.2 ⟨c, hc, ?_⟩
  simp only [Bool.or_eq_true, List.contains_iff_mem]
  by_cases h : 0 ≤ x
  · left; rw [show ((x.natAbs : Nat) : Int) = x by omega]; exact hx
  · right; rw [show -((x.natAbs : Nat) : Int) = x by omega]; exact hx
/-- how many variables there are -/
def nvs (L : List (List Int)) (n : Int) : Nat := ((List.range' 1 200).filter fun v : Nat => decide ((v : Int) ≤ n) && occ L v).length
/-- how many of them are open -/
def opn (L : List (List Int)) (V : List Int) : Nat := ((List.range' 1 200).filter fun v => decide (V.getD (v - 1) 1 = 0) && occ L v).length

theorem filter_le {α : Type} {p q : α → Bool} : ∀ {l : List α}, (∀ a ∈ l, p a = true → q a = true) → (l.filter p).length ≤ (l.filter q).length
  | [], _ => by simp
  | a :: l, h => by
    have ih := filter_le (p := p) (q := q) (l := l) fun b hb => h b (by simp [hb])
    have ha := h a (by simp)
    cases hp : p a <;> cases hq : q a
    · rw [List.filter_cons_of_neg (by simp [hp]), List.filter_cons_of_neg (by simp [hq])]; exact ih
    · rw [List.filter_cons_of_neg (by simp [hp]), List.filter_cons_of_pos (by simp [hq]), List.length_cons]; omega
    · rw [ha hp] at hq; cases hq
    · rw [List.filter_cons_of_pos (by simp [hp]), List.filter_cons_of_pos (by simp [hq]), List.length_cons, List.length_cons]; omega
theorem filter_lt {α : Type} {p q : α → Bool} : ∀ {l : List α}, (∀ a ∈ l, p a = true → q a = true) → (∃ a ∈ l, q a = true ∧ p a = false) → (l.filter p).length < (l.filter q).length
  | [], _, ⟨a, h, _⟩ => by simp at h
  | a :: l, h, ⟨b, hb, h1, h2⟩ => by
    have hr : ∀ c ∈ l, p c = true → q c = true := fun c hc => h c (by simp [hc])
    have ih := filter_le hr
    have ha := h a (by simp)
    rcases List.mem_cons.1 hb with e | hb
    · subst e
      rw [List.filter_cons_of_neg (by simp [h2]), List.filter_cons_of_pos (by simp [h1]), List.length_cons]; omega
    · have ih2 := filter_lt hr ⟨b, hb, h1, h2⟩
      cases hp : p a <;> cases hq : q a
      · rw [List.filter_cons_of_neg (by simp [hp]), List.filter_cons_of_neg (by simp [hq])]; exact ih2
      · rw [List.filter_cons_of_neg (by simp [hp]), List.filter_cons_of_pos (by simp [hq]), List.length_cons]; omega
      · rw [ha hp] at hq; cases hq
      · rw [List.filter_cons_of_pos (by simp [hp]), List.filter_cons_of_pos (by simp [hq]), List.length_cons, List.length_cons]; omega

theorem opn_le {L : List (List Int)} {V : List Int} {n : Int} (h : (V.length : Int) = n) : opn L V ≤ nvs L n := by
  unfold opn nvs
  refine filter_le fun v hv h1 => ?_
  simp only [Bool.and_eq_true, decide_eq_true_eq] at h1 ⊢
  refine ⟨?_, h1.2⟩
  by_cases hl : v - 1 < V.length
  · omega
  · have : V.getD (v - 1) 1 = 1 := by simp [List.getD, List.getElem?_eq_none (show V.length ≤ v - 1 by omega)]
    rw [this] at h1
    exact absurd h1.1 (by decide)
theorem opn_lt {L : List (List Int)} {V : List Int} {n x : Int} (hl : (V.length : Int) = n) (hn : n ≤ 200) (h0 : x ≠ 0) (h1 : -n ≤ x) (h2 : x ≤ n) (ho : occ L x.natAbs = true) (hv : valP V x = 0) : opn L (setP V x 1) < opn L V := by
  unfold opn
  have hi : x.natAbs - 1 < V.length := by omega
  have hg : ∀ z : Int, V.getD (x.natAbs - 1) z = 0 := fun z => by
    unfold valP at hv
    have : V.getD (x.natAbs - 1) 0 = 0 := by split at hv <;> omega
    simpa [List.getD, hi] using this
  refine filter_lt (fun v _ h => ?_) ⟨x.natAbs, List.mem_range'_1.2 ⟨by omega, by omega⟩, ?_, ?_⟩
  · simp only [Bool.and_eq_true, decide_eq_true_eq] at h ⊢
    refine ⟨?_, h.2⟩
    have h3 := h.1
    unfold setP at h3
    rw [getD_set hi] at h3
    split at h3
    · rename_i e; rw [← e]; exact hg 1
    · exact h3
  · simp only [Bool.and_eq_true, decide_eq_true_eq]; exact ⟨hg 1, ho⟩
  · unfold setP
    rw [getD_set hi, if_pos rfl]
    have : (if x < 0 then -(1 : Int) else 1) ≠ 0 := by split <;> omega
    simp [this]

/-! ### steps -/
def StepOk (m : Nat) (C : List (List Int)) (j : Nat) (s : T_api_Step) : Prop :=
  0 ≤ s.Left ∧ s.Left < ((m + j : Nat) : Int) ∧ 0 ≤ s.Right ∧ s.Right < ((m + j : Nat) : Int) ∧ ResolveP (C.getD s.Left.toNat []) (C.getD s.Right.toNat []) s.Pivot = (true, C.getD (m + j) [])
structure CInv (n : Int) (L C : List (List Int)) (K : List (ByteArray × Int)) (S : List T_api_Step) : Prop where
  n0 : 0 ≤ n
  n1 : n ≤ 200
  lenL : L.length ≤ 4000
  lenC : C.length = L.length + S.length
  lenS : S.length ≤ 20000
  pre : ∀ i, i < L.length → C.getD i [] = L.getD i []
  ok : ∀ c ∈ C, COk n c
  oc : ∀ c ∈ C, ∀ x ∈ c, occ L x.natAbs = true
  stp : ∀ j (hj : j < S.length), StepOk L.length C j S[j]
  kn : ∀ p ∈ K, 0 ≤ p.2 ∧ p.2 < C.length ∧ keyM (C.getD p.2.toNat []) = some p.1

theorem getD_app {α : Type} {C : List α} {c z : α} {i : Nat} (h : i < C.length) : (C ++ [c]).getD i z = C.getD i z := by
  simp [List.getD, List.getElem?_append_left h]
theorem getD_last {α : Type} {C : List α} {c z : α} : (C ++ [c]).getD C.length z = c := by simp [List.getD]
theorem getD_mem {α : Type} {C : List α} {z : α} {i : Nat} (h : i < C.length) : C.getD i z ∈ C := by
  simp only [List.getD, List.getElem?_eq_getElem h, Option.getD_some]; exact List.getElem_mem h

theorem COk.abs {n : Int} {c : List Int} (h : COk n c) (hn : n ≤ 200) {x : Int} (hx : x ∈ c) : x.natAbs ≤ 200 := by have := h.rng x hx; omega

theorem CInv.add {n : Int} {L C : List (List Int)} {K : List (ByteArray × Int)} {S : List T_api_Step} (h : CInv n L C K S) (hs : S.length < 20000) {i k p : Int} {c : List Int} {t : ByteArray}
    (hi0 : 0 ≤ i) (hi : i < C.length) (hk0 : 0 ≤ k) (hk : k < C.length) (hr : ResolveP (C.getD i.toNat []) (C.getD k.toNat []) p = (true, c)) (ht : keyM c = some t) :
    CInv n L (C ++ [c]) (mapPut K t (C.length : Int)) (S ++ [⟨i, k, p⟩]) := by
  obtain ⟨r1, r2, r3, r4, r5, r6, r7⟩ := ResolveP_true hr
  have hic : C.getD i.toNat [] ∈ C := getD_mem (by omega)
  have hkc : C.getD k.toNat [] ∈ C := getD_mem (by omega)
  have hcm : ∀ x ∈ c, x ∈ C.getD i.toNat [] ∨ x ∈ C.getD k.toNat [] := fun x hx => (mem_lits.1 ((r7 x).1 hx)).1
  have hcok : COk n c := ⟨r6.len, fun x hx => by
    rcases hcm x hx with h1 | h1
    · exact (h.ok _ hic).rng x h1
    · exact (h.ok _ hkc).rng x h1, r6.asc⟩
  have hlC := h.lenC
  refine ⟨h.n0, h.n1, h.lenL, by simp; omega, by simp; omega, fun j hj => by rw [getD_app (by omega)]; exact h.pre j hj, fun d hd => ?_, fun d hd x hx => ?_, fun j hj => ?_, fun q hq => ?_⟩
  · rcases List.mem_append.1 hd with h1 | h1
    · exact h.ok d h1
    · rw [List.mem_singleton.1 h1]; exact hcok
  · rcases List.mem_append.1 hd with h1 | h1
    · exact h.oc d h1 x hx
    · rw [List.mem_singleton.1 h1] at hx
      rcases hcm x hx with h2 | h2
      · exact h.oc _ hic x h2
      · exact h.oc _ hkc x h2
  · by_cases e : j < S.length
    · rw [List.getElem_append_left e]
      obtain ⟨q1, q2, q3, q4, q5⟩ := h.stp j e
      refine ⟨q1, q2, q3, q4, ?_⟩
      rw [getD_app (by omega), getD_app (by omega), getD_app (by omega)]; exact q5
    · have e2 : j = S.length := by simp at hj; omega
      subst e2
      rw [List.getElem_append_right (Nat.le_refl _)]
      simp only [Nat.sub_self, List.getElem_cons_zero]
      refine ⟨hi0, by dsimp only; omega, hk0, by dsimp only; omega, ?_⟩
      dsimp only
      rw [getD_app (by omega), getD_app (by omega), ← hlC, getD_last]; exact hr
  · rcases mapPut_mem hq with h1 | h1
    · obtain ⟨q1, q2, q3⟩ := h.kn q h1
      refine ⟨q1, by simp; omega, ?_⟩
      rw [getD_app (by omega)]; exact q3
    · subst h1
      refine ⟨by dsimp only; omega, by dsimp only; simp only [List.length_append, List.length_cons, List.length_nil]; omega, ?_⟩
      dsimp only
      rw [Int.toNat_natCast, getD_last]; exact ht

theorem outR_nvs {n : Int} {L : List (List Int)} {X : List Int} (h : ∀ x ∈ X, (x.natAbs : Int) ≤ n ∧ occ L x.natAbs = true) : (outR X).length ≤ nvs L n := by
  unfold outR nvs
  suffices hh : ∀ l : List Nat, (l.filterMap (pickV X)).length ≤ (l.filter fun v : Nat => decide ((v : Int) ≤ n) && occ L v).length from hh _
  intro l
  induction l with
  | nil => simp
  | cons v l ih =>
    cases hp : pickV X v with
    | none =>
      rw [List.filterMap_cons_none hp]
      refine Nat.le_trans ih ?_
      cases hq : (decide ((v : Int) ≤ n) && occ L v) with
      | true => rw [List.filter_cons_of_pos (by simpa using hq), List.length_cons]; omega
      | false => rw [List.filter_cons_of_neg (by simpa using hq)]; exact Nat.le_refl _
    | some x =>
      obtain ⟨h1, h2⟩ := pickV_abs hp
      have h3 := h x h2
      rw [h1] at h3
      rw [List.filterMap_cons_some hp, List.filter_cons_of_pos (by simp [h3]), List.length_cons, List.length_cons]
      omega

/-- what learn returns -/
structure LPost (n : Int) (L : List (List Int)) (V : List Int) (C : List (List Int)) (S : List T_api_Step) (nd : Int) (r : Int × List (ByteArray × Int) × Int × Bool × List (List Int) × List T_api_Step) : Prop where
  inv : CInv n L r.2.2.2.2.1 r.2.1 r.2.2.2.2.2
  nd : r.2.2.1 = nd
  lenC : C.length ≤ r.2.2.2.2.1.length
  lenS : r.2.2.2.2.2.length ≤ S.length + 1
  ext : ∀ i, i < C.length → r.2.2.2.2.1.getD i [] = C.getD i []
  sure : S.length < 20000 → nvs L n ≤ 50 → r.2.2.2.1 = false
  res : r.2.2.2.1 = false → 0 ≤ r.1 ∧ r.1 < r.2.2.2.2.1.length ∧ FalC V (r.2.2.2.2.1.getD r.1.toNat []) ∧ ∀ i, i < r.2.2.2.2.1.length → r.2.2.2.2.1.getD i [] = [] → (i : Int) = r.1 ∧ i + 1 = r.2.2.2.2.1.length

theorem learn_plain {n : Int} {L : List (List Int)} {V : List Int} {C : List (List Int)} {K : List (ByteArray × Int)} {S : List T_api_Step} {nd : Int} (hI : CInv n L C K S) (hV : VV n V) (hne : ∀ c ∈ C, c ≠ [])
    {i k x : Int} (h0 : x ≠ 0) (hi0 : 0 ≤ i) (hi : i < C.length) (hk0 : 0 ≤ k) (hk : k < C.length) (hix : x ∈ C.getD i.toNat []) (hkx : -x ∈ C.getD k.toNat [])
    (hiF : ∀ y ∈ C.getD i.toNat [], y = x ∨ valP V y = -1) (hkF : ∀ y ∈ C.getD k.toNat [], y = -x ∨ valP V y = -1) :
    T (proof_search_learn_m V C K S nd false i k x) (LPost n L V C S nd) := by
  have hn0 := hI.n0
  have hn1 := hI.n1
  have hlC := hI.lenC
  have hlL := hI.lenL
  have hlS := hI.lenS
  have hxr := (hI.ok _ (getD_mem (z := []) (show i.toNat < C.length by omega))).rng x hix
  unfold proof_search_learn_m
  -- the two ways
  refine T.joinP (P := fun j => 0 ≤ j.1 ∧ j.1 < C.length ∧ 0 ≤ j.2.1 ∧ j.2.1 < C.length ∧ 0 < j.2.2 ∧ j.2.2 ∈ C.getD j.1.toNat [] ∧ -j.2.2 ∈ C.getD j.2.1.toNat [] ∧ (∀ y ∈ C.getD j.1.toNat [], y = j.2.2 ∨ valP V y = -1) ∧ (∀ y ∈ C.getD j.2.1.toNat [], y = -j.2.2 ∨ valP V y = -1)) ?_ ?_
  rotate_left
  · intro kk hkk
    refine T.cond (fun h => hkk _ ?_) fun h => hkk _ ?_
    · have h := of_decide_eq_true h
      rw [ineg64 (by omega) (by omega)]
      refine ⟨hk0, hk, hi0, hi, by dsimp only; omega, hkx, by dsimp only; rw [Int.neg_neg]; exact hix, hkF, fun y hy => ?_⟩
      dsimp only; rw [Int.neg_neg]; exact hiF y hy
    · have h := of_decide_eq_false h
      exact ⟨hi0, hi, hk0, hk, by dsimp only; omega, hix, hkx, hiF, hkF⟩
  rintro ⟨a, b, p⟩ ⟨a0, a1, b0, b1, p0, pa, pb, fa, fb⟩
  dsimp only at a0 a1 b0 b1 p0 pa pb fa fb ⊢
  have hac : C.getD a.toNat [] ∈ C := getD_mem (by omega)
  have hbc : C.getD b.toNat [] ∈ C := getD_mem (by omega)
  rw [idxM_getD' [] a0 a1, some_bind, idxM_getD' [] b0 b1, some_bind, Resolve_plain, some_bind]
  generalize hA : C.getD a.toNat [] = A at *
  generalize hB : C.getD b.toNat [] = B at *
  have c200 : ∀ c ∈ C, COk 200 c := fun c hc => ⟨(hI.ok c hc).len, fun x hx => by have := (hI.ok c hc).rng x hx; omega, (hI.ok c hc).asc⟩
  have hlit : ∀ y ∈ litsR A B p, valP V y = -1 ∧ y ≠ 0 ∧ (y.natAbs : Int) ≤ n ∧ occ L y.natAbs = true := fun y hy => by
    obtain ⟨h1, h2⟩ := mem_lits.1 hy
    rcases h1 with h1 | h1
    · have h3 := (hI.ok _ hac).rng y h1
      refine ⟨(fa y h1).resolve_left (by omega), by omega, by omega, hI.oc _ hac y h1⟩
    · have h3 := (hI.ok _ hbc).rng y h1
      refine ⟨(fb y h1).resolve_left (by omega), by omega, by omega, hI.oc _ hbc y h1⟩
  have htaut : ∀ y ∈ litsR A B p, -y ∉ litsR A B p := fun y hy hy2 => by
    have h1 := hlit y hy
    have h2 := (hlit _ hy2).1
    rw [valP_neg h1.2.1] at h2
    omega
  have hshort : (outR (litsR A B p)).length ≤ nvs L n := outR_nvs fun y hy => (hlit y hy).2.2
  refine T.joinP (P := fun j => (j = true → S.length = 20000 ∨ 50 < nvs L n) ∧ (j = false → S.length < 20000 ∧ ResolveP A B p = (true, (ResolveP A B p).2))) ?_ ?_
  rotate_left
  · intro kk hkk
    refine T.cond (fun h => hkk _ ⟨fun _ => .inr ?_, fun h => by cases h⟩) fun h => hkk _ ⟨fun h1 => .inl ?_, fun h1 => ⟨?_, ?_⟩⟩
    · refine Nat.lt_of_not_le fun hle => ?_
      rw [ResolveP_some (by omega) (c200 _ hac) (c200 _ hbc) pa pb htaut (by omega)] at h
      cases h
    · have := eq_of_beq h1; omega
    · have : ¬ (S.length : Int) = 20000 := fun e => by rw [e] at h1; cases h1
      omega
    · have h2 : (ResolveP A B p).1 = true := by cases hh : (ResolveP A B p).1 <;> rw [hh] at h <;> first | rfl | cases h
      rw [← h2]
  rintro j ⟨j1, j2⟩
  refine T.cond (fun h => .ret ?_) fun h => ?_
  · refine ⟨hI, rfl, Nat.le_refl _, by dsimp only; omega, fun i hi => rfl, fun h1 h2 => ?_, fun h => by cases h⟩
    rcases j1 h with h3 | h3
    · omega
    · omega
  obtain ⟨hS, hR⟩ := j2 h
  generalize (ResolveP A B p).2 = c at hR ⊢
  rw [← hA, ← hB] at hR
  have hR' := ResolveP_true hR
  rw [hA, hB] at hR'
  obtain ⟨r1, r2, r3, r4, r5, r6, r7⟩ := hR'
  have hcF : FalC V c := fun y hy => (hlit y ((r7 y).1 hy)).1
  have hcabs : ∀ y ∈ c, y.natAbs ≤ 200 := fun y hy => by have := (hlit y ((r7 y).1 hy)).2.2.1; omega
  obtain ⟨t, ht⟩ : ∃ t, keyM c = some t := ⟨_, keyM_some r6.len hcabs⟩
  rw [ht, some_bind]
  refine T.joinP (P := fun _ => True) ?_ ?_
  · intro _ _
    rw [appM_eq (by simp; omega), some_bind, appM_eq (by simp; omega), some_bind]
    have hlen : isub .i64 (((C ++ [c]).length : Nat) : Int) 1 = (C.length : Int) := by
      have e : (((C ++ [c]).length : Nat) : Int) = C.length + 1 := by simp
      rw [e, isub64 (by omega) (by omega)]; omega
    rw [hlen]
    refine .ret ⟨hI.add hS a0 a1 b0 b1 hR ht, rfl, by simp, by simp, fun i hi => getD_app hi, fun _ _ => rfl, fun _ => ⟨by dsimp only; omega, by dsimp only; simp only [List.length_append, List.length_cons, List.length_nil]; omega, ?_, fun i hi he => ?_⟩⟩
    · dsimp only; rw [Int.toNat_natCast, getD_last]; exact hcF
    · dsimp only at hi he ⊢
      by_cases e : i < C.length
      · rw [getD_app e] at he
        exact absurd he (hne _ (getD_mem e))
      · have : i = C.length := by simp at hi; omega
        subst this
        exact ⟨rfl, by simp⟩
  · intro kk hkk
    refine T.cond (fun h1 => T.cond (fun h2 => .ret ?_) fun _ => hkk _ trivial) fun _ => hkk _ trivial
    obtain ⟨q1, q2, q3⟩ := hI.kn _ (mapGet_mem (z := 0) h1)
    dsimp only at q1 q2 q3
    have hqc : C.getD (mapGet K t 0).toNat [] ∈ C := getD_mem (by omega)
    have he : C.getD (mapGet K t 0).toNat [] = c := keyM_inj (hI.ok _ hqc).len r6.len (fun y hy => (hI.ok _ hqc).abs hn1 hy) hcabs q3 ht
    refine ⟨hI, rfl, Nat.le_refl _, by dsimp only; omega, fun i hi => rfl, fun _ _ => rfl, fun _ => ⟨q1, q2, ?_, fun i hi he2 => absurd he2 (hne _ (getD_mem hi))⟩⟩
    dsimp only; rw [he]; exact hcF
end Go.Dc

set_option linter.unusedVariables false
set_option linter.unusedSimpArgs false
set_option linter.unusedSectionVars false
/-! The reference's resolvents. -/
namespace Go.Dc

theorem in_plain {l : List Int} {x : Int} (hl : l.length ≤ 4611686018427387904) : ref04_in_m l x = some (decide (x ∈ l)) := by
  unfold ref04_in_m
  rw [any_bind (l := l) (p := fun y => y == x) (fun i hi => by
    unfold ref04_in_l1
    rw [show decide ((i : Int) < (l.length : Int)) = true by simp [hi], cond_true, idxM_nat hi, iadd64 (by omega) (by omega)]
    show (bif l[i] == x then _ else _) = _
    cases (l[i] == x) <;> rfl) (by unfold ref04_in_l1; simp)]
  congr 1
  rw [List.any_beq']
  simp

theorem rres_step {a b out : List Int} {p : Int} {v : Nat} (ha : a.length ≤ 50) (hb : b.length ≤ 50) (ho : out.length ≤ 200) (hv : v ≤ 200) :
    ref04_Resolve_l1 a b p ((v : Int), out) = some (if (v : Int) = p then .inr (((v + 1 : Nat) : Int), out) else
      if ((v : Int) ∈ a ∨ (v : Int) ∈ b) ∧ (-(v : Int) ∈ a ∨ -(v : Int) ∈ b) then .inl (.inl (false, [])) else
      if (v : Int) ∈ a ∨ (v : Int) ∈ b then .inr (((v + 1 : Nat) : Int), out ++ [(v : Int)]) else
      if -(v : Int) ∈ a ∨ -(v : Int) ∈ b then .inr (((v + 1 : Nat) : Int), out ++ [-(v : Int)]) else .inr (((v + 1 : Nat) : Int), out)) := by
  have e1 : iadd .i64 (v : Int) 1 = ((v + 1 : Nat) : Int) := by rw [iadd64 (by omega) (by omega)]; rfl
  have e2 : ineg .i64 (v : Int) = -(v : Int) := ineg64 (by omega) (by omega)
  have e3 : ∀ x : Int, appM 8 out [x] = some (out ++ [x]) := fun x => appM_eq (by simp; omega)
  have ia : ∀ x, ref04_in_m a x = some (decide (x ∈ a)) := fun x => in_plain (by omega)
  have ib : ∀ x, ref04_in_m b x = some (decide (x ∈ b)) := fun x => in_plain (by omega)
  unfold ref04_Resolve_l1
  dsimp only
  rw [show decide ((v : Int) ≤ 200) = true by simp; omega, cond_true]
  simp only [joinM_eq, ia, ib, Option.bind_some, e1, e2, e3]
  have hp : ((v : Int) == p) = decide ((v : Int) = p) := by cases h : decide ((v : Int) = p) <;> simp at h <;> simp [h]
  by_cases h0 : (v : Int) = p <;> by_cases h1 : (v : Int) ∈ a <;> by_cases h2 : (v : Int) ∈ b <;> by_cases h3 : -(v : Int) ∈ a <;> by_cases h4 : -(v : Int) ∈ b <;> simp [hp, h0, h1, h2, h3, h4] <;> simp_all

theorem rres_loop {a b : List Int} {p : Int} (ha : COk 200 a) (hb : COk 200 b) :
    loopC (ref04_Resolve_l1 a b p) (1, []) = some (if tautR (litsR a b p) = true then .inl (false, []) else .inr (outR (litsR a b p))) := by
  refine T.eq (T.loopK 201 (fun k s => k ≤ 200 ∧ s.1 = ((k + 1 : Nat) : Int) ∧ s.2 = (List.range' 1 k).filterMap (pickV (litsR a b p)) ∧ ∀ v : Nat, 1 ≤ v → v ≤ k → ¬ ((v : Int) ∈ litsR a b p ∧ -(v : Int) ∈ litsR a b p)) ⟨by omega, rfl, rfl, fun v _ _ => by omega⟩ fun k s hs => ?_)
  obtain ⟨i, o⟩ := s
  obtain ⟨hk, e1, e2, e3⟩ := hs
  dsimp only at e1 e2
  subst e1
  have hol : o.length ≤ 200 := by rw [e2]; exact Nat.le_trans (List.length_filterMap_le _ _) (by simp; omega)
  by_cases hk2 : k = 200
  · subst hk2
    have : ref04_Resolve_l1 a b p (((200 + 1 : Nat) : Int), o) = some (.inl (.inr o)) := rfl
    rw [this]
    refine .ret ?_
    show _ = _
    have ht : tautR (litsR a b p) = false := by
      cases h : tautR (litsR a b p) with
      | false => rfl
      | true =>
        obtain ⟨x, hx, hy⟩ := tautR_iff.1 h
        have := lits_rng ha hb hx
        by_cases hp : 0 < x
        · have e : ((x.natAbs : Nat) : Int) = x := by omega
          exact absurd ⟨by rw [e]; exact hx, by rw [e]; exact hy⟩ (e3 x.natAbs (by omega) (by omega))
        · have e : ((x.natAbs : Nat) : Int) = -x := by omega
          exact absurd ⟨by rw [e]; exact hy, by rw [e, Int.neg_neg]; exact hx⟩ (e3 x.natAbs (by omega) (by omega))
    rw [ht, e2]; rfl
  · rw [rres_step ha.len hb.len hol (by omega)]
    refine .ret ?_
    have er : List.range' 1 (k + 1) = List.range' 1 k ++ [k + 1] := by rw [List.range'_concat, Nat.add_comm 1]; simp [Nat.add_comm]
    have hnp : ∀ x : Int, x ∈ litsR a b p ↔ (x ∈ a ∨ x ∈ b) ∧ (x.natAbs : Int) ≠ p := fun x => mem_lits
    have hn1 : (((k + 1 : Nat) : Int).natAbs : Int) = ((k + 1 : Nat) : Int) := by omega
    have hn2 : ((-((k + 1 : Nat) : Int)).natAbs : Int) = ((k + 1 : Nat) : Int) := by omega
    have keep : ∀ o', (pickV (litsR a b p) (k + 1)).toList = o' → o ++ o' = (List.range' 1 (k + 1)).filterMap (pickV (litsR a b p)) := fun o' h => by
      rw [er, List.filterMap_append, ← e2]
      congr 1
      rw [← h]
      cases hq : pickV (litsR a b p) (k + 1) <;> simp [hq]
    have next : ¬ (((k + 1 : Nat) : Int) ∈ litsR a b p ∧ -((k + 1 : Nat) : Int) ∈ litsR a b p) → ∀ v : Nat, 1 ≤ v → v ≤ k + 1 → ¬ ((v : Int) ∈ litsR a b p ∧ -(v : Int) ∈ litsR a b p) := fun h v h1 h2 => by
      by_cases e : v = k + 1
      · rw [e]; exact h
      · exact e3 v h1 (by omega)
    by_cases h0 : ((k + 1 : Nat) : Int) = p
    · rw [if_pos h0]
      have n1 : ((k + 1 : Nat) : Int) ∉ litsR a b p := fun h => ((hnp _).1 h).2 (by rw [hn1]; exact h0)
      have n2 : -((k + 1 : Nat) : Int) ∉ litsR a b p := fun h => ((hnp _).1 h).2 (by rw [hn2]; exact h0)
      refine ⟨by omega, by omega, rfl, ?_, next fun h => n1 h.1⟩
      have := keep [] (by unfold pickV; rw [if_neg n1, if_neg n2]; rfl)
      rwa [List.append_nil] at this
    · rw [if_neg h0]
      have m1 : ((k + 1 : Nat) : Int) ∈ litsR a b p ↔ ((k + 1 : Nat) : Int) ∈ a ∨ ((k + 1 : Nat) : Int) ∈ b := by rw [hnp, hn1]; exact ⟨fun h => h.1, fun h => ⟨h, h0⟩⟩
      have m2 : -((k + 1 : Nat) : Int) ∈ litsR a b p ↔ -((k + 1 : Nat) : Int) ∈ a ∨ -((k + 1 : Nat) : Int) ∈ b := by rw [hnp, hn2]; exact ⟨fun h => h.1, fun h => ⟨h, h0⟩⟩
      by_cases h1 : ((k + 1 : Nat) : Int) ∈ litsR a b p
      · by_cases h2 : -((k + 1 : Nat) : Int) ∈ litsR a b p
        · rw [if_pos (show (((k + 1 : Nat) : Int) ∈ a ∨ ((k + 1 : Nat) : Int) ∈ b) ∧ (-((k + 1 : Nat) : Int) ∈ a ∨ -((k + 1 : Nat) : Int) ∈ b) from ⟨m1.1 h1, m2.1 h2⟩)]
          show _ = _
          rw [if_pos (tautR_iff.2 ⟨_, h1, h2⟩)]
        · rw [if_neg (show ¬ ((((k + 1 : Nat) : Int) ∈ a ∨ ((k + 1 : Nat) : Int) ∈ b) ∧ (-((k + 1 : Nat) : Int) ∈ a ∨ -((k + 1 : Nat) : Int) ∈ b)) from fun h => h2 (m2.2 h.2)), if_pos (m1.1 h1)]
          exact ⟨by omega, by omega, rfl, keep _ (by unfold pickV; rw [if_pos h1]; rfl), next fun h => h2 h.2⟩
      · rw [if_neg (show ¬ ((((k + 1 : Nat) : Int) ∈ a ∨ ((k + 1 : Nat) : Int) ∈ b) ∧ (-((k + 1 : Nat) : Int) ∈ a ∨ -((k + 1 : Nat) : Int) ∈ b)) from fun h => h1 (m1.2 h.1)), if_neg (show ¬ (((k + 1 : Nat) : Int) ∈ a ∨ ((k + 1 : Nat) : Int) ∈ b) from fun h => h1 (m1.2 h))]
        by_cases h2 : -((k + 1 : Nat) : Int) ∈ litsR a b p
        · rw [if_pos (m2.1 h2)]
          exact ⟨by omega, by omega, rfl, keep _ (by unfold pickV; rw [if_neg h1, if_pos h2]; rfl), next fun h => h1 h.1⟩
        · rw [if_neg (show ¬ (-((k + 1 : Nat) : Int) ∈ a ∨ -((k + 1 : Nat) : Int) ∈ b) from fun h => h2 (m2.2 h))]
          refine ⟨by omega, by omega, rfl, ?_, next fun h => h1 h.1⟩
          have := keep [] (by unfold pickV; rw [if_neg h1, if_neg h2]; rfl)
          rwa [List.append_nil] at this

theorem rResolve_plain {a b : List Int} {p : Int} : ref04_Resolve_m a b p = some (ResolveP a b p) := by
  unfold ref04_Resolve_m ResolveP
  by_cases h1 : p < 1
  · rw [if_pos (.inl h1), decide_eq_true h1]; rfl
  rw [decide_eq_false h1, cond_false, rclause_plain (by omega) (by omega), Option.bind_some]
  by_cases h2 : clauseP 200 a = 0
  rotate_left
  · rw [if_pos (.inr (.inl h2)), show (clauseP 200 a != 0) = true by simp [h2]]; rfl
  rw [h2, rclause_plain (by omega) (by omega)]
  simp only [bne_self_eq_false, cond_false, Option.bind_some]
  by_cases h3 : clauseP 200 b = 0
  rotate_left
  · rw [if_pos (.inr (.inr (.inl h3))), show (clauseP 200 b != 0) = true by simp [h3]]; rfl
  have ha := clauseP_ok.1 h2
  have hb := clauseP_ok.1 h3
  rw [h3, in_plain (by have := ha.len; omega)]
  simp only [bne_self_eq_false, cond_false, Option.bind_some]
  by_cases h4 : p ∈ a
  rotate_left
  · rw [if_pos (.inr (.inr (.inr (.inl h4)))), decide_eq_false h4]; rfl
  have hp := ha.rng p h4
  rw [decide_eq_true h4, in_plain (by have := hb.len; omega), ineg64 (by omega) (by omega)]
  simp only [Bool.not_true, cond_false, Option.bind_some]
  by_cases h5 : -p ∈ b
  rotate_left
  · rw [if_pos (.inr (.inr (.inr (.inr h5)))), decide_eq_false h5]; rfl
  have hc : ¬ (p < 1 ∨ (0 : Int) ≠ 0 ∨ (0 : Int) ≠ 0 ∨ p ∉ a ∨ -p ∉ b) := by simp only [not_or, Classical.not_not]; exact ⟨h1, trivial, trivial, h4, h5⟩
  rw [if_neg hc, decide_eq_true h5, rres_loop ha hb]
  simp only [Bool.not_true, cond_false, Option.bind_some]
  by_cases ht : tautR (litsR a b p) = true
  · rw [if_pos ht, if_pos ht]; rfl
  · rw [if_neg ht, if_neg ht, sumK_inr]
    by_cases hl : 50 < (outR (litsR a b p)).length
    · rw [if_pos hl, show decide (((outR (litsR a b p)).length : Int) > 50) = true by simp; omega]; rfl
    · rw [if_neg hl, show decide (((outR (litsR a b p)).length : Int) > 50) = false by simp; omega]; rfl
end Go.Dc

set_option linter.unusedVariables false
/-! Models with a bound on the rounds of their loops, which can be computed. -/
namespace Go.Dc
variable {α β σ ρ S A B R : Type}

def Le (m m' : Option α) : Prop := ∀ r, m = some r → m' = some r
def loopF (k : Nat) (f : σ → Option (Sum ρ σ)) (s : σ) : Option ρ := loopN f k s

theorem Le.refl (m : Option α) : Le m m := fun _ h => h
theorem Le.bind {m m' : Option α} {f f' : α → Option β} (h : Le m m') (hf : ∀ a, Le (f a) (f' a)) : Le (m.bind f) (m'.bind f') := by
  intro r hr
  cases hm : m with
  | none => rw [hm] at hr; cases hr
  | some a => rw [hm] at hr; rw [h a hm]; exact hf a r hr
theorem Le.cond {b : Bool} {x y x' y' : Option α} (h1 : Le x x') (h2 : Le y y') : Le (bif b then x else y) (bif b then x' else y') := by
  cases b
  · exact h2
  · exact h1
theorem Le.letM {x : S} {k k' : S → Option α} (h : ∀ a, Le (k a) (k' a)) : Le (letM x k) (letM x k') := h x
theorem Le.join {f f' : S → Option R} {g g' : (S → Option R) → Option R} (h1 : ∀ x, Le (f x) (f' x)) (h2 : ∀ k k' : S → Option R, (∀ x, Le (k x) (k' x)) → Le (g k) (g' k')) :
    Le (joinM f g) (joinM f' g') := h2 f f' h1
theorem Le.sumK {kr : A → Option R} {kb kb' : B → Option R} (h : ∀ b, Le (kb b) (kb' b)) : ∀ a, Le (sumK kr kb a) (sumK kr kb' a)
  | .inl a => .refl _
  | .inr b => h b
theorem Le.loop {k : Nat} {f f' : σ → Option (Sum ρ σ)} {s : σ} (h : ∀ s, Le (f s) (f' s)) : Le (loopF k f s) (loopC f' s) := by
  intro r hr
  refine loopC_iff.2 ⟨k, ?_⟩
  unfold loopF at hr
  induction k generalizing s with
  | zero => simp [loopN] at hr
  | succ k ih =>
    simp only [loopN] at hr ⊢
    cases hf : f s with
    | none => rw [hf] at hr; cases hr
    | some o =>
      rw [hf] at hr
      rw [h s o hf]
      cases o with
      | inl q => exact hr
      | inr s' => exact ih hr
end Go.Dc

/-! More of models that can be computed. -/
namespace Go.Dc
variable {α β σ ρ S A B C R : Type}
def meetF [DecidableEq A] (x y : Option A) : Option A := match x, y with
  | some a, some b => if a = b then some a else none
  | _, _ => none
theorem Le.meetO {m1 m2 m1' m2' : Option A} (h1 : Le m1 m1') (h2 : Le m2 m2') : Le (meetO m1 m2) (meetO m1' m2') := fun r h => by
  obtain ⟨a, b⟩ := meetO_some h
  rw [h1 r a, h2 r b, meetO_self]
theorem Le.meet [DecidableEq A] {m1 m2 m1' m2' : Option A} (h1 : Le m1 m1') (h2 : Le m2 m2') : Le (meetF m1 m2) (Go.Dc.meetO m1' m2') := fun r h => by
  cases m1 with
  | none => simp [meetF] at h
  | some a =>
    cases m2 with
    | none => simp [meetF] at h
    | some b =>
      unfold meetF at h
      simp only at h
      by_cases e : a = b
      · rw [if_pos e] at h
        subst e; cases h
        rw [h1 _ rfl, h2 _ rfl, meetO_self]
      · rw [if_neg e] at h; cases h
theorem Le.sumKK {k1 k1' : A → Option R} {k2 k2' : B → Option R} (h1 : ∀ a, Le (k1 a) (k1' a)) (h2 : ∀ b, Le (k2 b) (k2' b)) : ∀ a, Le (Go.Dc.sumK k1 k2 a) (Go.Dc.sumK k1' k2' a)
  | .inl a => h1 a
  | .inr b => h2 b
theorem Le.loopC {f f' : σ → Option (Sum ρ σ)} {s : σ} (h : ∀ s, Le (f s) (f' s)) : Le (Go.Dc.loopC f s) (Go.Dc.loopC f' s) := by
  intro r hr
  obtain ⟨n, hn⟩ := loopC_iff.1 hr
  exact Le.loop (k := n) h r hn
end Go.Dc
