/- Part P22A.Grd of a proof: lemmas. -/
import Derived.Test.YtmbflfngkcmfeaaDoorP22ANet
set_option linter.unusedVariables false
set_option linter.unusedSimpArgs false
set_option linter.unusedSectionVars false
/-! The grounded set, and the answers to questions. -/
namespace Go.Dc

theorem SubB.le {a b : Nat} (h : SubB a b) : a ≤ b := by
  have : a = a &&& b := eq_of_bits fun i => by
    rw [Nat.testBit_and]
    cases ha : a.testBit i
    · rfl
    · rw [h i ha]; rfl
  rw [this]; exact Nat.and_le_right

/-- the attackers of i are attacked by s -/
def DefP (n : Nt) (s i : Nat) : Prop := ∀ k, n.a k i → ∃ m, s.testBit m = true ∧ n.a m k
def ClsP (n : Nt) (s : Nat) : Prop := ∀ i, n.all.testBit i = true → DefP n s i → s.testBit i = true
structure Grd (n : Nt) (G : Nat) : Prop where
  sub : SubB G n.all
  adm : AdmP n G
  cls : ClsP n G
  least : ∀ S, ClsP n S → SubB G S
theorem Grd.unique {n : Nt} {G G' : Nat} (h : Grd n G) (h' : Grd n G') : G = G' := (h.least G' h'.cls).antisymm (h'.least G h.cls)

def growF (n : Nt) (s a i : Nat) : Nat := if andn (n.by_.getD i 0) (hit n s) = 0 then a ||| 2 ^ i else a
def grow (n : Nt) (s : Nat) : Nat := (bitsL n.all).foldl (growF n s) s

section
variable {N : Nat} {n : Nt} (h : NtOk N n) {s : Nat} (hs : SubB s n.all)
include h hs
theorem def_iff {i : Nat} : andn (n.by_.getD i 0) (hit n s) = 0 ↔ DefP n s i := by
  rw [zero_bits]
  constructor
  · intro h0 k hk
    have h1 := h0 k
    rw [andn_bit (h.byLt i), (h.sy k i).2 hk] at h1
    exact (hit_bit h hs).1 (by simpa using h1)
  · intro hd k
    rw [andn_bit (h.byLt i)]
    cases h1 : (n.by_.getD i 0).testBit k
    · rfl
    · rw [(hit_bit h hs).2 (hd k ((h.sy k i).1 h1))]; rfl

theorem grow_from {l : List Nat} {a j : Nat} : (l.foldl (growF n s) a).testBit j = true ↔ a.testBit j = true ∨ (j ∈ l ∧ DefP n s j) := by
  induction l generalizing a with
  | nil => simp
  | cons x l ih =>
    rw [List.foldl_cons, ih]
    unfold growF
    by_cases hd : DefP n s x
    · rw [if_pos ((def_iff h hs).2 hd), Nat.testBit_or, Nat.testBit_two_pow]
      by_cases e : x = j
      · subst e; simp [hd]
      · have e2 : ¬ j = x := fun h => e h.symm
        simp [e, e2]
    · rw [if_neg (fun h0 => hd ((def_iff h hs).1 h0))]
      constructor
      · rintro (h1 | ⟨h1, h2⟩)
        · exact .inl h1
        · exact .inr ⟨by simp [h1], h2⟩
      · rintro (h1 | ⟨h1, h2⟩)
        · exact .inl h1
        · rcases List.mem_cons.1 h1 with e | e
          · subst e; exact absurd h2 hd
          · exact .inr ⟨e, h2⟩

theorem grow_bit {j : Nat} : (grow n s).testBit j = true ↔ s.testBit j = true ∨ (n.all.testBit j = true ∧ DefP n s j) := by
  unfold grow
  rw [grow_from h hs, mem_bitsL h.allLt]
theorem grow_sub : SubB (grow n s) n.all := fun j hj => by
  rcases (grow_bit h hs).1 hj with h1 | h1
  · exact hs j h1
  · exact h1.1
theorem grow_up : SubB s (grow n s) := fun j hj => (grow_bit h hs).2 (.inl hj)

theorem grow_loop : loopC (network_Net_Grounded_l2 n.t ((hit n s : Nat) : Int) (il (bitsL n.all))) ((s : Int), 0) = some ((grow n s : Nat) : Int) := by
  have hb := bitsL_len (s := n.all)
  have := (fold_loop (l := bitsL n.all) (f := network_Net_Grounded_l2 n.t ((hit n s : Nat) : Int) (il (bitsL n.all))) (b0 := ((s : Nat) : Int)) (fun (b : Int) (i : Nat) => ((growF n s b.toNat i : Nat) : Int)) (fun b : Int => b) (fun b => ∃ m : Nat, b = (m : Int) ∧ m < 2 ^ 64) ⟨s, rfl, h.sub hs⟩ ?_ ?_)
  · rw [this.1]
    congr 1
    have hh : ∀ (l : List Nat) (a : Nat), l.foldl (fun (b : Int) (i : Nat) => ((growF n s b.toNat i : Nat) : Int)) (a : Int) = ((l.foldl (growF n s) a : Nat) : Int) := by
      intro l
      induction l with
      | nil => intro a; rfl
      | cons x l ih => intro a; rw [List.foldl_cons, List.foldl_cons, Int.toNat_natCast, ih]
    exact hh _ s
  · rintro b i hi ⟨m, rfl, hm⟩
    have hx : (bitsL n.all)[i] < N := h.al _ ((mem_bitsL h.allLt).1 (List.getElem_mem hi))
    have hN := h.hN
    unfold network_Net_Grounded_l2
    rw [show decide ((i : Int) < ((il (bitsL n.all)).length : Int)) = true from decide_eq_true (by simp; omega)]
    simp only [cond_true]
    rw [il_idx hi, some_bind, show (bitsL n.all).getD i 0 = (bitsL n.all)[i] by simp [List.getD, hi], show n.t.By = il n.by_ from rfl, il_idx (by rw [h.lb]; exact hx), some_bind, iandn_u, Int.toNat_natCast, iadd1 (by omega)]
    unfold growF
    by_cases h0 : andn (n.by_.getD (bitsL n.all)[i] 0) (hit n s) = 0
    · rw [h0, show (((0 : Nat) : Int) == 0) = true from rfl, if_pos rfl, cond_true, With_plain hm (by omega), some_bind]
      exact ⟨rfl, _, rfl, or_lt hm (Nat.pow_lt_pow_right (by decide) (by omega))⟩
    · rw [show (((andn (n.by_.getD (bitsL n.all)[i] 0) (hit n s) : Nat) : Int) == 0) = false from by simpa using h0, if_neg h0]
      exact ⟨rfl, _, rfl, hm⟩
  · rintro b ⟨m, rfl, hm⟩
    unfold network_Net_Grounded_l2
    rw [show decide (((bitsL n.all).length : Int) < ((il (bitsL n.all)).length : Int)) = false from decide_eq_false (by simp)]; rfl

theorem grow_adm (ha : AdmP n s) : AdmP n (grow n s) := by
  have hd : ∀ j, (grow n s).testBit j = true → DefP n s j := fun j hj => by
    rcases (grow_bit h hs).1 hj with h1 | h1
    · exact fun k hk => ha.2 k j h1 hk
    · exact h1.2
  refine ⟨fun i j hi hj hij => ?_, fun i j hj hij => ?_⟩
  · obtain ⟨m, hm, hmi⟩ := hd j hj i hij
    obtain ⟨m', hm', hmm⟩ := hd i hi m hmi
    exact ha.1 m' m hm' hm hmm
  · obtain ⟨m, hm, hmi⟩ := hd j hj i hij
    exact ⟨m, grow_up h hs m hm, hmi⟩
end

section
variable {N : Nat} {n : Nt} (h : NtOk N n)
include h
theorem zero_adm : AdmP n 0 := ⟨fun i j hi => by simp at hi, fun i j hj => by simp at hj⟩

def RdOk (n : Nt) (G : Nat) (r : List Int) : Prop := r.length ≤ G ∧ (r = [] ∧ G = 0 ∨ ∃ q, r = q ++ [(G : Int)])

theorem Grounded_plain : T (network_Net_Grounded_m n.t) fun r => ∃ G, Grd n G ∧ RdOk n G r := by
  unfold network_Net_Grounded_m
  refine T.bind (P := fun r => ∃ G, Grd n G ∧ RdOk n G r) ?_ fun r hr => .ret hr
  have hN := h.hN
  have hal : n.all < 2 ^ 40 := lt_of_bits fun j hj => by have := h.al j hj; omega
  refine T.loopM (fun s => ∃ G : Nat, s.1 = (G : Int) ∧ SubB G n.all ∧ AdmP n G ∧ (∀ S, ClsP n S → SubB G S) ∧ RdOk n G s.2) (fun s => 2 ^ 64 - s.1.toNat) ⟨0, rfl, SubB.zero, zero_adm h, fun _ _ => SubB.zero, by simp [RdOk]⟩ ?_
  rintro ⟨_, r⟩ ⟨G, rfl, hs, ha, hl, hr⟩
  dsimp only [network_Net_Grounded_l1] at *
  rw [Hit_plain h hs, some_bind, show n.t.All = (n.all : Int) from rfl, List_plain h.allLt, some_bind, grow_loop h hs, some_bind]
  refine T.cond (fun g => .ret ?_) fun g => ?_
  · have g' : grow n G = G := by have := eq_of_beq g; omega
    exact ⟨G, ⟨hs, ha, fun i hi hd => by rw [← g']; exact (grow_bit h hs).2 (.inr ⟨hi, hd⟩), hl⟩, hr⟩
  · have g' : grow n G ≠ G := fun e => by rw [e] at g; simp at g
    have hle := (grow_up h hs).le
    have hlt := (grow_sub h hs).le
    have hr1 := hr.1
    rw [appM_eq (by simp; omega), some_bind]
    refine .ret ⟨⟨grow n G, rfl, grow_sub h hs, grow_adm h hs ha, fun S hS j hj => ?_, ?_, .inr ⟨r, rfl⟩⟩, ?_⟩
    · rcases (grow_bit h hs).1 hj with h1 | h1
      · exact hl S hS j h1
      · exact hS j h1.1 fun k hk => by obtain ⟨m, hm, hmk⟩ := h1.2 k hk; exact ⟨m, hl S hS m hm, hmk⟩
    · simp; omega
    · simp only [Int.toNat_natCast]; omega

theorem In_plain' : ∃ G, Grd n G ∧ network_Net_In_m n.t = some (G : Int) := by
  obtain ⟨r, h1, G, hG, hlen, hr⟩ := Grounded_plain h
  refine ⟨G, hG, ?_⟩
  have hN := h.hN
  have hal : n.all < 2 ^ 40 := lt_of_bits fun j hj => by have := h.al j hj; omega
  have hle := hG.sub.le
  unfold network_Net_In_m
  rw [h1, some_bind]
  rcases hr with ⟨rfl, rfl⟩ | ⟨q, rfl⟩
  · rfl
  · have hl : (q ++ [(G : Int)]).length = q.length + 1 := by simp
    rw [hl] at hlen ⊢
    rw [show ((((q.length + 1 : Nat) : Int)) == 0) = false by simp; omega, isub1 (by omega), show (((q.length + 1 : Nat) : Int) - 1) = (q.length : Int) by omega, idxM_nat (by simp)]
    simp
end

/-- the grounded set -/
noncomputable def grd (n : Nt) : Nat := ((network_Net_In_m n.t).getD 0).toNat
theorem In_plain2 {N : Nat} {n : Nt} (h : NtOk N n) : network_Net_In_m n.t = some ((grd n : Nat) : Int) ∧ Grd n (grd n) := by
  obtain ⟨G, hG, e⟩ := In_plain' h
  have : grd n = G := by unfold grd; rw [e]; rfl
  rw [this]; exact ⟨e, hG⟩

/-! ### questions -/
open Classical in
/-- does a set speak for the answer that is not expected? -/
noncomputable def fitB (n : Nt) (q : Int) (s : Nat) : Bool := if q = 1 then decide (AdmP n s) else decide (StbP n s)

def ansP (n : Nt) (q : Int) (node : Nat) : Prop :=
  if q = 4 then (grd n).testBit node = true
  else if q = 1 then ∃ y, SubB y n.all ∧ AdmP n y ∧ y.testBit node = true
  else if q = 3 then ∀ y, SubB y n.all → StbP n y → y.testBit node = true
  else ∃ y, SubB y n.all ∧ StbP n y ∧ y.testBit node = true

/-- who is in the grounded set is in an admissible one -/
theorem ans_grd {N : Nat} {n : Nt} (h : NtOk N n) {node : Nat} (ha : ansP n 4 node) : ansP n 1 node := by
  obtain ⟨e, hG⟩ := In_plain2 h
  exact ⟨grd n, hG.sub, hG.adm, ha⟩
end Go.Dc
