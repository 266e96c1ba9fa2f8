/- Part P22A.Net of a proof: lemmas. -/
import Derived.Test.YtmbflfngkcmfeaaDoorP22AKeep
import Derived.Test.YtmbflfngkcmfeaaDoorDcLoops
set_option linter.unusedVariables false
set_option linter.unusedSimpArgs false
set_option linter.unusedSectionVars false
/-! Small graphs as sets of bits. -/
namespace Go.Dc

theorem tab_tz : tab_0 = tzTab := by decide +kernel
theorem tz_plain {s k : Nat} (hs : s < 2 ^ 64) (hk : s.testBit k = true) (hl : ∀ j, j < k → s.testBit j = false) : math_bits_TrailingZeros64_m (s : Int) = some (k : Int) := by
  have h0 : s ≠ 0 := fun e => by rw [e] at hk; simp at hk
  have hk64 := bit_lt hs hk
  unfold math_bits_TrailingZeros64_m
  rw [show ((s : Int) == 0) = false by simp; omega, tab_tz, tz_look hs hk hl]
  simp only [cond_false, some_bind, letM_eq]
  rw [wrap64 (by omega) (by omega)]

theorem With_plain {s n : Nat} (hs : s < 2 ^ 64) (hn : n < 64) : network_Set_With_m (s : Int) (n : Int) = some ((s ||| 2 ^ n : Nat) : Int) := by
  unfold network_Set_With_m ishlM
  rw [wrapU (by omega), if_neg (by omega), some_bind, letM_eq, ishl_u hn, ior_u hs (Nat.pow_lt_pow_right (by decide) hn)]

theorem Has_plain {s n : Nat} (hs : s < 2 ^ 64) (hn : n < 64) : network_Set_Has_m (s : Int) (n : Int) = some (s.testBit n) := by
  unfold network_Set_Has_m ishrM
  rw [wrapU (by omega), if_neg (by omega), some_bind, letM_eq, ishr_u (by omega)]
  have h1 : s >>> n < 2 ^ 64 := Nat.lt_of_le_of_lt (Nat.shiftRight_le _ _) hs
  have h2 := iand_u (a := s >>> n) (b := 1) h1 (by decide)
  rw [show ((1 : Nat) : Int) = 1 from rfl] at h2
  rw [h2]
  congr 1
  rw [Bool.eq_iff_iff]
  simp only [beq_iff_eq, Nat.testBit, bne_iff_ne]
  have : s >>> n &&& 1 = (s >>> n) % 2 := Nat.and_one_is_mod _
  rw [Nat.and_comm 1, this]
  omega

theorem List_plain {s : Nat} (hs : s < 2 ^ 64) : network_Set_List_m (s : Int) = some (il (bitsL s)) := by
  have key : ∀ m (s : Nat) (out : List Int), s ≤ m → s < 2 ^ 64 → out.length + (bitsL s).length ≤ 64 → loopC network_Set_List_l1 ((s : Int), out) = some (out ++ il (bitsL s)) := by
    intro m
    induction m with
    | zero =>
      intro s out h1 h2 h3
      have : s = 0 := by omega
      subst this
      rw [loopC_eq]; simp [network_Set_List_l1, bitsL_zero]
    | succ m ih =>
      intro s out h1 h2 h3
      by_cases h0 : s = 0
      · subst h0; rw [loopC_eq]; simp [network_Set_List_l1, bitsL_zero]
      · obtain ⟨k, hk, hl⟩ := low_exists h0
        have hc := bitsL_cons h2 hk hl
        have hlt := low_lt h0
        rw [hc] at h3
        simp at h3
        rw [loopC_eq]
        unfold network_Set_List_l1
        rw [show (((s : Nat) : Int) != 0) = true by simp [h0]]
        simp only [cond_true]
        rw [tz_plain h2 hk hl, some_bind, appM_eq (by simp; omega), some_bind, letM_eq, isub1_u h2 (by omega), iand_u h2 (by omega)]
        show loopC network_Set_List_l1 (((s &&& (s - 1) : Nat) : Int), out ++ [(k : Int)]) = _
        rw [ih _ _ (by omega) (by omega) (by simp; omega), hc]
        simp
  unfold network_Set_List_m
  have := bitsL_len (s := s)
  rw [key s s [] (Nat.le_refl _) hs (by simpa using this), some_bind]; simp

/-- the set of a list -/
def setOf (l : List Nat) : Nat := orL (fun i => 2 ^ i) l
theorem setOf_bit {l : List Nat} {j : Nat} : (setOf l).testBit j = true ↔ j ∈ l := by
  unfold setOf
  rw [orL_bit]
  constructor
  · rintro ⟨i, hi, hb⟩; rw [Nat.testBit_two_pow] at hb; have : i = j := by simpa using hb
    rw [← this]; exact hi
  · intro h; exact ⟨j, h, by rw [Nat.testBit_two_pow]; simp⟩
theorem setOf_lt {l : List Nat} {n : Nat} (h : ∀ x ∈ l, x < n) : setOf l < 2 ^ n := lt_of_bits fun j hj => h j (setOf_bit.1 hj)

/-! ### nets -/
structure Nt where
  all : Nat
  by_ : List Nat
  out : List Nat
def Nt.t (n : Nt) : T_network_Net := ⟨(n.all : Int), il n.by_, il n.out⟩
def Nt.a (n : Nt) (i j : Nat) : Prop := (n.out.getD i 0).testBit j = true

structure NtOk (N : Nat) (n : Nt) : Prop where
  hN : N ≤ 40
  lb : n.by_.length = N
  lo : n.out.length = N
  al : ∀ i, n.all.testBit i = true → i < N
  ab : ∀ i j, n.a i j → n.all.testBit i = true ∧ n.all.testBit j = true
  sy : ∀ i j, (n.by_.getD j 0).testBit i = true ↔ n.a i j

section
variable {N : Nat} {n : Nt} (h : NtOk N n)
include h
theorem NtOk.allLt : n.all < 2 ^ 64 := lt64 (lt_of_bits h.al) (by have := h.hN; omega)
theorem NtOk.sub {s : Nat} (hs : SubB s n.all) : s < 2 ^ 64 := lt64 (lt_of_bits fun j hj => h.al j (hs j hj)) (by have := h.hN; omega)
theorem NtOk.outLt (i : Nat) : n.out.getD i 0 < 2 ^ 64 := lt64 (lt_of_bits fun j hj => h.al j (h.ab i j hj).2) (by have := h.hN; omega)
theorem NtOk.byLt (i : Nat) : n.by_.getD i 0 < 2 ^ 64 := lt64 (lt_of_bits fun j hj => h.al j (h.ab j i ((h.sy j i).1 hj)).1) (by have := h.hN; omega)
end

def hit (n : Nt) (s : Nat) : Nat := orL (fun i => n.out.getD i 0) (bitsL s)
def atk (n : Nt) (s : Nat) : Nat := orL (fun i => n.by_.getD i 0) (bitsL s)

section
variable {N : Nat} {n : Nt} (h : NtOk N n) {s : Nat} (hs : SubB s n.all)
include h hs
theorem hit_bit {j : Nat} : (hit n s).testBit j = true ↔ ∃ i, s.testBit i = true ∧ n.a i j := by
  unfold hit
  rw [orL_bit]
  exact ⟨fun ⟨i, h1, h2⟩ => ⟨i, (mem_bitsL (h.sub hs)).1 h1, h2⟩, fun ⟨i, h1, h2⟩ => ⟨i, (mem_bitsL (h.sub hs)).2 h1, h2⟩⟩
theorem atk_bit {j : Nat} : (atk n s).testBit j = true ↔ ∃ i, s.testBit i = true ∧ n.a j i := by
  unfold atk
  rw [orL_bit]
  exact ⟨fun ⟨i, h1, h2⟩ => ⟨i, (mem_bitsL (h.sub hs)).1 h1, (h.sy j i).1 h2⟩, fun ⟨i, h1, h2⟩ => ⟨i, (mem_bitsL (h.sub hs)).2 h1, (h.sy j i).2 h2⟩⟩
theorem hit_sub : SubB (hit n s) n.all := fun j hj => by obtain ⟨i, _, h2⟩ := (hit_bit h hs).1 hj; exact (h.ab i j h2).2
theorem atk_sub : SubB (atk n s) n.all := fun j hj => by obtain ⟨i, _, h2⟩ := (atk_bit h hs).1 hj; exact (h.ab j i h2).1

theorem or_loop {f : Int × Int → Option (Sum Int (Int × Int))} {L : List Nat} {g : Nat → Nat} (hg : ∀ i, g i < 2 ^ 64)
    (hf : ∀ (a i : Nat) (hi : i < L.length), a < 2 ^ 64 → f ((a : Int), (i : Int)) = some (.inr (((a ||| g L[i] : Nat) : Int), ((i + 1 : Nat) : Int)))) (he : ∀ a : Nat, f ((a : Int), (L.length : Int)) = some (.inl (a : Int))) :
    loopC f (0, 0) = some ((orL g L : Nat) : Int) := by
  have := (fold_loop (l := L) (f := f) (b0 := ((0 : Nat) : Int)) (fun (b : Int) (i : Nat) => ((b.toNat ||| g i : Nat) : Int)) (fun b : Int => b) (fun b => ∃ n : Nat, b = (n : Int) ∧ n < 2 ^ 64) ⟨0, rfl, by decide⟩ ?_ ?_)
  · refine (show loopC f (0, 0) = _ from this.1).trans ?_
    congr 1
    have hh : ∀ (l : List Nat) (a : Nat), l.foldl (fun (b : Int) (i : Nat) => ((b.toNat ||| g i : Nat) : Int)) (a : Int) = ((l.foldl (fun a i => a ||| g i) a : Nat) : Int) := by
      intro l
      induction l with
      | nil => intro a; rfl
      | cons x l ih => intro a; rw [List.foldl_cons, List.foldl_cons, Int.toNat_natCast, ih]
    exact hh L 0
  · rintro b i hi ⟨n, rfl, hn⟩
    rw [hf n i hi hn, Int.toNat_natCast]
    exact ⟨rfl, _, rfl, or_lt hn (hg _)⟩
  · rintro b ⟨n, rfl, hn⟩
    exact he n

theorem Hit_plain : network_Net_Hit_m n.t (s : Int) = some ((hit n s : Nat) : Int) := by
  unfold network_Net_Hit_m
  rw [List_plain (h.sub hs), some_bind]
  have hb := bitsL_len (s := s)
  rw [or_loop h hs (L := bitsL s) (g := fun i => n.out.getD i 0) (fun i => h.outLt i) (fun a i hi ha => ?_) (fun a => ?_)]
  · rfl
  · unfold network_Net_Hit_l1
    have hx : (bitsL s)[i] < N := h.al _ (hs _ ((mem_bitsL (h.sub hs)).1 (List.getElem_mem hi)))
    rw [show decide ((i : Int) < ((il (bitsL s)).length : Int)) = true from decide_eq_true (by simp; omega)]
    simp only [cond_true]
    rw [il_idx hi, some_bind, show (bitsL s).getD i 0 = (bitsL s)[i] by simp [List.getD, hi]]
    rw [show n.t.Out = il n.out from rfl, il_idx (by rw [h.lo]; exact hx), some_bind, letM_eq, ior_u ha (h.outLt _), iadd1 (by omega)]
  · unfold network_Net_Hit_l1
    rw [show decide (((bitsL s).length : Int) < ((il (bitsL s)).length : Int)) = false from decide_eq_false (by simp)]; rfl

end

/-! what the sets are -/
def FreeP (n : Nt) (s : Nat) : Prop := ∀ i j, s.testBit i = true → s.testBit j = true → ¬ n.a i j
def AdmP (n : Nt) (s : Nat) : Prop := FreeP n s ∧ ∀ i j, s.testBit j = true → n.a i j → ∃ k, s.testBit k = true ∧ n.a k i
def StbP (n : Nt) (s : Nat) : Prop := FreeP n s ∧ ∀ i, n.all.testBit i = true → s.testBit i = false → ∃ k, s.testBit k = true ∧ n.a k i

section
open Classical
variable {N : Nat} {n : Nt} (h : NtOk N n) {s : Nat} (hs : SubB s n.all)
include h hs
end
end Go.Dc
