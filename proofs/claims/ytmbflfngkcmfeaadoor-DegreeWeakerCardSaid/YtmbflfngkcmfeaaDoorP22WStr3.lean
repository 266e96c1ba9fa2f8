/- Part P22W.Str3 of a proof: lemmas. -/
import Derived.Test.YtmbflfngkcmfeaaDoorP22WOrd2
set_option linter.unusedVariables false
set_option linter.unusedSimpArgs false
set_option linter.unusedSectionVars false
/-! Strengths: both programs fold the same step over the same order. -/
namespace Go.Dc

def M40 : Nat := 1099511627776
def Good (f : Fr) : Prop := ∃ n d : Nat, f = fq n d ∧ 0 < d ∧ n ≤ M40 ∧ d ≤ M40
def nN (f : Fr) : Nat := f.Num.toNat
def dN (f : Fr) : Nat := f.Den.toNat
@[simp] theorem nN_fq {n d : Nat} : nN (fq n d) = n := rfl
@[simp] theorem dN_fq {n d : Nat} : dN (fq n d) = d := rfl

theorem rd_good {a b : Nat} (hb : 0 < b) (hw : wiB (rd a b) = true) : Good (rd a b) ∧ (0 < a → 0 < nN (rd a b)) := by
  obtain ⟨n, d, e, h1, h2, h3, h4, h5⟩ := rd_parts (a := a) hb
  rw [e] at hw ⊢
  unfold wiB at hw
  rw [Bool.and_eq_true, decide_eq_true_iff, decide_eq_true_iff] at hw
  simp only at hw
  have hM : M40 = 1099511627776 := rfl
  exact ⟨⟨n, d, rfl, h1, by omega, by omega⟩, fun ha => by show 0 < ((n : Int)).toNat; omega⟩

def addQ (x y : Fr) : Option Fr := let r := addN (nN x) (dN x) (nN y) (dN y); if r.2 = true then some r.1 else none
def divQ (x y : Fr) : Option Fr := let r := divN (nN x) (dN x) (nN y) (dN y); if r.2 = true then some r.1 else none

theorem addN_ok {a b c d : Nat} (hb : 0 < b) (hd : 0 < d) (h : (addN a b c d).2 = true) : (addN a b c d).1 = rd (a * d + c * b) (b * d) ∧ wiB (rd (a * d + c * b) (b * d)) = true := by
  unfold addN at h ⊢
  by_cases hc : a * d ≤ BIG ∧ c * b ≤ BIG ∧ b * d ≤ BIG ∧ a * d + c * b ≤ BIG
  · rw [if_pos hc] at h ⊢; exact ⟨rfl, h⟩
  · rw [if_neg hc] at h; cases h
theorem divN_ok {a b c d : Nat} (h : (divN a b c d).2 = true) : (divN a b c d).1 = rd (a * d) (b * c) ∧ wiB (rd (a * d) (b * c)) = true := by
  unfold divN at h ⊢
  by_cases hc : a * d ≤ BIG ∧ b * c ≤ BIG
  · rw [if_pos hc] at h ⊢; exact ⟨rfl, h⟩
  · rw [if_neg hc] at h; cases h

theorem addQ_some {x y f : Fr} (hx : 0 < dN x) (hy : 0 < dN y) (h : addQ x y = some f) : f = rd (nN x * dN y + nN y * dN x) (dN x * dN y) ∧ wiB f = true := by
  unfold addQ at h
  by_cases hc : (addN (nN x) (dN x) (nN y) (dN y)).2 = true
  · simp only [hc, if_true] at h; cases h
    have := addN_ok hx hy hc
    exact ⟨this.1, this.1 ▸ this.2⟩
  · simp only [hc] at h; cases h
theorem divQ_some {x y f : Fr} (h : divQ x y = some f) : f = rd (nN x * dN y) (dN x * nN y) ∧ wiB f = true := by
  unfold divQ at h
  by_cases hc : (divN (nN x) (dN x) (nN y) (dN y)).2 = true
  · simp only [hc, if_true] at h; cases h
    have := divN_ok hc
    exact ⟨this.1, this.1 ▸ this.2⟩
  · simp only [hc] at h; cases h

/-- 1 and the sum of the attackers' strengths -/
def sumF (A : Nat → Nat → Bool) (N : Nat) (out : List Fr) (i : Nat) : Option Fr := foldO (fun s b => addQ s (out.getD b z0)) (attL A N i) (fq 1 1)
def rdB (base : List Fr) (i : Nat) : Fr := rd (nN (base.getD i z0)) (dN (base.getD i z0))
def strStep (A : Nat → Nat → Bool) (N : Nat) (base out : List Fr) (i : Nat) : Option (List Fr) := (sumF A N out i).bind fun s => (divQ (rdB base i) s).bind fun f => some (out.set i f)
def strF (A : Nat → Nat → Bool) (N : Nat) (base : List Fr) (ord : List Nat) : Option (List Fr) := foldO (strStep A N base) ord (List.replicate N z0)
def strR (A : Nat → Nat → Bool) (N : Nat) (base : List Fr) : List Fr × Int :=
  match orderF A N with
  | none => ([], 8)
  | some ord => match strF A N base ord with
    | none => ([], 2)
    | some out => (out, 0)

structure BaseOk (N : Nat) (base : List Fr) : Prop where
  l : base.length = N
  b : ∀ i, i < N → ∃ n d : Nat, base.getD i z0 = fq n d ∧ 0 < d ∧ n ≤ d ∧ d < 2 ^ 63

theorem Good.pos {f : Fr} (h : Good f) : 0 < dN f := by obtain ⟨n, d, rfl, h1, _⟩ := h; exact h1
theorem Good.fq {f : Fr} (h : Good f) : f = fq (nN f) (dN f) ∧ nN f < 2 ^ 63 ∧ dN f < 2 ^ 63 ∧ 0 < dN f := by
  obtain ⟨n, d, rfl, h1, h2, h3⟩ := h
  have hM : M40 = 1099511627776 := rfl
  exact ⟨rfl, by simp; omega, by simp; omega, h1⟩

theorem addQ_good {x y f : Fr} (hx : Good x) (hy : Good y) (h : addQ x y = some f) : Good f ∧ (0 < nN x → 0 < nN f) := by
  obtain ⟨e, hw⟩ := addQ_some hx.pos hy.pos h
  have hp : 0 < dN x * dN y := Nat.mul_pos hx.pos hy.pos
  subst e
  refine ⟨(rd_good hp hw).1, fun h0 => (rd_good hp hw).2 ?_⟩
  have := Nat.mul_pos h0 hy.pos
  omega

theorem add_prog {x y : Fr} (hx : Good x) (hy : Good y) : degree_add_m x y = some (addN (nN x) (dN x) (nN y) (dN y)) ∧ ref22_add_m x y = some (addN (nN x) (dN x) (nN y) (dN y)) := by
  obtain ⟨ex, x1, x2, x3⟩ := hx.fq
  obtain ⟨ey, y1, y2, y3⟩ := hy.fq
  have h1 := add_plain x1 x2 y1 y2 x3 y3
  have h2 := radd_plain (a := nN x) (c := nN y) x3 y3
  rw [← ex, ← ey] at h1 h2
  exact ⟨h1, h2⟩

theorem iquo_u' {a b : Nat} (hb : b ≠ 0) (ha : a < 2 ^ 63) : iquoM .i64 (a : Int) (b : Int) = some ((a / b : Nat) : Int) := by
  unfold iquoM
  rw [if_neg (by omega), iquo_nn (by omega) (by omega) (by omega)]; rfl
theorem Reduced_big {a b : Nat} (hb : 0 < b) (ha1 : a < 2 ^ 63) (hb1 : b < 2 ^ 63) : ref22_Reduced_m (a : Int) (b : Int) = some (rd a b) := by
  unfold ref22_Reduced_m ref22_gcd_m
  rw [gcd_loop (fun a b => ?_)]
  · have hg : 0 < Nat.gcd b a := Nat.gcd_pos_of_pos_left a hb
    rw [some_bind, some_bind, iquo_u' (by omega) ha1, some_bind, iquo_u' (by omega) hb1, some_bind]
    unfold rd; rw [Nat.gcd_comm]
  · unfold ref22_gcd_l1
    by_cases h : b = 0
    · subst h; rfl
    · rw [if_neg h]
      simp only
      rw [show (((b : Nat) : Int) != 0) = true by simp [h], irem_u h]; rfl

theorem foldO_filter {α β : Type} {g : β → α → Option β} {p : α → Bool} : ∀ {l : List α} {b : β}, foldO (fun b x => if p x = true then g b x else some b) l b = foldO g (l.filter p) b
  | [], _ => rfl
  | x :: l, b => by
    by_cases hp : p x = true
    · rw [List.filter_cons_of_pos hp]
      show (if p x = true then g b x else some b).bind _ = (g b x).bind (foldO g (l.filter p))
      rw [if_pos hp]
      cases g b x with
      | none => rfl
      | some b' => exact foldO_filter
    · rw [List.filter_cons_of_neg hp]
      show (if p x = true then g b x else some b).bind (foldO (fun b x => if p x = true then g b x else some b) l) = foldO g (l.filter p) b
      rw [if_neg hp]; exact foldO_filter

section
variable {N : Nat} {base : List Fr} (hB : BaseOk N base)
include hB
theorem base_idx {i : Nat} (hi : i < N) : idxM base (i : Int) = some (base.getD i z0) := by
  rw [idxM_nat (by rw [hB.l]; exact hi)]; simp [List.getD, hB.l, hi]
theorem rdB_parts {i : Nat} (hi : i < N) : ∃ n d : Nat, rdB base i = fq n d ∧ 0 < d ∧ n ≤ d ∧ d < 2 ^ 63 := by
  obtain ⟨a, b, e, h1, h2, h3⟩ := hB.b i hi
  obtain ⟨n, d, e2, k1, k2, k3, k4, k5⟩ := rd_parts (a := a) h1
  refine ⟨n, d, by unfold rdB; rw [e]; exact e2, k1, ?_, by omega⟩
  have : n * b ≤ b * d := by rw [k2]; exact Nat.mul_le_mul_right d h2
  rw [Nat.mul_comm] at this
  exact Nat.le_of_mul_le_mul_left this h1

theorem base_red {i : Nat} (hi : i < N) : ref22_Reduced_m (base.getD i z0).Num (base.getD i z0).Den = some (rdB base i) ∧ degree_reduce_m (base.getD i z0) = some (rdB base i) := by
  obtain ⟨a, b, e, h1, h2, h3⟩ := hB.b i hi
  have : ref22_Reduced_m (base.getD i z0).Num (base.getD i z0).Den = some (rdB base i) := by
    unfold rdB; rw [e]; exact Reduced_big h1 (by omega) h3
  exact ⟨this, reduce_eq.trans this⟩

/-- what is kept between two nodes -/
def SInv (N : Nat) (ord : List Nat) (k : Nat) (out : List Fr) : Prop := out.length = N ∧ ∀ b ∈ ord.take k, Good (out.getD b z0)

theorem sum_inv {A : Nat → Nat → Bool} {out : List Fr} {i : Nat} (hg : ∀ b ∈ attL A N i, Good (out.getD b z0)) {s : Fr} (h : sumF A N out i = some s) : Good s ∧ 0 < nN s := by
  unfold sumF at h
  have : ∀ (l : List Nat) (s0 : Fr), (∀ b ∈ l, Good (out.getD b z0)) → Good s0 → 0 < nN s0 → foldO (fun s b => addQ s (out.getD b z0)) l s0 = some s → Good s ∧ 0 < nN s := by
    intro l
    induction l with
    | nil => intro s0 _ h1 h2 h3; cases h3; exact ⟨h1, h2⟩
    | cons b l ih =>
      intro s0 hl h1 h2 h3
      unfold foldO at h3
      obtain ⟨s1, h4, h5⟩ := Option.bind_eq_some_iff.1 h3
      have := addQ_good h1 (hl b (by simp)) h4
      exact ih s1 (fun x hx => hl x (List.mem_cons_of_mem _ hx)) this.1 (this.2 h2) h5
  exact this _ _ hg ⟨1, 1, rfl, by decide, by decide, by decide⟩ (by decide) h

theorem step_inv {A : Nat → Nat → Bool} {ord : List Nat} {out out' : List Fr} {k : Nat} (hk : k < ord.length) (hi : ord[k] < N) (ho : SInv N ord k out) (hg : ∀ b ∈ attL A N ord[k], b ∈ ord.take k)
    (h : strStep A N base out ord[k] = some out') : SInv N ord (k + 1) out' := by
  unfold strStep at h
  obtain ⟨s, h1, h2⟩ := Option.bind_eq_some_iff.1 h
  obtain ⟨f, h3, h4⟩ := Option.bind_eq_some_iff.1 h2
  cases h4
  obtain ⟨hs, hs0⟩ := sum_inv hB (fun b hb => ho.2 b (hg b hb)) h1
  obtain ⟨n, d, e, d0, _, _⟩ := rdB_parts hB hi
  obtain ⟨e2, hw⟩ := divQ_some h3
  have hf : Good f := by
    rw [e2] at hw ⊢
    exact (rd_good (Nat.mul_pos (by rw [e]; exact d0) hs0) hw).1
  refine ⟨by rw [List.length_set]; exact ho.1, fun b hb => ?_⟩
  rw [List.take_add_one, List.getElem?_eq_getElem hk] at hb
  by_cases eb : b = ord[k]
  · subst eb
    rw [List.getD_eq_getElem?_getD, List.getElem?_set_self (by rw [ho.1]; exact hi)]; exact hf
  · have : b ∈ ord.take k := by
      rcases List.mem_append.1 hb with hb | hb
      · exact hb
      · simp at hb; exact absurd hb eb
    rw [List.getD_eq_getElem?_getD, List.getElem?_set_ne (fun e => eb e.symm), ← List.getD_eq_getElem?_getD]
    exact ho.2 b this
end
end Go.Dc

set_option linter.unusedVariables false
set_option linter.unusedSimpArgs false
set_option linter.unusedSectionVars false
namespace Go.Dc

theorem addQ_eq {x y : Fr} : addQ x y = if (addN (nN x) (dN x) (nN y) (dN y)).2 = true then some (addN (nN x) (dN x) (nN y) (dN y)).1 else none := rfl

theorem divQ_eq {x y : Fr} : divQ x y = if (divN (nN x) (dN x) (nN y) (dN y)).2 = true then some (divN (nN x) (dN x) (nN y) (dN y)).1 else none := rfl

section
variable {N : Nat} {base : List Fr} (hB : BaseOk N base) (hN : N ≤ 40)
include hB hN

theorem good_idx {out : List Fr} {b : Nat} (ho : out.length = N) (hb : b < N) : idxM out (b : Int) = some (out.getD b z0) := by
  rw [idxM_nat (by rw [ho]; exact hb)]; simp [List.getD, ho, hb]

/-! the program -/
theorem prog_l2 {n : Nt} (h : NtOk N n) (hall : ∀ i, n.all.testBit i = true ↔ i < N) {out : List Fr} {i k : Nat} (ho : out.length = N) (hg : ∀ b ∈ attL (byA n) N i, Good (out.getD b z0)) :
    loopC (degree_Strength_l2 ((k : Int), out) (il (attL (byA n) N i))) (0, fq 1 1) = some (match sumF (byA n) N out i with | some s => .inr s | none => .inl ([], 2)) := by
  have hlen : (attL (byA n) N i).length ≤ 40 := by unfold attL; refine Nat.le_trans (List.length_filter_le _ _) ?_; simp; omega
  have hm : ∀ j (hj : j < (attL (byA n) N i).length), (attL (byA n) N i)[j] < N := fun j hj => (mem_attL.1 (List.getElem_mem hj)).1
  have H := foldM_loop (l := attL (byA n) N i) (f := degree_Strength_l2 ((k : Int), out) (il (attL (byA n) N i))) (fun s b => addQ s (out.getD b z0)) (fun s => s) ([], (2 : Int)) (fun _ s => Good s) (b0 := fq 1 1) ⟨1, 1, rfl, by decide, by decide, by decide⟩ (fun j hj s hs => ?_) (fun s hs => ?_)
  · rcases H with ⟨s, h1, h2, _⟩ | ⟨h1, h2⟩
    · unfold sumF; rw [h1]; exact h2
    · unfold sumF; rw [h1]; exact h2
  · have hb := hg _ (List.getElem_mem hj)
    have hx := hm j hj
    have key : degree_Strength_l2 ((k : Int), out) (il (attL (byA n) N i)) ((j : Int), s) = (bif !(addN (nN s) (dN s) (nN (out.getD (attL (byA n) N i)[j] z0)) (dN (out.getD (attL (byA n) N i)[j] z0))).2 then some (Sum.inl (Sum.inl ([], 2))) else some (Sum.inr (((j + 1 : Nat) : Int), (addN (nN s) (dN s) (nN (out.getD (attL (byA n) N i)[j] z0)) (dN (out.getD (attL (byA n) N i)[j] z0))).1))) := by
      unfold degree_Strength_l2
      simp only
      rw [decide_eq_true (by simp; omega), cond_true, il_idx hj, some_bind, show (attL (byA n) N i).getD j 0 = (attL (byA n) N i)[j] by simp [List.getD, hj], good_idx hB hN ho hx, some_bind, (add_prog hs hb).1, some_bind, iadd1 (by omega)]
    rw [addQ_eq, key]
    cases hc : (addN (nN s) (dN s) (nN (out.getD (attL (byA n) N i)[j] z0)) (dN (out.getD (attL (byA n) N i)[j] z0))).2 with
    | true =>
      refine .inl ⟨_, if_pos rfl, rfl, ?_⟩
      exact (addQ_good hs hb (by rw [addQ_eq, hc, if_pos rfl])).1
    | false => exact .inr ⟨by simp, rfl⟩
  · unfold degree_Strength_l2
    simp only
    rw [decide_eq_false (by simp), cond_false]


theorem prog_l1 {n : Nt} (h : NtOk N n) (hall : ∀ i, n.all.testBit i = true ↔ i < N) {ord : List Nat} (ho : OrdOk (byA n) N ord) :
    loopC (degree_Strength_l1 base n.t (il ord, true)) (0, List.replicate N z0) = some (match strF (byA n) N base ord with | some out => .inr out | none => .inl ([], 2)) := by
  have hlen := ho.len
  have H := foldM_loop (l := ord) (f := degree_Strength_l1 base n.t (il ord, true)) (strStep (byA n) N base) (fun s => s) ([], (2 : Int)) (SInv N ord) (b0 := List.replicate N z0) ⟨by simp, by simp⟩ (fun k hk out hI => ?_) (fun s hs => ?_)
  · rcases H with ⟨s, h1, h2, _⟩ | ⟨h1, h2⟩
    · unfold strF; rw [h1]; exact h2
    · unfold strF; rw [h1]; exact h2
  · have hi : ord[k] < N := ho.lt _ (List.getElem_mem hk)
    have hby : bitsL (n.by_.getD ord[k] 0) = attL (byA n) N ord[k] := by
      refine asc_ext (bitsL_asc _) (range_asc N _) fun x => ?_
      rw [mem_bitsL (h.byLt _)]; exact (by_mem h hall).symm
    have hgo : ∀ b ∈ attL (byA n) N ord[k], Good (out.getD b z0) := fun b hb => hI.2 b (ho.tp k hk b hb)
    have key : degree_Strength_l1 base n.t (il ord, true) ((k : Int), out) = Option.bind (some (match sumF (byA n) N out ord[k] with | some s => (Sum.inr s : Sum (List Fr × Int) Fr) | none => .inl ([], 2))) (sumK (fun a : List T_api_Fraction × Int => some (Sum.inl (Sum.inl a))) fun q114 : T_api_Fraction =>
        Option.bind (degree_divide_m (rdB base ord[k]) q114) fun t118 =>
        bif !t118.2 then some (Sum.inl (Sum.inl ([], 2))) else some (Sum.inr (((k + 1 : Nat) : Int), out.set ord[k] t118.1))) := by
      unfold degree_Strength_l1
      simp only
      rw [decide_eq_true (by simp; omega), cond_true, il_idx hk, some_bind, show ord.getD k 0 = ord[k] by simp [List.getD, hk], show n.t.By = il n.by_ from rfl, il_idx (by rw [h.lb]; exact hi), some_bind, List_plain (h.byLt _), some_bind, hby,
        show (T_api_Fraction.mk 1 1) = fq 1 1 from rfl, prog_l2 hB hN h hall hI.1 hgo]
      congr 1
      funext o
      cases o with
      | inl a => rfl
      | inr q =>
        simp only [sumK_inr]
        rw [base_idx hB hi, some_bind, (base_red hB hi).2, some_bind]
        congr 1
        funext t
        rw [good_idx hB hN hI.1 hi, some_bind, iadd1 (by omega), Int.toNat_natCast]
    rw [key]
    have hss : strStep (byA n) N base out ord[k] = (sumF (byA n) N out ord[k]).bind fun s => (divQ (rdB base ord[k]) s).bind fun f => some (out.set ord[k] f) := rfl
    cases hs : sumF (byA n) N out ord[k] with
    | none => exact .inr ⟨by rw [hss, hs]; rfl, rfl⟩
    | some s =>
      obtain ⟨hsg, hs0⟩ := sum_inv hB hgo hs
      obtain ⟨es, s1, s2, s3⟩ := hsg.fq
      obtain ⟨a, b, e, b0, ab, b1⟩ := rdB_parts hB hi
      have hdiv : degree_divide_m (rdB base ord[k]) s = some (divN (nN (rdB base ord[k])) (dN (rdB base ord[k])) (nN s) (dN s)) := by
        have := divide_plain (a := a) (b := b) (c := nN s) (d := dN s) (by omega) b1 s1 s2 b0 hs0
        rw [← es] at this
        rw [e]; exact this
      simp only [some_bind, sumK_inr]
      rw [hdiv, some_bind, hss, hs, some_bind, divQ_eq]
      cases hc : (divN (nN (rdB base ord[k])) (dN (rdB base ord[k])) (nN s) (dN s)).2 with
      | true =>
        refine .inl ⟨_, by rw [if_pos rfl, some_bind], rfl, ?_⟩
        exact step_inv hB hk hi hI (ho.tp k hk) (by rw [hss, hs, some_bind, divQ_eq, hc, if_pos rfl, some_bind])
      | false => exact .inr ⟨by simp, rfl⟩
  · unfold degree_Strength_l1
    simp only
    rw [decide_eq_false (by simp), cond_false]

/-! the reference -/
theorem ref_l3 {g : T_api_Graph} (hn : g.N = (N : Int)) (hl : g.L.length ≤ 1000000) {out : List Fr} {i k : Nat} (ho : out.length = N) (hg : ∀ b ∈ attL (hasA g) N i, Good (out.getD b z0)) :
    loopC (ref22_Strength_l3 g ((k : Int), out) (i : Int)) (0, fq 1 1) = some (match sumF (hasA g) N out i with | some s => .inr s | none => .inl ([], 2)) := by
  have hl2 : (List.range N).length = N := by simp
  have hf : sumF (hasA g) N out i = foldO (fun s b => if hasA g b i = true then addQ s (out.getD b z0) else some s) (List.range N) (fq 1 1) := (foldO_filter (g := fun s b => addQ s (out.getD b z0)) (p := fun b => hasA g b i)).symm
  have H := foldM_loop (l := List.range N) (f := ref22_Strength_l3 g ((k : Int), out) (i : Int)) (fun s b => if hasA g b i = true then addQ s (out.getD b z0) else some s) (fun s => s) ([], (2 : Int)) (fun _ s => Good s) (b0 := fq 1 1) ⟨1, 1, rfl, by decide, by decide, by decide⟩ (fun j hj s hs => ?_) (fun s hs => ?_)
  · rcases H with ⟨s, h1, h2, _⟩ | ⟨h1, h2⟩
    · rw [hf, h1]; exact h2
    · rw [hf, h1]; exact h2
  · have hj' : j < N := by simpa using hj
    have hget : (List.range N)[j] = j := by simp
    rw [hget]
    have k0 : ref22_Strength_l3 g ((k : Int), out) (i : Int) ((j : Int), s) = (bif !hasA g j i then some (Sum.inr (((j + 1 : Nat) : Int), s)) else Option.bind (idxM out (j : Int)) fun t132 => Option.bind (ref22_add_m s t132) fun t133 => bif !t133.2 then some (Sum.inl (Sum.inl ([], 2))) else some (Sum.inr (((j + 1 : Nat) : Int), t133.1))) := by
      unfold ref22_Strength_l3
      simp only
      rw [hn, decide_eq_true (by omega), cond_true, nHas_plain hl, some_bind, letM_eq, iadd1 (by omega)]
      rfl
    rw [k0]
    cases hA : hasA g j i with
    | false => exact .inl ⟨s, by simp, rfl, hs⟩
    | true =>
      have hb := hg j (mem_attL.2 ⟨hj', hA⟩)
      rw [Bool.not_true, cond_false, good_idx hB hN ho hj', some_bind, (add_prog hs hb).2, some_bind, if_pos rfl, addQ_eq]
      cases hc : (addN (nN s) (dN s) (nN (out.getD j z0)) (dN (out.getD j z0))).2 with
      | true => exact .inl ⟨_, if_pos rfl, rfl, (addQ_good hs hb (by rw [addQ_eq, hc, if_pos rfl])).1⟩
      | false => exact .inr ⟨by simp, rfl⟩
  · unfold ref22_Strength_l3
    simp only
    rw [hn, decide_eq_false (by simp), cond_false]


theorem ref_l2 {g : T_api_Graph} (hn : g.N = (N : Int)) (hl : g.L.length ≤ 1000000) {ord : List Nat} (ho : OrdOk (hasA g) N ord) :
    loopC (ref22_Strength_l2 g base (il ord)) (0, List.replicate N z0) = some (match strF (hasA g) N base ord with | some out => .inr out | none => .inl ([], 2)) := by
  have hlen := ho.len
  have H := foldM_loop (l := ord) (f := ref22_Strength_l2 g base (il ord)) (strStep (hasA g) N base) (fun s => s) ([], (2 : Int)) (SInv N ord) (b0 := List.replicate N z0) ⟨by simp, by simp⟩ (fun k hk out hI => ?_) (fun s hs => ?_)
  · rcases H with ⟨s, h1, h2, _⟩ | ⟨h1, h2⟩
    · unfold strF; rw [h1]; exact h2
    · unfold strF; rw [h1]; exact h2
  · have hi : ord[k] < N := ho.lt _ (List.getElem_mem hk)
    have hgo : ∀ b ∈ attL (hasA g) N ord[k], Good (out.getD b z0) := fun b hb => hI.2 b (ho.tp k hk b hb)
    have hss : strStep (hasA g) N base out ord[k] = (sumF (hasA g) N out ord[k]).bind fun s => (divQ (rdB base ord[k]) s).bind fun f => some (out.set ord[k] f) := rfl
    have key : ref22_Strength_l2 g base (il ord) ((k : Int), out) = Option.bind (some (match sumF (hasA g) N out ord[k] with | some s => (Sum.inr s : Sum (List Fr × Int) Fr) | none => .inl ([], 2))) (sumK (fun a : List T_api_Fraction × Int => some (Sum.inl (Sum.inl a))) fun q138 : T_api_Fraction =>
      Option.bind (ref22_product_m (rdB base ord[k]).Num q138.Den) fun t145 =>
      Option.bind (ref22_product_m (rdB base ord[k]).Den q138.Num) fun t146 =>
      bif !t145.2 then
        some (Sum.inl (Sum.inl ([], 2)))
      else
        bif !t146.2 then
          some (Sum.inl (Sum.inl ([], 2)))
        else
          Option.bind (ref22_Reduced_m t145.1 t146.1) fun t147 =>
          Option.bind (ref22_within_m t147) fun t148 =>
          bif !t148 then
            some (Sum.inl (Sum.inl ([], 2)))
          else
            Option.bind (ref22_Reduced_m t145.1 t146.1) fun t150 =>
            some (Sum.inr (((k + 1 : Nat) : Int), out.set ord[k] t150))) := by
      unfold ref22_Strength_l2
      simp only
      rw [decide_eq_true (by simp; omega), cond_true, il_idx hk, some_bind, show ord.getD k 0 = ord[k] by simp [List.getD, hk], show (T_api_Fraction.mk 1 1) = fq 1 1 from rfl, ref_l3 hB hN hn hl hI.1 hgo]
      congr 1
      funext o
      cases o with
      | inl a => rfl
      | inr q =>
        simp only [sumK_inr]
        rw [base_idx hB hi, some_bind, some_bind, (base_red hB hi).1, some_bind, good_idx hB hN hI.1 hi, iadd1 (by omega), Int.toNat_natCast]
        rfl
    rw [key]
    cases hs : sumF (hasA g) N out ord[k] with
    | none => exact .inr ⟨by rw [hss, hs]; rfl, rfl⟩
    | some s =>
      obtain ⟨hsg, hs0⟩ := sum_inv hB hgo hs
      obtain ⟨es, s1, s2, s3⟩ := hsg.fq
      obtain ⟨a, b, e, b0, ab, b1⟩ := rdB_parts hB hi
      simp only [some_bind, sumK_inr]
      have hsN : s.Num = (nN s : Int) := by rw [es]; rfl
      have hsD : s.Den = (dN s : Int) := by rw [es]; rfl
      have hrN : (rdB base ord[k]).Num = (a : Int) := by rw [e]; rfl
      have hrD : (rdB base ord[k]).Den = (b : Int) := by rw [e]; rfl
      have enN : nN (rdB base ord[k]) = a := by rw [e]; rfl
      have enD : dN (rdB base ord[k]) = b := by rw [e]; rfl
      rw [hsN, hsD, hrN, hrD, rproduct_plain, some_bind, rproduct_plain, some_bind, prodR_1, prodR_1]
      have hdq : strStep (hasA g) N base out ord[k] = (if (divN a b (nN s) (dN s)).2 = true then some (divN a b (nN s) (dN s)).1 else none).bind fun f => some (out.set ord[k] f) := by
        rw [hss, hs, some_bind, divQ_eq, enN, enD]
      rw [hdq]
      by_cases h1 : a * dN s ≤ BIG
      · by_cases h2 : b * nN s ≤ BIG
        · rw [decide_eq_true h1, decide_eq_true h2, prodR_2 h1, prodR_2 h2, Reduced_plain (Nat.mul_pos b0 hs0) h1 h2]
          have hdv : divN a b (nN s) (dN s) = (rd (a * dN s) (b * nN s), wiB (rd (a * dN s) (b * nN s))) := by unfold divN; rw [if_pos ⟨h1, h2⟩]
          simp only [some_bind, Bool.not_true, cond_false]
          rw [within_plain, some_bind, hdv]
          cases hc : wiB (rd (a * dN s) (b * nN s)) with
          | true =>
            refine .inl ⟨out.set ord[k] (rd (a * dN s) (b * nN s)), by simp, rfl, ?_⟩
            exact step_inv hB hk hi hI (ho.tp k hk) (by rw [hdq, hdv, hc]; rfl)
          | false => exact .inr ⟨by simp, rfl⟩
        · have hdv : divN a b (nN s) (dN s) = (z0, false) := by unfold divN; rw [if_neg (fun h => h2 h.2)]
          rw [decide_eq_true h1, decide_eq_false h2, hdv]
          exact .inr ⟨by simp, rfl⟩
      · have hdv : divN a b (nN s) (dN s) = (z0, false) := by unfold divN; rw [if_neg (fun h => h1 h.1)]
        rw [decide_eq_false h1, hdv]
        exact .inr ⟨by simp, rfl⟩
  · unfold ref22_Strength_l2
    simp only
    rw [decide_eq_false (by simp), cond_false]

end
end Go.Dc

set_option linter.unusedVariables false
set_option linter.unusedSimpArgs false
set_option linter.unusedSectionVars false
namespace Go.Dc

def badB (f : Fr) : Bool := decide (f.Den < 1) || decide (f.Num < 0) || decide (f.Num > f.Den)

theorem bad1_plain {f : Fr} : degree_Strength_1_m f = some (badB f) := by
  unfold degree_Strength_1_m badB
  cases decide (f.Den < 1) <;> cases decide (f.Num < 0) <;> cases decide (f.Num > f.Den) <;> rfl

theorem contains_plain {base : List Fr} (hl : base.length ≤ 1000000) : slices_ContainsFunc_api_Fraction_api_Fraction_m base = some (base.any badB) := by
  unfold slices_ContainsFunc_api_Fraction_api_Fraction_m slices_IndexFunc_api_Fraction_api_Fraction_m
  refine T.eq (T.bind (P := fun r : Int => decide (r ≥ 0) = base.any badB) ?_ fun r hr => by rw [letM_eq]; exact .ret hr)
  refine T.bind (P := fun o : Sum Int Unit => match o with | .inl r => 0 ≤ r ∧ base.any badB = true | .inr _ => base.any badB = false) ?_ fun o ho => ?_
  · refine T.loopK base.length (fun k s => k ≤ base.length ∧ s = (k : Int) ∧ (base.take k).any badB = false) ⟨by omega, rfl, by simp⟩ ?_
    rintro k _ ⟨hk, rfl, hf⟩
    dsimp only [slices_IndexFunc_api_Fraction_api_Fraction_l1]
    refine T.cond (fun g1 => ?_) fun g1 => ?_
    · have hk1 : k < base.length := by have := of_decide_eq_true g1; omega
      have htk : base.take (k + 1) = base.take k ++ [base[k]] := by rw [List.take_add_one, List.getElem?_eq_getElem hk1]; rfl
      rw [idxM_nat hk1, some_bind, bad1_plain, some_bind]
      refine T.cond (fun g2 => ?_) fun g2 => ?_
      · exact .ret ⟨by omega, List.any_eq_true.2 ⟨_, List.getElem_mem hk1, g2⟩⟩
      · rw [iadd1 (by omega)]
        exact .ret ⟨hk1, by omega, rfl, by rw [htk, List.any_append, hf]; simp [g2]⟩
    · have hk1 : k = base.length := by have := of_decide_eq_false g1; omega
      subst hk1
      rw [List.take_length] at hf
      exact .ret hf
  · cases o with
    | inl r => exact .ret (by rw [ho.2]; exact decide_eq_true ho.1)
    | inr u => exact .ret (by rw [ho]; rfl)

theorem rbad_plain {base : List Fr} (hl : base.length ≤ 1000000) : loopC (ref22_Strength_l1 base) 0 = some (if base.any badB = true then .inl ([], 1) else .inr ()) := by
  refine T.eq (T.loopK base.length (fun k s => k ≤ base.length ∧ s = (k : Int) ∧ (base.take k).any badB = false) ⟨by omega, rfl, by simp⟩ ?_)
  rintro k _ ⟨hk, rfl, hf⟩
  dsimp only [ref22_Strength_l1]
  refine T.cond (fun g1 => ?_) fun g1 => ?_
  · have hk1 : k < base.length := by have := of_decide_eq_true g1; omega
    have htk : base.take (k + 1) = base.take k ++ [base[k]] := by rw [List.take_add_one, List.getElem?_eq_getElem hk1]; rfl
    have bad : badB base[k] = true → base.any badB = true := fun h => List.any_eq_true.2 ⟨_, List.getElem_mem hk1, h⟩
    rw [idxM_nat hk1, some_bind]
    refine T.cond (fun g2 => ?_) fun g2 => ?_
    · refine .ret ?_
      show _ = _
      rw [if_pos (bad (by unfold badB; rw [g2]; rfl))]
    · rw [some_bind]
      refine T.cond (fun g3 => ?_) fun g3 => ?_
      · refine .ret ?_
        show _ = _
        rw [if_pos (bad (by unfold badB; rw [g2, g3]; rfl))]
      · rw [some_bind, some_bind]
        refine T.cond (fun g4 => ?_) fun g4 => ?_
        · refine .ret ?_
          show _ = _
          rw [if_pos (bad (by unfold badB; rw [g2, g3, g4]; rfl))]
        · rw [letM_eq, iadd1 (by omega)]
          exact .ret ⟨hk1, by omega, rfl, by rw [htk, List.any_append, hf]; simp [badB, g2, g3, g4]⟩
  · have hk1 : k = base.length := by have := of_decide_eq_false g1; omega
    subst hk1
    rw [List.take_length] at hf
    refine .ret ?_
    show _ = _
    rw [if_neg (by rw [hf]; simp)]

theorem base_ok {N : Nat} {base : List Fr} (hl : base.length = N) (hb : base.any badB = false) (hw : ∀ f ∈ base, f.Den < 9223372036854775808) : BaseOk N base := by
  refine ⟨hl, fun i hi => ?_⟩
  have hi' : i < base.length := by omega
  have hg : base.getD i z0 = base[i] := by simp [List.getD, hi']
  rw [hg]
  have h1 : badB base[i] = false := by
    have := List.any_eq_false.1 hb _ (List.getElem_mem hi')
    simpa using this
  have h2 := hw _ (List.getElem_mem hi')
  unfold badB at h1
  simp only [Bool.or_eq_false_iff, decide_eq_false_iff_not] at h1
  generalize base[i] = f at *
  obtain ⟨n, d⟩ := f
  simp only at *
  refine ⟨n.toNat, d.toNat, ?_, by omega, by omega, by omega⟩
  unfold fq
  congr 1 <;> omega

theorem byA_hasA {N : Nat} {g : T_api_Graph} {n : Nt} (h : NtOk N n) (hat : ∀ i j, n.a i j ↔ atL g.L i j) : byA n = hasA g := by
  funext b a
  rw [Bool.eq_iff_iff]
  unfold byA
  rw [h.sy, hat]
  unfold atL hasA
  rw [List.any_eq_true]
  constructor
  · rintro ⟨p, hp, h1, h2⟩; exact ⟨p, hp, by simp [h1, h2]⟩
  · rintro ⟨p, hp, h1⟩; simp at h1; exact ⟨p, hp, h1.1, h1.2⟩

theorem strength_val {N : Nat} {g : T_api_Graph} {base : List Fr} (hv : graph_Validate_m g = some 0) (hg : GVal g) (hn : g.N = (N : Int)) (hl : g.L.length ≤ 1000000) (hB : BaseOk N base) (hb : base.any badB = false) :
    degree_Strength_m g base = some (strR (hasA g) N base) ∧ ref22_Strength_m g base = some (strR (hasA g) N base) := by
  have hN : N ≤ 40 := by have := hg.n1; omega
  have hbl := hB.l
  constructor
  · unfold degree_Strength_m
    rw [hv, some_bind, show ((0 : Int) != 0) = false from rfl, cond_false, hn, hbl, show ((N : Int) != (N : Int)) = false by simp, cond_false, contains_plain (by omega), some_bind, hb, cond_false]
    have hgg : g = ⟨(N : Int), g.L⟩ := by cases g; simp only at hn; subst hn; rfl
    obtain ⟨t, ht, n, rfl, hok, hall, hat⟩ := New_plain2 hN (l := g.L) (fun p hp => by have := hg.v p hp; rw [hn] at this; exact this) hl
    rw [show network_New_m g = some n.t by rw [hgg]; exact ht, some_bind, order_plain hok hall, some_bind]
    have hA := byA_hasA hok hat
    unfold strR
    rw [← hA]
    cases ho : orderF (byA n) N with
    | none => rfl
    | some ord =>
      obtain ⟨h1, h2⟩ := orderF_ok ho
      simp only [Bool.not_true, cond_false]
      rw [mkM_T (by omega), some_bind, show List.replicate N (T_api_Fraction.mk 0 0) = List.replicate N z0 from rfl, prog_l1 hB hN hok hall h1]
      cases strF (byA n) N base ord <;> rfl
  · unfold ref22_Strength_m
    rw [← val_eq hl, hv, some_bind, show ((0 : Int) != 0) = false from rfl, cond_false, hn, hbl, show ((N : Int) != (N : Int)) = false by simp, cond_false, rbad_plain (by omega), hb, some_bind]
    simp only [Bool.false_eq_true, if_false, sumK_inr]
    rw [rorder_plain hN hn hl, some_bind]
    have hok := passN_ok (A := hasA g) (N := N) N
    have hlen := hok.len
    unfold strR
    by_cases he : (passN (hasA g) N N).length = N
    · have ho : orderF (hasA g) N = some (passN (hasA g) N N) := by unfold orderF; rw [if_pos he]
      rw [ho, decide_eq_false (by simp; omega), cond_false, mkM_T (by omega), some_bind, show List.replicate N (T_api_Fraction.mk 0 0) = List.replicate N z0 from rfl, ref_l2 hB hN hn hl hok]
      simp only
      cases strF (hasA g) N base (passN (hasA g) N N) <;> rfl
    · have ho : orderF (hasA g) N = none := by unfold orderF; rw [if_neg he]
      rw [ho, decide_eq_true (by simp; omega), cond_true]

theorem foldO_len {N : Nat} {A : Nat → Nat → Bool} {base : List Fr} : ∀ {l : List Nat} {out r : List Fr}, foldO (strStep A N base) l out = some r → r.length = out.length
  | [], out, r, h => by cases h; rfl
  | x :: l, out, r, h => by
    unfold foldO at h
    obtain ⟨o, h1, h2⟩ := Option.bind_eq_some_iff.1 h
    have := foldO_len h2
    unfold strStep at h1
    obtain ⟨s, _, h3⟩ := Option.bind_eq_some_iff.1 h1
    obtain ⟨f, _, h4⟩ := Option.bind_eq_some_iff.1 h3
    cases h4
    simpa using this

theorem strR_len {A : Nat → Nat → Bool} {N : Nat} {base : List Fr} : (strR A N base).1.length ≤ N := by
  unfold strR
  cases orderF A N with
  | none => simp
  | some ord =>
    simp only
    cases h : strF A N base ord with
    | none => simp
    | some out => simp only; unfold strF at h; have := foldO_len h; simp at this; omega

theorem strength_both {g : T_api_Graph} {base : List Fr} (hl : g.L.length ≤ 1000000) (hbl : base.length ≤ 1000000) (hw : ∀ f ∈ base, f.Den < 9223372036854775808) :
    ∃ r, degree_Strength_m g base = some r ∧ ref22_Strength_m g base = some r ∧ r.1.length ≤ 40 := by
  obtain ⟨v, hv, hv2⟩ := gV_plain (g := g) hl
  have hrv := val_eq (g := g) hl
  rw [hv] at hrv
  by_cases h0 : v = 0
  · subst h0
    have hval := (hv2.1 rfl).val
    by_cases hln : (base.length : Int) = g.N
    · cases hb : base.any badB with
      | true =>
        refine ⟨([], 1), ?_, ?_, by simp⟩
        · unfold degree_Strength_m
          rw [hv, some_bind, show ((0 : Int) != 0) = false from rfl, cond_false, hln, show (g.N != g.N) = false by simp, cond_false, contains_plain hbl, some_bind, hb, cond_true]
        · unfold ref22_Strength_m
          rw [← hrv, some_bind, show ((0 : Int) != 0) = false from rfl, cond_false, hln, show (g.N != g.N) = false by simp, cond_false, rbad_plain hbl, hb]
          rfl
      | false =>
        have hB := base_ok (N := base.length) rfl hb hw
        obtain ⟨h1, h2⟩ := strength_val hv hval hln.symm hl hB hb
        have hn1 := hval.n1
        exact ⟨_, h1, h2, by have := strR_len (A := hasA g) (N := base.length) (base := base); omega⟩
    · have hne : ((base.length : Int) != g.N) = true := by simpa using hln
      refine ⟨([], 1), ?_, ?_, by simp⟩
      · unfold degree_Strength_m
        rw [hv, some_bind, show ((0 : Int) != 0) = false from rfl, cond_false, hne, cond_true]
      · unfold ref22_Strength_m
        rw [← hrv, some_bind, show ((0 : Int) != 0) = false from rfl, cond_false, hne, cond_true]
  · have hb : (v != 0) = true := by simpa using h0
    exact ⟨([], v), by unfold degree_Strength_m; rw [hv, some_bind, hb, cond_true], by unfold ref22_Strength_m; rw [← hrv, some_bind, hb, cond_true], by simp⟩

theorem Same_plain {l : List Fr} (hl : l.length ≤ 1000000) : ref22_Same_m l l = some true := by
  unfold ref22_Same_m
  rw [show ((l.length : Int) != (l.length : Int)) = false by simp, cond_false]
  have : loopC (ref22_Same_l1 l l) 0 = some (.inr ()) := by
    refine T.eq (T.loopK l.length (fun i s => s = (i : Int) ∧ i ≤ l.length) ⟨rfl, by omega⟩ ?_)
    rintro i _ ⟨rfl, hi⟩
    dsimp only [ref22_Same_l1]
    refine T.cond (fun g1 => ?_) fun g1 => .ret rfl
    have g1' := of_decide_eq_true g1
    have hi1 : i < l.length := by omega
    rw [idxM_nat hi1, some_bind, some_bind, iadd1 (by omega)]
    exact T.cond (fun g2 => by simp at g2) fun _ => .ret ⟨hi1, rfl, by omega⟩
  rw [this]; rfl
end Go.Dc
