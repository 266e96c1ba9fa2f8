/- Part P22A.Str3 of a proof: lemmas. -/
import Derived.Test.YtmbflfngkcmfeaaDoorP22AOrd2
set_option linter.unusedVariables false
set_option linter.unusedSimpArgs false
set_option linter.unusedSectionVars false
/-! Strengths: both programs fold the same step over the same order. -/
namespace Go.Dc

def M40 : Nat := 1099511627776
def Good (f : Fr) : Prop := ∃ n d : Nat, f = fq n d ∧ 0 < d ∧ n ≤ M40 ∧ d ≤ M40
def nN (f : Fr) : Nat := f.Num.toNat
def dN (f : Fr) : Nat := f.Den.toNat
@[simp] theorem nN_fq {n d : Nat} : nN (fq n d) = n := rfl
@[simp] theorem dN_fq {n d : Nat} : dN (fq n d) = d := rfl

theorem rd_good {a b : Nat} (hb : 0 < b) (hw : wiB (rd a b) = true) : Good (rd a b) ∧ (0 < a → 0 < nN (rd a b)) := by
  obtain ⟨n, d, e, h1, h2, h3, h4, h5⟩ := rd_parts (a := a) hb
  rw [e] at hw ⊢
  unfold wiB at hw
  rw [Bool.and_eq_true, decide_eq_true_iff, decide_eq_true_iff] at hw
  simp only at hw
  have hM : M40 = 1099511627776 := rfl
  exact ⟨⟨n, d, rfl, h1, by omega, by omega⟩, fun ha => by show 0 < ((n : Int)).toNat; omega⟩

def addQ (x y : Fr) : Option Fr := let r := addN (nN x) (dN x) (nN y) (dN y); if r.2 = true then some r.1 else none
def divQ (x y : Fr) : Option Fr := let r := divN (nN x) (dN x) (nN y) (dN y); if r.2 = true then some r.1 else none

theorem addN_ok {a b c d : Nat} (hb : 0 < b) (hd : 0 < d) (h : (addN a b c d).2 = true) : (addN a b c d).1 = rd (a * d + c * b) (b * d) ∧ wiB (rd (a * d + c * b) (b * d)) = true := by
  unfold addN at h ⊢
  by_cases hc : a * d ≤ BIG ∧ c * b ≤ BIG ∧ b * d ≤ BIG ∧ a * d + c * b ≤ BIG
  · rw [if_pos hc] at h ⊢; exact ⟨rfl, h⟩
  · rw [if_neg hc] at h; cases h
theorem divN_ok {a b c d : Nat} (h : (divN a b c d).2 = true) : (divN a b c d).1 = rd (a * d) (b * c) ∧ wiB (rd (a * d) (b * c)) = true := by
  unfold divN at h ⊢
  by_cases hc : a * d ≤ BIG ∧ b * c ≤ BIG
  · rw [if_pos hc] at h ⊢; exact ⟨rfl, h⟩
  · rw [if_neg hc] at h; cases h

theorem addQ_some {x y f : Fr} (hx : 0 < dN x) (hy : 0 < dN y) (h : addQ x y = some f) : f = rd (nN x * dN y + nN y * dN x) (dN x * dN y) ∧ wiB f = true := by
  unfold addQ at h
  by_cases hc : (addN (nN x) (dN x) (nN y) (dN y)).2 = true
  · simp only [hc, if_true] at h; cases h
    have := addN_ok hx hy hc
    exact ⟨this.1, this.1 ▸ this.2⟩
  · simp only [hc] at h; cases h
theorem divQ_some {x y f : Fr} (h : divQ x y = some f) : f = rd (nN x * dN y) (dN x * nN y) ∧ wiB f = true := by
  unfold divQ at h
  by_cases hc : (divN (nN x) (dN x) (nN y) (dN y)).2 = true
  · simp only [hc, if_true] at h; cases h
    have := divN_ok hc
    exact ⟨this.1, this.1 ▸ this.2⟩
  · simp only [hc] at h; cases h

/-- 1 and the sum of the attackers' strengths -/
def sumF (A : Nat → Nat → Bool) (N : Nat) (out : List Fr) (i : Nat) : Option Fr := foldO (fun s b => addQ s (out.getD b z0)) (attL A N i) (fq 1 1)
def rdB (base : List Fr) (i : Nat) : Fr := rd (nN (base.getD i z0)) (dN (base.getD i z0))
def strStep (A : Nat → Nat → Bool) (N : Nat) (base out : List Fr) (i : Nat) : Option (List Fr) := (sumF A N out i).bind fun s => (divQ (rdB base i) s).bind fun f => some (out.set i f)
def strF (A : Nat → Nat → Bool) (N : Nat) (base : List Fr) (ord : List Nat) : Option (List Fr) := foldO (strStep A N base) ord (List.replicate N z0)
def strR (A : Nat → Nat → Bool) (N : Nat) (base : List Fr) : List Fr × Int :=
  match orderF A N with
  | none => ([], 8)
  | some ord => match strF A N base ord with
    | none => ([], 2)
    | some out => (out, 0)

structure BaseOk (N : Nat) (base : List Fr) : Prop where
  l : base.length = N
  b : ∀ i, i < N → ∃ n d : Nat, base.getD i z0 = fq n d ∧ 0 < d ∧ n ≤ d ∧ d < 2 ^ 63

theorem Good.pos {f : Fr} (h : Good f) : 0 < dN f := by obtain ⟨n, d, rfl, h1, _⟩ := h; exact h1
theorem Good.fq {f : Fr} (h : Good f) : f = fq (nN f) (dN f) ∧ nN f < 2 ^ 63 ∧ dN f < 2 ^ 63 ∧ 0 < dN f := by
  obtain ⟨n, d, rfl, h1, h2, h3⟩ := h
  have hM : M40 = 1099511627776 := rfl
  exact ⟨rfl, by simp; omega, by simp; omega, h1⟩

theorem addQ_good {x y f : Fr} (hx : Good x) (hy : Good y) (h : addQ x y = some f) : Good f ∧ (0 < nN x → 0 < nN f) := by
  obtain ⟨e, hw⟩ := addQ_some hx.pos hy.pos h
  have hp : 0 < dN x * dN y := Nat.mul_pos hx.pos hy.pos
  subst e
  refine ⟨(rd_good hp hw).1, fun h0 => (rd_good hp hw).2 ?_⟩
  have := Nat.mul_pos h0 hy.pos
  omega

theorem iquo_u' {a b : Nat} (hb : b ≠ 0) (ha : a < 2 ^ 63) : iquoM .i64 (a : Int) (b : Int) = some ((a / b : Nat) : Int) := by
  unfold iquoM
  rw [if_neg (by omega), iquo_nn (by omega) (by omega) (by omega)]; rfl
theorem foldO_filter {α β : Type} {g : β → α → Option β} {p : α → Bool} : ∀ {l : List α} {b : β}, foldO (fun b x => if p x = true then g b x else some b) l b = foldO g (l.filter p) b
  | [], _ => rfl
  | x :: l, b => by
    by_cases hp : p x = true
    · rw [List.filter_cons_of_pos hp]
      show (if p x = true then g b x else some b).bind _ = (g b x).bind (foldO g (l.filter p))
      rw [if_pos hp]
      cases g b x with
      | none => rfl
      | some b' => exact foldO_filter
    · rw [List.filter_cons_of_neg hp]
      show (if p x = true then g b x else some b).bind (foldO (fun b x => if p x = true then g b x else some b) l) = foldO g (l.filter p) b
      rw [if_neg hp]; exact foldO_filter

section
variable {N : Nat} {base : List Fr} (hB : BaseOk N base)
include hB
theorem base_idx {i : Nat} (hi : i < N) : idxM base (i : Int) = some (base.getD i z0) := by
  rw [idxM_nat (by rw [hB.l]; exact hi)]; simp [List.getD, hB.l, hi]
theorem rdB_parts {i : Nat} (hi : i < N) : ∃ n d : Nat, rdB base i = fq n d ∧ 0 < d ∧ n ≤ d ∧ d < 2 ^ 63 := by
  obtain ⟨a, b, e, h1, h2, h3⟩ := hB.b i hi
  obtain ⟨n, d, e2, k1, k2, k3, k4, k5⟩ := rd_parts (a := a) h1
  refine ⟨n, d, by unfold rdB; rw [e]; exact e2, k1, ?_, by omega⟩
  have : n * b ≤ b * d := by rw [k2]; exact Nat.mul_le_mul_right d h2
  rw [Nat.mul_comm] at this
  exact Nat.le_of_mul_le_mul_left this h1

/-- what is kept between two nodes -/
def SInv (N : Nat) (ord : List Nat) (k : Nat) (out : List Fr) : Prop := out.length = N ∧ ∀ b ∈ ord.take k, Good (out.getD b z0)

theorem sum_inv {A : Nat → Nat → Bool} {out : List Fr} {i : Nat} (hg : ∀ b ∈ attL A N i, Good (out.getD b z0)) {s : Fr} (h : sumF A N out i = some s) : Good s ∧ 0 < nN s := by
  unfold sumF at h
  have : ∀ (l : List Nat) (s0 : Fr), (∀ b ∈ l, Good (out.getD b z0)) → Good s0 → 0 < nN s0 → foldO (fun s b => addQ s (out.getD b z0)) l s0 = some s → Good s ∧ 0 < nN s := by
    intro l
    induction l with
    | nil => intro s0 _ h1 h2 h3; cases h3; exact ⟨h1, h2⟩
    | cons b l ih =>
      intro s0 hl h1 h2 h3
      unfold foldO at h3
      obtain ⟨s1, h4, h5⟩ := Option.bind_eq_some_iff.1 h3
      have := addQ_good h1 (hl b (by simp)) h4
      exact ih s1 (fun x hx => hl x (List.mem_cons_of_mem _ hx)) this.1 (this.2 h2) h5
  exact this _ _ hg ⟨1, 1, rfl, by decide, by decide, by decide⟩ (by decide) h

theorem step_inv {A : Nat → Nat → Bool} {ord : List Nat} {out out' : List Fr} {k : Nat} (hk : k < ord.length) (hi : ord[k] < N) (ho : SInv N ord k out) (hg : ∀ b ∈ attL A N ord[k], b ∈ ord.take k)
    (h : strStep A N base out ord[k] = some out') : SInv N ord (k + 1) out' := by
  unfold strStep at h
  obtain ⟨s, h1, h2⟩ := Option.bind_eq_some_iff.1 h
  obtain ⟨f, h3, h4⟩ := Option.bind_eq_some_iff.1 h2
  cases h4
  obtain ⟨hs, hs0⟩ := sum_inv hB (fun b hb => ho.2 b (hg b hb)) h1
  obtain ⟨n, d, e, d0, _, _⟩ := rdB_parts hB hi
  obtain ⟨e2, hw⟩ := divQ_some h3
  have hf : Good f := by
    rw [e2] at hw ⊢
    exact (rd_good (Nat.mul_pos (by rw [e]; exact d0) hs0) hw).1
  refine ⟨by rw [List.length_set]; exact ho.1, fun b hb => ?_⟩
  rw [List.take_add_one, List.getElem?_eq_getElem hk] at hb
  by_cases eb : b = ord[k]
  · subst eb
    rw [List.getD_eq_getElem?_getD, List.getElem?_set_self (by rw [ho.1]; exact hi)]; exact hf
  · have : b ∈ ord.take k := by
      rcases List.mem_append.1 hb with hb | hb
      · exact hb
      · simp at hb; exact absurd hb eb
    rw [List.getD_eq_getElem?_getD, List.getElem?_set_ne (fun e => eb e.symm), ← List.getD_eq_getElem?_getD]
    exact ho.2 b this
end
end Go.Dc

set_option linter.unusedVariables false
set_option linter.unusedSimpArgs false
set_option linter.unusedSectionVars false
namespace Go.Dc

theorem addQ_eq {x y : Fr} : addQ x y = if (addN (nN x) (dN x) (nN y) (dN y)).2 = true then some (addN (nN x) (dN x) (nN y) (dN y)).1 else none := rfl

theorem divQ_eq {x y : Fr} : divQ x y = if (divN (nN x) (dN x) (nN y) (dN y)).2 = true then some (divN (nN x) (dN x) (nN y) (dN y)).1 else none := rfl

section
variable {N : Nat} {base : List Fr} (hB : BaseOk N base) (hN : N ≤ 40)
include hB hN

theorem good_idx {out : List Fr} {b : Nat} (ho : out.length = N) (hb : b < N) : idxM out (b : Int) = some (out.getD b z0) := by
  rw [idxM_nat (by rw [ho]; exact hb)]; simp [List.getD, ho, hb]

/-! the program -/
/-! the reference -/
end
end Go.Dc

set_option linter.unusedVariables false
set_option linter.unusedSimpArgs false
set_option linter.unusedSectionVars false
namespace Go.Dc

def badB (f : Fr) : Bool := decide (f.Den < 1) || decide (f.Num < 0) || decide (f.Num > f.Den)

theorem bad1_plain {f : Fr} : degree_Strength_1_m f = some (badB f) := by
  unfold degree_Strength_1_m badB
  cases decide (f.Den < 1) <;> cases decide (f.Num < 0) <;> cases decide (f.Num > f.Den) <;> rfl

theorem contains_plain {base : List Fr} (hl : base.length ≤ 1000000) : slices_ContainsFunc_api_Fraction_api_Fraction_m base = some (base.any badB) := by
  unfold slices_ContainsFunc_api_Fraction_api_Fraction_m slices_IndexFunc_api_Fraction_api_Fraction_m
  refine T.eq (T.bind (P := fun r : Int => decide (r ≥ 0) = base.any badB) ?_ fun r hr => by rw [letM_eq]; exact .ret hr)
  refine T.bind (P := fun o : Sum Int Unit => match o with | .inl r => 0 ≤ r ∧ base.any badB = true | .inr _ => base.any badB = false) ?_ fun o ho => ?_
  · refine T.loopK base.length (fun k s => k ≤ base.length ∧ s = (k : Int) ∧ (base.take k).any badB = false) ⟨by omega, rfl, by simp⟩ ?_
    rintro k _ ⟨hk, rfl, hf⟩
    dsimp only [slices_IndexFunc_api_Fraction_api_Fraction_l1]
    refine T.cond (fun g1 => ?_) fun g1 => ?_
    · have hk1 : k < base.length := by have := of_decide_eq_true g1; omega
      have htk : base.take (k + 1) = base.take k ++ [base[k]] := by rw [List.take_add_one, List.getElem?_eq_getElem hk1]; rfl
      rw [idxM_nat hk1, some_bind, bad1_plain, some_bind]
      refine T.cond (fun g2 => ?_) fun g2 => ?_
      · exact .ret ⟨by omega, List.any_eq_true.2 ⟨_, List.getElem_mem hk1, g2⟩⟩
      · rw [iadd1 (by omega)]
        exact .ret ⟨hk1, by omega, rfl, by rw [htk, List.any_append, hf]; simp [g2]⟩
    · have hk1 : k = base.length := by have := of_decide_eq_false g1; omega
      subst hk1
      rw [List.take_length] at hf
      exact .ret hf
  · cases o with
    | inl r => exact .ret (by rw [ho.2]; exact decide_eq_true ho.1)
    | inr u => exact .ret (by rw [ho]; rfl)

theorem base_ok {N : Nat} {base : List Fr} (hl : base.length = N) (hb : base.any badB = false) (hw : ∀ f ∈ base, f.Den < 9223372036854775808) : BaseOk N base := by
  refine ⟨hl, fun i hi => ?_⟩
  have hi' : i < base.length := by omega
  have hg : base.getD i z0 = base[i] := by simp [List.getD, hi']
  rw [hg]
  have h1 : badB base[i] = false := by
    have := List.any_eq_false.1 hb _ (List.getElem_mem hi')
    simpa using this
  have h2 := hw _ (List.getElem_mem hi')
  unfold badB at h1
  simp only [Bool.or_eq_false_iff, decide_eq_false_iff_not] at h1
  generalize base[i] = f at *
  obtain ⟨n, d⟩ := f
  simp only at *
  refine ⟨n.toNat, d.toNat, ?_, by omega, by omega, by omega⟩
  unfold fq
  congr 1 <;> omega

theorem byA_hasA {N : Nat} {g : T_api_Graph} {n : Nt} (h : NtOk N n) (hat : ∀ i j, n.a i j ↔ atL g.L i j) : byA n = hasA g := by
  funext b a
  rw [Bool.eq_iff_iff]
  unfold byA
  rw [h.sy, hat]
  unfold atL hasA
  rw [List.any_eq_true]
  constructor
  · rintro ⟨p, hp, h1, h2⟩; exact ⟨p, hp, by simp [h1, h2]⟩
  · rintro ⟨p, hp, h1⟩; simp at h1; exact ⟨p, hp, h1.1, h1.2⟩

theorem foldO_len {N : Nat} {A : Nat → Nat → Bool} {base : List Fr} : ∀ {l : List Nat} {out r : List Fr}, foldO (strStep A N base) l out = some r → r.length = out.length
  | [], out, r, h => by cases h; rfl
  | x :: l, out, r, h => by
    unfold foldO at h
    obtain ⟨o, h1, h2⟩ := Option.bind_eq_some_iff.1 h
    have := foldO_len h2
    unfold strStep at h1
    obtain ⟨s, _, h3⟩ := Option.bind_eq_some_iff.1 h1
    obtain ⟨f, _, h4⟩ := Option.bind_eq_some_iff.1 h3
    cases h4
    simpa using this

theorem strR_len {A : Nat → Nat → Bool} {N : Nat} {base : List Fr} : (strR A N base).1.length ≤ N := by
  unfold strR
  cases orderF A N with
  | none => simp
  | some ord =>
    simp only
    cases h : strF A N base ord with
    | none => simp
    | some out => simp only; unfold strF at h; have := foldO_len h; simp at this; omega

theorem Same_plain {l : List Fr} (hl : l.length ≤ 1000000) : ref22_Same_m l l = some true := by
  unfold ref22_Same_m
  rw [show ((l.length : Int) != (l.length : Int)) = false by simp, cond_false]
  have : loopC (ref22_Same_l1 l l) 0 = some (.inr ()) := by
    refine T.eq (T.loopK l.length (fun i s => s = (i : Int) ∧ i ≤ l.length) ⟨rfl, by omega⟩ ?_)
    rintro i _ ⟨rfl, hi⟩
    dsimp only [ref22_Same_l1]
    refine T.cond (fun g1 => ?_) fun g1 => .ret rfl
    have g1' := of_decide_eq_true g1
    have hi1 : i < l.length := by omega
    rw [idxM_nat hi1, some_bind, some_bind, iadd1 (by omega)]
    exact T.cond (fun g2 => by simp at g2) fun _ => .ret ⟨hi1, rfl, by omega⟩
  rw [this]; rfl
end Go.Dc
