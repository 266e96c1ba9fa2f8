/- Part P22W.LawW of a proof: lemmas. -/
import Derived.Test.YtmbflfngkcmfeaaDoorLAW22WF
import Derived.Test.YtmbflfngkcmfeaaDoorP22WStr3
namespace Go.Dc
set_option maxRecDepth 100000 in
theorem awake_plain : law22_awake_m = some true := law22_awake_f_le (k_ := 100) _ (by decide +kernel)
end Go.Dc

set_option linter.unusedVariables false
set_option linter.unusedSimpArgs false
set_option linter.unusedSectionVars false
/-! The drawn graphs and fractions. -/
namespace Go.Dc

structure FrsOk (N : Nat) (q : List Fr) : Prop where
  l : q.length = N
  f : ∀ f ∈ q, ∃ n d : Nat, f = fq n d ∧ 0 < d ∧ n ≤ d ∧ d ≤ 6

theorem FrsOk.base {N : Nat} {l : List Fr} (h : FrsOk N l) : BaseOk N l ∧ l.any badB = false := by
  constructor
  · refine ⟨h.l, fun i hi => ?_⟩
    have hi' : i < l.length := by rw [h.l]; exact hi
    rw [show l.getD i z0 = l[i] by simp [List.getD, hi']]
    obtain ⟨n, d, e, h1, h2, h3⟩ := h.f _ (List.getElem_mem hi')
    exact ⟨n, d, e, h1, h2, by omega⟩
  · rw [List.any_eq_false]
    intro f hf
    obtain ⟨n, d, e, h1, h2, h3⟩ := h.f _ hf
    subst e
    unfold badB fq
    simp
    omega

theorem FrsOk.den {N : Nat} {l : List Fr} (h : FrsOk N l) : ∀ f ∈ l, f.Den < 9223372036854775808 := fun f hf => by
  obtain ⟨n, d, e, h1, h2, h3⟩ := h.f _ hf
  subst e; simp [fq]; omega

theorem fractions_plain {s : T_deliberationkeep_Src} (hs : SrcOk s) {N : Nat} (hN : N ≤ 60) : T (law22_fractions_m s (N : Int)) fun r => FrsOk N r.1 ∧ SrcOk r.2 := by
  unfold law22_fractions_m
  refine T.bind (P := fun q => SrcOk q.1 ∧ FrsOk N q.2) ?_ fun q hq => .ret ⟨hq.2, hq.1⟩
  refine T.loopK N (fun k s => k ≤ N ∧ s.1 = (k : Int) ∧ SrcOk s.2.1 ∧ FrsOk k s.2.2) ⟨by omega, rfl, hs, rfl, by simp⟩ ?_
  rintro k ⟨_, s, out⟩ ⟨hk, rfl, hs, hf⟩
  dsimp only [law22_fractions_l1] at *
  refine T.cond (fun g1 => ?_) fun g1 => ?_
  · have hk1 : k < N := by simpa using g1
    refine T.bind (Range_plain hs (lo := 1) (hi := 6) (by omega) (by omega) (by omega)) ?_
    rintro ⟨d, s2⟩ ⟨hs2, d1, d6⟩
    simp only at *
    rw [iadd64 (by omega) (by omega)]
    refine T.bind (N_plain hs2 (n := d + 1) (by omega)) ?_
    rintro ⟨x, s3⟩ ⟨hs3, hx⟩
    simp only at *
    have hx := hx (by omega)
    have hfl := hf.l
    rw [appM_eq (by simp; omega), some_bind, letM_eq, iadd1 (by omega)]
    refine .ret ⟨hk1, by omega, rfl, hs3, by simp; omega, fun f hf' => ?_⟩
    rcases List.mem_append.1 hf' with h | h
    · exact hf.f f h
    · rw [List.mem_singleton.1 h]
      refine ⟨x.toNat, d.toNat, ?_, by omega, by omega, by omega⟩
      unfold fq; congr 1 <;> omega
  · have hk1 : k = N := by have := of_decide_eq_false g1; omega
    subst hk1
    exact .ret ⟨hs, hf⟩

theorem acyclic_plain {s : T_deliberationkeep_Src} (hs : SrcOk s) {n : Int} (h1 : 1 ≤ n) (h2 : n ≤ 40) :
    T (law22_acyclic_m s n) fun r => GVal r.1 ∧ 1 ≤ r.1.N ∧ r.1.N ≤ n ∧ r.1.L.length ≤ 1640 ∧ SrcOk r.2 ∧ ∀ p ∈ r.1.L, p.From < p.To := by
  unfold law22_acyclic_m
  refine T.bind (Graph_plain hs h1 h2) ?_
  rintro ⟨g, s2⟩ ⟨hg, hn1, hn2, hl, hs2⟩
  simp only at *
  refine T.bind (P := fun q => q = g.L.filter fun p => decide (p.From < p.To)) ?_ ?_
  · refine T.loopK g.L.length (fun k s => k ≤ g.L.length ∧ s = ((k : Int), (g.L.take k).filter fun p => decide (p.From < p.To))) ⟨by omega, by simp⟩ ?_
    rintro k _ ⟨hk, rfl⟩
    dsimp only [law22_acyclic_l1]
    refine T.cond (fun g1 => ?_) fun g1 => ?_
    · have hk1 : k < g.L.length := by have := of_decide_eq_true g1; omega
      have htk : g.L.take (k + 1) = g.L.take k ++ [g.L[k]] := by rw [List.take_add_one, List.getElem?_eq_getElem hk1]; rfl
      have hfl : ((g.L.take k).filter fun p => decide (p.From < p.To)).length ≤ 1640 := Nat.le_trans (List.length_filter_le _ _) (by rw [List.length_take]; omega)
      rw [idxM_nat hk1, some_bind, some_bind]
      refine T.cond (fun g2 => ?_) fun g2 => ?_
      · rw [some_bind, appM_eq (by simp; omega), some_bind, letM_eq, iadd1 (by omega)]
        exact .ret ⟨hk1, by omega, by rw [htk, List.filter_append, List.filter_cons_of_pos (p := fun p : T_api_Pair => decide (p.From < p.To)) g2]; rfl⟩
      · rw [letM_eq, iadd1 (by omega)]
        exact .ret ⟨hk1, by omega, by rw [htk, List.filter_append, List.filter_cons_of_neg (p := fun p : T_api_Pair => decide (p.From < p.To)) (by rw [g2]; simp)]; simp⟩
    · have hk1 : k = g.L.length := by have := of_decide_eq_false g1; omega
      subst hk1
      refine .ret ?_
      show _ = _
      rw [List.take_length]
  · rintro _ rfl
    refine .ret ⟨⟨hg.n0, hg.n1, fun p hp => hg.v p (List.mem_filter.1 hp).1, hg.s.filter _⟩, hn1, hn2, Nat.le_trans (List.length_filter_le _ _) hl, hs2, fun p hp => by simpa using (List.mem_filter.1 hp).2⟩
end Go.Dc

set_option linter.unusedVariables false
set_option linter.unusedSimpArgs false
set_option linter.unusedSectionVars false
/-! What the strengths of a graph without cycles are. -/
namespace Go.Dc

def val (f : Fr) : Rat := Rat.divInt f.Num f.Den

theorem val_rd {a b : Nat} (hb : 0 < b) : val (rd a b) = Rat.divInt (a : Int) (b : Int) := by
  obtain ⟨n, d, e, h1, h2, _⟩ := rd_parts (a := a) hb
  rw [e]
  show Rat.divInt (n : Int) (d : Int) = _
  rw [Rat.divInt_eq_divInt_iff (by omega) (by omega)]
  have : ((n * b : Nat) : Int) = ((a * d : Nat) : Int) := by rw [h2]
  simpa using this

theorem val_fq {a b : Nat} : val (fq a b) = Rat.divInt (a : Int) (b : Int) := rfl
theorem val_nd {f : Fr} (h : Good f) : val f = Rat.divInt (nN f : Int) (dN f : Int) := by rw [h.fq.1]; rfl

theorem val_nn {f : Fr} (h : Good f) : 0 ≤ val f := by
  rw [val_nd h]; exact Rat.divInt_nonneg (by omega) (by omega)

theorem add_val {x y f : Fr} (hx : Good x) (hy : Good y) (h : addQ x y = some f) : val f = val x + val y := by
  have h1 := hx.pos; have h2 := hy.pos
  obtain ⟨e, _⟩ := addQ_some h1 h2 h
  rw [e, val_rd (Nat.mul_pos h1 h2), val_nd hx, val_nd hy, Rat.divInt_add_divInt _ _ (by omega) (by omega)]
  simp

theorem div_val {a b : Nat} {y f : Fr} (hb : 0 < b) (hy : Good y) (h0 : 0 < nN y) (h : divQ (fq a b) y = some f) : val f * val y = Rat.divInt (a : Int) (b : Int) := by
  obtain ⟨e, _⟩ := divQ_some h
  have h1 := hy.pos
  rw [nN_fq, dN_fq] at e
  rw [e, val_rd (Nat.mul_pos hb h0), val_nd hy, Rat.divInt_mul_divInt, Rat.divInt_eq_divInt_iff]
  · simp; ac_rfl
  · have := Nat.mul_pos (Nat.mul_pos hb h0) h1; simp; omega
  · omega

theorem rd_ge {a b : Nat} (hb : 0 < b) (h : b ≤ a) : dN (rd a b) ≤ nN (rd a b) := by
  obtain ⟨n, d, e, h1, h2, _⟩ := rd_parts (a := a) hb
  rw [e]
  show (d : Int).toNat ≤ (n : Int).toNat
  have : b * d ≤ n * b := by rw [h2]; exact Nat.mul_le_mul_right d h
  rw [Nat.mul_comm n b] at this
  have := Nat.le_of_mul_le_mul_left this hb
  omega
theorem rd_le {a b : Nat} (hb : 0 < b) (h : a ≤ b) : nN (rd a b) ≤ dN (rd a b) := by
  obtain ⟨n, d, e, h1, h2, _⟩ := rd_parts (a := a) hb
  rw [e]
  show (n : Int).toNat ≤ (d : Int).toNat
  have : n * b ≤ b * d := by rw [h2]; exact Nat.mul_le_mul_right d h
  rw [Nat.mul_comm n b] at this
  have := Nat.le_of_mul_le_mul_left this hb
  omega

/-- the sum of the strengths of some nodes -/
def sumR (out : List Fr) (l : List Nat) : Rat := (l.map fun b => val (out.getD b z0)).sum

theorem sum_val {A : Nat → Nat → Bool} {N i : Nat} {out : List Fr} {s : Fr} (hg : ∀ b ∈ attL A N i, Good (out.getD b z0)) (h : sumF A N out i = some s) :
    Good s ∧ val s = 1 + sumR out (attL A N i) ∧ dN s ≤ nN s := by
  unfold sumF at h
  have key : ∀ (l : List Nat) (s0 : Fr), (∀ b ∈ l, Good (out.getD b z0)) → Good s0 → dN s0 ≤ nN s0 → foldO (fun s b => addQ s (out.getD b z0)) l s0 = some s → Good s ∧ val s = val s0 + sumR out l ∧ dN s ≤ nN s := by
    intro l
    induction l with
    | nil => intro s0 _ h1 h2 h3; cases h3; exact ⟨h1, by simp [sumR, Rat.add_zero], h2⟩
    | cons b l ih =>
      intro s0 hl h1 h2 h3
      unfold foldO at h3
      obtain ⟨s1, h4, h5⟩ := Option.bind_eq_some_iff.1 h3
      have hb := hl b (by simp)
      have hge : dN s1 ≤ nN s1 := by
        obtain ⟨e, _⟩ := addQ_some h1.pos hb.pos h4
        rw [e]
        refine rd_ge (Nat.mul_pos h1.pos hb.pos) ?_
        have := Nat.mul_le_mul_right (dN (out.getD b z0)) h2
        omega
      obtain ⟨k1, k2, k3⟩ := ih s1 (fun x hx => hl x (List.mem_cons_of_mem _ hx)) (addQ_good h1 hb h4).1 hge h5
      refine ⟨k1, ?_, k3⟩
      rw [k2, add_val h1 hb h4]
      unfold sumR
      rw [List.map_cons, List.sum_cons, Rat.add_assoc]
  have h1 : Good (fq 1 1) := ⟨1, 1, rfl, by decide, by decide, by decide⟩
  obtain ⟨k1, k2, k3⟩ := key _ _ hg h1 (by decide) h
  refine ⟨k1, ?_, k3⟩
  rw [k2, val_fq, show Rat.divInt ((1 : Nat) : Int) ((1 : Nat) : Int) = 1 by decide +kernel]

theorem sumF_congr {A : Nat → Nat → Bool} {N i : Nat} {out out' : List Fr} (h : ∀ b ∈ attL A N i, out.getD b z0 = out'.getD b z0) : sumF A N out i = sumF A N out' i := by
  unfold sumF
  have key : ∀ (l : List Nat) (s0 : Fr), (∀ b ∈ l, out.getD b z0 = out'.getD b z0) → foldO (fun s b => addQ s (out.getD b z0)) l s0 = foldO (fun s b => addQ s (out'.getD b z0)) l s0 := by
    intro l
    induction l with
    | nil => intro s0 _; rfl
    | cons b l ih =>
      intro s0 hl
      unfold foldO
      rw [hl b (by simp)]
      cases addQ s0 (out'.getD b z0) with
      | none => rfl
      | some s1 => exact ih s1 fun x hx => hl x (List.mem_cons_of_mem _ hx)
  exact key _ _ h

section
variable {A : Nat → Nat → Bool} {N : Nat} (hA : ∀ b a, A b a = true → b < a)
include hA

theorem acyc_order : orderF A N = some (List.range N) := by
  have key : ∀ k, k ≤ N → (List.range k).foldl (passStep A N) [] = List.range k := by
    intro k
    induction k with
    | zero => intro _; rfl
    | succ k ih =>
      intro hk
      rw [List.range_succ, List.foldl_append, ih (by omega)]
      show passStep A N (List.range k) k = _
      unfold passStep
      rw [if_pos ⟨by simp, fun b hb => List.mem_range.2 (hA b k (mem_attL.1 hb).2)⟩]
  have h1 : passN A N 1 = List.range N := key N (Nat.le_refl _)
  have h2 : passN A N N = List.range N := by
    cases N with
    | zero => rfl
    | succ n => rw [passN_fix (k := 1) (passN_full (by rw [h1]; simp)) (n + 1) (by omega), h1]
  unfold orderF
  rw [h2, if_pos (by simp)]

/-- the equation of each node -/
def Eqn (A : Nat → Nat → Bool) (N : Nat) (base out : List Fr) (i : Nat) : Prop :=
  Good (out.getD i z0) ∧ nN (out.getD i z0) ≤ dN (out.getD i z0) ∧ ∃ s, sumF A N out i = some s ∧ Good s ∧ dN s ≤ nN s ∧ divQ (rdB base i) s = some (out.getD i z0)

theorem acyc_str {base out : List Fr} (hB : BaseOk N base) (h : strF A N base (List.range N) = some out) : out.length = N ∧ ∀ i, i < N → Eqn A N base out i := by
  unfold strF at h
  suffices H : ∀ k, k ≤ N → ∀ o, foldO (strStep A N base) ((List.range N).drop k) o = some out → o.length = N → (∀ i, i < k → Eqn A N base o i) → out.length = N ∧ ∀ i, i < N → Eqn A N base out i from
    H 0 (Nat.zero_le _) _ (by rw [List.drop_zero]; exact h) (by simp) (fun i hi => by omega)
  intro k
  generalize hm : N - k = m
  induction m generalizing k with
  | zero =>
    intro hk o h1 h2 h3
    have : k = N := by omega
    subst this
    rw [List.drop_eq_nil_of_le (by simp)] at h1
    cases h1
    exact ⟨h2, h3⟩
  | succ m ih =>
    intro hk o h1 h2 h3
    have hk1 : k < N := by omega
    rw [List.drop_eq_getElem_cons (by simpa using hk1)] at h1
    unfold foldO at h1
    obtain ⟨o2, h4, h5⟩ := Option.bind_eq_some_iff.1 h1
    rw [List.getElem_range] at h4
    have hh4 := h4
    unfold strStep at h4
    obtain ⟨s, h6, h7⟩ := Option.bind_eq_some_iff.1 h4
    obtain ⟨f, h8, h9⟩ := Option.bind_eq_some_iff.1 h7
    cases h9
    have hatt : ∀ i, i ≤ k → ∀ b ∈ attL A N i, (o.set k f).getD b z0 = o.getD b z0 := fun i hi b hb => by
      have := hA b i (mem_attL.1 hb).2
      rw [List.getD_eq_getElem?_getD, List.getElem?_set_ne (by omega), ← List.getD_eq_getElem?_getD]
    have hg : ∀ b ∈ attL A N k, Good (o.getD b z0) := fun b hb => (h3 b (hA b k (mem_attL.1 hb).2)).1
    obtain ⟨s1, s2, s3⟩ := sum_val hg h6
    obtain ⟨a, b, e, b0, ab, b1⟩ := rdB_parts hB hk1
    obtain ⟨e2, hw⟩ := divQ_some h8
    have hs0 : 0 < nN s := by have := s1.pos; omega
    have hp : 0 < dN (rdB base k) * nN s := Nat.mul_pos (by rw [e]; exact b0) hs0
    have hf : Good f := by rw [e2] at hw ⊢; exact (rd_good hp hw).1
    have hf2 : nN f ≤ dN f := by
      rw [e2]
      refine rd_le hp ?_
      rw [e, nN_fq, dN_fq]
      exact Nat.mul_le_mul ab s3
    refine ih (k + 1) (by omega) (by omega) (o.set k f) h5 (by rw [List.length_set]; exact h2) fun i hi => ?_
    by_cases e3 : i = k
    · subst e3
      have hfi : (o.set i f).getD i z0 = f := by rw [List.getD_eq_getElem?_getD, List.getElem?_set_self (by rw [h2]; exact hk1)]; rfl
      unfold Eqn
      rw [hfi]
      exact ⟨hf, hf2, s, (sumF_congr (hatt i (Nat.le_refl _))).trans h6, s1, s3, h8⟩
    · have hi' : i < k := by omega
      obtain ⟨q1, q2, q, q3, q4, q5, q6⟩ := h3 i hi'
      have hfi : (o.set k f).getD i z0 = o.getD i z0 := by rw [List.getD_eq_getElem?_getD, List.getElem?_set_ne (by omega), ← List.getD_eq_getElem?_getD]
      unfold Eqn
      rw [hfi]
      exact ⟨q1, q2, q, (sumF_congr (hatt i (by omega))).trans q3, q4, q5, q6⟩

theorem eqn_val {base out : List Fr} (hB : BaseOk N base) (h : ∀ i, i < N → Eqn A N base out i) {i : Nat} (hi : i < N) :
    val (out.getD i z0) * (1 + sumR out (attL A N i)) = val (base.getD i z0) := by
  obtain ⟨q1, q2, s, q3, q4, q5, q6⟩ := h i hi
  have hg : ∀ b ∈ attL A N i, Good (out.getD b z0) := fun b hb => (h b (mem_attL.1 hb).1).1
  obtain ⟨s1, s2, s3⟩ := sum_val hg q3
  obtain ⟨a, b, e, b0, ab, b1⟩ := rdB_parts hB hi
  have hs0 : 0 < nN s := by have := s1.pos; omega
  rw [e] at q6
  have := div_val b0 s1 hs0 q6
  rw [← s2, this]
  obtain ⟨a', b', e', h1, h2, h3⟩ := hB.b i hi
  have : val (rdB base i) = val (base.getD i z0) := by
    unfold rdB; rw [e', nN_fq, dN_fq, val_rd h1]; rfl
  rw [← this, e]; rfl
end
end Go.Dc

set_option linter.unusedVariables false
set_option linter.unusedSimpArgs false
set_option linter.unusedSectionVars false
/-! The law DegreeEquation, in plain words. -/
namespace Go.Dc

theorem sumR_snoc {out : List Fr} {l : List Nat} {b : Nat} : sumR out (l ++ [b]) = sumR out l + val (out.getD b z0) := by
  unfold sumR
  induction l with
  | nil => simp [Rat.zero_add, Rat.add_zero]
  | cons x l ih => rw [List.cons_append, List.map_cons, List.sum_cons, ih, List.map_cons, List.sum_cons, Rat.add_assoc]

theorem attL_succ {A : Nat → Nat → Bool} {k a : Nat} : attL A (k + 1) a = if A k a = true then attL A k a ++ [k] else attL A k a := by
  unfold attL
  rw [List.range_succ, List.filter_append]
  by_cases h : A k a = true
  · rw [if_pos h, List.filter_cons_of_pos (p := fun b => A b a) h]; rfl
  · rw [if_neg h, List.filter_cons_of_neg (p := fun b => A b a) h]; simp

theorem hasA_lt {g : T_api_Graph} (h : ∀ p ∈ g.L, p.From < p.To) : ∀ b a, hasA g b a = true → b < a := fun b a hb => by
  obtain ⟨p, hp, h1⟩ := List.any_eq_true.1 hb
  simp at h1
  have := h p hp
  omega

/-- the strengths of a drawn graph -/
theorem strength_acyc {N : Nat} {g : T_api_Graph} {base : List Fr} (hg : GVal g) (hn : g.N = (N : Int)) (hl : g.L.length ≤ 1000000) (hlt : ∀ p ∈ g.L, p.From < p.To) (hf : FrsOk N base) :
    degree_Strength_m g base = some ([], 2) ∨ ∃ out, degree_Strength_m g base = some (out, 0) ∧ out.length = N ∧ ∀ i, i < N → Eqn (hasA g) N base out i := by
  obtain ⟨hB, hb⟩ := hf.base
  have h1 := (strength_val (Validate_plain hg hl) hg hn hl hB hb).1
  unfold strR at h1
  rw [acyc_order (hasA_lt hlt)] at h1
  simp only at h1
  cases hs : strF (hasA g) N base (List.range N) with
  | none => rw [hs] at h1; exact .inl h1
  | some out =>
    rw [hs] at h1
    obtain ⟨h2, h3⟩ := acyc_str (hasA_lt hlt) hB hs
    exact .inr ⟨out, h1, h2, h3⟩

section
variable {N : Nat} {g : T_api_Graph} {base out : List Fr} {s2 : T_deliberationkeep_Src} (hn : g.N = (N : Int)) (hN : N ≤ 5) (hl : g.L.length ≤ 1000000) (ho : out.length = N) (hE : ∀ i, i < N → Eqn (hasA g) N base out i)
include hn hN hl ho hE

theorem out_idx {i : Nat} (hi : i < N) : idxM out (i : Int) = some (out.getD i z0) := by
  rw [idxM_nat (by omega)]; simp [List.getD, ho, hi]
theorem out_fq {i : Nat} (hi : i < N) : ∃ n d : Nat, out.getD i z0 = fq n d ∧ 0 < d ∧ n ≤ d ∧ d ≤ 1099511627776 := by
  obtain ⟨⟨n, d, e, h1, h2, h3⟩, h4, _⟩ := hE i hi
  rw [e] at h4
  exact ⟨n, d, e, h1, h4, h3⟩

end

end Go.Dc

set_option linter.unusedVariables false
set_option linter.unusedSimpArgs false
set_option linter.unusedSectionVars false
/-! The law DegreeWeaker, in plain words. -/
namespace Go.Dc

theorem sumR_mono {out : List Fr} {p q : Nat → Bool} : ∀ {l : List Nat}, (∀ b ∈ l, p b = true → q b = true) → (∀ b ∈ l, q b = true → 0 ≤ val (out.getD b z0)) → sumR out (l.filter p) ≤ sumR out (l.filter q)
  | [], _, _ => by simp [sumR]
  | b :: l, h1, h2 => by
    have ih := sumR_mono (out := out) (l := l) (fun x hx => h1 x (List.mem_cons_of_mem _ hx)) (fun x hx => h2 x (List.mem_cons_of_mem _ hx))
    have hc : ∀ (l : List Nat), sumR out (b :: l) = val (out.getD b z0) + sumR out l := fun l => by unfold sumR; rw [List.map_cons, List.sum_cons]
    by_cases hq : q b = true
    · have h0 := h2 b (by simp) hq
      rw [List.filter_cons_of_pos hq, hc]
      by_cases hp : p b = true
      · rw [List.filter_cons_of_pos hp, hc]
        exact Rat.add_le_add_left.2 ih
      · rw [List.filter_cons_of_neg hp]
        grind
    · have hp : ¬ p b = true := fun hp => hq (h1 b (by simp) hp)
      rw [List.filter_cons_of_neg hp, List.filter_cons_of_neg hq]; exact ih

theorem rat_weak {x u v s t : Rat} (h1 : u * s = x) (h2 : v * t = x) (hst : s ≤ t) (hs : 0 < s) (hu : 0 ≤ u) (hv : 0 ≤ v) : v ≤ u := by
  apply Classical.byContradiction
  intro h
  have h : u < v := Rat.not_le.1 h
  have h3 : u * s < v * s := Rat.mul_lt_mul_of_pos_right h hs
  have h4 : v * s ≤ v * t := Rat.mul_le_mul_of_nonneg_left hst hv
  grind

theorem divInt_le {a b c d : Nat} (hb : 0 < b) (hd : 0 < d) (h : Rat.divInt (a : Int) (b : Int) ≤ Rat.divInt (c : Int) (d : Int)) : a * d ≤ c * b := by
  rw [Rat.le_iff_sub_nonneg, Rat.divInt_sub_divInt _ _ (by omega) (by omega), Rat.divInt_nonneg_iff_of_pos_right (by have := Nat.mul_pos hd hb; rw [← Int.natCast_mul]; omega)] at h
  have : ((a * d : Nat) : Int) ≤ ((c * b : Nat) : Int) := by simp only [Int.natCast_mul]; omega
  omega

/-- the attack is put in its place -/
theorem weak_l1 {g : T_api_Graph} {s2 s3 s4 : T_deliberationkeep_Src} (hg : GVal g) (hl : g.L.length ≤ 1640) {x y : Int} (hne : ∀ p ∈ g.L, ¬ (p.From = x ∧ p.To = y)) :
    T (loopC (law22_DegreeWeaker_l1 (g, s2) (x, s3) (y, s4)) 0) fun q => q.length = g.L.length + 1 ∧ q.Pairwise plt ∧ ∀ p, p ∈ q ↔ p ∈ g.L ∨ p = T_api_Pair.mk x y := by
  refine T.loopK (g.L.length + 1) (fun k s => k ≤ g.L.length ∧ s = (k : Int) ∧ ∀ p ∈ g.L.take k, plt p ⟨x, y⟩) ⟨by omega, rfl, by simp⟩ ?_
  rintro k _ ⟨hk, rfl, hlo⟩
  dsimp only [law22_DegreeWeaker_l1]
  rw [decide_eq_true (by omega), cond_true]
  have htr : ∀ {p q r : T_api_Pair}, plt p q → plt q r → plt p r := fun {p q r} h1 h2 => by unfold plt at *; omega
  refine T.joinP (fun j : Bool => (j = true → ∀ p ∈ g.L.drop k, plt ⟨x, y⟩ p) ∧ (j = false → ∃ hk : k < g.L.length, plt g.L[k] ⟨x, y⟩)) (fun j hj => ?_) fun kk hkk => ?_
  · refine T.cond (fun g1 => ?_) fun g1 => ?_
    · have hhi := hj.1 g1
      have hlt : (g.L.take k).length = k := by rw [List.length_take]; omega
      have hld : (g.L.drop k).length = g.L.length - k := by simp
      have s1 : slM g.L 0 (k : Int) = some (g.L.take k) := by
        unfold slM
        rw [if_pos (by omega)]; simp
      have s2 : slM g.L (k : Int) (g.L.length : Int) = some (g.L.drop k) := by
        unfold slM
        rw [if_pos (by omega)]; simp
      rw [s1, some_bind, appM_eq (by simp; omega), some_bind, appM_eq (by simp; omega), some_bind, s2, some_bind, appM_eq (by simp; omega), some_bind]
      refine .ret ⟨by simp; omega, ?_, fun p => ?_⟩
      · rw [List.nil_append, List.append_assoc, List.pairwise_append]
        refine ⟨hg.s.sublist (List.take_sublist _ _), ?_, fun a ha b hb => ?_⟩
        · rw [List.singleton_append, List.pairwise_cons]
          exact ⟨hhi, hg.s.sublist (List.drop_sublist _ _)⟩
        · rw [List.singleton_append] at hb
          rcases List.mem_cons.1 hb with rfl | hb
          · exact hlo a ha
          · exact htr (hlo a ha) (hhi b hb)
      · have : p ∈ g.L ↔ p ∈ g.L.take k ∨ p ∈ g.L.drop k := by rw [← List.mem_append, List.take_append_drop]
        rw [this]
        simp only [List.nil_append, List.mem_append, List.mem_singleton]
        constructor
        · rintro ((h | h) | h)
          · exact .inl (.inl h)
          · exact .inr h
          · exact .inl (.inr h)
        · rintro ((h | h) | h)
          · exact .inl (.inl h)
          · exact .inr h
          · exact .inl (.inr h)
    · obtain ⟨hk1, hp⟩ := hj.2 g1
      have htk : g.L.take (k + 1) = g.L.take k ++ [g.L[k]] := by rw [List.take_add_one, List.getElem?_eq_getElem hk1]; rfl
      rw [letM_eq, iadd1 (by omega)]
      refine .ret ⟨by omega, by omega, rfl, fun p hp' => ?_⟩
      rw [htk] at hp'
      rcases List.mem_append.1 hp' with h | h
      · exact hlo p h
      · rw [List.mem_singleton.1 h]; exact hp
  · have hdrop : ∀ hk1 : k < g.L.length, plt ⟨x, y⟩ g.L[k] → ∀ p ∈ g.L.drop k, plt ⟨x, y⟩ p := fun hk1 h p hp => by
      rw [List.drop_eq_getElem_cons hk1] at hp
      rcases List.mem_cons.1 hp with rfl | hp
      · exact h
      · have := hg.s.sublist (List.drop_sublist k g.L)
        rw [List.drop_eq_getElem_cons hk1, List.pairwise_cons] at this
        exact htr h (this.1 p hp)
    refine T.cond (fun g1 => hkk _ ⟨fun _ => ?_, fun h => Bool.noConfusion h⟩) fun g1 => ?_
    · have : k = g.L.length := by simp at g1; omega
      rw [List.drop_eq_nil_of_le (by omega)]; simp
    · have hk1 : k < g.L.length := by simp at g1; omega
      have hnk := hne _ (List.getElem_mem hk1)
      rw [idxM_nat hk1, some_bind]
      refine T.cond (fun g2 => hkk _ ⟨fun _ => hdrop hk1 ?_, fun h => Bool.noConfusion h⟩) fun g2 => ?_
      · have := of_decide_eq_true g2; unfold plt; simp only; omega
      · have h2 := of_decide_eq_false g2
        rw [some_bind]
        refine T.cond (fun g3 => ?_) fun g3 => ?_
        · have h3 : g.L[k].From = x := by simpa using g3
          rw [some_bind]
          refine hkk _ ⟨fun h => hdrop hk1 ?_, fun h => ⟨hk1, ?_⟩⟩
          · have := of_decide_eq_true h; unfold plt; simp only; omega
          · have := of_decide_eq_false h; unfold plt; simp only
            have : ¬ g.L[k].To = y := fun e => hnk ⟨h3, e⟩
            omega
        · have h3 : ¬ g.L[k].From = x := by simpa using g3
          refine hkk _ ⟨fun h => Bool.noConfusion h, fun _ => ⟨hk1, ?_⟩⟩
          unfold plt; simp only; omega

section
variable {N : Nat} {g h : T_api_Graph} {base out out2 : List Fr} {x y : Nat} (hxy : x < y) (hy : y < N) (hlt : ∀ p ∈ g.L, p.From < p.To) (hlt2 : ∀ p ∈ h.L, p.From < p.To)
  (hm : ∀ b a, hasA h b a = true ↔ hasA g b a = true ∨ (b = x ∧ a = y)) (hB : BaseOk N base) (hE : ∀ i, i < N → Eqn (hasA g) N base out i) (hE2 : ∀ i, i < N → Eqn (hasA h) N base out2 i)
include hxy hy hlt hlt2 hm hB hE hE2

theorem weak_same : ∀ a, a < y → out.getD a z0 = out2.getD a z0 := by
  intro a
  induction a using Nat.strongRecOn with
  | _ a ih =>
    intro ha
    obtain ⟨_, _, s, h1, _, _, h2⟩ := hE a (by omega)
    obtain ⟨_, _, s', k1, _, _, k2⟩ := hE2 a (by omega)
    have hA : attL (hasA h) N a = attL (hasA g) N a := by
      unfold attL
      apply List.filter_congr
      intro b _
      rw [Bool.eq_iff_iff, hm]
      exact ⟨fun h => h.elim id (fun h => by omega), .inl⟩
    have : sumF (hasA h) N out2 a = sumF (hasA g) N out a := by
      rw [show sumF (hasA h) N out2 a = sumF (hasA g) N out2 a by unfold sumF; rw [hA]]
      refine sumF_congr fun b hb => ?_
      have hba := hasA_lt hlt b a (mem_attL.1 hb).2
      exact (ih b hba (by omega)).symm
    rw [this, h1] at k1
    cases k1
    rw [h2] at k2
    exact Option.some.inj k2

theorem weak_le : val (out2.getD y z0) ≤ val (out.getD y z0) := by
  have e1 := eqn_val (hasA_lt hlt) hB hE hy
  have e2 := eqn_val (hasA_lt hlt2) hB hE2 hy
  have hnn : ∀ b, b < N → 0 ≤ val (out.getD b z0) := fun b hb => val_nn (hE b hb).1
  have hnn2 : ∀ b, b < N → 0 ≤ val (out2.getD b z0) := fun b hb => val_nn (hE2 b hb).1
  have h1 : sumR out (attL (hasA g) N y) = sumR out2 (attL (hasA g) N y) := by
    unfold sumR
    congr 1
    apply List.map_congr_left
    intro b hb
    rw [weak_same hxy hy hlt hlt2 hm hB hE hE2 b (hasA_lt hlt b y (mem_attL.1 hb).2)]
  have h2 : sumR out2 (attL (hasA g) N y) ≤ sumR out2 (attL (hasA h) N y) :=
    sumR_mono (fun b _ hb => (hm b y).2 (.inl hb)) (fun b hb _ => hnn2 b (List.mem_range.1 hb))
  have h3 : 0 ≤ sumR out (attL (hasA g) N y) := by
    have := sumR_mono (out := out) (p := fun _ => false) (q := fun b => hasA g b y) (l := List.range N) (fun b _ hb => Bool.noConfusion hb) (fun b hb _ => hnn b (List.mem_range.1 hb))
    have e : (List.range N).filter (fun _ => false) = [] := by simp
    rw [e] at this
    exact this
  have h4 : (0 : Rat) < 1 := by decide +kernel
  exact rat_weak e1 e2 (by grind) (by grind) (hnn y hy) (hnn2 y hy)
end

theorem law22_DegreeWeaker_plain (l : List Int) (_ : l.length ≤ maxLen ∧ ∀ x ∈ l, (Lit.int .i64 x).wf = true) : law22_DegreeWeaker_m l = some true := by
  refine T.eq ?_
  have aw : T (Option.bind law22_awake_m fun t => some t) fun x => x = true := by rw [awake_plain, some_bind]; exact .ret rfl
  unfold law22_DegreeWeaker_m
  refine T.bind New_plain fun s1 hs1 => ?_
  refine T.bind (acyclic_plain hs1 (by omega) (by omega)) ?_
  rintro ⟨g, s2⟩ ⟨hg, hn1, hn2, hgl, hs2, hlt⟩
  simp only at *
  obtain ⟨N, hN⟩ := Int.eq_ofNat_of_zero_le hg.n0
  rw [hN]
  refine T.bind (fractions_plain hs2 (N := N) (by omega)) ?_
  rintro ⟨base, s3⟩ ⟨hf, hs3⟩
  simp only at *
  have hB := hf.base.1
  obtain ⟨t7, ht7, hcase⟩ : ∃ t7, degree_Strength_m g base = some t7 ∧ (t7 = ([], 2) ∨ ∃ out, t7 = (out, 0) ∧ out.length = N ∧ ∀ i, i < N → Eqn (hasA g) N base out i) := by
    rcases strength_acyc hg hN (by omega) hlt hf with h | ⟨out, h, h2, h3⟩
    · exact ⟨_, h, .inl rfl⟩
    · exact ⟨_, h, .inr ⟨out, rfl, h2, h3⟩⟩
  rw [ht7, some_bind]
  refine T.bind (N_plain hs3 (n := (N : Int)) (by omega)) ?_
  rintro ⟨x, s4⟩ ⟨hs4, hx⟩
  simp only at *
  have hx := hx (by omega)
  rw [isub64 (by omega) (by omega)]
  refine T.bind (Range_plain hs4 (lo := x) (hi := (N : Int) - 1) (by omega) (by omega) (by omega)) ?_
  rintro ⟨y, s5⟩ ⟨hs5, hy1, hy2⟩
  simp only at *
  rcases hcase with rfl | ⟨out, rfl, hol, hE⟩
  · exact aw
  refine T.cond (fun _ => aw) fun _ => T.cond (fun _ => aw) fun g2 => ?_
  have hne : ¬ x = y := by simpa using g2
  rw [nHas_plain (by omega), some_bind]
  refine T.cond (fun _ => aw) fun g3 => ?_
  have hnot : ∀ p ∈ g.L, ¬ (p.From = x ∧ p.To = y) := fun p hp ⟨h1, h2⟩ => by
    have := List.any_eq_false.1 g3 p hp
    simp [h1, h2] at this
  refine T.bind (weak_l1 hg hgl hnot) fun q ⟨hq1, hq2, hq3⟩ => ?_
  obtain ⟨X, hX⟩ := Int.eq_ofNat_of_zero_le hx.1
  obtain ⟨Y, hY⟩ := Int.eq_ofNat_of_zero_le (show 0 ≤ y by omega)
  have hXY : X < Y := by omega
  have hYN : Y < N := by omega
  have hgh : GVal ⟨(N : Int), q⟩ := ⟨by simp only; omega, by simp only; omega, fun p hp => by
    simp only
    rcases (hq3 p).1 hp with h | h
    · have := hg.v p h; rw [hN] at this; exact this
    · subst h; simp only; omega, hq2⟩
  have hlt2 : ∀ p ∈ (T_api_Graph.mk (N : Int) q).L, p.From < p.To := fun p hp => by
    rcases (hq3 p).1 hp with h | h
    · exact hlt p h
    · subst h; simp only; omega
  have hm : ∀ b a, hasA ⟨(N : Int), q⟩ b a = true ↔ hasA g b a = true ∨ (b = X ∧ a = Y) := fun b a => by
    unfold hasA
    rw [List.any_eq_true, List.any_eq_true]
    constructor
    · rintro ⟨p, hp, h1⟩
      rcases (hq3 p).1 hp with h | h
      · exact .inl ⟨p, h, h1⟩
      · subst h; simp at h1; exact .inr (by omega)
    · rintro (⟨p, hp, h1⟩ | ⟨h1, h2⟩)
      · exact ⟨p, (hq3 p).2 (.inl hp), h1⟩
      · exact ⟨_, (hq3 _).2 (.inr rfl), by simp; omega⟩
  rcases strength_acyc hgh rfl (by simp only; omega) hlt2 hf with h | ⟨out2, h, hol2, hE2⟩
  · rw [h, some_bind]; exact aw
  · rw [h, some_bind]
    refine T.cond (fun g1 => by simp at g1) fun _ => T.cond (fun g1 => by simp at g1) fun _ => T.cond (fun g1 => by simp at g1) fun _ => T.cond (fun g1 => by simp [hol] at g1) fun _ => T.cond (fun g1 => by simp [hol2] at g1) fun _ => ?_
    have idx : ∀ {o : List Fr} {i : Nat}, o.length = N → i < N → idxM o (i : Int) = some (o.getD i z0) := fun {o i} h1 h2 => by rw [idxM_nat (by omega)]; simp [List.getD, h1, h2]
    have hloop : loopC (law22_DegreeWeaker_l2 (out, 0) (y, s5) (out2, 0)) 0 = some (.inr ()) := by
      refine T.eq (T.loopK Y (fun k s => k ≤ Y ∧ s = (k : Int)) ⟨by omega, rfl⟩ ?_)
      rintro k _ ⟨hk, rfl⟩
      dsimp only [law22_DegreeWeaker_l2]
      rw [hY]
      refine T.cond (fun g1 => ?_) fun g1 => .ret rfl
      have hk1 : k < Y := by simpa using g1
      rw [idx hol (by omega), some_bind, idx hol2 (by omega), some_bind, weak_same hXY hYN hlt hlt2 hm hB hE hE2 k hk1]
      refine T.cond (fun g2 => by simp at g2) fun _ => ?_
      rw [letM_eq, iadd1 (by omega)]
      exact .ret ⟨hk1, by omega, rfl⟩
    rw [hloop, some_bind, sumK_inr, hY, idx hol hYN, some_bind]
    refine T.cond (fun _ => aw) fun g4 => ?_
    rw [idx hol2 hYN, some_bind]
    refine T.cond (fun _ => aw) fun g5 => ?_
    have h4 := of_decide_eq_false g4
    have h5 := of_decide_eq_false g5
    have hle := weak_le hXY hYN hlt hlt2 hm hB hE hE2
    obtain ⟨⟨n, d, e, d0, _, _⟩, nd, _⟩ := hE Y hYN
    obtain ⟨⟨n', d', e', d0', _, _⟩, nd', _⟩ := hE2 Y hYN
    rw [e] at h4 nd hle ⊢
    rw [e'] at h5 nd' hle ⊢
    rw [show (fq n d).Den = (d : Int) from rfl] at h4
    rw [show (fq n' d').Den = (d' : Int) from rfl] at h5
    rw [nN_fq, dN_fq] at nd nd'
    rw [val_fq, val_fq] at hle
    have hle := divInt_le d0' d0 hle
    rw [some_bind, some_bind, some_bind, some_bind, show (fq n d).Den = (d : Int) from rfl, show (fq n' d').Den = (d' : Int) from rfl, show (fq n d).Num = (n : Int) from rfl, show (fq n' d').Num = (n' : Int) from rfl]
    have m1 : n' * d ≤ 1073741824 * 1073741824 := Nat.mul_le_mul (by omega) (by omega)
    have m2 : n * d' ≤ 1073741824 * 1073741824 := Nat.mul_le_mul (by omega) (by omega)
    rw [imul_n (by omega), imul_n (by omega), decide_eq_true (by omega), cond_true]
    exact aw
end Go.Dc
