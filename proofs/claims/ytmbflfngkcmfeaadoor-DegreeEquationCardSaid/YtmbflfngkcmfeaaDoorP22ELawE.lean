/- Part P22E.LawE of a proof: lemmas. -/
import Derived.Test.YtmbflfngkcmfeaaDoorLAW22EF
import Derived.Test.YtmbflfngkcmfeaaDoorP22EStr3
namespace Go.Dc
set_option maxRecDepth 100000 in
theorem awake_plain : law22_awake_m = some true := law22_awake_f_le (k_ := 100) _ (by decide +kernel)
end Go.Dc

set_option linter.unusedVariables false
set_option linter.unusedSimpArgs false
set_option linter.unusedSectionVars false
/-! The drawn graphs and fractions. -/
namespace Go.Dc

structure FrsOk (N : Nat) (q : List Fr) : Prop where
  l : q.length = N
  f : ∀ f ∈ q, ∃ n d : Nat, f = fq n d ∧ 0 < d ∧ n ≤ d ∧ d ≤ 6

theorem FrsOk.base {N : Nat} {l : List Fr} (h : FrsOk N l) : BaseOk N l ∧ l.any badB = false := by
  constructor
  · refine ⟨h.l, fun i hi => ?_⟩
    have hi' : i < l.length := by rw [h.l]; exact hi
    rw [show l.getD i z0 = l[i] by simp [List.getD, hi']]
    obtain ⟨n, d, e, h1, h2, h3⟩ := h.f _ (List.getElem_mem hi')
    exact ⟨n, d, e, h1, h2, by omega⟩
  · rw [List.any_eq_false]
    intro f hf
    obtain ⟨n, d, e, h1, h2, h3⟩ := h.f _ hf
    subst e
    unfold badB fq
    simp
    omega

theorem FrsOk.den {N : Nat} {l : List Fr} (h : FrsOk N l) : ∀ f ∈ l, f.Den < 9223372036854775808 := fun f hf => by
  obtain ⟨n, d, e, h1, h2, h3⟩ := h.f _ hf
  subst e; simp [fq]; omega

theorem fractions_plain {s : T_deliberationkeep_Src} (hs : SrcOk s) {N : Nat} (hN : N ≤ 60) : T (law22_fractions_m s (N : Int)) fun r => FrsOk N r.1 ∧ SrcOk r.2 := by
  unfold law22_fractions_m
  refine T.bind (P := fun q => SrcOk q.1 ∧ FrsOk N q.2) ?_ fun q hq => .ret ⟨hq.2, hq.1⟩
  refine T.loopK N (fun k s => k ≤ N ∧ s.1 = (k : Int) ∧ SrcOk s.2.1 ∧ FrsOk k s.2.2) ⟨by omega, rfl, hs, rfl, by simp⟩ ?_
  rintro k ⟨_, s, out⟩ ⟨hk, rfl, hs, hf⟩
  dsimp only [law22_fractions_l1] at *
  refine T.cond (fun g1 => ?_) fun g1 => ?_
  · have hk1 : k < N := by simpa using g1
    refine T.bind (Range_plain hs (lo := 1) (hi := 6) (by omega) (by omega) (by omega)) ?_
    rintro ⟨d, s2⟩ ⟨hs2, d1, d6⟩
    simp only at *
    rw [iadd64 (by omega) (by omega)]
    refine T.bind (N_plain hs2 (n := d + 1) (by omega)) ?_
    rintro ⟨x, s3⟩ ⟨hs3, hx⟩
    simp only at *
    have hx := hx (by omega)
    have hfl := hf.l
    rw [appM_eq (by simp; omega), some_bind, letM_eq, iadd1 (by omega)]
    refine .ret ⟨hk1, by omega, rfl, hs3, by simp; omega, fun f hf' => ?_⟩
    rcases List.mem_append.1 hf' with h | h
    · exact hf.f f h
    · rw [List.mem_singleton.1 h]
      refine ⟨x.toNat, d.toNat, ?_, by omega, by omega, by omega⟩
      unfold fq; congr 1 <;> omega
  · have hk1 : k = N := by have := of_decide_eq_false g1; omega
    subst hk1
    exact .ret ⟨hs, hf⟩

theorem acyclic_plain {s : T_deliberationkeep_Src} (hs : SrcOk s) {n : Int} (h1 : 1 ≤ n) (h2 : n ≤ 40) :
    T (law22_acyclic_m s n) fun r => GVal r.1 ∧ 1 ≤ r.1.N ∧ r.1.N ≤ n ∧ r.1.L.length ≤ 1640 ∧ SrcOk r.2 ∧ ∀ p ∈ r.1.L, p.From < p.To := by
  unfold law22_acyclic_m
  refine T.bind (Graph_plain hs h1 h2) ?_
  rintro ⟨g, s2⟩ ⟨hg, hn1, hn2, hl, hs2⟩
  simp only at *
  refine T.bind (P := fun q => q = g.L.filter fun p => decide (p.From < p.To)) ?_ ?_
  · refine T.loopK g.L.length (fun k s => k ≤ g.L.length ∧ s = ((k : Int), (g.L.take k).filter fun p => decide (p.From < p.To))) ⟨by omega, by simp⟩ ?_
    rintro k _ ⟨hk, rfl⟩
    dsimp only [law22_acyclic_l1]
    refine T.cond (fun g1 => ?_) fun g1 => ?_
    · have hk1 : k < g.L.length := by have := of_decide_eq_true g1; omega
      have htk : g.L.take (k + 1) = g.L.take k ++ [g.L[k]] := by rw [List.take_add_one, List.getElem?_eq_getElem hk1]; rfl
      have hfl : ((g.L.take k).filter fun p => decide (p.From < p.To)).length ≤ 1640 := Nat.le_trans (List.length_filter_le _ _) (by rw [List.length_take]; omega)
      rw [idxM_nat hk1, some_bind, some_bind]
      refine T.cond (fun g2 => ?_) fun g2 => ?_
      · rw [some_bind, appM_eq (by simp; omega), some_bind, letM_eq, iadd1 (by omega)]
        exact .ret ⟨hk1, by omega, by rw [htk, List.filter_append, List.filter_cons_of_pos (p := fun p : T_api_Pair => decide (p.From < p.To)) g2]; rfl⟩
      · rw [letM_eq, iadd1 (by omega)]
        exact .ret ⟨hk1, by omega, by rw [htk, List.filter_append, List.filter_cons_of_neg (p := fun p : T_api_Pair => decide (p.From < p.To)) (by rw [g2]; simp)]; simp⟩
    · have hk1 : k = g.L.length := by have := of_decide_eq_false g1; omega
      subst hk1
      refine .ret ?_
      show _ = _
      rw [List.take_length]
  · rintro _ rfl
    refine .ret ⟨⟨hg.n0, hg.n1, fun p hp => hg.v p (List.mem_filter.1 hp).1, hg.s.filter _⟩, hn1, hn2, Nat.le_trans (List.length_filter_le _ _) hl, hs2, fun p hp => by simpa using (List.mem_filter.1 hp).2⟩
end Go.Dc

set_option linter.unusedVariables false
set_option linter.unusedSimpArgs false
set_option linter.unusedSectionVars false
/-! What the strengths of a graph without cycles are. -/
namespace Go.Dc

def val (f : Fr) : Rat := Rat.divInt f.Num f.Den

theorem val_rd {a b : Nat} (hb : 0 < b) : val (rd a b) = Rat.divInt (a : Int) (b : Int) := by
  obtain ⟨n, d, e, h1, h2, _⟩ := rd_parts (a := a) hb
  rw [e]
  show Rat.divInt (n : Int) (d : Int) = _
  rw [Rat.divInt_eq_divInt_iff (by omega) (by omega)]
  have : ((n * b : Nat) : Int) = ((a * d : Nat) : Int) := by rw [h2]
  simpa using this

theorem val_fq {a b : Nat} : val (fq a b) = Rat.divInt (a : Int) (b : Int) := rfl
theorem val_nd {f : Fr} (h : Good f) : val f = Rat.divInt (nN f : Int) (dN f : Int) := by rw [h.fq.1]; rfl

theorem val_nn {f : Fr} (h : Good f) : 0 ≤ val f := by
  rw [val_nd h]; exact Rat.divInt_nonneg (by omega) (by omega)

theorem add_val {x y f : Fr} (hx : Good x) (hy : Good y) (h : addQ x y = some f) : val f = val x + val y := by
  have h1 := hx.pos; have h2 := hy.pos
  obtain ⟨e, _⟩ := addQ_some h1 h2 h
  rw [e, val_rd (Nat.mul_pos h1 h2), val_nd hx, val_nd hy, Rat.divInt_add_divInt _ _ (by omega) (by omega)]
  simp

theorem div_val {a b : Nat} {y f : Fr} (hb : 0 < b) (hy : Good y) (h0 : 0 < nN y) (h : divQ (fq a b) y = some f) : val f * val y = Rat.divInt (a : Int) (b : Int) := by
  obtain ⟨e, _⟩ := divQ_some h
  have h1 := hy.pos
  rw [nN_fq, dN_fq] at e
  rw [e, val_rd (Nat.mul_pos hb h0), val_nd hy, Rat.divInt_mul_divInt, Rat.divInt_eq_divInt_iff]
  · simp; ac_rfl
  · have := Nat.mul_pos (Nat.mul_pos hb h0) h1; simp; omega
  · omega

theorem rd_ge {a b : Nat} (hb : 0 < b) (h : b ≤ a) : dN (rd a b) ≤ nN (rd a b) := by
  obtain ⟨n, d, e, h1, h2, _⟩ := rd_parts (a := a) hb
  rw [e]
  show (d : Int).toNat ≤ (n : Int).toNat
  have : b * d ≤ n * b := by rw [h2]; exact Nat.mul_le_mul_right d h
  rw [Nat.mul_comm n b] at this
  have := Nat.le_of_mul_le_mul_left this hb
  omega
theorem rd_le {a b : Nat} (hb : 0 < b) (h : a ≤ b) : nN (rd a b) ≤ dN (rd a b) := by
  obtain ⟨n, d, e, h1, h2, _⟩ := rd_parts (a := a) hb
  rw [e]
  show (n : Int).toNat ≤ (d : Int).toNat
  have : n * b ≤ b * d := by rw [h2]; exact Nat.mul_le_mul_right d h
  rw [Nat.mul_comm n b] at this
  have := Nat.le_of_mul_le_mul_left this hb
  omega

/-- the sum of the strengths of some nodes -/
def sumR (out : List Fr) (l : List Nat) : Rat := (l.map fun b => val (out.getD b z0)).sum

theorem sum_val {A : Nat → Nat → Bool} {N i : Nat} {out : List Fr} {s : Fr} (hg : ∀ b ∈ attL A N i, Good (out.getD b z0)) (h : sumF A N out i = some s) :
    Good s ∧ val s = 1 + sumR out (attL A N i) ∧ dN s ≤ nN s := by
  unfold sumF at h
  have key : ∀ (l : List Nat) (s0 : Fr), (∀ b ∈ l, Good (out.getD b z0)) → Good s0 → dN s0 ≤ nN s0 → foldO (fun s b => addQ s (out.getD b z0)) l s0 = some s → Good s ∧ val s = val s0 + sumR out l ∧ dN s ≤ nN s := by
    intro l
    induction l with
    | nil => intro s0 _ h1 h2 h3; cases h3; exact ⟨h1, by simp [sumR, Rat.add_zero], h2⟩
    | cons b l ih =>
      intro s0 hl h1 h2 h3
      unfold foldO at h3
      obtain ⟨s1, h4, h5⟩ := Option.bind_eq_some_iff.1 h3
      have hb := hl b (by simp)
      have hge : dN s1 ≤ nN s1 := by
        obtain ⟨e, _⟩ := addQ_some h1.pos hb.pos h4
        rw [e]
        refine rd_ge (Nat.mul_pos h1.pos hb.pos) ?_
        have := Nat.mul_le_mul_right (dN (out.getD b z0)) h2
        omega
      obtain ⟨k1, k2, k3⟩ := ih s1 (fun x hx => hl x (List.mem_cons_of_mem _ hx)) (addQ_good h1 hb h4).1 hge h5
      refine ⟨k1, ?_, k3⟩
      rw [k2, add_val h1 hb h4]
      unfold sumR
      rw [List.map_cons, List.sum_cons, Rat.add_assoc]
  have h1 : Good (fq 1 1) := ⟨1, 1, rfl, by decide, by decide, by decide⟩
  obtain ⟨k1, k2, k3⟩ := key _ _ hg h1 (by decide) h
  refine ⟨k1, ?_, k3⟩
  rw [k2, val_fq, show Rat.divInt ((1 : Nat) : Int) ((1 : Nat) : Int) = 1 by decide +kernel]

theorem sumF_congr {A : Nat → Nat → Bool} {N i : Nat} {out out' : List Fr} (h : ∀ b ∈ attL A N i, out.getD b z0 = out'.getD b z0) : sumF A N out i = sumF A N out' i := by
  unfold sumF
  have key : ∀ (l : List Nat) (s0 : Fr), (∀ b ∈ l, out.getD b z0 = out'.getD b z0) → foldO (fun s b => addQ s (out.getD b z0)) l s0 = foldO (fun s b => addQ s (out'.getD b z0)) l s0 := by
    intro l
    induction l with
    | nil => intro s0 _; rfl
    | cons b l ih =>
      intro s0 hl
      unfold foldO
      rw [hl b (by simp)]
      cases addQ s0 (out'.getD b z0) with
      | none => rfl
      | some s1 => exact ih s1 fun x hx => hl x (List.mem_cons_of_mem _ hx)
  exact key _ _ h

section
variable {A : Nat → Nat → Bool} {N : Nat} (hA : ∀ b a, A b a = true → b < a)
include hA

theorem acyc_order : orderF A N = some (List.range N) := by
  have key : ∀ k, k ≤ N → (List.range k).foldl (passStep A N) [] = List.range k := by
    intro k
    induction k with
    | zero => intro _; rfl
    | succ k ih =>
      intro hk
      rw [List.range_succ, List.foldl_append, ih (by omega)]
      show passStep A N (List.range k) k = _
      unfold passStep
      rw [if_pos ⟨by simp, fun b hb => List.mem_range.2 (hA b k (mem_attL.1 hb).2)⟩]
  have h1 : passN A N 1 = List.range N := key N (Nat.le_refl _)
  have h2 : passN A N N = List.range N := by
    cases N with
    | zero => rfl
    | succ n => rw [passN_fix (k := 1) (passN_full (by rw [h1]; simp)) (n + 1) (by omega), h1]
  unfold orderF
  rw [h2, if_pos (by simp)]

/-- the equation of each node -/
def Eqn (A : Nat → Nat → Bool) (N : Nat) (base out : List Fr) (i : Nat) : Prop :=
  Good (out.getD i z0) ∧ nN (out.getD i z0) ≤ dN (out.getD i z0) ∧ ∃ s, sumF A N out i = some s ∧ Good s ∧ dN s ≤ nN s ∧ divQ (rdB base i) s = some (out.getD i z0)

theorem acyc_str {base out : List Fr} (hB : BaseOk N base) (h : strF A N base (List.range N) = some out) : out.length = N ∧ ∀ i, i < N → Eqn A N base out i := by
  unfold strF at h
  suffices H : ∀ k, k ≤ N → ∀ o, foldO (strStep A N base) ((List.range N).drop k) o = some out → o.length = N → (∀ i, i < k → Eqn A N base o i) → out.length = N ∧ ∀ i, i < N → Eqn A N base out i from
    H 0 (Nat.zero_le _) _ (by rw [List.drop_zero]; exact h) (by simp) (fun i hi => by omega)
  intro k
  generalize hm : N - k = m
  induction m generalizing k with
  | zero =>
    intro hk o h1 h2 h3
    have : k = N := by omega
    subst this
    rw [List.drop_eq_nil_of_le (by simp)] at h1
    cases h1
    exact ⟨h2, h3⟩
  | succ m ih =>
    intro hk o h1 h2 h3
    have hk1 : k < N := by omega
    rw [List.drop_eq_getElem_cons (by simpa using hk1)] at h1
    unfold foldO at h1
    obtain ⟨o2, h4, h5⟩ := Option.bind_eq_some_iff.1 h1
    rw [List.getElem_range] at h4
    have hh4 := h4
    unfold strStep at h4
    obtain ⟨s, h6, h7⟩ := Option.bind_eq_some_iff.1 h4
    obtain ⟨f, h8, h9⟩ := Option.bind_eq_some_iff.1 h7
    cases h9
    have hatt : ∀ i, i ≤ k → ∀ b ∈ attL A N i, (o.set k f).getD b z0 = o.getD b z0 := fun i hi b hb => by
      have := hA b i (mem_attL.1 hb).2
      rw [List.getD_eq_getElem?_getD, List.getElem?_set_ne (by omega), ← List.getD_eq_getElem?_getD]
    have hg : ∀ b ∈ attL A N k, Good (o.getD b z0) := fun b hb => (h3 b (hA b k (mem_attL.1 hb).2)).1
    obtain ⟨s1, s2, s3⟩ := sum_val hg h6
    obtain ⟨a, b, e, b0, ab, b1⟩ := rdB_parts hB hk1
    obtain ⟨e2, hw⟩ := divQ_some h8
    have hs0 : 0 < nN s := by have := s1.pos; omega
    have hp : 0 < dN (rdB base k) * nN s := Nat.mul_pos (by rw [e]; exact b0) hs0
    have hf : Good f := by rw [e2] at hw ⊢; exact (rd_good hp hw).1
    have hf2 : nN f ≤ dN f := by
      rw [e2]
      refine rd_le hp ?_
      rw [e, nN_fq, dN_fq]
      exact Nat.mul_le_mul ab s3
    refine ih (k + 1) (by omega) (by omega) (o.set k f) h5 (by rw [List.length_set]; exact h2) fun i hi => ?_
    by_cases e3 : i = k
    · subst e3
      have hfi : (o.set i f).getD i z0 = f := by rw [List.getD_eq_getElem?_getD, List.getElem?_set_self (by rw [h2]; exact hk1)]; rfl
      unfold Eqn
      rw [hfi]
      exact ⟨hf, hf2, s, (sumF_congr (hatt i (Nat.le_refl _))).trans h6, s1, s3, h8⟩
    · have hi' : i < k := by omega
      obtain ⟨q1, q2, q, q3, q4, q5, q6⟩ := h3 i hi'
      have hfi : (o.set k f).getD i z0 = o.getD i z0 := by rw [List.getD_eq_getElem?_getD, List.getElem?_set_ne (by omega), ← List.getD_eq_getElem?_getD]
      unfold Eqn
      rw [hfi]
      exact ⟨q1, q2, q, (sumF_congr (hatt i (by omega))).trans q3, q4, q5, q6⟩

theorem eqn_val {base out : List Fr} (hB : BaseOk N base) (h : ∀ i, i < N → Eqn A N base out i) {i : Nat} (hi : i < N) :
    val (out.getD i z0) * (1 + sumR out (attL A N i)) = val (base.getD i z0) := by
  obtain ⟨q1, q2, s, q3, q4, q5, q6⟩ := h i hi
  have hg : ∀ b ∈ attL A N i, Good (out.getD b z0) := fun b hb => (h b (mem_attL.1 hb).1).1
  obtain ⟨s1, s2, s3⟩ := sum_val hg q3
  obtain ⟨a, b, e, b0, ab, b1⟩ := rdB_parts hB hi
  have hs0 : 0 < nN s := by have := s1.pos; omega
  rw [e] at q6
  have := div_val b0 s1 hs0 q6
  rw [← s2, this]
  obtain ⟨a', b', e', h1, h2, h3⟩ := hB.b i hi
  have : val (rdB base i) = val (base.getD i z0) := by
    unfold rdB; rw [e', nN_fq, dN_fq, val_rd h1]; rfl
  rw [← this, e]; rfl
end
end Go.Dc

set_option linter.unusedVariables false
set_option linter.unusedSimpArgs false
set_option linter.unusedSectionVars false
/-! The law DegreeEquation, in plain words. -/
namespace Go.Dc

theorem sumR_snoc {out : List Fr} {l : List Nat} {b : Nat} : sumR out (l ++ [b]) = sumR out l + val (out.getD b z0) := by
  unfold sumR
  induction l with
  | nil => simp [Rat.zero_add, Rat.add_zero]
  | cons x l ih => rw [List.cons_append, List.map_cons, List.sum_cons, ih, List.map_cons, List.sum_cons, Rat.add_assoc]

theorem attL_succ {A : Nat → Nat → Bool} {k a : Nat} : attL A (k + 1) a = if A k a = true then attL A k a ++ [k] else attL A k a := by
  unfold attL
  rw [List.range_succ, List.filter_append]
  by_cases h : A k a = true
  · rw [if_pos h, List.filter_cons_of_pos (p := fun b => A b a) h]; rfl
  · rw [if_neg h, List.filter_cons_of_neg (p := fun b => A b a) h]; simp

theorem hasA_lt {g : T_api_Graph} (h : ∀ p ∈ g.L, p.From < p.To) : ∀ b a, hasA g b a = true → b < a := fun b a hb => by
  obtain ⟨p, hp, h1⟩ := List.any_eq_true.1 hb
  simp at h1
  have := h p hp
  omega

/-- the strengths of a drawn graph -/
theorem strength_acyc {N : Nat} {g : T_api_Graph} {base : List Fr} (hg : GVal g) (hn : g.N = (N : Int)) (hl : g.L.length ≤ 1000000) (hlt : ∀ p ∈ g.L, p.From < p.To) (hf : FrsOk N base) :
    degree_Strength_m g base = some ([], 2) ∨ ∃ out, degree_Strength_m g base = some (out, 0) ∧ out.length = N ∧ ∀ i, i < N → Eqn (hasA g) N base out i := by
  obtain ⟨hB, hb⟩ := hf.base
  have h1 := (strength_val (Validate_plain hg hl) hg hn hl hB hb).1
  unfold strR at h1
  rw [acyc_order (hasA_lt hlt)] at h1
  simp only at h1
  cases hs : strF (hasA g) N base (List.range N) with
  | none => rw [hs] at h1; exact .inl h1
  | some out =>
    rw [hs] at h1
    obtain ⟨h2, h3⟩ := acyc_str (hasA_lt hlt) hB hs
    exact .inr ⟨out, h1, h2, h3⟩

section
variable {N : Nat} {g : T_api_Graph} {base out : List Fr} {s2 : T_deliberationkeep_Src} (hn : g.N = (N : Int)) (hN : N ≤ 5) (hl : g.L.length ≤ 1000000) (ho : out.length = N) (hE : ∀ i, i < N → Eqn (hasA g) N base out i)
include hn hN hl ho hE

theorem out_idx {i : Nat} (hi : i < N) : idxM out (i : Int) = some (out.getD i z0) := by
  rw [idxM_nat (by omega)]; simp [List.getD, ho, hi]
theorem out_fq {i : Nat} (hi : i < N) : ∃ n d : Nat, out.getD i z0 = fq n d ∧ 0 < d ∧ n ≤ d ∧ d ≤ 1099511627776 := by
  obtain ⟨⟨n, d, e, h1, h2, h3⟩, h4, _⟩ := hE i hi
  rw [e] at h4
  exact ⟨n, d, e, h1, h4, h3⟩

theorem eq_l2 {a : Nat} (ha : a < N) : T (loopC (law22_DegreeEquation_l2 (g, s2) (out, 0) (a : Int)) (1, 0)) fun o => match o with
    | .inl r => r = true
    | .inr den => ∃ D : Nat, den = (D : Int) ∧ 0 < D ∧ D ≤ 68719476736 ∧ ∀ b ∈ attL (hasA g) N a, dN (out.getD b z0) ∣ D := by
  refine T.loopK N (fun k s => k ≤ N ∧ ∃ D : Nat, s = ((D : Int), (k : Int)) ∧ 0 < D ∧ D ≤ 68719476736 ∧ ∀ b ∈ attL (hasA g) k a, dN (out.getD b z0) ∣ D) ⟨by omega, 1, rfl, by omega, by omega, fun b hb => by simp [attL] at hb⟩ ?_
  rintro k _ ⟨hk, D, rfl, hD0, hD1, hdv⟩
  dsimp only [law22_DegreeEquation_l2]
  rw [hn]
  refine T.cond (fun g1 => ?_) fun g1 => ?_
  · have hk1 : k < N := by simpa using g1
    rw [nHas_plain hl, some_bind]
    have hatt := attL_succ (A := hasA g) (k := k) (a := a)
    refine T.cond (fun g2 => ?_) fun g2 => ?_
    · have hA : hasA g k a = true := g2
      rw [if_pos hA] at hatt
      obtain ⟨n, d, e, d0, nd, d1⟩ := out_fq hn hN hl ho hE hk1
      rw [out_idx hn hN hl ho hE hk1]
      refine T.joinP (fun j : Bool => j = false → d ≤ 4096 ∧ D ≤ 16777216) (fun j hj => ?_) fun kk hkk => ?_
      · refine T.cond (fun g3 => ?_) fun g3 => ?_
        · rw [some_bind, e]
          refine T.cond (fun g4 => ?_) fun g4 => ?_
          · rw [awake_plain, some_bind]; exact .ret rfl
          · have := of_decide_eq_false g4; simp [fq] at this; omega
        · obtain ⟨c1, c2⟩ := hj g3
          have hm : D * d ≤ 16777216 * 4096 := Nat.mul_le_mul c2 c1
          rw [some_bind, letM_eq, letM_eq, iadd1 (by omega), e, show (fq n d).Den = (d : Int) from rfl, imul_n (by omega)]
          refine .ret ⟨hk1, by omega, D * d, rfl, Nat.mul_pos hD0 d0, by omega, fun b hb => ?_⟩
          rw [hatt] at hb
          rcases List.mem_append.1 hb with hb | hb
          · exact Nat.dvd_trans (hdv b hb) (Nat.dvd_mul_right _ _)
          · rw [List.mem_singleton.1 hb, e]; exact Nat.dvd_mul_left _ _
      · rw [some_bind, e]
        refine T.cond (fun g3 => hkk _ (by simp)) fun g3 => ?_
        rw [some_bind]
        refine T.cond (fun g4 => hkk _ (by simp)) fun g4 => ?_
        have h4 := of_decide_eq_false g4
        rw [show (fq n d).Den = (d : Int) from rfl] at h4
        refine hkk _ fun g5 => ?_
        have h5 := of_decide_eq_false g5
        exact ⟨by omega, by omega⟩
    · have hA : ¬ hasA g k a = true := fun h => by unfold hasA at h; rw [h] at g2; cases g2
      rw [if_neg hA] at hatt
      rw [letM_eq, iadd1 (by omega)]
      exact .ret ⟨hk1, by omega, D, rfl, hD0, hD1, by rw [hatt]; exact hdv⟩
  · have hk1 : k = N := by have := of_decide_eq_false g1; omega
    subst hk1
    exact .ret ⟨D, rfl, hD0, hD1, hdv⟩

theorem eq_l3 {a D : Nat} (ha : a < N) (hD0 : 0 < D) (hD1 : D ≤ 68719476736) (hdv : ∀ b ∈ attL (hasA g) N a, dN (out.getD b z0) ∣ D) :
    T (loopC (law22_DegreeEquation_l3 (g, s2) (out, 0) (a : Int) (D : Int)) ((D : Int), 0)) fun q => ∃ m : Nat, q = (m : Int) ∧ Rat.divInt (m : Int) (D : Int) = 1 + sumR out (attL (hasA g) N a) := by
  refine T.loopK N (fun k s => k ≤ N ∧ ∃ m : Nat, s = ((m : Int), (k : Int)) ∧ m ≤ (k + 1) * 68719476736 ∧ Rat.divInt (m : Int) (D : Int) = 1 + sumR out (attL (hasA g) k a)) ⟨by omega, D, rfl, by omega, ?_⟩ ?_
  · rw [Rat.divInt_self' (by omega)]; simp [sumR, attL, Rat.add_zero]
  rintro k _ ⟨hk, m, rfl, hm, hv⟩
  dsimp only [law22_DegreeEquation_l3]
  rw [hn]
  refine T.cond (fun g1 => ?_) fun g1 => ?_
  · have hk1 : k < N := by simpa using g1
    rw [nHas_plain hl, some_bind]
    have hatt := attL_succ (A := hasA g) (k := k) (a := a)
    refine T.cond (fun g2 => ?_) fun g2 => ?_
    · have hA : hasA g k a = true := g2
      rw [if_pos hA] at hatt
      obtain ⟨n, d, e, d0, nd, d1⟩ := out_fq hn hN hl ho hE hk1
      have hd : d ∣ D := by have := hdv k (mem_attL.2 ⟨hk1, hA⟩); rw [e] at this; exact this
      obtain ⟨q, hq⟩ := hd
      have hqd : D / d = q := by rw [hq]; exact Nat.mul_div_cancel_left _ d0
      have hnq : n * q ≤ D := by rw [hq]; exact Nat.mul_le_mul_right q nd
      have hm2 : m + n * q ≤ (k + 1 + 1) * 68719476736 := by omega
      rw [out_idx hn hN hl ho hE hk1, some_bind, some_bind, e, show (fq n d).Den = (d : Int) from rfl, show (fq n d).Num = (n : Int) from rfl, iquo_u (by omega) (by omega), some_bind, letM_eq, hqd, imul_n (by omega), iadd_n (by omega), iadd1 (by omega)]
      refine .ret ⟨hk1, by omega, m + n * q, rfl, hm2, ?_⟩
      rw [hatt, sumR_snoc, ← Rat.add_assoc, ← hv, e, val_fq, Rat.divInt_add_divInt _ _ (by omega) (by omega), Rat.divInt_eq_divInt_iff (by omega) (by have := Nat.mul_pos hD0 d0; rw [← Int.natCast_mul]; omega)]
      rw [hq]
      simp only [Int.natCast_add, Int.natCast_mul]
      grind
    · have hA : ¬ hasA g k a = true := fun h => by unfold hasA at h; rw [h] at g2; cases g2
      rw [if_neg hA] at hatt
      rw [letM_eq, iadd1 (by omega)]
      exact .ret ⟨hk1, by omega, m, rfl, Nat.le_trans hm (Nat.mul_le_mul_right _ (by omega)), by rw [hatt]; exact hv⟩
  · have hk1 : k = N := by have := of_decide_eq_false g1; omega
    subst hk1
    exact .ret ⟨m, rfl, hv⟩

theorem eq_l1 (hlt : ∀ p ∈ g.L, p.From < p.To) (hf : FrsOk N base) {s3 : T_deliberationkeep_Src} : T (loopC (law22_DegreeEquation_l1 (g, s2) (base, s3) (out, 0)) 0) fun o => match o with
    | .inl r => r = true
    | .inr _ => True := by
  have hB := hf.base.1
  refine T.loopK N (fun k s => k ≤ N ∧ s = (k : Int)) ⟨by omega, rfl⟩ ?_
  rintro k _ ⟨hk, rfl⟩
  dsimp only [law22_DegreeEquation_l1]
  rw [hn]
  have aw : T (Option.bind law22_awake_m fun t => some (Sum.inl (Sum.inl t) : Sum (Sum Bool Unit) Int)) (onO (fun o : Sum Bool Unit => match o with | .inl r => r = true | .inr _ => True) fun s' => k < N ∧ k + 1 ≤ N ∧ s' = ((k + 1 : Nat) : Int)) := by
    rw [awake_plain, some_bind]; exact .ret rfl
  refine T.cond (fun g1 => ?_) fun g1 => .ret trivial
  have hk1 : k < N := by simpa using g1
  refine T.bind (eq_l2 hn hN hl ho hE hk1 (s2 := s2)) fun o ho2 => ?_
  cases o with
  | inl r => exact .ret ho2
  | inr den =>
    obtain ⟨D, rfl, hD0, hD1, hdv⟩ := ho2
    rw [sumK_inr]
    refine T.bind (eq_l3 hn hN hl ho hE hk1 (s2 := s2) hD0 hD1 hdv) ?_
    rintro _ ⟨m, rfl, hm⟩
    obtain ⟨n, d, e, d0, nd, d1⟩ := out_fq hn hN hl ho hE hk1
    have hbase := hf.l
    obtain ⟨bn, bd, be, b0, b1, b2⟩ := hf.f _ (List.getElem_mem (show k < base.length by omega))
    have hbg : base.getD k z0 = fq bn bd := by rw [← be]; simp [List.getD, hbase, hk1]
    have hbi : idxM base (k : Int) = some (fq bn bd) := by rw [base_idx hB hk1, hbg]
    have hval := eqn_val (hasA_lt hlt) hB hE hk1
    rw [out_idx hn hN hl ho hE hk1, some_bind, e]
    refine T.cond (fun _ => aw) fun g2 => T.cond (fun _ => aw) fun g3 => ?_
    have h2 := of_decide_eq_false g2
    rw [show (fq n d).Den = (d : Int) from rfl] at h2
    have h3 := of_decide_eq_false g3
    rw [some_bind]
    refine T.cond (fun g4 => ?_) fun g4 => ?_
    · have := of_decide_eq_true g4; rw [show (fq n d).Den = (d : Int) from rfl] at this; omega
    · rw [some_bind, hbi, some_bind, some_bind, some_bind, show (fq n d).Den = (d : Int) from rfl, show (fq n d).Num = (n : Int) from rfl, show (fq bn bd).Den = (bd : Int) from rfl, show (fq bn bd).Num = (bn : Int) from rfl]
      have e1 : n * m ≤ 4096 * 68719476736 := Nat.mul_le_mul (by omega) (by omega)
      have e2 : n * m * bd ≤ 4096 * 68719476736 * 6 := Nat.mul_le_mul e1 b2
      have e3 : bn * D ≤ 6 * 68719476736 := Nat.mul_le_mul (by omega) hD1
      have e4 : bn * D * d ≤ 6 * 68719476736 * 4096 := Nat.mul_le_mul e3 (by omega)
      rw [imul_n (by omega), imul_n (by omega), imul_n (by omega), imul_n (by omega)]
      have key : n * m * bd = bn * D * d := by
        rw [e, hbg, val_fq, val_fq, ← hm, Rat.divInt_mul_divInt, Rat.divInt_eq_divInt_iff (by have := Nat.mul_pos d0 hD0; rw [← Int.natCast_mul]; omega) (by omega)] at hval
        have : ((n * m * bd : Nat) : Int) = ((bn * D * d : Nat) : Int) := by
          simp only [Int.natCast_mul]
          grind
        omega
      rw [key]
      refine T.cond (fun g5 => by simp at g5) fun _ => ?_
      rw [letM_eq, iadd1 (by omega)]
      exact .ret ⟨hk1, by omega, rfl⟩
end

theorem law22_DegreeEquation_plain (l : List Int) (_ : l.length ≤ maxLen ∧ ∀ x ∈ l, (Lit.int .i64 x).wf = true) : law22_DegreeEquation_m l = some true := by
  refine T.eq ?_
  have aw : T (Option.bind law22_awake_m fun t => some t) fun x => x = true := by rw [awake_plain, some_bind]; exact .ret rfl
  unfold law22_DegreeEquation_m
  refine T.bind New_plain fun s1 hs1 => ?_
  refine T.bind (acyclic_plain hs1 (by omega) (by omega)) ?_
  rintro ⟨g, s2⟩ ⟨hg, hn1, hn2, hgl, hs2, hlt⟩
  simp only at *
  obtain ⟨N, hN⟩ := Int.eq_ofNat_of_zero_le hg.n0
  rw [hN]
  refine T.bind (fractions_plain hs2 (N := N) (by omega)) ?_
  rintro ⟨base, s3⟩ ⟨hf, hs3⟩
  simp only at *
  rcases strength_acyc hg hN (by omega) hlt hf with h | ⟨out, h, hol, hE⟩
  · rw [h, some_bind]
    exact aw
  · rw [h, some_bind]
    refine T.cond (fun g1 => by simp at g1) fun _ => T.cond (fun g1 => by simp at g1) fun _ => T.cond (fun g1 => by simp [hol] at g1) fun _ => ?_
    refine T.bind (eq_l1 hN (by omega) (by omega) hol hE hlt hf) fun o ho => ?_
    cases o with
    | inl r => exact .ret ho
    | inr u => exact aw
end Go.Dc
