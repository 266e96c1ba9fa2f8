/- Part P22S.LawS of a proof: lemmas. -/
import Derived.Test.YtmbflfngkcmfeaaDoorLAW22SF
import Derived.Test.YtmbflfngkcmfeaaDoorP22SStr3
namespace Go.Dc
set_option maxRecDepth 100000 in
theorem awake_plain : law22_awake_m = some true := law22_awake_f_le (k_ := 100) _ (by decide +kernel)
end Go.Dc

set_option linter.unusedVariables false
set_option linter.unusedSimpArgs false
set_option linter.unusedSectionVars false
/-! The drawn graphs and fractions. -/
namespace Go.Dc

structure FrsOk (N : Nat) (q : List Fr) : Prop where
  l : q.length = N
  f : ∀ f ∈ q, ∃ n d : Nat, f = fq n d ∧ 0 < d ∧ n ≤ d ∧ d ≤ 6

theorem FrsOk.base {N : Nat} {l : List Fr} (h : FrsOk N l) : BaseOk N l ∧ l.any badB = false := by
  constructor
  · refine ⟨h.l, fun i hi => ?_⟩
    have hi' : i < l.length := by rw [h.l]; exact hi
    rw [show l.getD i z0 = l[i] by simp [List.getD, hi']]
    obtain ⟨n, d, e, h1, h2, h3⟩ := h.f _ (List.getElem_mem hi')
    exact ⟨n, d, e, h1, h2, by omega⟩
  · rw [List.any_eq_false]
    intro f hf
    obtain ⟨n, d, e, h1, h2, h3⟩ := h.f _ hf
    subst e
    unfold badB fq
    simp
    omega

theorem FrsOk.den {N : Nat} {l : List Fr} (h : FrsOk N l) : ∀ f ∈ l, f.Den < 9223372036854775808 := fun f hf => by
  obtain ⟨n, d, e, h1, h2, h3⟩ := h.f _ hf
  subst e; simp [fq]; omega

theorem fractions_plain {s : T_deliberationkeep_Src} (hs : SrcOk s) {N : Nat} (hN : N ≤ 60) : T (law22_fractions_m s (N : Int)) fun r => FrsOk N r.1 ∧ SrcOk r.2 := by
  unfold law22_fractions_m
  refine T.bind (P := fun q => SrcOk q.1 ∧ FrsOk N q.2) ?_ fun q hq => .ret ⟨hq.2, hq.1⟩
  refine T.loopK N (fun k s => k ≤ N ∧ s.1 = (k : Int) ∧ SrcOk s.2.1 ∧ FrsOk k s.2.2) ⟨by omega, rfl, hs, rfl, by simp⟩ ?_
  rintro k ⟨_, s, out⟩ ⟨hk, rfl, hs, hf⟩
  dsimp only [law22_fractions_l1] at *
  refine T.cond (fun g1 => ?_) fun g1 => ?_
  · have hk1 : k < N := by simpa using g1
    refine T.bind (Range_plain hs (lo := 1) (hi := 6) (by omega) (by omega) (by omega)) ?_
    rintro ⟨d, s2⟩ ⟨hs2, d1, d6⟩
    simp only at *
    rw [iadd64 (by omega) (by omega)]
    refine T.bind (N_plain hs2 (n := d + 1) (by omega)) ?_
    rintro ⟨x, s3⟩ ⟨hs3, hx⟩
    simp only at *
    have hx := hx (by omega)
    have hfl := hf.l
    rw [appM_eq (by simp; omega), some_bind, letM_eq, iadd1 (by omega)]
    refine .ret ⟨hk1, by omega, rfl, hs3, by simp; omega, fun f hf' => ?_⟩
    rcases List.mem_append.1 hf' with h | h
    · exact hf.f f h
    · rw [List.mem_singleton.1 h]
      refine ⟨x.toNat, d.toNat, ?_, by omega, by omega, by omega⟩
      unfold fq; congr 1 <;> omega
  · have hk1 : k = N := by have := of_decide_eq_false g1; omega
    subst hk1
    exact .ret ⟨hs, hf⟩

theorem acyclic_plain {s : T_deliberationkeep_Src} (hs : SrcOk s) {n : Int} (h1 : 1 ≤ n) (h2 : n ≤ 40) :
    T (law22_acyclic_m s n) fun r => GVal r.1 ∧ 1 ≤ r.1.N ∧ r.1.N ≤ n ∧ r.1.L.length ≤ 1640 ∧ SrcOk r.2 ∧ ∀ p ∈ r.1.L, p.From < p.To := by
  unfold law22_acyclic_m
  refine T.bind (Graph_plain hs h1 h2) ?_
  rintro ⟨g, s2⟩ ⟨hg, hn1, hn2, hl, hs2⟩
  simp only at *
  refine T.bind (P := fun q => q = g.L.filter fun p => decide (p.From < p.To)) ?_ ?_
  · refine T.loopK g.L.length (fun k s => k ≤ g.L.length ∧ s = ((k : Int), (g.L.take k).filter fun p => decide (p.From < p.To))) ⟨by omega, by simp⟩ ?_
    rintro k _ ⟨hk, rfl⟩
    dsimp only [law22_acyclic_l1]
    refine T.cond (fun g1 => ?_) fun g1 => ?_
    · have hk1 : k < g.L.length := by have := of_decide_eq_true g1; omega
      have htk : g.L.take (k + 1) = g.L.take k ++ [g.L[k]] := by rw [List.take_add_one, List.getElem?_eq_getElem hk1]; rfl
      have hfl : ((g.L.take k).filter fun p => decide (p.From < p.To)).length ≤ 1640 := Nat.le_trans (List.length_filter_le _ _) (by rw [List.length_take]; omega)
      rw [idxM_nat hk1, some_bind, some_bind]
      refine T.cond (fun g2 => ?_) fun g2 => ?_
      · rw [some_bind, appM_eq (by simp; omega), some_bind, letM_eq, iadd1 (by omega)]
        exact .ret ⟨hk1, by omega, by rw [htk, List.filter_append, List.filter_cons_of_pos (p := fun p : T_api_Pair => decide (p.From < p.To)) g2]; rfl⟩
      · rw [letM_eq, iadd1 (by omega)]
        exact .ret ⟨hk1, by omega, by rw [htk, List.filter_append, List.filter_cons_of_neg (p := fun p : T_api_Pair => decide (p.From < p.To)) (by rw [g2]; simp)]; simp⟩
    · have hk1 : k = g.L.length := by have := of_decide_eq_false g1; omega
      subst hk1
      refine .ret ?_
      show _ = _
      rw [List.take_length]
  · rintro _ rfl
    refine .ret ⟨⟨hg.n0, hg.n1, fun p hp => hg.v p (List.mem_filter.1 hp).1, hg.s.filter _⟩, hn1, hn2, Nat.le_trans (List.length_filter_le _ _) hl, hs2, fun p hp => by simpa using (List.mem_filter.1 hp).2⟩
end Go.Dc

set_option linter.unusedVariables false
set_option linter.unusedSimpArgs false
set_option linter.unusedSectionVars false
/-! The law DegreeStrengths, in plain words. -/
namespace Go.Dc

theorem wf_i64 {x : Int} (h : (Lit.int .i64 x).wf = true) : -9223372036854775808 ≤ x ∧ x ≤ 9223372036854775807 := by
  simpa [Lit.wf, IntKind.signed, IntKind.bits, IntKind.min, IntKind.max, decide_eq_true_iff] using h

theorem law22_DegreeStrengths_plain (raw : T_api_Graph) (base : List T_api_Fraction) (l : List Int) {p0 p2 : Prop} (_ : p0) (hb : base.length ≤ maxLen ∧ ∀ x ∈ base, (Lit.int .i64 x.Num).wf = true ∧ (Lit.int .i64 x.Den).wf = true) (_ : p2) :
    law22_DegreeStrengths_m raw base l = some true := by
  refine T.eq ?_
  have aw : T (Option.bind law22_awake_m fun t => some t) fun x => x = true := by rw [awake_plain, some_bind]; exact .ret rfl
  have hw : ∀ f ∈ base, f.Den < 9223372036854775808 := fun f hf => by have := wf_i64 (hb.2 f hf).2; omega
  unfold law22_DegreeStrengths_m
  have hlight : net_Light_m raw = some (decide ((raw.L.length : Int) ≤ 300)) := rfl
  rw [hlight, some_bind]
  refine T.cond (fun _ => aw) fun g1 => T.cond (fun _ => aw) fun g2 => ?_
  have c1 : raw.L.length ≤ 300 := by simp at g1; omega
  have c2 : base.length ≤ 60 := by have := of_decide_eq_false g2; omega
  refine T.bind New_plain fun s1 hs1 => ?_
  refine T.bind (acyclic_plain hs1 (by omega) (by omega)) ?_
  rintro ⟨g, s2⟩ ⟨hg, hn1, hn2, hgl, hs2, _⟩
  simp only at *
  refine T.bind (Graph_plain hs2 (by omega) (by omega)) ?_
  rintro ⟨h, s3⟩ ⟨hh, hm1, hm2, hhl, hs3⟩
  simp only at *
  obtain ⟨N, hN⟩ := Int.eq_ofNat_of_zero_le hg.n0
  obtain ⟨M, hM⟩ := Int.eq_ofNat_of_zero_le hh.n0
  rw [hN]
  refine T.bind (fractions_plain hs3 (N := N) (by omega)) ?_
  rintro ⟨f1, s4⟩ ⟨hf1, hs4⟩
  simp only at *
  rw [hM]
  refine T.bind (fractions_plain hs4 (N := M) (by omega)) ?_
  rintro ⟨f2, s5⟩ ⟨hf2, hs5⟩
  simp only at *
  refine T.bind (Mod_plain (x := raw.N) (n := 41) (by omega)) fun m hm => ?_
  have hm := hm (by omega)
  obtain ⟨K, hK⟩ := Int.eq_ofNat_of_zero_le hm.1
  rw [hK]
  refine T.bind (fractions_plain hs5 (N := K) (by omega)) ?_
  rintro ⟨f3, s6⟩ ⟨hf3, hs6⟩
  simp only at *
  have l1 := hf1.l; have l2 := hf2.l; have l3 := hf3.l
  have hloop : loopC (law22_DegreeStrengths_l1 raw base (g, s2) (h, s3) (f1, s4) (f2, s5) (f3, s6)) 0 = some (.inr ()) := by
    refine T.eq (T.loopK 5 (fun k s => s = (k : Int) ∧ k ≤ 5) ⟨rfl, by omega⟩ ?_)
    rintro k _ ⟨rfl, hk⟩
    dsimp only [law22_DegreeStrengths_l1]
    have key : ∀ t ∈ ([(T_anon43.mk raw base), (T_anon43.mk g f1), (T_anon43.mk h f2), (T_anon43.mk g base), (T_anon43.mk raw f3)] : List T_anon43), t.g.L.length ≤ 1000000 ∧ t.b.length ≤ 1000000 ∧ ∀ f ∈ t.b, f.Den < 9223372036854775808 := by
      intro t ht
      simp only [List.mem_cons, List.not_mem_nil, or_false] at ht
      rcases ht with rfl | rfl | rfl | rfl | rfl
      · exact ⟨by simp only; omega, by simp only; omega, hw⟩
      · exact ⟨by simp only; omega, by simp only; omega, hf1.den⟩
      · exact ⟨by simp only; omega, by simp only; omega, hf2.den⟩
      · exact ⟨by simp only; omega, by simp only; omega, hw⟩
      · exact ⟨by simp only; omega, by simp only; omega, hf3.den⟩
    refine T.cond (fun g1 => ?_) fun g1 => .ret rfl
    have hk5 : k < 5 := by have := of_decide_eq_true g1; simp at this; omega
    have hk' : k < ([(T_anon43.mk raw base), (T_anon43.mk g f1), (T_anon43.mk h f2), (T_anon43.mk g base), (T_anon43.mk raw f3)] : List T_anon43).length := hk5
    obtain ⟨t1, t2, t3⟩ := key _ (List.getElem_mem hk')
    rw [idxM_nat hk', some_bind]
    generalize ([(T_anon43.mk raw base), (T_anon43.mk g f1), (T_anon43.mk h f2), (T_anon43.mk g base), (T_anon43.mk raw f3)] : List T_anon43)[k] = t at *
    obtain ⟨r, e1, e2, hr⟩ := strength_both t1 t2 t3
    rw [e1, some_bind, e2, some_bind, Same_plain (by omega), some_bind, iadd1 (by omega)]
    simp only [bne_self_eq_false, cond_false, Bool.not_true]
    exact .ret ⟨hk5, rfl, by omega⟩
  rw [hloop, some_bind, sumK_inr]
  exact aw
end Go.Dc
