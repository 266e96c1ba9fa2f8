/- Part P23A.Answers of a proof: lemmas. -/
import Derived.Test.YtkcaadcoagimdaaDoorP23ARJoint
set_option linter.unusedVariables false
set_option linter.unusedSimpArgs false
set_option linter.unusedSectionVars false
/-! The law ChanceAnswers, in plain words. -/
namespace Go.Dc

theorem rd_scale {K x y : Nat} (hK : 0 < K) (hy : 0 < y) : rd (K * x) (K * y) = rd x y :=
  rd_eq (Nat.mul_pos hK hy) hy (by ac_rfl)

section
variable {g : T_api_Graph} {o : T_api_Odds} (b1 : g.L.length ≤ 5000) (b2 : o.Nodes.length ≤ 5000) (b3 : o.Attacks.length ≤ 5000)
include b1 b2 b3

theorem Joint_both {a : List Int} (b4 : a.length ≤ 5000) {q : Int} : ∃ r, chance_Joint_m g o a q = some r ∧ ref23_Joint_m g o a q = some r := by
  obtain ⟨e, h1, h2, h3⟩ := args_both (q := q) b1 b2 b3 b4
  by_cases he : e = 0
  · subst he
    obtain ⟨N, h, ha, q1, q4⟩ := h3 rfl
    refine ⟨_, Joint_plain h ha q1 q4, ?_⟩
    rw [rJoint_plain h b1 ha q1 q4 h2]
    obtain ⟨K, hK, hJ⟩ : ∃ K, 0 < K ∧ ∀ c, J (frs o) c = K * J (rfs o) c := J_red h.fr
    have hd : dn (frs o) = K * dn (rfs o) := hJ _
    rw [hJ, hd, rd_scale hK (rfs_pos h)]
  · have hb : (e != 0) = true := by simpa using he
    exact ⟨(⟨0, 0⟩, e), by unfold chance_Joint_m; rw [h1, some_bind, hb, cond_true], by unfold ref23_Joint_m; rw [h2, some_bind, hb, cond_true]⟩

theorem Ext_both {a : List Int} (b4 : a.length ≤ 5000) : ∃ r, chance_Extension_m g o a = some r ∧ ref23_Extension_m g o a = some r := by
  obtain ⟨e, h1, h2, h3⟩ := args_both (q := 4) b1 b2 b3 b4
  by_cases he : e = 0
  · subst he
    obtain ⟨N, h, ha, q1, q4⟩ := h3 rfl
    refine ⟨_, Extension_plain h ha, ?_⟩
    rw [rExtension_plain h b1 ha h2]
    obtain ⟨K, hK, hJ⟩ : ∃ K, 0 < K ∧ ∀ c, J (frs o) c = K * J (rfs o) c := J_red h.fr
    have hd : dn (frs o) = K * dn (rfs o) := hJ _
    rw [hJ, hd, rd_scale hK (rfs_pos h)]
  · have hb : (e != 0) = true := by simpa using he
    exact ⟨(⟨0, 0⟩, e), by unfold chance_Extension_m; rw [h1, some_bind, hb, cond_true], by unfold ref23_Extension_m; rw [h2, some_bind, hb, cond_true]⟩

theorem Given_both {a b : List Int} (b4 : a.length ≤ 5000) (b5 : b.length ≤ 5000) {q : Int} : ∃ r, chance_Given_m g o a b q = some r ∧ ref23_Given_m g o a b q = some r := by
  obtain ⟨ea, h1, h2, h3⟩ := args_both (q := q) b1 b2 b3 b4
  obtain ⟨eb, k1, k2, k3⟩ := args_both (q := q) b1 b2 b3 b5
  have e0 : chance_Given_l1 g o a b q 0 = if ea = 0 then some (.inr 1) else some (.inl (.inl (⟨0, 0⟩, ea))) := by
    unfold chance_Given_l1
    rw [show decide ((0 : Int) < (([a, b] : List (List Int)).length : Int)) = true from rfl, cond_true, show idxM [a, b] 0 = some a from rfl, some_bind, h1, some_bind]
    by_cases he : ea = 0
    · subst he; rfl
    · rw [if_neg he, show (ea != 0) = true by simpa using he]; rfl
  have e1 : chance_Given_l1 g o a b q 1 = if eb = 0 then some (.inr 2) else some (.inl (.inl (⟨0, 0⟩, eb))) := by
    unfold chance_Given_l1
    rw [show decide ((1 : Int) < (([a, b] : List (List Int)).length : Int)) = true from rfl, cond_true, show idxM [a, b] 1 = some b from rfl, some_bind, k1, some_bind]
    by_cases he : eb = 0
    · subst he; rfl
    · rw [if_neg he, show (eb != 0) = true by simpa using he]; rfl
  by_cases he : ea = 0
  · subst he
    obtain ⟨N, h, ha, q1, q4⟩ := h3 rfl
    by_cases hf : eb = 0
    · subst hf
      obtain ⟨N', h', hb, _, _⟩ := k3 rfl
      have hNN : N' = N := by have := h.gg.n; have := h'.gg.n; omega
      subst hNN
      refine ⟨_, Given_plain h ha hb q1 q4, ?_⟩
      rw [rGiven_plain h b1 ha hb q1 q4 h2 k2]
      obtain ⟨K, hK, hJ⟩ : ∃ K, 0 < K ∧ ∀ c, J (frs o) c = K * J (rfs o) c := J_red h.fr
      rw [hJ, hJ]
      by_cases h0 : J (rfs o) (jc g (setOf (nl b)) q) = 0
      · rw [if_pos h0, if_pos (by rw [h0]; simp)]
      · rw [if_neg h0, if_neg (by intro hz; rcases Nat.mul_eq_zero.1 hz with hz | hz <;> omega), rd_scale hK (by omega)]
    · refine ⟨(⟨0, 0⟩, eb), ?_, ?_⟩
      · unfold chance_Given_m
        rw [loopC_eq, e0, if_pos rfl]
        show Option.bind (loopC _ 1) _ = _
        rw [loopC_eq, e1, if_neg hf]; rfl
      · unfold ref23_Given_m
        rw [rJoint_plain h b1 ha q1 q4 h2, some_bind]
        simp only
        rw [show ((0 : Int) != 0) = false from rfl, cond_false]
        have hbb : (eb != 0) = true := by simpa using hf
        have : ref23_Joint_m g o b q = some (⟨0, 0⟩, eb) := by unfold ref23_Joint_m; rw [k2, some_bind, hbb, cond_true]
        rw [this, some_bind]
        simp only
        rw [hbb, cond_true]
  · refine ⟨(⟨0, 0⟩, ea), ?_, ?_⟩
    · unfold chance_Given_m
      rw [loopC_eq, e0, if_neg he]; rfl
    · unfold ref23_Given_m
      have hbb : (ea != 0) = true := by simpa using he
      have : ref23_Joint_m g o a q = some (⟨0, 0⟩, ea) := by unfold ref23_Joint_m; rw [h2, some_bind, hbb, cond_true]
      rw [this, some_bind]
      simp only
      rw [hbb, cond_true]

theorem Cert_both : ∃ r, chance_Certain_m g o = some r ∧ ref23_Certain_m g o = some r ∧ r.1.L.length ≤ 5000 ∧ r.2.1.length ≤ 5000 := by
  obtain ⟨v, hv, hv2⟩ := gV_plain (g := g) (by omega)
  have hrv := val_eq (g := g) (by omega)
  rw [hv] at hrv
  cases hv0 : (v != 0) with
  | true => exact ⟨(⟨0, []⟩, [], v), by unfold chance_Certain_m; rw [hv, some_bind, hv0, cond_true], by unfold ref23_Certain_m; rw [← hrv, some_bind, hv0, cond_true], by simp, by simp⟩
  | false =>
    have hval := (hv2.1 (by simpa using hv0)).val
    cases ho : oddsB g o with
    | false => exact ⟨(⟨0, []⟩, [], 1), by unfold chance_Certain_m; rw [hv, some_bind, hv0, cond_false, fitsG b2 b3, some_bind, ho]; rfl, by unfold ref23_Certain_m; rw [← hrv, some_bind, hv0, cond_false, oddsG b2 b3, some_bind, ho]; rfl, by simp, by simp⟩
    | true =>
      have hfit : chance_fits_m g o = some true := by rw [fitsG b2 b3, ho]
      have ho2 := ho
      unfold oddsB at ho2
      simp only [Bool.and_eq_true, beq_iff_eq] at ho2
      have hn0 := hval.n0; have hn1 := hval.n1
      obtain ⟨N, hN⟩ := Int.eq_ofNat_of_zero_le hn0
      have hln : o.Nodes.length = N := by omega
      have hla : o.Attacks.length = g.L.length := by omega
      obtain ⟨r, hr, hR⟩ := Certain_plain hval hN (by omega) hln hla hfit
      refine ⟨r, hr, ?_, by have := hR.l; omega, by have := hR.nl; omega⟩
      -- the nodes
      unfold chance_Certain_m at hr
      rw [hv, some_bind, hv0, cond_false, hfit, some_bind, Bool.not_true, cond_false] at hr
      obtain ⟨q, hq, hr⟩ := Option.bind_eq_some_iff.1 hr
      obtain ⟨L, hL, hr⟩ := Option.bind_eq_some_iff.1 hr
      have hr' := Option.some.inj hr
      have hnodes : ∀ x : Int, x ∈ q ↔ ∃ i : Nat, x = i ∧ sureN o i := by have := hR.nodes; rw [← hr'] at this; exact this
      have hnl : q.length ≤ N := by have := hR.nl; rw [← hr'] at this; exact this
      have l1 : loopC (ref23_Certain_l1 g o) (0, []) = loopC (chance_Certain_l1 o) (0, []) := by
        refine loop_congr (fun _ => True) (fun s _ => ?_) (fun _ _ _ _ => trivial) _ trivial
        unfold ref23_Certain_l1 chance_Certain_l1
        rw [show g.N = (o.Nodes.length : Int) by omega]
        cases idxM o.Nodes s.1 with
        | none => rfl
        | some f =>
          simp only [some_bind, Cert1_plain, letM_eq]
          rfl
      have hsure : ∀ x : Int, 0 ≤ x → x < N → ∃ f, idxM o.Nodes x = some f ∧ decide (x ∈ q) = sure f := fun x h0 h1 => by
        obtain ⟨i, rfl⟩ := Int.eq_ofNat_of_zero_le h0
        have hi : i < o.Nodes.length := by omega
        refine ⟨o.Nodes[i], idxM_nat hi, ?_⟩
        rw [Bool.eq_iff_iff, decide_eq_true_eq, hnodes]
        unfold sureN
        constructor
        · rintro ⟨j, e, f, h2, h3⟩
          have : j = i := by omega
          subst this
          rw [List.getElem?_eq_getElem hi] at h2
          cases h2; exact h3
        · intro h3; exact ⟨i, rfl, _, List.getElem?_eq_getElem hi, h3⟩
      have l2 : loopC (ref23_Certain_l2 g o q) (0, []) = loopC (chance_Certain_l2 g o) (0, []) := by
        refine loop_congr (fun _ => True) (fun s _ => ?_) (fun _ _ _ _ => trivial) _ trivial
        unfold ref23_Certain_l2 chance_Certain_l2
        simp only [joinM_eq]
        by_cases h0 : 0 ≤ s.1
        · by_cases h1 : s.1 < (g.L.length : Int)
          · rw [decide_eq_true h1, cond_true, cond_true, idxM_eq (d := g.L) h0 (by omega), idxM_eq (d := o.Attacks) h0 (by omega)]
            simp only [some_bind, Cert1_plain, letM_eq]
            have hp := hval.v _ (List.getElem_mem (show s.1.toNat < g.L.length by omega))
            rw [hN] at hp
            obtain ⟨f, hf1, hf2⟩ := hsure _ hp.1 hp.2.1
            obtain ⟨u, hu1, hu2⟩ := hsure _ hp.2.2.1 hp.2.2.2
            rw [nIn_plain (by omega), nIn_plain (by omega), hf1, hu1, hf2, hu2]
            simp only [some_bind]
            unfold sure
            rfl
          · rw [decide_eq_false h1]; rfl
        · by_cases h1 : s.1 < (g.L.length : Int)
          · have hn : ∀ {α : Type} (d : List α), idxM d s.1 = none := fun d => by unfold idxM; rw [if_neg h0]
            rw [decide_eq_true h1, cond_true, cond_true, hn, hn]; rfl
          · rw [decide_eq_false h1]; rfl
      unfold ref23_Certain_m
      rw [← hrv, some_bind, hv0, cond_false, oddsG b2 b3, some_bind, ho, Bool.not_true, cond_false, l1, hq, some_bind, l2, hL, some_bind, ← hr']
end

theorem Pairs_same {l : List Pr} (hl : l.length ≤ 100000) : net_Pairs_m l l = some true := by
  unfold net_Pairs_m
  rw [show ((l.length : Int) != (l.length : Int)) = false by simp, cond_false]
  have : loopC (net_Pairs_l1 l l) 0 = some (.inr ()) := by
    refine T.eq (T.loopK l.length (fun i s => s = (i : Int) ∧ i ≤ l.length) ⟨rfl, by omega⟩ ?_)
    rintro i _ ⟨rfl, hi⟩
    dsimp only [net_Pairs_l1]
    refine T.cond (fun g1 => ?_) fun g1 => .ret rfl
    simp at g1
    rw [idxM_nat g1, some_bind, some_bind, iadd1 (by omega)]
    exact T.cond (fun g2 => by simp at g2) fun _ => .ret ⟨g1, rfl, by omega⟩
  rw [this]; rfl
theorem Same_same {g : T_api_Graph} (hl : g.L.length ≤ 100000) : net_Same_m g g = some true := by
  unfold net_Same_m
  rw [show (g.N == g.N) = true by simp, cond_true, Pairs_same hl, some_bind]
theorem Ints_same {l : List Int} (hl : l.length ≤ 100000) : keep_Ints_m l l = some true := by
  unfold keep_Ints_m
  rw [show ((l.length : Int) != (l.length : Int)) = false by simp, cond_false]
  have : loopC (keep_Ints_l1 l l) 0 = some (.inr ()) := by
    refine T.eq (T.loopK l.length (fun i s => s = (i : Int) ∧ i ≤ l.length) ⟨rfl, by omega⟩ ?_)
    rintro i _ ⟨rfl, hi⟩
    dsimp only [keep_Ints_l1]
    refine T.cond (fun g1 => ?_) fun g1 => .ret rfl
    simp at g1
    rw [idxM_nat g1, some_bind, some_bind, iadd1 (by omega)]
    exact T.cond (fun g2 => by simp at g2) fun _ => .ret ⟨g1, rfl, by omega⟩
  rw [this]; rfl

def TupOk (t : T_anon55) : Prop := t.g.L.length ≤ 5000 ∧ t.o.Nodes.length ≤ 5000 ∧ t.o.Attacks.length ≤ 5000 ∧ t.a'.length ≤ 5000 ∧ t.b.length ≤ 5000

theorem law23_ChanceAnswers_plain (raw : T_api_Graph) (given : T_api_Odds) (l set : List Int) (question : Int) {p0 p1 p2 p3 p4 : Prop} (_ : p0) (_ : p1) (_ : p2) (_ : p3) (_ : p4) : law23_ChanceAnswers_m raw given l set question = some true := by
  refine T.eq ?_
  unfold law23_ChanceAnswers_m
  refine T.joinP (fun _ : Unit => raw.L.length ≤ 300 ∧ given.Nodes.length ≤ 60 ∧ given.Attacks.length ≤ 310 ∧ set.length ≤ 40) ?_ ?_
  · rintro _ ⟨c1, c2, c3, c4⟩
    refine T.bind New_plain fun s1 hs1 => ?_
    refine T.bind (Graph_plain hs1 (by omega) (by omega)) ?_
    rintro ⟨g, s2⟩ ⟨hg, hn1, hn5, hgl, hs2⟩
    simp only at *
    obtain ⟨N, hN⟩ : ∃ N : Nat, g.N = (N : Int) := ⟨g.N.toNat, by omega⟩
    refine T.bind (Odds_plain (m := 6) hs2 hg hN (by omega) (by omega) (by omega)) ?_
    rintro ⟨o, s3⟩ ⟨h, hs3, hD⟩
    simp only at *
    rw [hN]
    refine T.bind (Some_plain hs3 (by omega)) ?_
    rintro ⟨a, s4⟩ ⟨ha, hs4⟩
    refine T.bind (Some_plain hs4 (by omega)) ?_
    rintro ⟨b, s5⟩ ⟨hb, hs5⟩
    refine T.bind (Range_plain hs5 (by omega) (by omega) (by omega)) ?_
    rintro ⟨q, s6⟩ ⟨hs6, q1, q4⟩
    simp only at *
    have hla := ha.len; have hlb := hb.len; have hln := h.ln; have hlA := h.la
    have hloop : loopC (law23_ChanceAnswers_l1 raw given set question (g, s2) (o, s3) (a, s4) (b, s5) (q, s6)) 0 = some (.inr ()) := by
      refine T.eq (T.loopK 5 (fun k s => s = (k : Int) ∧ k ≤ 5) ⟨rfl, by omega⟩ ?_)
      rintro k _ ⟨rfl, hk⟩
      dsimp only [law23_ChanceAnswers_l1] at *
      refine T.cond (fun g1 => ?_) fun g1 => .ret rfl
      have hk5 : k < 5 := by have := of_decide_eq_true g1; simp at this; omega
      have key : ∀ t ∈ ([(T_anon55.mk g o a b q), (T_anon55.mk g o set b q), (T_anon55.mk g o a set question), (T_anon55.mk g given a b q), (T_anon55.mk raw given set b question)] : List T_anon55), TupOk t := by
        intro t ht
        simp only [List.mem_cons, List.not_mem_nil, or_false] at ht
        rcases ht with rfl | rfl | rfl | rfl | rfl <;> (unfold TupOk; simp only; omega)
      have hk' : k < ([(T_anon55.mk g o a b q), (T_anon55.mk g o set b q), (T_anon55.mk g o a set question), (T_anon55.mk g given a b q), (T_anon55.mk raw given set b question)] : List T_anon55).length := hk5
      obtain ⟨t1, t2, t3, t4, t5⟩ := key _ (List.getElem_mem hk')
      rw [idxM_nat hk', some_bind]
      generalize ([(T_anon55.mk g o a b q), (T_anon55.mk g o set b q), (T_anon55.mk g o a set question), (T_anon55.mk g given a b q), (T_anon55.mk raw given set b question)] : List T_anon55)[k] = t at *
      obtain ⟨r1, e1, e2⟩ := Joint_both t1 t2 t3 t4 (q := t.q)
      obtain ⟨r2, e3, e4⟩ := Given_both t1 t2 t3 t4 t5 (q := t.q)
      obtain ⟨r3, e5, e6⟩ := Ext_both t1 t2 t3 t4
      obtain ⟨r4, e7, e8, e9, e10⟩ := Cert_both t1 t2 t3
      rw [e1, some_bind, e2, some_bind, e3, some_bind, e4, some_bind, e5, some_bind, e6, some_bind, e7, some_bind, e8, some_bind, Same_same (by omega), some_bind, Ints_same (by omega), some_bind, iadd1 (by omega)]
      simp only [bne_self_eq_false, cond_false, decide_true, Bool.not_true]
      exact .ret ⟨hk5, rfl, by omega⟩
    rw [hloop, some_bind, sumK_inr, awake_plain, some_bind]
    exact .ret rfl
  · intro k12 hk12
    have aw : T (Option.bind law23_awake_m fun t => some t) fun x => x = true := by rw [awake_plain, some_bind]; exact .ret rfl
    have hlight : net_Light_m raw = some (decide ((raw.L.length : Int) ≤ 300)) := rfl
    rw [hlight, some_bind]
    refine T.cond (fun _ => aw) fun g1 => T.cond (fun _ => aw) fun g2 => T.cond (fun _ => aw) fun g3 => T.cond (fun _ => aw) fun g4 => ?_
    have go : T (k12 ()) fun x => x = true := by
      simp at g1
      have g2' := of_decide_eq_false g2; have g3' := of_decide_eq_false g3; have g4' := of_decide_eq_false g4
      exact hk12 () ⟨by omega, by omega, by omega, by omega⟩
    exact T.cond (fun _ => T.cond (fun _ => aw) fun _ => go) fun _ => go
end Go.Dc
