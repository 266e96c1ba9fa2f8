/- Part P06.Val of a proof: lemmas. -/
import Derived.Test.YtejhbimlekcllaaDoorP06Srt
set_option linter.unusedVariables false
set_option linter.unusedSimpArgs false
set_option linter.unusedSectionVars false
set_option maxRecDepth 100000
/-! Bases that are valid. -/
namespace Go.Dc
/-- a loop that goes through -/
theorem pass {ρ : Type} {f : Int → Option (Sum ρ Int)} {n : Nat} {r : ρ} (h : ∀ i, i < n → f (i : Int) = some (.inr ((i + 1 : Nat) : Int))) (hend : f (n : Int) = some (.inl r)) : loopC f 0 = some r := by
  refine T.eq (T.loopK n (fun k s => k ≤ n ∧ s = (k : Int)) ⟨by omega, rfl⟩ ?_)
  rintro k _ ⟨hk, rfl⟩
  rcases Nat.lt_or_ge k n with h1 | h1
  · rw [h k h1]; exact .ret ⟨h1, h1, rfl⟩
  · have : k = n := by omega
    subst this
    rw [hend]; exact .ret rfl

structure POk (p : T_api_Premise) : Prop where
  lit : VN p.Literal.Name
  src : p.Source = ByteArray.mk #[] ∨ VN p.Source
  rank : (p.Kind = 2 ∧ 0 ≤ p.Rank ∧ p.Rank ≤ 9) ∨ ((p.Kind = 1 ∨ p.Kind = 3) ∧ p.Rank = 0)
structure ROk (r : T_api_Rule) : Prop where
  name : VN r.Name
  head : VN r.Head.Name
  rank : 0 ≤ r.Rank ∧ r.Rank ≤ 9
  zero : r.Strict = true → r.Rank = 0
  len : r.Body.length ≤ 2
  body : ∀ x ∈ r.Body, VN x.Name
  asc : AscL r.Body
structure MOk (R : List T_api_Rule) (p : T_api_Promotion) : Prop where
  rank : 0 ≤ p.Rank ∧ p.Rank ≤ 9
  lit : VN p.If.Name
  rule : ∃ r ∈ R, r.Name = p.Rule ∧ r.Strict = false
structure Vb (b : T_api_Base) : Prop where
  prem : b.Premises.length ≤ 16
  rules : b.Rules.length ≤ 24
  prom : b.Promotions.length ≤ 8
  pok : ∀ p ∈ b.Premises, POk p
  pnd : (b.Premises.map (·.Literal)).Nodup
  rok : ∀ r ∈ b.Rules, ROk r
  rnd : (b.Rules.map (·.Name)).Nodup
  mok : ∀ p ∈ b.Promotions, MOk b.Rules p

theorem nodup_find {α β : Type} [DecidableEq β] {l : List α} {f : α → β} (h : (l.map f).Nodup) {i : Nat} (hi : i < l.length) : l.findIdx? (fun r => decide (f r = f l[i])) = some i := by
  refine List.findIdx?_eq_some_iff_getElem.2 ⟨hi, by simp, fun j hj => ?_⟩
  have h1 : l.Pairwise fun a b => f a ≠ f b := List.pairwise_map.1 h
  have := List.pairwise_iff_getElem.1 h1 j i (by omega) hi hj
  simpa using this
theorem Find_eq {b : T_api_Base} {nm : ByteArray} (hl : b.Rules.length ≤ 1000000) : rulebase_Find_m b nm = some (match b.Rules.findIdx? (fun r => decide (r.Name = nm)) with | some k => (k : Int) | none => -1) := by
  unfold rulebase_Find_m slices_IndexFunc_api_Rule_api_Rule_m
  rw [ix_eq (s := b.Rules) (g := fun r => some (decide (r.Name = nm))) (p := fun r => decide (r.Name = nm)) hl (fun _ _ => rfl) (by
    funext k
    unfold slices_IndexFunc_api_Rule_api_Rule_l1
    simp only [rulebase_Find_1_m, ba_beq, letM_eq]), some_bind]
  rfl
theorem Premise_eq {b : T_api_Base} {x : Li} (hl : b.Premises.length ≤ 1000000) : rulebase_Premise_m b x = some (match b.Premises.findIdx? (fun r => decide (r.Literal = x)) with | some k => (k : Int) | none => -1) := by
  unfold rulebase_Premise_m slices_IndexFunc_api_Premise_api_Premise_m
  rw [ix_eq (s := b.Premises) (g := fun r => some (decide (r.Literal = x))) (p := fun r => decide (r.Literal = x)) hl (fun _ _ => rfl) (by
    funext k
    unfold slices_IndexFunc_api_Premise_api_Premise_l1
    simp only [rulebase_Premise_1_m, letM_eq]), some_bind]
  rfl
theorem ranked_eq {n : Int} (h0 : 0 ≤ n) (h1 : n ≤ 9) : rulebase_ranked_m n = some true := by
  unfold rulebase_ranked_m
  rw [decide_eq_true (show n ≥ 0 from h0), cond_true, letM_eq, decide_eq_true h1]
theorem Valid_eq {x : Li} (h : VN x.Name) : literal_Valid_m x = some true := by
  unfold literal_Valid_m
  rw [h, some_bind]
theorem sourced_eq {s : ByteArray} (h : s = ByteArray.mk #[] ∨ VN s) : rulebase_sourced_m s = some true := by
  unfold rulebase_sourced_m
  rw [ba_beq]
  by_cases e : s = ByteArray.mk #[]
  · rw [decide_eq_true e, cond_true]
  · rw [decide_eq_false e, cond_false, h.resolve_left e, some_bind]
theorem premise_eq {p : T_api_Premise} (h : POk p) : rulebase_premise_m p = some 0 := by
  have h1 := Valid_eq h.lit
  have h2 := sourced_eq h.src
  unfold rulebase_premise_m
  simp only [joinM_eq, h1, h2, some_bind, Bool.not_true, cond_false]
  rcases h.rank with ⟨k, r0, r9⟩ | ⟨k | k, r0⟩
  · simp [k, ranked_eq r0 r9]
  · simp [k, r0]
  · simp [k, r0]
theorem rule_eq {r : T_api_Rule} (h : ROk r) : rulebase_rule_m r = some 0 := by
  have hl := h.len
  unfold rulebase_rule_m
  have e1 : loopC (rulebase_rule_l1 r) 0 = some (.inr ()) := pass (n := r.Body.length) (fun i hi => by
    unfold rulebase_rule_l1
    rw [decide_eq_true (by omega), cond_true, idxM_nat hi, some_bind, Valid_eq (h.body _ (List.getElem_mem hi)), some_bind, iadd1 (by omega)]; rfl) (by
    unfold rulebase_rule_l1
    rw [decide_eq_false (by omega), cond_false])
  have e2 : loopC (rulebase_rule_l2 r) 1 = some (.inr ()) := by
    refine T.eq (T.loopK r.Body.length (fun k s => s = ((k + 1 : Nat) : Int)) rfl ?_)
    rintro k _ rfl
    unfold rulebase_rule_l2
    refine T.cond (fun g => ?_) fun g => .ret rfl
    have hk : k + 1 < r.Body.length := by have := of_decide_eq_true g; omega
    rw [isub64 (by omega) (by omega), show (((k + 1 : Nat) : Int) - 1) = (k : Int) by omega, idxM_nat (by omega), some_bind, idxM_nat hk, some_bind, cmp_eq, some_bind, iadd1 (by omega), letM_eq]
    have : cmpI r.Body[k] r.Body[k + 1] < 0 := cmp_lt.2 (List.pairwise_iff_getElem.1 h.asc k (k + 1) (by omega) hk (by omega))
    rw [decide_eq_false (by omega), cond_false]
    exact .ret ⟨by omega, rfl⟩
  rw [decide_eq_false (by omega), cond_false]
  simp only [joinM_eq, e1, e2, some_bind, sumK_inr, h.name, Valid_eq h.head, ranked_eq h.rank.1 h.rank.2, Bool.not_true, cond_false]
  cases hs : r.Strict with
  | false => rfl
  | true => simp [h.zero hs]
theorem promotion_eq {b : T_api_Base} (hb : Vb b) {p : T_api_Promotion} (h : MOk b.Rules p) : rulebase_promotion_m b p = some 0 := by
  have hl := hb.rules
  obtain ⟨r, hr, hn, hs⟩ := h.rule
  obtain ⟨i, hi, rfl⟩ := List.getElem_of_mem hr
  unfold rulebase_promotion_m
  rw [ranked_eq h.rank.1 h.rank.2, some_bind, Valid_eq h.lit, some_bind, Find_eq (by omega), ← hn, nodup_find hb.rnd hi]
  simp only [some_bind, Bool.not_true, cond_false, letM_eq]
  rw [decide_eq_false (by omega), cond_false, idxM_nat hi, some_bind, hs]; rfl
theorem Validate_eq {b : T_api_Base} (h : Vb b) : rulebase_Validate_m b = some 0 := by
  have h1 := h.prem; have h2 := h.rules; have h3 := h.prom
  have e1 : loopC (rulebase_Validate_l1 b) 0 = some (.inr ()) := pass (n := b.Premises.length) (fun i hi => by
    unfold rulebase_Validate_l1
    rw [decide_eq_true (by omega), cond_true, idxM_nat hi, some_bind, premise_eq (h.pok _ (List.getElem_mem hi)), some_bind, Premise_eq (by omega), nodup_find (f := fun p : T_api_Premise => p.Literal) h.pnd hi, some_bind, iadd1 (by omega)]
    simp) (by
    unfold rulebase_Validate_l1
    rw [decide_eq_false (by omega), cond_false])
  have e2 : loopC (rulebase_Validate_l2 b) 0 = some (.inr ()) := pass (n := b.Rules.length) (fun i hi => by
    unfold rulebase_Validate_l2
    rw [decide_eq_true (by omega), cond_true, idxM_nat hi, some_bind, rule_eq (h.rok _ (List.getElem_mem hi)), some_bind, Find_eq (by omega), nodup_find h.rnd hi, some_bind, iadd1 (by omega)]
    simp) (by
    unfold rulebase_Validate_l2
    rw [decide_eq_false (by omega), cond_false])
  have e3 : loopC (rulebase_Validate_l3 b) 0 = some (.inr ()) := pass (n := b.Promotions.length) (fun i hi => by
    unfold rulebase_Validate_l3
    rw [decide_eq_true (by omega), cond_true, idxM_nat hi, some_bind, promotion_eq h (h.mok _ (List.getElem_mem hi)), some_bind, iadd1 (by omega)]
    rfl) (by
    unfold rulebase_Validate_l3
    rw [decide_eq_false (by omega), cond_false])
  unfold rulebase_Validate_m
  rw [decide_eq_false (by omega), cond_false, decide_eq_false (by omega), cond_false, decide_eq_false (by omega), cond_false, e1, some_bind, sumK_inr, e2, some_bind, sumK_inr, e3, some_bind, sumK_inr]

/-- the bases that the source makes are valid -/
theorem BaseV {s : T_deliberationkeep_Src} (h : SrcOk s) {n p r : Int} (hn : 1 ≤ n) (hn2 : n ≤ 26) (hp : 0 ≤ p) (hp2 : p ≤ 16) (hr : 1 ≤ r) (hr2 : r ≤ 24) : T (keep_Src_Base_m s n p r) fun q => Vb q.1 ∧ SrcOk q.2 := by
  unfold keep_Src_Base_m
  rw [iadd64 (by omega) (by omega), iadd64 (by omega) (by omega)]
  refine T.bind (N_plain h (by omega)) ?_
  rintro k ⟨hk, hk2⟩
  obtain ⟨k0, k1⟩ := hk2 (by omega)
  refine T.bind (P := fun q : T_deliberationkeep_Src × List T_api_Premise => SrcOk q.1 ∧ q.2.length ≤ 16 ∧ (∀ p ∈ q.2, POk p) ∧ (q.2.map (·.Literal)).Nodup) ?_ ?_
  · refine T.loopK 16 (fun j s => s.1 = k.1 - j ∧ (j : Int) ≤ k.1 ∧ SrcOk s.2.1 ∧ s.2.2.length ≤ j ∧ (∀ p ∈ s.2.2, POk p) ∧ (s.2.2.map (·.Literal)).Nodup) ⟨by simp, by simpa using k0, hk, by simp, by simp, by simp⟩ ?_
    rintro j ⟨a, src, out⟩ ⟨e, hj, hs, hl, hpo, hnd⟩
    simp only at e hl hs hpo hnd
    dsimp only [keep_Src_Base_l1]
    refine T.cond (fun g => ?_) fun g => .ret ⟨hs, by simp only; omega, hpo, hnd⟩
    have := of_decide_eq_true g
    refine T.bind (LiteralV hs hn hn2) fun t ht => ?_
    refine T.bind (PickV ht.1 (by simp) (by simp)) fun t1 ht1 => ?_
    refine T.bind (TextV ht1.1 (by simp) (by simp)) fun t2 ht2 => ?_
    have hsrc : t2.1 = ByteArray.mk #[] ∨ VN t2.1 := by
      have := ht2.2
      simp only [List.mem_cons, List.not_mem_nil, or_false] at this
      rcases this with h | h | h | h
      · exact .inl h
      · exact .inl h
      · rw [h]; exact .inr (vn_of (by decide +kernel))
      · rw [h]; exact .inr (vn_of (by decide +kernel))
    have hkind : t1.1 = 1 ∨ t1.1 = 2 ∨ t1.1 = 3 := by
      have := ht1.2
      simp only [List.mem_cons, List.not_mem_nil, or_false] at this
      omega
    refine T.joinP (fun j => SrcOk j.1 ∧ ((t1.1 = 2 ∧ 0 ≤ j.2 ∧ j.2 ≤ 9) ∨ ((t1.1 = 1 ∨ t1.1 = 3) ∧ j.2 = 0))) (fun x hx => ?_) fun kk hkk => ?_
    · have L2 : T (loopC (keep_Src_Base_l2 (a, src, out) t) (false, 0)) fun r => r = false → ∀ p ∈ out, p.Literal ≠ t.1 := by
        refine T.loopK out.length (fun i s => s.2 = (i : Int) ∧ i ≤ out.length ∧ (s.1 = false → ∀ z (hz : z < out.length), z < i → out[z].Literal ≠ t.1)) ⟨rfl, by omega, fun _ _ _ h => absurd h (by omega)⟩ ?_
        rintro i ⟨b, c⟩ ⟨rfl, hi, hb⟩
        dsimp only at hb
        dsimp only [keep_Src_Base_l2]
        refine T.cond (fun g => ?_) fun g => ?_
        · have hi2 : i < out.length := by have := of_decide_eq_true g; omega
          rw [idxM_nat hi2, some_bind, iadd1 (by omega)]
          refine T.cond (fun _ => .ret ⟨hi2, rfl, hi2, fun e => by cases e⟩) fun e1 => .ret ⟨hi2, rfl, hi2, fun e2 z hz hzi => ?_⟩
          rcases Nat.lt_or_ge z i with h | h
          · exact hb e1 z hz h
          · have : z = i := by omega
            subst this; exact of_decide_eq_false e2
        · refine .ret fun e q hq => ?_
          have hi2 : i = out.length := by have := of_decide_eq_false g; omega
          obtain ⟨z, hz, rfl⟩ := List.getElem_of_mem hq
          exact hb e z hz (by omega)
      refine T.bind L2 fun q hq => ?_
      refine T.cond (fun c => ?_) fun _ => ?_
      · rw [appM_eq (by simp; omega), some_bind, letM_eq]
        refine .ret ⟨by omega, by simp only; rw [isub64 (by omega) (by omega)]; omega, by omega, hx.1, by simp; omega, fun p hp => ?_, ?_⟩
        · rcases List.mem_append.1 hp with h | h
          · exact hpo p h
          · rw [List.mem_singleton.1 h]
            exact ⟨ht.2, hsrc, hx.2⟩
        · dsimp only
          rw [List.map_append, List.nodup_append]
          refine ⟨hnd, by simp, fun u hu v hv e => ?_⟩
          simp only [List.map_cons, List.map_nil, List.mem_singleton] at hv
          obtain ⟨p, hp, rfl⟩ := List.mem_map.1 hu
          exact hq (by simpa using c) p hp (e.trans hv)
      · rw [letM_eq]
        exact .ret ⟨by omega, by simp only; rw [isub64 (by omega) (by omega)]; omega, by omega, hx.1, by simp only; omega, hpo, hnd⟩
    · refine T.cond (fun c => T.bind (N_plain ht2.1 (by omega)) fun t3 ht3 => hkk _ ⟨ht3.1, .inl ⟨by simpa using c, ?_⟩⟩) fun c => hkk _ ⟨ht2.1, .inr ⟨?_, rfl⟩⟩
      · have := ht3.2 (by omega)
        dsimp only; omega
      · have : t1.1 ≠ 2 := by simpa using c
        omega
  rintro ⟨q1, q2⟩ ⟨hq1, hq2, hqp, hqn⟩
  simp only at hq1 hq2 hqp hqn
  dsimp only
  refine T.bind (N_plain hq1 (by omega)) ?_
  rintro k' ⟨hk', hk2'⟩
  obtain ⟨k0', k1'⟩ := hk2' (by omega)
  refine T.bind (P := fun q : T_deliberationkeep_Src × List T_api_Rule => SrcOk q.1 ∧ q.2.length ≤ 24 ∧ (∀ r ∈ q.2, ROk r) ∧ ∀ i (hi : i < q.2.length), q.2[i].Name = rnm i) ?_ ?_
  · refine T.loopK 24 (fun j s => s.1 = k'.1 - j ∧ (j : Int) ≤ k'.1 ∧ SrcOk s.2.1 ∧ s.2.2.length = j ∧ (∀ r ∈ s.2.2, ROk r) ∧ ∀ i (hi : i < s.2.2.length), s.2.2[i].Name = rnm i) ⟨by simp, by simpa using k0', hk', by simp, by simp, fun i hi => by simp at hi⟩ ?_
    rintro j ⟨a, src, out⟩ ⟨e, hj, hs, hl, hb, hnm⟩
    simp only at e hl hs hb hnm
    dsimp only [keep_Src_Base_l3]
    refine T.cond (fun g => ?_) fun g => .ret ⟨hs, by simp only; omega, hb, hnm⟩
    have := of_decide_eq_true g
    rw [rn_eq out.length (by omega), some_bind]
    refine T.bind (N_plain hs (by omega)) fun t1 ht1 => ?_
    refine T.bind (LiteralsV ht1.1 2 (by omega) hn hn2) fun t2 ht2 => ?_
    refine T.bind (srtV (by have := ht2.2.1; omega)) fun t3 ht3 => ?_
    refine T.bind (LiteralV ht2.1 hn hn2) fun t4 ht4 => ?_
    refine T.joinP (fun j => SrcOk j.1 ∧ (0 ≤ j.2 ∧ j.2 ≤ 9) ∧ ((t1.1 == 0) = true → j.2 = 0)) (fun x hx => ?_) fun kk hkk => ?_
    · refine T.joinP (fun j => SrcOk j.1 ∧ VN j.2.2) (fun y hy => ?_) fun kk hkk => ?_
      · rw [appM_eq (by simp; omega), some_bind, letM_eq]
        refine .ret ⟨by omega, by simp only; rw [isub64 (by omega) (by omega)]; omega, by omega, hy.1, by simp [hl], ?_, ?_⟩
        · intro r hr
          rcases List.mem_append.1 hr with hr | hr
          · exact hb r hr
          · rw [List.mem_singleton.1 hr]
            exact ⟨vn_of (rnm_vn _ (by omega)), hy.2, hx.2.1, hx.2.2, by have := ht2.2.1; have := ht3.1; dsimp only; omega, fun x hx => ht2.2.2 x (ht3.2.2 x hx), ht3.2.1⟩
        · intro i hi
          dsimp only at hi ⊢
          rcases Nat.lt_or_ge i out.length with h | h
          · rw [List.getElem_append_left h]; exact hnm i h
          · have : i = out.length := by simp at hi; omega
            subst this
            rw [List.getElem_append_right (by omega)]; simp
      · refine T.bind (N_plain hx.1 (by omega)) fun t5 ht5 => ?_
        refine T.cond (fun _ => T.bind (N_plain ht5.1 (by omega)) fun t6 ht6 => T.bind (N_plain ht6.1 (by omega)) fun t7 ht7 => ?_) fun _ => hkk _ ⟨ht5.1, ht4.2⟩
        obtain ⟨h0, h1⟩ := ht7.2 (by omega)
        have e7 := rn_eq t7.1.toNat (by omega)
        rw [Int.toNat_of_nonneg h0] at e7
        rw [e7, some_bind]
        exact hkk _ ⟨ht7.1, vn_of (rnm_vn _ (by omega))⟩
    · refine T.cond (fun c => T.bind (N_plain ht4.1 (by omega)) fun t5 ht5 => hkk _ ⟨ht5.1, ?_, fun e => ?_⟩) fun c => hkk _ ⟨ht4.1, by simp, fun _ => rfl⟩
      · have := ht5.2 (by omega)
        dsimp only; omega
      · rw [e] at c; cases c
  rintro ⟨r1, r2⟩ ⟨hr1, hr2, hr3, hr4⟩
  simp only at hr1 hr2 hr3 hr4
  dsimp only
  refine T.bind (N_plain hr1 (by omega)) ?_
  rintro m ⟨hm, hm2⟩
  obtain ⟨m0, m1⟩ := hm2 (by omega)
  have hrnd : (r2.map (·.Name)).Nodup := by
    refine List.pairwise_map.2 (List.pairwise_iff_getElem.2 fun i j hi hj hij e => ?_)
    rw [hr4 i hi, hr4 j hj] at e
    have := rnm_inj i (by omega) j (by omega) e
    omega
  refine T.bind (P := fun q : T_deliberationkeep_Src × List T_api_Promotion => SrcOk q.1 ∧ q.2.length ≤ 8 ∧ ∀ p ∈ q.2, MOk r2 p) ?_ fun q hq => .ret ⟨⟨hq2, hr2, hq.2.1, hqp, hqn, hr3, hrnd, hq.2.2⟩, hq.1⟩
  refine T.loopK 3 (fun j s => s.1 = m.1 - j ∧ (j : Int) ≤ m.1 ∧ SrcOk s.2.1 ∧ s.2.2.length ≤ j ∧ ∀ p ∈ s.2.2, MOk r2 p) ⟨by simp, by simpa using m0, hm, by simp, by simp⟩ ?_
  rintro j ⟨a, src, out⟩ ⟨e, hj, hs, hl, hmo⟩
  simp only at e hl hs hmo
  dsimp only [keep_Src_Base_l4]
  refine T.cond (fun g => ?_) fun g => .ret ⟨hs, by simp only; omega, hmo⟩
  have := of_decide_eq_true g
  refine T.cond (fun g2 => ?_) fun g2 => .ret ⟨hs, by simp only; omega, hmo⟩
  have h5 := of_decide_eq_true g2
  refine T.bind (N_plain hs (by omega)) ?_
  rintro t ⟨ht, ht2⟩
  obtain ⟨t0, t1⟩ := ht2 (by omega)
  rw [idxM_eq t0 (by omega), some_bind]
  refine T.cond (fun c => ?_) fun _ => ?_
  · refine T.bind (N_plain ht (by omega)) fun t5 ht5 => ?_
    refine T.bind (LiteralV ht5.1 hn hn2) fun t6 ht6 => ?_
    rw [appM_eq (by simp; omega), some_bind, letM_eq]
    refine .ret ⟨by omega, by simp only; rw [isub64 (by omega) (by omega)]; omega, by omega, ht6.1, by simp; omega, fun p hp => ?_⟩
    rcases List.mem_append.1 hp with h | h
    · exact hmo p h
    · rw [List.mem_singleton.1 h]
      have := ht5.2 (by omega)
      exact ⟨by dsimp only; omega, ht6.2, _, List.getElem_mem _, rfl, by simpa using c⟩
  · rw [letM_eq]
    exact .ret ⟨by omega, by simp only; rw [isub64 (by omega) (by omega)]; omega, by omega, ht, by simp only; omega, hmo⟩
end Go.Dc
