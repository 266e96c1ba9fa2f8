/- Part P06.LawT of a proof: lemmas. -/
import Derived.Test.YtejhbimlekcllaaDoorP06Trs
set_option linter.unusedVariables false
set_option linter.unusedSimpArgs false
set_option linter.unusedSectionVars false
set_option maxHeartbeats 1000000
/-! Transpose is stable. -/
namespace Go.Dc
/-- the transposes of a rule are there -/
def Done (r : T_api_Rule) (R : List T_api_Rule) : Prop := r.Strict = true → ∀ t ∈ trs r, likeB R t = true
def AllDone (R : List T_api_Rule) : Prop := ∀ r ∈ R, Done r R
theorem Done.app {r : T_api_Rule} {R L : List T_api_Rule} (h : Done r R) : Done r (R ++ L) := fun hs t ht => likeB_app (h hs t ht)
theorem Vb.add {P : List T_api_Premise} {R : List T_api_Rule} {M : List T_api_Promotion} (h : Vb ⟨P, R, M⟩) (hl : R.length ≠ 24) {q : T_api_Rule} (hq : ROk q) (hn : ∀ r ∈ R, r.Name ≠ q.Name) : Vb ⟨P, R ++ [q], M⟩ := by
  have h2 := h.rules
  dsimp only at h2
  refine ⟨h.prem, by simp; omega, h.prom, h.pok, h.pnd, fun r hr => ?_, ?_, fun p hp => ?_⟩
  · rcases List.mem_append.1 hr with h1 | h1
    · exact h.rok r h1
    · rw [List.mem_singleton.1 h1]; exact hq
  · rw [List.map_append, List.nodup_append]
    refine ⟨h.rnd, by simp, fun u hu v hv e => ?_⟩
    simp only [List.map_cons, List.map_nil, List.mem_singleton] at hv
    obtain ⟨r, hr, rfl⟩ := List.mem_map.1 hu
    exact hn r hr (e.trans hv)
  · have := h.mok p hp
    obtain ⟨r, hr, h3⟩ := this.rule
    exact ⟨this.rank, this.lit, r, List.mem_append_left _ hr, h3⟩
theorem vn_cmpl {x : Li} (h : VN x.Name) : VN (cmpl x).Name := h
theorem TrS.rok {r t : T_api_Rule} (hr : ROk r) (h : TrS r t) {k : Nat} (hk : k < 40) : ROk (T_api_Rule.mk (tn k) t.Strict t.Rank t.Body t.Head) := by
  obtain ⟨x, hx, e⟩ := h.head
  have hl := hr.len
  have hl2 := h.len
  refine ⟨vn_of (tn_vn k hk), ?_, ?_, fun _ => h.rank, by dsimp only; omega, fun z hz => ?_, h.asc⟩
  · show VN t.Head.Name
    rw [e]; exact vn_cmpl (hr.body x hx)
  · show 0 ≤ t.Rank ∧ t.Rank ≤ 9
    rw [h.rank]; omega
  · rcases h.mem z hz with e2 | h2
    · rw [e2]; exact vn_cmpl hr.head
    · exact hr.body z h2

theorem T_l2 {b : T_api_Base} {R : List T_api_Rule} (hv : Vb ⟨b.Premises, R, b.Promotions⟩) {r : T_api_Rule} (hr : ROk r) :
    T (loopC (strict_Transpose_l2 b (trs r)) (0, R)) fun o => match o with
      | .inl a => a.2 = 2 ∧ ¬ ∀ t ∈ trs r, likeB R t = true
      | .inr R' => Vb ⟨b.Premises, R', b.Promotions⟩ ∧ (∃ L, R' = R ++ L) ∧ (∀ t ∈ trs r, likeB R' t = true) ∧ ((∀ t ∈ trs r, likeB R t = true) → R' = R) := by
  have hl := hr.len
  obtain ⟨_, t1, t2⟩ := trs_plain (r := r) (by omega)
  refine T.loopK (trs r).length (fun k s => s.1 = (k : Int) ∧ k ≤ (trs r).length ∧ Vb ⟨b.Premises, s.2, b.Promotions⟩ ∧ (∃ L, s.2 = R ++ L) ∧ (∀ j (hj : j < (trs r).length), j < k → likeB s.2 (trs r)[j] = true) ∧ ((∀ t ∈ trs r, likeB R t = true) → s.2 = R)) ⟨rfl, by omega, hv, ⟨[], by simp⟩, fun _ _ h => absurd h (by omega), fun _ => rfl⟩ ?_
  rintro k ⟨_, R'⟩ ⟨rfl, hk, hv', ⟨L, hL⟩, hd, hs⟩
  dsimp only at hv' hL hd hs
  have h24 := hv'.rules
  dsimp only at h24
  unfold strict_Transpose_l2
  dsimp only
  refine T.cond (fun g => ?_) fun g => ?_
  · have hk2 : k < (trs r).length := by have := of_decide_eq_true g; omega
    have ht := t2 _ (List.getElem_mem hk2)
    rw [idxM_nat hk2, some_bind, show strict_alike_m (trs r)[k] = some (trs r)[k] from rfl, some_bind, like1_eq (by omega) (fun q hq => by have := (hv'.rok q hq).len; omega), some_bind, iadd1 (by omega)]
    refine T.cond (fun ha => ?_) fun ha => ?_
    · refine .ret ⟨hk2, rfl, hk2, hv', ⟨L, hL⟩, fun j hj hjk => ?_, hs⟩
      rcases Nat.lt_or_ge j k with h | h
      · exact hd j hj h
      · have : j = k := by omega
        subst this; exact ha
    · have hno : ¬ ∀ t ∈ trs r, likeB R t = true := fun h => by
        have := h _ (List.getElem_mem hk2)
        rw [hs h, this] at ha; cases ha
      refine T.cond (fun _ => .ret ⟨rfl, hno⟩) fun hne => ?_
      have hl24 : R'.length ≠ 24 := fun e => by simp [e] at hne
      refine T.bind (fresh_plain (by dsimp only; omega)) ?_
      rintro _ ⟨m, hm, rfl, hfr⟩
      dsimp only at hfr
      rw [appM_eq (by simp; omega), some_bind]
      refine .ret ⟨hk2, rfl, hk2, hv'.add hl24 (ht.rok hr hm) hfr, ⟨L ++ [T_api_Rule.mk (tn m) (trs r)[k].Strict (trs r)[k].Rank (trs r)[k].Body (trs r)[k].Head], by dsimp only; rw [hL, List.append_assoc]⟩, fun j hj hjk => ?_, fun h => absurd h hno⟩
      rcases Nat.lt_or_ge j k with h | h
      · exact likeB_app (hd j hj h)
      · have : j = k := by omega
        subst this
        exact likeB_iff.2 ⟨_, List.mem_append_right _ (List.mem_singleton.2 rfl), ht.strict, rfl, rfl⟩
  · have hk2 : k = (trs r).length := by have := of_decide_eq_false g; omega
    refine .ret ⟨hv', ⟨L, hL⟩, fun t ht => ?_, hs⟩
    obtain ⟨j, hj, rfl⟩ := List.getElem_of_mem ht
    exact hd j hj (by omega)

theorem Transpose_plain {b : T_api_Base} (hv : Vb b) : T (strict_Transpose_m b) fun q => (q.2 = 2 ∧ ¬ AllDone b.Rules) ∨ (q.2 = 0 ∧ ∃ L, q.1 = ⟨b.Premises, b.Rules ++ L, b.Promotions⟩ ∧ Vb q.1 ∧ AllDone q.1.Rules ∧ (AllDone b.Rules → L = [])) := by
  unfold strict_Transpose_m
  rw [Validate_eq hv, some_bind]
  simp only [show ((0 : Int) != 0) = false from rfl, cond_false]
  rw [Promote_eq hv, some_bind]
  refine T.bind (P := fun o => match o with | .inl a => a.2 = 2 ∧ ¬ AllDone b.Rules | .inr R => Vb ⟨b.Premises, R, b.Promotions⟩ ∧ (∃ L, R = b.Rules ++ L) ∧ AllDone R ∧ (AllDone b.Rules → R = b.Rules)) ?_ fun o ho => ?_
  · refine T.loopK 24 (fun i s => s.1 = (i : Int) ∧ i ≤ s.2.length ∧ Vb ⟨b.Premises, s.2, b.Promotions⟩ ∧ (∃ L, s.2 = b.Rules ++ L) ∧ (∀ j (hj : j < s.2.length), j < i → Done s.2[j] s.2) ∧ (AllDone b.Rules → s.2 = b.Rules)) ⟨rfl, by omega, hv, ⟨[], by simp⟩, fun _ _ h => absurd h (by omega), fun _ => rfl⟩ ?_
    rintro i ⟨_, R⟩ ⟨rfl, hi, hR, ⟨L, hL⟩, hd, hs⟩
    dsimp only at hi hR hL hd hs
    have h24 := hR.rules
    dsimp only at h24
    unfold strict_Transpose_l1
    dsimp only
    refine T.cond (fun g => ?_) fun g => ?_
    · have hi2 : i < R.length := by have := of_decide_eq_true g; omega
      have hrok := hR.rok _ (List.getElem_mem hi2)
      have hbl := hrok.len
      rw [idxM_nat hi2, some_bind]
      refine T.cond (fun c => ?_) fun c => ?_
      · rw [iadd1 (by omega), letM_eq]
        refine .ret ⟨by omega, rfl, by dsimp only; omega, hR, ⟨L, hL⟩, fun j hj hji => ?_, hs⟩
        rcases Nat.lt_or_ge j i with h | h
        · exact hd j hj h
        · have : j = i := by omega
          subst this
          intro e
          dsimp only at e
          rw [e] at c; cases c
      · obtain ⟨t0, _, _⟩ := trs_plain (r := R[i]) (by omega)
        rw [some_bind, t0, some_bind]
        refine T.bind (T_l2 hR hrok) fun o ho => ?_
        have hstr : R[i].Strict = true := by simpa using c
        match o, ho with
        | .inl a, ⟨h1, h2⟩ => exact .ret ⟨h1, fun hall => h2 ((show AllDone R by rw [hs hall]; exact hall) _ (List.getElem_mem hi2) hstr)⟩
        | .inr R', ⟨h1, ⟨L', h2⟩, h3, h4⟩ =>
          rw [sumK_inr, iadd1 (by omega), letM_eq]
          have hlen' : R.length ≤ R'.length := by rw [h2]; simp
          refine .ret ⟨by omega, rfl, by dsimp only; omega, h1, ⟨L ++ L', by dsimp only; rw [h2, hL, List.append_assoc]⟩, fun j hj hji => ?_, fun hall => ?_⟩
          · dsimp only at hj ⊢
            have hj2 : j < R.length := by omega
            have e : R'[j] = R[j] := by subst h2; rw [List.getElem_append_left hj2]
            rw [e]
            rcases Nat.lt_or_ge j i with h | h
            · rw [h2]; exact (hd j hj2 h).app
            · have : j = i := by omega
              subst this; exact fun _ => h3
          · show R' = b.Rules
            rw [h4 ((show AllDone R by rw [hs hall]; exact hall) _ (List.getElem_mem hi2) hstr), hs hall]
    · have hi2 : i = R.length := by have := of_decide_eq_false g; omega
      refine .ret ⟨hR, ⟨L, hL⟩, fun r hr => ?_, hs⟩
      obtain ⟨j, hj, rfl⟩ := List.getElem_of_mem hr
      exact hd j hj (by omega)
  · match o, ho with
    | .inl a, ho => exact .ret (.inl ho)
    | .inr R, ⟨h1, ⟨L, h2⟩, h3, h4⟩ =>
      rw [sumK_inr]
      refine .ret (.inr ⟨rfl, L, by rw [h2], h1, h3, fun hall => ?_⟩)
      have := h4 hall
      rw [h2] at this
      simpa using this
theorem Closed_plain {b : T_api_Base} (hv : Vb b) : T (strict_Closed_m b) fun r => r = true ↔ AllDone b.Rules := by
  have h24 := hv.rules
  unfold strict_Closed_m
  refine T.bind (P := fun o => match o with | .inl r => r = false ∧ ¬ AllDone b.Rules | .inr _ => AllDone b.Rules) ?_ fun o ho => ?_
  · refine T.loopK b.Rules.length (fun k s => s = (k : Int) ∧ k ≤ b.Rules.length ∧ ∀ j (hj : j < b.Rules.length), j < k → Done b.Rules[j] b.Rules) ⟨rfl, by omega, fun _ _ h => absurd h (by omega)⟩ ?_
    rintro k _ ⟨rfl, hk, hd⟩
    unfold strict_Closed_l1
    refine T.cond (fun g => ?_) fun g => ?_
    · have hk2 : k < b.Rules.length := by have := of_decide_eq_true g; omega
      have hrok := hv.rok _ (List.getElem_mem hk2)
      have hbl := hrok.len
      have ext : Done b.Rules[k] b.Rules → ∀ j (hj : j < b.Rules.length), j < k + 1 → Done b.Rules[j] b.Rules := fun h j hj hjk => by
        rcases Nat.lt_or_ge j k with h2 | h2
        · exact hd j hj h2
        · have : j = k := by omega
          subst this; exact h
      rw [idxM_nat hk2, some_bind, iadd1 (by omega)]
      refine T.cond (fun c => .ret ⟨hk2, rfl, hk2, ext fun e => by rw [e] at c; cases c⟩) fun c => ?_
      have hstr : b.Rules[k].Strict = true := by simpa using c
      obtain ⟨t0, t1, _⟩ := trs_plain (r := b.Rules[k]) (by omega)
      rw [t0, some_bind]
      refine T.bind (P := fun o => match o with | .inl r => r = false ∧ ¬ AllDone b.Rules | .inr _ => ∀ t ∈ trs b.Rules[k], likeB b.Rules t = true) ?_ fun o ho => ?_
      · refine T.loopK (trs b.Rules[k]).length (fun i s => s = (i : Int) ∧ i ≤ (trs b.Rules[k]).length ∧ ∀ j (hj : j < (trs b.Rules[k]).length), j < i → likeB b.Rules (trs b.Rules[k])[j] = true) ⟨rfl, by omega, fun _ _ h => absurd h (by omega)⟩ ?_
        rintro i _ ⟨rfl, hi, hp⟩
        unfold strict_Closed_l2
        refine T.cond (fun g => ?_) fun g => ?_
        · have hi2 : i < (trs b.Rules[k]).length := by have := of_decide_eq_true g; omega
          rw [idxM_nat hi2, some_bind, show strict_alike_m (trs b.Rules[k])[i] = some (trs b.Rules[k])[i] from rfl, some_bind, like2_eq (by omega) (fun q hq => by have := (hv.rok q hq).len; omega), some_bind, iadd1 (by omega)]
          refine T.cond (fun c2 => .ret ⟨rfl, fun hall => ?_⟩) fun c2 => .ret ⟨hi2, rfl, hi2, fun j hj hji => ?_⟩
          · rw [hall _ (List.getElem_mem hk2) hstr _ (List.getElem_mem hi2)] at c2; cases c2
          · rcases Nat.lt_or_ge j i with h2 | h2
            · exact hp j hj h2
            · have : j = i := by omega
              subst this; simpa using c2
        · have hi2 : i = (trs b.Rules[k]).length := by have := of_decide_eq_false g; omega
          refine .ret fun t ht => ?_
          obtain ⟨j, hj, rfl⟩ := List.getElem_of_mem ht
          exact hp j hj (by omega)
      match o, ho with
      | .inl r, ⟨h1, h2⟩ => exact .ret ⟨h1, h2⟩
      | .inr _, ho => exact .ret ⟨hk2, rfl, hk2, ext fun _ => ho⟩
    · have hk2 : k = b.Rules.length := by have := of_decide_eq_false g; omega
      refine .ret fun r hr => ?_
      obtain ⟨j, hj, rfl⟩ := List.getElem_of_mem hr
      exact hd j hj (by omega)
  · match o, ho with
    | .inl r, ⟨h1, h2⟩ => exact .ret ⟨(fun e => by rw [h1] at e; cases e), fun h => absurd h h2⟩
    | .inr _, ho => exact .ret ⟨fun _ => ho, fun _ => rfl⟩
theorem Same_refl {b : T_api_Base} (hv : Vb b) : ref05_Same_m b b = some true := by
  have h1 := hv.prem; have h2 := hv.rules; have h3 := hv.prom
  unfold ref05_Same_m
  have e1 : loopC (ref05_Same_l1 b b) 0 = some (.inr ()) := pass (n := b.Premises.length) (fun i hi => by
    unfold ref05_Same_l1
    rw [decide_eq_true (by omega), cond_true, idxM_nat hi, some_bind, some_bind, decide_eq_true rfl, letM_eq, iadd1 (by omega)]; rfl) (by
    unfold ref05_Same_l1
    rw [decide_eq_false (by omega), cond_false])
  have e2 : loopC (ref05_Same_l2 b b) 0 = some (.inr ()) := pass (n := b.Rules.length) (fun i hi => by
    have := (hv.rok _ (List.getElem_mem hi)).len
    unfold ref05_Same_l2
    rw [decide_eq_true (by omega), cond_true, idxM_nat hi, some_bind, some_bind, beq_self_eq_true, beq_self_eq_true, decide_eq_true rfl, rSame_eq (by omega), some_bind, letM_eq, iadd1 (by omega)]
    simp) (by
    unfold ref05_Same_l2
    rw [decide_eq_false (by omega), cond_false])
  have e3 : loopC (ref05_Same_l3 b b) 0 = some (.inr ()) := pass (n := b.Promotions.length) (fun i hi => by
    unfold ref05_Same_l3
    rw [decide_eq_true (by omega), cond_true, idxM_nat hi, some_bind, some_bind, decide_eq_true rfl, letM_eq, iadd1 (by omega)]; rfl) (by
    unfold ref05_Same_l3
    rw [decide_eq_false (by omega), cond_false])
  rw [e1, some_bind, sumK_inr, e2, some_bind, sumK_inr, e3, some_bind, sumK_inr]
  simp
theorem StrictStable_T (l : List Int) : T (law06_StrictStable_m l) (· = true) := by
  unfold law06_StrictStable_m
  refine T.bind New_plain fun s hs => ?_
  refine T.bind (BaseV hs (by omega) (by omega) (by omega) (by omega) (by omega) (by omega)) ?_
  rintro ⟨b, s1⟩ ⟨hb, hs1⟩
  dsimp only at hb ⊢
  refine T.bind (Transpose_plain hb) ?_
  rintro ⟨t, e⟩ ht
  dsimp only at ht ⊢
  rw [awake_plain]
  rcases ht with ⟨rfl, _⟩ | ⟨rfl, L, rfl, hv, hall, hL⟩
  · exact .ret rfl
  simp only [show ((0 : Int) != 0) = false from rfl, cond_false]
  refine T.bind (Transpose_plain hv) ?_
  rintro ⟨u, e⟩ hu
  dsimp only at hu ⊢
  rcases hu with ⟨_, h⟩ | ⟨rfl, L2, rfl, _, _, hL2⟩
  · exact absurd hall h
  simp only [show ((0 : Int) != 0) = false from rfl, cond_false]
  rw [hL2 hall, List.append_nil]
  dsimp only at hv hall ⊢
  rw [Same_refl hv, some_bind]
  simp only [Bool.not_true, cond_false]
  refine T.bind (Closed_plain hv) fun c hc => ?_
  obtain rfl := hc.2 hall
  simp only [Bool.not_true, cond_false]
  rw [decide_eq_false (by rw [List.length_append]; omega), cond_false]
  refine T.bind (Closed_plain hb) fun c2 hc2 => ?_
  have hlen : (((b.Rules ++ L).length : Int) == (b.Rules.length : Int)) = c2 := by
    rw [Bool.eq_iff_iff, hc2]
    constructor
    · intro h
      have hL0 : L = [] := by
        have h3 : ((b.Rules ++ L).length : Int) = b.Rules.length := by simpa using h
        rw [List.length_append] at h3
        exact List.length_eq_zero_iff.1 (by omega)
      rw [hL0, List.append_nil] at hall
      exact hall
    · intro h
      rw [hL h, List.append_nil]; simp
  rw [hlen, beq_self_eq_true]
  simp only [Bool.not_true, cond_false]
  rw [slM_eq (by omega) (by omega) (by rw [List.length_append]; omega), some_bind]
  have e : ((b.Rules ++ L).take (Int.toNat (b.Rules.length : Int))).drop (Int.toNat 0) = b.Rules := by simp
  rw [e, Same_refl hb, some_bind, cond_true]
  exact .ret rfl
theorem law06_StrictStable_plain (l : List Int) {p0 : Prop} (_ : p0) : law06_StrictStable_m l = some true := (StrictStable_T l).eq
end Go.Dc
