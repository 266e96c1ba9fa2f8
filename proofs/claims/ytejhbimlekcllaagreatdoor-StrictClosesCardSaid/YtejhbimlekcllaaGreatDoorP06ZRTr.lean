/- Part P06Z.RTr of a proof: lemmas. -/
import Derived.Test.YtejhbimlekcllaaGreatDoorP06ZRVal
set_option linter.unusedVariables false
set_option linter.unusedSimpArgs false
set_option linter.unusedSectionVars false
/-! What the reference's Transpose makes is closed under transposition. -/
namespace Go.Dc
theorem likeB_app {R L : List T_api_Rule} {t : T_api_Rule} (h : likeB R t = true) : likeB (R ++ L) t = true := by
  obtain ⟨q, hq, h1⟩ := likeB_iff.1 h
  exact likeB_iff.2 ⟨q, List.mem_append_left _ hq, h1⟩
/-- the transposes of a rule are there -/
def Done (r : T_api_Rule) (R : List T_api_Rule) : Prop := r.Strict = true → ∀ j (hj : j < r.Body.length), ∃ t, Tr r r.Body[j] t ∧ likeB R t = true
theorem Done.app {r : T_api_Rule} {R L : List T_api_Rule} (h : Done r R) : Done r (R ++ L) := fun hs j hj => let ⟨t, h1, h2⟩ := h hs j hj; ⟨t, h1, likeB_app h2⟩
structure RsOk (R : List T_api_Rule) : Prop where
  len : R.length ≤ 24
  body : ∀ r ∈ R, r.Body.length ≤ 2
theorem closedT_of {b : T_api_Base} (h : ∀ r ∈ b.Rules, Done r b.Rules) : ClosedT b := by
  intro r hr hs y hy
  obtain ⟨j, hj, rfl⟩ := List.getElem_of_mem hy
  obtain ⟨t, ht, hl⟩ := h r hr hs j hj
  obtain ⟨q, hq, q1, q2, q3⟩ := likeB_iff.1 hl
  exact ⟨q, hq, q1, q2.trans ht.head, fun z hz => ht.mem.1 (q3 ▸ hz)⟩

theorem rT_l2 {b : T_api_Base} {R : List T_api_Rule} (hR : RsOk R) {r : T_api_Rule} (hr : r.Body.length ≤ 2) :
    T (loopC (ref06_Transpose_l2 b r) (0, R)) fun o => match o with
      | .inl a => a.2 = 2
      | .inr R' => RsOk R' ∧ (∃ L, R' = R ++ L) ∧ Done r R' := by
  refine T.loopK r.Body.length (fun k s => s.1 = (k : Int) ∧ k ≤ r.Body.length ∧ RsOk s.2 ∧ (∃ L, s.2 = R ++ L) ∧ ∀ j (hj : j < r.Body.length), j < k → ∃ t, Tr r r.Body[j] t ∧ likeB s.2 t = true) ⟨rfl, by omega, hR, ⟨[], by simp⟩, fun _ _ h => absurd h (by omega)⟩ ?_
  rintro k ⟨_, R'⟩ ⟨rfl, hk, hR', ⟨L, hL⟩, hd⟩
  dsimp only at hR' hL hd
  unfold ref06_Transpose_l2
  dsimp only
  refine T.cond (fun g => T.cond (fun hs => ?_) fun hs => ?_) fun g => ?_
  · have hk2 : k < r.Body.length := by have := of_decide_eq_true g; omega
    refine T.bind (rtrans_plain (by omega) hk2) fun t ht => ?_
    have hlen := hR'.len
    rw [ralike_eq (by dsimp only; omega) (fun q hq => by have := hR'.body q hq; omega), some_bind, iadd1 (by omega)]
    dsimp only
    refine T.cond (fun ha => ?_) fun ha => T.cond (fun _ => .ret rfl) fun h24 => ?_
    · rw [letM_eq]
      refine .ret ⟨hk2, rfl, hk2, hR', ⟨L, hL⟩, fun j hj hjk => ?_⟩
      rcases Nat.lt_or_ge j k with h | h
      · exact hd j hj h
      · have : j = k := by omega
        subst this; exact ⟨t, ht, ha⟩
    · refine T.bind (rname_plain (by dsimp only; omega)) fun nm _ => ?_
      have hl24 : R'.length ≠ 24 := fun e => by simp [e] at h24
      rw [appM_eq (by simp only [List.length_singleton]; omega), some_bind, letM_eq]
      have hnew : RsOk (R' ++ [T_api_Rule.mk nm t.Strict t.Rank t.Body t.Head]) := by
        refine ⟨by simp; omega, fun q hq => ?_⟩
        rcases List.mem_append.1 hq with h | h
        · exact hR'.body q h
        · rw [List.mem_singleton.1 h]; exact Nat.le_trans (ht.len (List.getElem_mem hk2)) hr
      refine .ret ⟨hk2, rfl, hk2, hnew, ⟨L ++ [T_api_Rule.mk nm t.Strict t.Rank t.Body t.Head], by dsimp only; rw [hL, List.append_assoc]⟩, fun j hj hjk => ?_⟩
      rcases Nat.lt_or_ge j k with h | h
      · obtain ⟨t', h1, h2⟩ := hd j hj h
        exact ⟨t', h1, likeB_app h2⟩
      · have : j = k := by omega
        subst this
        exact ⟨t, ht, likeB_iff.2 ⟨_, List.mem_append_right _ (List.mem_singleton.2 rfl), ht.strict, rfl, rfl⟩⟩
  · exact .ret ⟨hR', ⟨L, hL⟩, fun e => by rw [hs] at e; cases e⟩
  · have hk2 : k = r.Body.length := by have := of_decide_eq_false g; omega
    exact .ret ⟨hR', ⟨L, hL⟩, fun _ j hj => hd j hj (by omega)⟩

theorem rTranspose_plain {b : T_api_Base} (h : BaseOk b) : T (ref06_Transpose_m b) fun q => q.2 = 0 → BaseOk q.1 ∧ ClosedT q.1 := by
  unfold ref06_Transpose_m
  refine T.bind (rValidate_T b) fun e _ => T.cond (fun he => .ret fun h0 => ?_) fun _ => ?_
  · dsimp only at h0
    rw [h0] at he; cases he
  have hp := h.prem; have hr := h.rules; have hm := h.prom
  rw [rCopy_eq (by omega) (by omega) (by omega) fun r hr => by have := h.body r hr; omega, some_bind]
  refine T.bind (P := fun o => match o with | .inl a => a.2 = 2 | .inr R => RsOk R ∧ ∀ r ∈ R, Done r R) ?_ fun o ho => ?_
  · refine T.loopK 24 (fun i s => s.1 = (i : Int) ∧ i ≤ s.2.length ∧ RsOk s.2 ∧ ∀ j (hj : j < s.2.length), j < i → Done s.2[j] s.2) ⟨rfl, by omega, ⟨hr, h.body⟩, fun _ _ h => absurd h (by omega)⟩ ?_
    rintro i ⟨_, R⟩ ⟨rfl, hi, hR, hd⟩
    dsimp only at hi hR hd
    unfold ref06_Transpose_l1
    dsimp only
    refine T.cond (fun g => ?_) fun g => ?_
    · have hi2 : i < R.length := by have := of_decide_eq_true g; omega
      have hlen := hR.len
      rw [idxM_nat hi2, some_bind]
      refine T.bind (rT_l2 hR (hR.body _ (List.getElem_mem hi2))) fun o ho => ?_
      match o, ho with
      | .inl a, ho => exact .ret ho
      | .inr R', ⟨h1, ⟨L, h2⟩, h3⟩ =>
        rw [sumK_inr, iadd1 (by omega), letM_eq]
        have hlen' : R.length ≤ R'.length := by rw [h2]; simp
        refine .ret ⟨by omega, rfl, by dsimp only; omega, h1, fun j hj hji => ?_⟩
        dsimp only at hj ⊢
        have hj2 : j < R.length := by omega
        have e : R'[j] = R[j] := by subst h2; rw [List.getElem_append_left hj2]
        rw [e]
        rcases Nat.lt_or_ge j i with h | h
        · rw [h2]; exact (hd j hj2 h).app
        · have : j = i := by omega
          subst this; exact h3
    · have hi2 : i = R.length := by have := of_decide_eq_false g; omega
      refine .ret ⟨hR, fun r hr => ?_⟩
      obtain ⟨j, hj, rfl⟩ := List.getElem_of_mem hr
      exact hd j hj (by omega)
  · match o, ho with
    | .inl a, ho => exact .ret fun h0 => by rw [show a.2 = 2 from ho] at h0; cases h0
    | .inr R, ⟨h1, h2⟩ =>
      rw [sumK_inr]
      exact .ret fun _ => ⟨⟨hp, h1.len, hm, h1.body⟩, closedT_of h2⟩

/-- the bases of the laws: closed under transposition -/
theorem closed_plain {s : T_deliberationkeep_Src} (h : SrcOk s) {n r : Int} (hn : 1 ≤ n) (hn2 : n ≤ 26) (hr : 1 ≤ r) (hr2 : r ≤ 24) : T (law06_closed_m s n r) fun q => BaseOk q.1 ∧ ClosedT q.1 ∧ SrcOk q.2 := by
  obtain ⟨⟨b, s'⟩, hb, hb1, hs⟩ := Base_plain h hn hn2 (p := 4) (by omega) (by omega) hr hr2
  dsimp only at hb1 hs
  obtain ⟨⟨u, e⟩, hu, hu2⟩ := rTranspose_plain hb1
  dsimp only at hu2
  unfold law06_closed_m
  cases he : (e == 0) with
  | true =>
    have e0 : e = 0 := by simpa using he
    have : law06_closed_a_m s n r = some (u, s') := by
      unfold law06_closed_a_m
      rw [hb, some_bind]; dsimp only
      rw [hu, some_bind]; dsimp only
      rw [he]; rfl
    rw [this]
    exact ⟨_, rfl, (hu2 e0).1, (hu2 e0).2, hs⟩
  | false =>
    have hR := hb1.rules
    have hB : T (law06_closed_b_m s n r) fun q => BaseOk q.1 ∧ ClosedT q.1 ∧ SrcOk q.2 := by
      unfold law06_closed_b_m
      rw [hb, some_bind]; dsimp only
      rw [hu, some_bind]; dsimp only
      rw [he, cond_false]
      refine T.bind (P := fun R => R.length = b.Rules.length ∧ ∀ j (hj : j < R.length), R[j].Strict = false ∧ R[j].Body.length ≤ 2) ?_ fun R hR2 => ?_
      · refine T.loopK b.Rules.length (fun k s => s.1 = (k : Int) ∧ k ≤ b.Rules.length ∧ s.2.length = b.Rules.length ∧ ∀ j (hj : j < s.2.length), (j < k → s.2[j].Strict = false) ∧ s.2[j].Body.length ≤ 2) ⟨rfl, by omega, rfl, fun j hj => ⟨fun h => absurd h (by omega), hb1.body _ (List.getElem_mem hj)⟩⟩ ?_
        rintro k ⟨_, R⟩ ⟨rfl, hk, hlen, hd⟩
        dsimp only at hlen hd
        unfold law06_closed_b_l1
        dsimp only
        refine T.cond (fun g => ?_) fun g => ?_
        · have hk2 : k < b.Rules.length := by have := of_decide_eq_true g; omega
          rw [idxM_nat (by omega), some_bind, iadd1 (by omega), Int.toNat_natCast]
          refine .ret ⟨hk2, rfl, hk2, by simp [hlen], fun j hj => ?_⟩
          dsimp only at hj ⊢
          rw [List.length_set] at hj
          rw [List.getElem_set]
          by_cases e : k = j
          · subst e
            rw [if_pos rfl]
            exact ⟨fun _ => rfl, (hd k (by omega)).2⟩
          · rw [if_neg e]
            exact ⟨fun h => (hd j hj).1 (by omega), (hd j hj).2⟩
        · have hk2 : k = b.Rules.length := by have := of_decide_eq_false g; omega
          exact .ret ⟨hlen, fun j hj => ⟨(hd j hj).1 (by omega), (hd j hj).2⟩⟩
      · refine .ret ⟨⟨hb1.prem, by dsimp only; omega, hb1.prom, fun q hq => ?_⟩, fun q hq hs => ?_, hs⟩
        · obtain ⟨j, hj, rfl⟩ := List.getElem_of_mem hq
          exact (hR2.2 j hj).2
        · obtain ⟨j, hj, rfl⟩ := List.getElem_of_mem hq
          rw [(hR2.2 j hj).1] at hs; cases hs
    cases ha : law06_closed_a_m s n r with
    | none => exact hB
    | some q =>
      unfold law06_closed_a_m at ha
      rw [hb, some_bind] at ha; dsimp only at ha
      rw [hu, some_bind] at ha; dsimp only at ha
      rw [he, cond_false] at ha
      have hno : b.Rules = [] := by
        rcases Nat.eq_zero_or_pos b.Rules.length with h0 | h0
        · exact List.length_eq_zero_iff.1 h0
        · exfalso
          have : loopC (law06_closed_a_l1 (b, s')) () = none := by
            rw [loopC_eq]
            unfold law06_closed_a_l1
            rw [decide_eq_true (by dsimp only; omega)]; rfl
          rw [this] at ha; cases ha
      have hl : loopC (law06_closed_a_l1 (b, s')) () = some () := by
        rw [loopC_eq]
        unfold law06_closed_a_l1
        rw [hno]; rfl
      rw [hl, some_bind] at ha
      cases ha
      exact ⟨_, rfl, hb1, (fun q hq => by dsimp only at hq; rw [hno] at hq; cases hq), hs⟩
end Go.Dc
