/- Part P06.Base of a proof: lemmas. -/
import Derived.Test.YtejhbimlekcllaaDoorP06Keep
set_option linter.unusedVariables false
set_option linter.unusedSimpArgs false
set_option linter.unusedSectionVars false
/-! The rule bases that the source makes. -/
namespace Go.Dc

theorem Literal_plain {s : T_deliberationkeep_Src} (h : SrcOk s) {n : Int} (h1 : 1 ≤ n) (h2 : n ≤ 26) : T (keep_Src_Literal_m s n) fun r => SrcOk r.2 := by
  unfold keep_Src_Literal_m
  exact T.bind (N_plain h (by rw [imul64 (by omega) (by omega)]; omega)) fun k hk => .ret hk.1

theorem Pick_plain {s : T_deliberationkeep_Src} (h : SrcOk s) {l : List Int} (h1 : 1 ≤ l.length) (h2 : l.length ≤ 100) : T (keep_Src_Pick_m s l) fun r => SrcOk r.2 := by
  unfold keep_Src_Pick_m
  refine T.bind (N_plain h (by omega)) fun k hk => ?_
  obtain ⟨h3, h4⟩ := hk.2 (by omega)
  rw [idxM_eq h3 (by omega), some_bind]
  exact .ret hk.1

theorem Text_plain {s : T_deliberationkeep_Src} (h : SrcOk s) {l : List ByteArray} (h1 : 1 ≤ l.length) (h2 : l.length ≤ 100) : T (keep_Src_Text_m s l) fun r => SrcOk r.2 := by
  unfold keep_Src_Text_m
  refine T.bind (N_plain h (by omega)) fun k hk => ?_
  obtain ⟨h3, h4⟩ := hk.2 (by omega)
  rw [idxM_eq h3 (by omega), some_bind]
  exact .ret hk.1

theorem bstr1 {x : Int} : (bstr [x]).size = 1 := by simp [bstr]

theorem RuleName_plain {i : Int} : T (keep_RuleName_m i) fun _ => True := by
  unfold keep_RuleName_m
  refine T.bind (Mod_plain (by omega)) fun t _ => ?_
  have : sconM (ByteArray.mk #[114]) (bstr [IntKind.wrap .u8 (iadd .i64 97 t)]) = some (ByteArray.mk #[114] ++ bstr [IntKind.wrap .u8 (iadd .i64 97 t)]) := by
    unfold sconM
    rw [if_neg]
    rw [bstr1]; decide
  rw [this, some_bind]
  exact .ret trivial

theorem LiteralsG_plain {s : T_deliberationkeep_Src} (h : SrcOk s) {n : Int} (most : Nat) (hm : most ≤ 100) (h1 : 1 ≤ n) (h2 : n ≤ 26) : T (keep_Src_Literals_m s (most : Int) n) fun r => SrcOk r.2 ∧ r.1.length ≤ most := by
  unfold keep_Src_Literals_m
  rw [iadd64 (by omega) (by omega)]
  refine T.bind (N_plain h (by omega)) ?_
  rintro k ⟨hk, hk2⟩
  obtain ⟨k0, k1⟩ := hk2 (by omega)
  refine T.bind (P := fun q : T_deliberationkeep_Src × List T_api_Literal => SrcOk q.1 ∧ q.2.length ≤ most) ?_ fun q hq => .ret hq
  refine T.loopK (most + 1) (fun j s => s.1 = k.1 - j ∧ (j : Int) ≤ k.1 ∧ SrcOk s.2.1 ∧ s.2.2.length = j) ⟨by simp, by simpa using k0, hk, rfl⟩ ?_
  rintro j ⟨a, src, out⟩ ⟨e, hj, hs, hl⟩
  simp only at e hl hs
  dsimp only [keep_Src_Literals_l1]
  refine T.cond (fun g => ?_) fun g => .ret ⟨hs, by simp only; omega⟩
  have := of_decide_eq_true g
  refine T.bind (Literal_plain hs h1 h2) fun t ht => ?_
  rw [appM_eq (by simp; omega), some_bind, letM_eq]
  exact .ret ⟨by omega, by simp only; rw [isub64 (by omega) (by omega)]; omega, by omega, ht, by simp [hl]⟩
theorem Literals_plain {s : T_deliberationkeep_Src} (h : SrcOk s) {n : Int} (h1 : 1 ≤ n) (h2 : n ≤ 26) : T (keep_Src_Literals_m s 2 n) fun r => SrcOk r.2 ∧ r.1.length ≤ 2 := LiteralsG_plain h 2 (by omega) h1 h2

theorem cpO_len {α : Type} {d : List α} {a b : Int} (h0 : 0 ≤ a) (h1 : a ≤ d.length) (h2 : 0 ≤ b) (h3 : b ≤ d.length) : (cpO d a d.length b d.length).length = d.length := by
  unfold cpO
  simp only [List.length_append, List.length_take, List.length_drop]
  omega

theorem srt_plain {l : List T_api_Literal} (hl : l.length ≤ 1000) : T (keep_sorted_m l) fun r => r.length ≤ l.length := by
  unfold keep_sorted_m
  refine T.bind (P := fun q : List T_api_Literal => q.length ≤ l.length) ?_ fun q hq => .ret hq
  refine T.loopK l.length (fun j s => s.1 = (j : Int) ∧ j ≤ l.length ∧ s.2.length ≤ j) ⟨rfl, by omega, by simp⟩ ?_
  rintro j ⟨a, out⟩ ⟨e, hj, ho⟩
  simp only at e ho
  subst e
  dsimp only [keep_sorted_l1]
  refine T.cond (fun g => ?_) fun g => .ret (by omega)
  have hj2 : j < l.length := by have := of_decide_eq_true g; omega
  rw [idxM_nat hj2, some_bind]
  have L2 : T (loopC (keep_sorted_l2 ((j : Int), out) l[j]) 0) fun q => 0 ≤ q ∧ q ≤ out.length := by
    refine T.loopK out.length (fun i s => s = (i : Int) ∧ i ≤ out.length) ⟨rfl, by omega⟩ ?_
    rintro i _ ⟨rfl, hi⟩
    dsimp only [keep_sorted_l2]
    refine T.cond (fun g => ?_) fun g => .ret ⟨by omega, by omega⟩
    have hi2 : i < out.length := by have := of_decide_eq_true g; omega
    rw [idxM_nat hi2, some_bind, some_bind, some_bind, letM_eq, iadd1 (by omega)]
    have y : T (some (Sum.inr (((i + 1 : Nat) : Int))) : Option (Sum Int Int)) (onO (fun q => 0 ≤ q ∧ q ≤ out.length) fun s' => i < out.length ∧ s' = ((i + 1 : Nat) : Int) ∧ i + 1 ≤ out.length) := .ret ⟨hi2, rfl, hi2⟩
    have z : T (some (Sum.inl (i : Int)) : Option (Sum Int Int)) (onO (fun q => 0 ≤ q ∧ q ≤ out.length) fun s' => i < out.length ∧ s' = ((i + 1 : Nat) : Int) ∧ i + 1 ≤ out.length) := .ret ⟨by omega, by omega⟩
    exact T.cond (fun _ => y) fun _ => T.cond (fun _ => T.cond (fun _ => T.cond (fun _ => y) fun _ => z) fun _ => z) fun _ => z
  refine T.bind L2 fun q hq => ?_
  obtain ⟨q0, q1⟩ := hq
  refine T.joinP (fun _ => True) (fun _ _ => ?_) fun k hk => ?_
  · rw [appM_eq (by simp; omega), some_bind, iadd64 (by omega) (by omega), slM_eq (by omega) (by simp; omega) (by omega), some_bind, slM_eq (by omega) (by simp; omega) (by omega), some_bind]
    have hc : (cpO (out ++ [T_api_Literal.mk false ByteArray.empty]) (q + 1) ((out ++ [T_api_Literal.mk false ByteArray.empty]).length : Int) q ((out ++ [T_api_Literal.mk false ByteArray.empty]).length : Int)).length = out.length + 1 := by
      rw [cpO_len (by omega) (by simp; omega) (by omega) (by simp; omega)]; simp
    rw [idxM_eq q0 (by omega), some_bind, iadd1 (by omega)]
    exact .ret ⟨hj2, rfl, by omega, by simp only [List.length_set]; omega⟩
  · refine T.cond (fun g => ?_) fun g => hk _ trivial
    have := of_decide_eq_true g
    rw [idxM_eq q0 (by omega), some_bind, iadd1 (by omega)]
    exact T.cond (fun _ => .ret ⟨hj2, rfl, by omega, by simp only; omega⟩) fun _ => hk _ trivial

/-- what we know of the bases -/
structure BaseOk (b : T_api_Base) : Prop where
  prem : b.Premises.length ≤ 16
  rules : b.Rules.length ≤ 24
  prom : b.Promotions.length ≤ 8
  body : ∀ r ∈ b.Rules, r.Body.length ≤ 2

theorem Base_plain {s : T_deliberationkeep_Src} (h : SrcOk s) {n p r : Int} (hn : 1 ≤ n) (hn2 : n ≤ 26) (hp : 0 ≤ p) (hp2 : p ≤ 16) (hr : 1 ≤ r) (hr2 : r ≤ 24) : T (keep_Src_Base_m s n p r) fun q => BaseOk q.1 ∧ SrcOk q.2 := by
  unfold keep_Src_Base_m
  rw [iadd64 (by omega) (by omega), iadd64 (by omega) (by omega)]
  refine T.bind (N_plain h (by omega)) ?_
  rintro k ⟨hk, hk2⟩
  obtain ⟨k0, k1⟩ := hk2 (by omega)
  refine T.bind (P := fun q : T_deliberationkeep_Src × List T_api_Premise => SrcOk q.1 ∧ q.2.length ≤ 16) ?_ ?_
  · refine T.loopK 16 (fun j s => s.1 = k.1 - j ∧ (j : Int) ≤ k.1 ∧ SrcOk s.2.1 ∧ s.2.2.length ≤ j) ⟨by simp, by simpa using k0, hk, by simp⟩ ?_
    rintro j ⟨a, src, out⟩ ⟨e, hj, hs, hl⟩
    simp only at e hl hs
    dsimp only [keep_Src_Base_l1]
    refine T.cond (fun g => ?_) fun g => .ret ⟨hs, by simp only; omega⟩
    have := of_decide_eq_true g
    refine T.bind (Literal_plain hs hn hn2) fun t ht => ?_
    refine T.bind (Pick_plain ht (by simp) (by simp)) fun t1 ht1 => ?_
    refine T.bind (Text_plain ht1 (by simp) (by simp)) fun t2 ht2 => ?_
    refine T.joinP (fun j => SrcOk j.1) (fun x hx => ?_) fun kk hkk => ?_
    · have L2 : T (loopC (keep_Src_Base_l2 (a, src, out) t) (false, 0)) fun _ => True := by
        refine T.loopK out.length (fun i s => s.2 = (i : Int) ∧ i ≤ out.length) ⟨rfl, by omega⟩ ?_
        rintro i ⟨b, c⟩ ⟨rfl, hi⟩
        dsimp only [keep_Src_Base_l2]
        refine T.cond (fun g => ?_) fun g => .ret trivial
        have hi2 : i < out.length := by have := of_decide_eq_true g; omega
        rw [idxM_nat hi2, some_bind, iadd1 (by omega)]
        exact T.cond (fun _ => .ret ⟨hi2, rfl, hi2⟩) fun _ => .ret ⟨hi2, rfl, hi2⟩
      refine T.bind L2 fun q _ => ?_
      refine T.cond (fun _ => ?_) fun _ => ?_
      · rw [appM_eq (by simp; omega), some_bind, letM_eq]
        exact .ret ⟨by omega, by simp only; rw [isub64 (by omega) (by omega)]; omega, by omega, hx, by simp; omega⟩
      · rw [letM_eq]
        exact .ret ⟨by omega, by simp only; rw [isub64 (by omega) (by omega)]; omega, by omega, hx, by simp only; omega⟩
    · exact T.cond (fun _ => T.bind (N_plain ht2 (by omega)) fun t3 ht3 => hkk _ ht3.1) fun _ => hkk _ ht2
  rintro ⟨q1, q2⟩ ⟨hq1, hq2⟩
  simp only at hq1 hq2
  dsimp only
  refine T.bind (N_plain hq1 (by omega)) ?_
  rintro k' ⟨hk', hk2'⟩
  obtain ⟨k0', k1'⟩ := hk2' (by omega)
  refine T.bind (P := fun q : T_deliberationkeep_Src × List T_api_Rule => SrcOk q.1 ∧ q.2.length ≤ 24 ∧ ∀ r ∈ q.2, r.Body.length ≤ 2) ?_ ?_
  · refine T.loopK 24 (fun j s => s.1 = k'.1 - j ∧ (j : Int) ≤ k'.1 ∧ SrcOk s.2.1 ∧ s.2.2.length = j ∧ ∀ r ∈ s.2.2, r.Body.length ≤ 2) ⟨by simp, by simpa using k0', hk', by simp, by simp⟩ ?_
    rintro j ⟨a, src, out⟩ ⟨e, hj, hs, hl, hb⟩
    simp only at e hl hs hb
    dsimp only [keep_Src_Base_l3]
    refine T.cond (fun g => ?_) fun g => .ret ⟨hs, by simp only; omega, hb⟩
    have := of_decide_eq_true g
    refine T.bind RuleName_plain fun t _ => ?_
    refine T.bind (N_plain hs (by omega)) fun t1 ht1 => ?_
    refine T.bind (Literals_plain ht1.1 hn hn2) fun t2 ht2 => ?_
    refine T.bind (srt_plain (by have := ht2.2; omega)) fun t3 ht3 => ?_
    refine T.bind (Literal_plain ht2.1 hn hn2) fun t4 ht4 => ?_
    refine T.joinP (fun j => SrcOk j.1) (fun x hx => ?_) fun kk hkk => ?_
    · refine T.joinP (fun j => SrcOk j.1) (fun y hy => ?_) fun kk hkk => ?_
      · rw [appM_eq (by simp; omega), some_bind, letM_eq]
        refine .ret ⟨by omega, by simp only; rw [isub64 (by omega) (by omega)]; omega, by omega, hy, by simp [hl], ?_⟩
        intro r hr
        simp only [List.mem_append, List.mem_singleton] at hr
        rcases hr with hr | rfl
        · exact hb r hr
        · have := ht2.2; simp only; omega
      · refine T.bind (N_plain hx (by omega)) fun t5 ht5 => ?_
        exact T.cond (fun _ => T.bind (N_plain ht5.1 (by omega)) fun t6 ht6 => T.bind (N_plain ht6.1 (by omega)) fun t7 ht7 => T.bind RuleName_plain fun t8 _ => hkk _ ht7.1) fun _ => hkk _ ht5.1
    · exact T.cond (fun _ => T.bind (N_plain ht4 (by omega)) fun t5 ht5 => hkk _ ht5.1) fun _ => hkk _ ht4
  rintro ⟨r1, r2⟩ ⟨hr1, hr2, hr3⟩
  simp only at hr1 hr2 hr3
  dsimp only
  refine T.bind (N_plain hr1 (by omega)) ?_
  rintro m ⟨hm, hm2⟩
  obtain ⟨m0, m1⟩ := hm2 (by omega)
  refine T.bind (P := fun q : T_deliberationkeep_Src × List T_api_Promotion => SrcOk q.1 ∧ q.2.length ≤ 8) ?_ fun q hq => .ret ⟨⟨hq2, hr2, hq.2, hr3⟩, hq.1⟩
  refine T.loopK 3 (fun j s => s.1 = m.1 - j ∧ (j : Int) ≤ m.1 ∧ SrcOk s.2.1 ∧ s.2.2.length ≤ j) ⟨by simp, by simpa using m0, hm, by simp⟩ ?_
  rintro j ⟨a, src, out⟩ ⟨e, hj, hs, hl⟩
  simp only at e hl hs
  dsimp only [keep_Src_Base_l4]
  refine T.cond (fun g => ?_) fun g => .ret ⟨hs, by simp only; omega⟩
  have := of_decide_eq_true g
  refine T.cond (fun g2 => ?_) fun g2 => .ret ⟨hs, by simp only; omega⟩
  have h5 := of_decide_eq_true g2
  refine T.bind (N_plain hs (by omega)) ?_
  rintro t ⟨ht, ht2⟩
  obtain ⟨t0, t1⟩ := ht2 (by omega)
  rw [idxM_eq t0 (by omega), some_bind]
  refine T.cond (fun _ => ?_) fun _ => ?_
  · refine T.bind (N_plain ht (by omega)) fun t5 ht5 => ?_
    refine T.bind (Literal_plain ht5.1 hn hn2) fun t6 ht6 => ?_
    rw [appM_eq (by simp; omega), some_bind, letM_eq]
    exact .ret ⟨by omega, by simp only; rw [isub64 (by omega) (by omega)]; omega, by omega, ht6, by simp; omega⟩
  · rw [letM_eq]
    exact .ret ⟨by omega, by simp only; rw [isub64 (by omega) (by omega)]; omega, by omega, ht, by simp only; omega⟩
end Go.Dc
