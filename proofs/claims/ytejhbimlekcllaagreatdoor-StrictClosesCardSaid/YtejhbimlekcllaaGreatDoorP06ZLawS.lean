/- Part P06Z.LawS of a proof: lemmas. -/
import Derived.Test.YtejhbimlekcllaaGreatDoorP06ZLawC
set_option linter.unusedVariables false
set_option linter.unusedSimpArgs false
set_option linter.unusedSectionVars false
set_option maxHeartbeats 1000000
/-! The program's closures, derivations and axioms are those of the reference. -/
namespace Go.Dc
structure Small (b : T_api_Base) : Prop where
  prem : b.Premises.length ≤ 30
  rules : b.Rules.length ≤ 30
  body : ∀ r ∈ b.Rules, r.Body.length ≤ 8
theorem SmallBase_plain (b : T_api_Base) : T (keep_SmallBase_m b) fun r => r = true → Small b := by
  unfold keep_SmallBase_m
  refine T.cond (fun _ => .ret fun e => by cases e) fun g1 => T.cond (fun _ => .ret fun e => by cases e) fun g2 => T.cond (fun _ => .ret fun e => by cases e) fun g3 => ?_
  have h1 : b.Premises.length ≤ 30 := by have := of_decide_eq_false g1; omega
  have h2 : b.Rules.length ≤ 30 := by have := of_decide_eq_false g2; omega
  have h3 : b.Promotions.length ≤ 20 := by have := of_decide_eq_false g3; omega
  refine T.bind (P := fun o => match o with | .inl r => r = false | .inr _ => True) ?_ fun o ho => ?_
  · refine T.loopK b.Premises.length (fun k s => s = (k : Int) ∧ k ≤ b.Premises.length) ⟨rfl, by omega⟩ ?_
    rintro k _ ⟨rfl, hk⟩
    unfold keep_SmallBase_l1
    refine T.cond (fun g => ?_) fun g => .ret trivial
    have hk2 : k < b.Premises.length := by have := of_decide_eq_true g; omega
    rw [idxM_nat hk2, some_bind, iadd1 (by omega)]
    exact T.cond (fun _ => .ret rfl) fun _ => T.cond (fun _ => .ret rfl) fun _ => .ret ⟨hk2, rfl, hk2⟩
  match o, ho with
  | .inl r, ho => exact .ret fun e => by rw [show r = false from ho] at e; cases e
  | .inr _, _ =>
  rw [sumK_inr]
  refine T.bind (P := fun o => match o with | .inl r => r = false | .inr _ => ∀ r ∈ b.Rules, r.Body.length ≤ 8) ?_ fun o ho => ?_
  · refine T.loopK b.Rules.length (fun k s => s = (k : Int) ∧ k ≤ b.Rules.length ∧ ∀ i (hi : i < b.Rules.length), i < k → b.Rules[i].Body.length ≤ 8) ⟨rfl, by omega, fun _ _ h => absurd h (by omega)⟩ ?_
    rintro k _ ⟨rfl, hk, hd⟩
    unfold keep_SmallBase_l2
    refine T.cond (fun g => ?_) fun g => ?_
    · have hk2 : k < b.Rules.length := by have := of_decide_eq_true g; omega
      rw [idxM_nat hk2, some_bind, iadd1 (by omega)]
      refine T.cond (fun _ => .ret rfl) fun g4 => T.cond (fun _ => .ret rfl) fun _ => T.cond (fun _ => .ret rfl) fun _ => ?_
      have h8 : b.Rules[k].Body.length ≤ 8 := by have := of_decide_eq_false g4; omega
      refine T.bind (P := fun o => match o with | .inl r => r = false | .inr _ => True) ?_ fun o ho => ?_
      · refine T.loopK b.Rules[k].Body.length (fun i s => s = (i : Int) ∧ i ≤ b.Rules[k].Body.length) ⟨rfl, by omega⟩ ?_
        rintro i _ ⟨rfl, hi⟩
        unfold keep_SmallBase_l3
        refine T.cond (fun g => ?_) fun g => .ret trivial
        have hi2 : i < b.Rules[k].Body.length := by have := of_decide_eq_true g; omega
        rw [idxM_nat hi2, some_bind, iadd1 (by omega)]
        exact T.cond (fun _ => .ret rfl) fun _ => .ret ⟨hi2, rfl, hi2⟩
      match o, ho with
      | .inl r, ho => rw [show r = false from ho]; exact .ret rfl
      | .inr _, _ =>
        refine .ret ⟨hk2, rfl, hk2, fun i hi hik => ?_⟩
        rcases Nat.lt_or_ge i k with h | h
        · exact hd i hi h
        · have : i = k := by omega
          subst this; exact h8
    · have hk2 : k = b.Rules.length := by have := of_decide_eq_false g; omega
      refine .ret fun r hr => ?_
      obtain ⟨i, hi, rfl⟩ := List.getElem_of_mem hr
      exact hd i hi (by omega)
  match o, ho with
  | .inl r, ho => exact .ret fun e => by rw [show r = false from ho] at e; cases e
  | .inr _, ho =>
  rw [sumK_inr]
  refine T.bind (P := fun o => match o with | .inl r => r = false | .inr _ => True) ?_ fun o ho2 => ?_
  · refine T.loopK b.Promotions.length (fun k s => s = (k : Int) ∧ k ≤ b.Promotions.length) ⟨rfl, by omega⟩ ?_
    rintro k _ ⟨rfl, hk⟩
    unfold keep_SmallBase_l4
    refine T.cond (fun g => ?_) fun g => .ret trivial
    have hk2 : k < b.Promotions.length := by have := of_decide_eq_true g; omega
    rw [idxM_nat hk2, some_bind, iadd1 (by omega)]
    exact T.cond (fun _ => .ret rfl) fun _ => T.cond (fun _ => .ret rfl) fun _ => .ret ⟨hk2, rfl, hk2⟩
  match o, ho2 with
  | .inl r, ho2 => exact .ret fun e => by rw [show r = false from ho2] at e; cases e
  | .inr _, _ => exact .ret fun _ => ⟨h1, h2, ho⟩

/-- the literals of the axioms -/
def Ax (b : T_api_Base) (x : Li) : Prop := ∃ p ∈ b.Premises, p.Kind = 1 ∧ p.Literal = x
def AxT (b : T_api_Base) (k : Nat) (x : Li) : Prop := ∃ p ∈ b.Premises.take k, p.Kind = 1 ∧ p.Literal = x
theorem AxT.succ {b : T_api_Base} {k : Nat} (hk : k < b.Premises.length) {x : Li} : AxT b (k + 1) x ↔ AxT b k x ∨ (b.Premises[k].Kind = 1 ∧ b.Premises[k].Literal = x) := by
  unfold AxT
  rw [List.take_add_one, List.getElem?_eq_getElem hk]
  simp only [Option.toList_some, List.mem_append, List.mem_singleton]
  constructor
  · rintro ⟨p, h | rfl, h2⟩
    · exact .inl ⟨p, h, h2⟩
    · exact .inr h2
  · rintro (⟨p, h, h2⟩ | h2)
    · exact ⟨p, .inl h, h2⟩
    · exact ⟨_, .inr rfl, h2⟩
theorem AxT.all {b : T_api_Base} {x : Li} : AxT b b.Premises.length x ↔ Ax b x := by unfold AxT Ax; rw [List.take_length]
theorem Axioms_plain {b : T_api_Base} (hl : b.Premises.length ≤ 1000) : T (strict_Axioms_m b) fun r => AscL r ∧ (∀ x, x ∈ r ↔ Ax b x) ∧ r.length ≤ 1000 := by
  unfold strict_Axioms_m
  refine T.bind (P := fun q => (∀ x, x ∈ q ↔ Ax b x) ∧ q.length ≤ 1000) ?_ ?_
  · refine T.loopK b.Premises.length (fun k s => s.1 = (k : Int) ∧ k ≤ b.Premises.length ∧ s.2.length ≤ k ∧ ∀ x, x ∈ s.2 ↔ AxT b k x) ⟨rfl, by omega, by simp, fun x => by simp [AxT]⟩ ?_
    rintro k ⟨_, o⟩ ⟨rfl, hk, hlen, hm⟩
    dsimp only at hlen hm
    unfold strict_Axioms_l1
    dsimp only
    refine T.cond (fun g => ?_) fun g => ?_
    · have hk2 : k < b.Premises.length := by have := of_decide_eq_true g; omega
      rw [idxM_nat hk2, some_bind, iadd1 (by omega)]
      refine T.cond (fun c => ?_) fun c => .ret ⟨hk2, rfl, hk2, by dsimp only; omega, fun x => ?_⟩
      · rw [appM_eq (by simp; omega), some_bind]
        refine .ret ⟨hk2, rfl, hk2, by simp; omega, fun x => ?_⟩
        rw [AxT.succ hk2, List.mem_append, hm, List.mem_singleton]
        have : b.Premises[k].Kind = 1 := by simpa using c
        simp [this, eq_comm]
      · rw [AxT.succ hk2]
        have : b.Premises[k].Kind ≠ 1 := by simpa using c
        simp [this, hm]
    · have hk2 : k = b.Premises.length := by have := of_decide_eq_false g; omega
      subst hk2
      exact .ret ⟨fun x => (hm x).trans AxT.all, by omega⟩
  · rintro q ⟨hq, hq2⟩
    refine T.bind (Normal_plain (by omega)) fun r hr => .ret ⟨hr.asc, fun x => by rw [hr.mem, hq], by have := hr.len; omega⟩
theorem rAxioms_plain {b : T_api_Base} (hl : b.Premises.length ≤ 1000) : T (ref06_Axioms_m b) fun r => AscL r ∧ (∀ x, x ∈ r ↔ Ax b x) := by
  unfold ref06_Axioms_m
  refine T.bind (P := fun q => AscL q ∧ (∀ x, x ∈ q ↔ Ax b x)) ?_ fun q hq => .ret hq
  refine T.loopK b.Premises.length (fun k s => s.2 = (k : Int) ∧ k ≤ b.Premises.length ∧ s.1.length ≤ k ∧ AscL s.1 ∧ ∀ x, x ∈ s.1 ↔ AxT b k x) ⟨rfl, by omega, by simp, List.Pairwise.nil, fun x => by simp [AxT]⟩ ?_
  rintro k ⟨o, _⟩ ⟨rfl, hk, hlen, ha, hm⟩
  dsimp only at hlen hm ha
  unfold ref06_Axioms_l1
  dsimp only
  refine T.cond (fun g => ?_) fun g => ?_
  · have hk2 : k < b.Premises.length := by have := of_decide_eq_true g; omega
    rw [idxM_nat hk2, some_bind, iadd1 (by omega)]
    refine T.cond (fun c => ?_) fun c => ?_
    · rw [some_bind]
      refine T.bind (Insert_plain (by omega) ha) ?_
      rintro r ⟨r1, r2, r3⟩
      refine .ret ⟨hk2, rfl, hk2, by dsimp only; omega, r1, fun x => ?_⟩
      rw [AxT.succ hk2, r2, hm]
      have : b.Premises[k].Kind = 1 := by simpa using c
      simp [this, eq_comm, or_comm]
    · refine .ret ⟨hk2, rfl, hk2, by dsimp only; omega, ha, fun x => ?_⟩
      rw [AxT.succ hk2]
      have : b.Premises[k].Kind ≠ 1 := by simpa using c
      simp [this, hm]
  · have hk2 : k = b.Premises.length := by have := of_decide_eq_false g; omega
    subst hk2
    exact .ret ⟨ha, fun x => (hm x).trans AxT.all⟩

theorem der_same {b : T_api_Base} {l : List Li} {x : Li} (hb : Small b) (hl : l.length ≤ 20) {R : Type} {Q : R → Prop} {k : Bool → Bool → Option R} (hk : ∀ r, T (k r r) Q) :
    T (Option.bind (strict_Derives_m b l x) fun t => Option.bind (ref06_Derives_m b l x) fun u => k t u) Q := by
  have hR := hb.rules
  have hB : ∀ r ∈ b.Rules, r.Body.length ≤ 10000 := fun r hr => by have := hb.body r hr; omega
  refine T.bind (Derives_plain (by omega) (by omega) hB) fun r hr => T.bind (rDerives_plain (by omega) (by omega) hB) fun r2 hr2 => ?_
  have : r2 = r := by rw [Bool.eq_iff_iff, hr, hr2]
  subst this; exact hk _
theorem Closes_l3 {b : T_api_Base} (hb : Small b) {y : List Li} (hy : y.length ≤ 20) {s : T_deliberationkeep_Src} (hs : SrcOk s) :
    T (loopC (law06_StrictCloses_l3 b y) (0, s)) fun o => match o with | .inl r => False | .inr s' => SrcOk s' := by
  refine T.loopK 3 (fun k z => z.1 = (k : Int) ∧ SrcOk z.2) ⟨rfl, hs⟩ ?_
  rintro k ⟨_, s⟩ ⟨rfl, hs⟩
  dsimp only at hs
  unfold law06_StrictCloses_l3
  dsimp only
  refine T.cond (fun g => ?_) fun g => .ret hs
  have hk : k < 3 := by have := of_decide_eq_true g; omega
  refine T.bind (Literal_plain hs (by omega) (by omega)) fun t ht => ?_
  refine der_same hb hy fun r => ?_
  rw [beq_self_eq_true, letM_eq, iadd1 (by omega)]
  exact .ret ⟨hk, rfl, ht⟩
theorem Closes_l2 {b : T_api_Base} (hb : Small b) {som : List Li} (h0 : som.length ≤ 20) {x : Li} {t : List Li × T_deliberationkeep_Src} (ht : t.1.length ≤ 20) {s : T_deliberationkeep_Src} (hs : SrcOk s) :
    T (loopC (law06_StrictCloses_l2 som x b t) (0, s)) fun o => match o with | .inl r => False | .inr s' => SrcOk s' := by
  refine T.loopK 2 (fun k z => z.1 = (k : Int) ∧ SrcOk z.2) ⟨rfl, hs⟩ ?_
  rintro k ⟨_, s⟩ ⟨rfl, hs⟩
  dsimp only at hs
  unfold law06_StrictCloses_l2
  dsimp only
  refine T.cond (fun g => ?_) fun g => .ret hs
  have hk : k < 2 := by have := of_decide_eq_true g; simp at this; omega
  have hR := hb.rules
  have hB : ∀ r ∈ b.Rules, r.Body.length ≤ 100000 := fun r hr => by have := hb.body r hr; omega
  rw [idxM_nat (by simpa using hk), some_bind, iadd1 (by omega)]
  have hy : ([som, t.1][k]'(by simpa using hk)).length ≤ 20 := by
    match k, hk with
    | 0, _ => exact h0
    | 1, _ => exact ht
  generalize [som, t.1][k]'(by simpa using hk) = y at hy
  refine T.bind (Closure_plain (by omega) (by omega) hB) ?_
  rintro c ⟨c1, c2, c3⟩
  refine T.bind (rClosure_plain (by omega) hB) ?_
  rintro d ⟨d1, d2, d3⟩
  obtain rfl : c = d := ascL_ext c1 d1 fun u => (c2 u).trans (d2 u).symm
  rw [rSame_refl (by omega), some_bind]
  simp only [Bool.not_true, cond_false]
  refine der_same hb hy fun r => ?_
  rw [beq_self_eq_true]
  simp only [Bool.not_true, cond_false]
  refine T.bind (Closes_l3 hb hy hs) fun o ho => ?_
  match o, ho with
  | .inr s', ho => exact .ret ⟨hk, rfl, ho⟩
theorem StrictCloses_T (raw : T_api_Base) (som : List Li) (x : Li) (l : List Int) : T (law06_StrictCloses_m raw som x l) (· = true) := by
  unfold law06_StrictCloses_m
  refine T.bind (SmallBase_plain raw) fun sm hsm => T.cond (fun _ => .ret rfl) fun g0 => T.cond (fun _ => .ret rfl) fun g1 => ?_
  have hraw : Small raw := hsm (by simpa using g0)
  have h0 : som.length ≤ 20 := by have := of_decide_eq_false g1; omega
  refine T.bind New_plain fun s hs => ?_
  refine T.bind (Base_plain hs (by omega) (by omega) (by omega) (by omega) (by omega) (by omega)) fun t7 h7 => ?_
  refine T.bind (closed_plain h7.2 (by omega) (by omega) (by omega) (by omega)) fun t9 h9 => ?_
  have hsm : ∀ {b : T_api_Base}, BaseOk b → Small b := fun h => ⟨by have := h.prem; omega, by have := h.rules; omega, fun r hr => by have := h.body r hr; omega⟩
  refine T.bind (P := fun o => o = Sum.inr ()) ?_ fun o ho => by subst ho; rw [sumK_inr, awake_plain, some_bind]; exact .ret rfl
  refine T.loopK 3 (fun k z => z.1 = (k : Int) ∧ SrcOk z.2) ⟨rfl, h9.2.2⟩ ?_
  rintro k ⟨_, s⟩ ⟨rfl, hs⟩
  dsimp only at hs
  unfold law06_StrictCloses_l1
  dsimp only
  refine T.cond (fun g => ?_) fun g => .ret rfl
  have hk : k < 3 := by have := of_decide_eq_true g; simp at this; omega
  rw [idxM_nat (by simpa using hk), some_bind, iadd1 (by omega)]
  have hb : Small ([raw, t7.1, t9.1][k]'(by simpa using hk)) := by
    match k, hk with
    | 0, _ => exact hraw
    | 1, _ => exact hsm h7.1
    | 2, _ => exact hsm h9.1
  generalize [raw, t7.1, t9.1][k]'(by simpa using hk) = b at hb
  refine T.bind (LiteralsG_plain hs 4 (by omega) (by omega) (by omega)) fun t ht => ?_
  refine T.bind (Closes_l2 hb h0 (by have := ht.2; omega) ht.1) fun o ho => ?_
  match o, ho with
  | .inr s', ho =>
  rw [sumK_inr]
  have hp := hb.prem
  refine T.bind (Axioms_plain (by omega)) ?_
  rintro c ⟨c1, c2, c3⟩
  refine T.bind (rAxioms_plain (by omega)) ?_
  rintro d ⟨d1, d2⟩
  obtain rfl : c = d := ascL_ext c1 d1 fun u => (c2 u).trans (d2 u).symm
  rw [rSame_refl (by omega), some_bind]
  exact .ret ⟨hk, rfl, ho⟩
theorem law06_StrictCloses_plain (raw : T_api_Base) (som : List Li) (x : Li) (l : List Int) {p0 p1 p2 p3 : Prop} (_ : p0) (_ : p1) (_ : p2) (_ : p3) : law06_StrictCloses_m raw som x l = some true := (StrictCloses_T raw som x l).eq
end Go.Dc
