/- Part P38Z.Ans of a proof: lemmas. -/
import Derived.Test.YtcpkdjlfgfikcaaGreatDoorP38ZCf
import Derived.Test.YtcpkdjlfgfikcaaGreatDoorP38ZCt
import Derived.Test.YtcpkdjlfgfikcaaGreatDoorP38ZDi
set_option linter.unusedVariables false
set_option linter.unusedSimpArgs false
set_option linter.unusedSectionVars false
/-! The law PrecedentAnswers. -/
namespace Go.Dc

theorem refl_loop {α : Type} {s : List α} {F : Int → Option (Sum (Sum Bool Unit) Int)} (hi : ∀ i, (h : i < s.length) → F (i : Int) = some (.inr ((i + 1 : Nat) : Int))) (he : F (s.length : Int) = some (.inl (.inr ()))) : loopC F 0 = some (.inr ()) := by
  rw [scan (s := s) (p := fun _ => false) (r := false) (fun i h => by rw [hi i h]; rfl) he]
  rw [show (s.any fun _ => false) = false by simp]; rfl
theorem Ints_refl {a : List Int} (h : a.length ≤ 1000000) : keep_Ints_m a a = some true := by
  unfold keep_Ints_m
  rw [refl_loop (s := a) (F := keep_Ints_l1 a a) (fun i hi => by
    dsimp only [keep_Ints_l1]
    rw [decide_eq_true (by omega), cond_true, idxM_nat hi, some_bind, some_bind, iadd1 (by omega)]; simp) (by
    dsimp only [keep_Ints_l1]
    rw [decide_eq_false (by omega)]; rfl), some_bind]
  simp [sumK]
theorem Same_refl {a : List ByteArray} (h : a.length ≤ 1000000) : ref38_Same_m a a = some true := by
  unfold ref38_Same_m
  rw [refl_loop (s := a) (F := ref38_Same_l1 a a) (fun i hi => by
    dsimp only [ref38_Same_l1]
    rw [decide_eq_true (by omega), cond_true, idxM_nat hi, some_bind, some_bind, iadd1 (by omega)]; simp) (by
    dsimp only [ref38_Same_l1]
    rw [decide_eq_false (by omega)]; rfl), some_bind]
  simp [sumK]
theorem net_refl {g : T_Gra} (h : g.L.length ≤ 1000000) : net_Same_m g g = some true := by
  unfold net_Same_m net_Pairs_m
  rw [refl_loop (s := g.L) (F := net_Pairs_l1 g.L g.L) (fun i hi => by
    dsimp only [net_Pairs_l1]
    rw [decide_eq_true (by omega), cond_true, idxM_nat hi, some_bind, some_bind, iadd1 (by omega)]; simp) (by
    dsimp only [net_Pairs_l1]
    rw [decide_eq_false (by omega)]; rfl), some_bind]
  simp [sumK]

variable {l : T_Lib}
theorem small_plain (h1 : l.Sides.i0.length ≤ 140737488355328) (h2 : l.Sides.i1.length ≤ 140737488355328) (h3 : l.Cases.length ≤ 140737488355328) (h4 : ∀ c ∈ l.Cases, c.Facts.length ≤ 140737488355328 ∧ c.Reason.length ≤ 140737488355328) :
    T (law38_small_m l) fun r => r = true → Sz l := by
  unfold law38_small_m
  rw [letM_eq, iadd64 (x := (l.Sides.i0.length : Int)) (by omega) (by omega), iadd64 (by omega) (by omega)]
  refine T.bind (P := fun q => q ≤ 300 → Sz l) ?_ fun q hq => .letM (.ret fun e => hq (of_decide_eq_true e))
  refine T.loopK l.Cases.length (fun k s => k ≤ l.Cases.length ∧ s.2 = (k : Int) ∧ s.1 ≤ 1000000000000000 ∧ (l.Sides.i0.length : Int) + l.Sides.i1.length + l.Cases.length ≤ s.1 ∧ ∀ i, i < k → ∀ (hi : i < l.Cases.length), ((l.Cases[i].Facts.length : Int) + l.Cases[i].Reason.length ≤ s.1)) ⟨by omega, rfl, by simp only; omega, by simp only; omega, by omega⟩ ?_
  rintro k ⟨v, _⟩ ⟨hk, rfl, hv1, hv2, hv3⟩
  dsimp only [law38_small_l1] at hv1 hv2 hv3 ⊢
  refine T.cond (fun c => ?_) fun c => ?_
  · have hk2 : k < l.Cases.length := by have := of_decide_eq_true c; omega
    have hc := h4 _ (List.getElem_mem hk2)
    refine T.cond (fun c2 => ?_) fun c2 => .ret fun e => absurd (of_decide_eq_false c2) (by omega)
    have c2 := of_decide_eq_true c2
    rw [idxM_nat hk2, some_bind, some_bind, letM_eq, iadd1 (by omega), iadd64 (x := (l.Cases[k].Facts.length : Int)) (by omega) (by omega), iadd64 (by omega) (by omega)]
    refine .ret ⟨hk2, hk2, rfl, by simp only; omega, by simp only; omega, fun i hi h => ?_⟩
    simp only
    rcases Nat.lt_or_ge i k with q | q
    · have := hv3 i q h; omega
    · have : i = k := by omega
      subst this; omega
  · have e : k = l.Cases.length := by have := of_decide_eq_false c; omega
    subst e
    refine .ret fun e => ⟨by omega, by omega, by omega, fun c hc => ?_⟩
    obtain ⟨i, hi, rfl⟩ := List.getElem_of_mem hc
    have := hv3 i hi hi
    omega

theorem sz_of (h : LibOk l) : Sz l := by
  have := h.len
  refine ⟨by rw [h.s1]; decide, by rw [h.s2]; decide, by omega, fun c hc => ?_⟩
  obtain ⟨k, _, ok⟩ := h.mem hc
  have := sub_len ok.facts; have := sub_len ok.reason
  omega
theorem Text_plain {s : T_Src} (h : SrcOk s) {t : List ByteArray} (h0 : 1 ≤ t.length) (h1 : t.length ≤ 1000) : T (keep_Src_Text_m s t) fun r => SrcOk r.2 := by
  unfold keep_Src_Text_m
  refine T.bind (N_plain h (by omega)) fun q hq => ?_
  obtain ⟨q1, q2⟩ := hq.2 (by omega)
  rw [idxM_eq q1 (by omega), some_bind]
  exact .ret hq.1
theorem sz_set (h : Sz l) {i : Nat} {c : T_Cas} {L : List T_Cas} (hL : L = l.Cases) (hc : c.Facts.length ≤ 1000 ∧ c.Reason.length ≤ 1000) : Sz ⟨l.Sides, L.set i c⟩ := by
  subst hL
  refine ⟨h.s1, h.s2, by simp only [List.length_set]; exact h.n, fun x hx => ?_⟩
  rcases List.mem_or_eq_of_mem_set hx with hx | rfl
  · exact h.c x hx
  · exact hc
theorem bent_plain {s : T_Src} (hs : SrcOk s) (h : LibOk l) : T (law38_bent_m s l) fun r => Sz r.1 ∧ SrcOk r.2 := by
  have hl := h.len
  have hz := sz_of h
  unfold law38_bent_m
  rw [appM_eq (by simp; omega), some_bind, List.nil_append]
  refine T.cond (fun c => .ret ⟨⟨by simp, hz.s2, hz.n, hz.c⟩, hs⟩) fun c => ?_
  have hpos : 0 < l.Cases.length := by have := of_decide_eq_false c; omega
  refine T.bind (N_plain hs (by omega)) fun q hq => ?_
  obtain ⟨q1, q2⟩ := hq.2 (by omega)
  have hlt : q.1.toNat < l.Cases.length := by omega
  have hcm := hz.c _ (List.getElem_mem hlt)
  obtain ⟨_, _, ok⟩ := h.mem (List.getElem_mem hlt)
  have hcf := sub_len ok.facts
  rw [idxM_eq q1 hlt, some_bind]
  refine T.bind (N_plain hq.1 (by omega)) fun t11 h11 => ?_
  refine T.cond (fun _ => T.bind (N_plain h11.1 (by omega)) fun t ht => .ret ⟨sz_set hz rfl hcm, ht.1⟩) fun _ => ?_
  refine T.cond (fun _ => T.bind (Text_plain h11.1 (by simp) (by simp)) fun t ht => .ret ⟨sz_set hz rfl hcm, ht⟩) fun _ => ?_
  refine T.cond (fun _ => T.bind (facts_plain h11.1) fun t ht => .ret ⟨sz_set hz rfl ⟨by have := sub_len ht.2; simp only; omega, hcm.2⟩, ht.1⟩) fun _ => ?_
  refine T.cond (fun _ => T.bind (facts_plain h11.1) fun t ht => .ret ⟨sz_set hz rfl ⟨hcm.1, by have := sub_len ht.2; simp only; omega⟩, ht.1⟩) fun _ => ?_
  refine T.cond (fun _ => .ret ⟨sz_set hz rfl ⟨hcm.1, by simp⟩, h11.1⟩) fun _ => ?_
  refine T.cond (fun _ => .ret ⟨⟨by simp, hz.s2, hz.n, hz.c⟩, h11.1⟩) fun _ => ?_
  refine T.cond (fun _ => .ret ⟨⟨hz.s1, by simp, hz.n, hz.c⟩, h11.1⟩) fun _ => ?_
  rw [appM_eq (by simp; omega), some_bind]
  refine T.bind (Text_plain h11.1 (by simp) (by simp)) fun t ht => ?_
  rw [appM_eq (by simp; omega), some_bind]
  exact .ret ⟨sz_set hz rfl ⟨by simp; omega, hcm.2⟩, ht⟩

theorem picks_le {q : T_Cas → Bool} {C : List T_Cas} : (picks q C C.length).length ≤ C.length := picks_len
theorem frcE_len (h : Sz l) {q : T_Cas → Bool} {f : List ByteArray} : (frcE q l f).1.For.length ≤ 1000000 ∧ (frcE q l f).1.Against.length ≤ 1000000 := by
  have := h.n
  have p1 := picks_le (q := w1 q) (C := l.Cases)
  have p2 := picks_le (q := w2 q) (C := l.Cases)
  unfold frcE
  cases sitE l f != 0
  · exact ⟨by simp only [cond_false]; omega, by simp only [cond_false]; omega⟩
  · exact ⟨by simp, by simp⟩
theorem disE_len (h : Sz l) {ix : Int} {f : List ByteArray} (hf : f.length ≤ 1000) : (disE l ix f).1.length ≤ 1000000 := by
  unfold disE
  cases verr l != 0
  · rw [cond_false]
    cases decide (ix < 0)
    · rw [cond_false]
      cases e : decide (ix ≥ (l.Cases.length : Int))
      · rw [cond_false]
        cases knE l f != 0
        · rw [cond_false]
          unfold dis
          simp only [sortS_len, List.length_append]
          have e1 := List.length_filter_le (fun x => !memB x f) (ownF l (l.Cases.getD ix.toNat ⟨ByteArray.empty, [], 0, []⟩).Facts (l.Cases.getD ix.toNat ⟨ByteArray.empty, [], 0, []⟩).Winner)
          have e2 := List.length_filter_le (fun x => !memB x (l.Cases.getD ix.toNat ⟨ByteArray.empty, [], 0, []⟩).Facts) (ownF l f (3 - (l.Cases.getD ix.toNat ⟨ByteArray.empty, [], 0, []⟩).Winner))
          have e3 := ownF_len (l := l) (f := (l.Cases.getD ix.toNat ⟨ByteArray.empty, [], 0, []⟩).Facts) (w := (l.Cases.getD ix.toNat ⟨ByteArray.empty, [], 0, []⟩).Winner)
          have e4 := ownF_len (l := l) (f := f) (w := 3 - (l.Cases.getD ix.toNat ⟨ByteArray.empty, [], 0, []⟩).Winner)
          have e5 : (l.Cases.getD ix.toNat ⟨ByteArray.empty, [], 0, []⟩).Facts.length ≤ 1000 := by
            rcases Nat.lt_or_ge ix.toNat l.Cases.length with q | q
            · have := h.c _ (List.getElem_mem q); simpa [q] using this.1
            · simp [List.getD, List.getElem?_eq_none q]
          omega
        · simp
      · simp
    · simp
  · simp
theorem citE_len (h : Sz l) {f : List ByteArray} {r : List Int × T_Gra × Int} (hc : CitE l f r) : r.1.length ≤ 1000000 ∧ r.2.1.L.length ≤ 1000000 := by
  by_cases e : sitE l f = 0
  · have ci := hc.2.2 e
    have := ci.gl; have := h.n
    have p1 := picks_le (q := citeB l f) (C := l.Cases)
    rw [← ci.c] at p1
    omega
  · obtain ⟨h1, h2⟩ := hc.2.1 e
    rw [h1, h2]; simp

theorem get3 {α : Type} {s : List α} {p : α → Prop} (h : ∀ x ∈ s, p x) {k : Nat} (hk : k < s.length) : p s[k] := h _ (List.getElem_mem hk)
theorem ans_l3 (h : Sz l) {f : List ByteArray} (hf : f.length ≤ 1000) {ix : Int} {t : Int × T_Src} : loopC (law38_PA_l3 ix l f t) 0 = some (.inr ()) := by
  refine refl_loop (s := [ix, t.1]) (fun i hi => ?_) ?_
  · have hi2 : i < 2 := hi
    dsimp only [law38_PA_l3]
    rw [decide_eq_true (by omega), cond_true, idxM_nat hi, some_bind, Dis_p h hf, some_bind, Dis_r h hf, some_bind, bne_self_eq_false, cond_false, Same_refl (disE_len h hf), some_bind, iadd1 (by omega)]; rfl
  · dsimp only [law38_PA_l3]
    rw [decide_eq_false (by omega)]; rfl
theorem ans_l2 (h : Sz l) {given : List ByteArray} (hg : given.length ≤ 1000) {ix : Int} {t : List ByteArray × T_Src} (ht : t.1.length ≤ 1000) {s0 : T_Src} (hs : SrcOk s0) :
    T (loopC (law38_PA_l2 given ix l t) (0, s0)) fun o => ∃ s, o = .inr s ∧ SrcOk s := by
  refine T.loopK 2 (fun k s => k ≤ 2 ∧ s.1 = (k : Int) ∧ SrcOk s.2) ⟨by omega, rfl, hs⟩ ?_
  rintro k ⟨_, s⟩ ⟨hk, rfl, hs⟩
  dsimp only [law38_PA_l2] at hs ⊢
  refine T.cond (fun c => ?_) fun c => .ret ⟨s, rfl, hs⟩
  have hk2 : k < [given, t.1].length := by have := of_decide_eq_true c; omega
  have hk3 : k < 2 := hk2
  have hf : ([given, t.1])[k].length ≤ 1000 := get3 (p := fun x => x.length ≤ 1000) (by intro x hx; simp at hx; rcases hx with rfl | rfl <;> assumption) hk2
  generalize hfe : ([given, t.1])[k] = f at hf
  rw [idxM_nat hk2, hfe, some_bind, Strong_p h hf, some_bind, Strong_r h hf, some_bind, bne_self_eq_false, cond_false, Ints_refl (frcE_len h).1, some_bind, Bool.not_true, cond_false, Ints_refl (frcE_len h).2, some_bind, Bool.not_true, cond_false,
    Reasons_p h hf, some_bind, Reasons_r h hf, some_bind, bne_self_eq_false, cond_false, Ints_refl (frcE_len h).1, some_bind, Bool.not_true, cond_false, Ints_refl (frcE_len h).2, some_bind, Bool.not_true, cond_false]
  refine T.bind (N_plain hs (by omega)) fun q hq => ?_
  rw [ans_l3 h hf, some_bind, sumK_inr]
  obtain ⟨r, h1, h2⟩ := Citable_p h hf
  obtain ⟨r', h1', h2'⟩ := Citable_r h hf
  have er := citE_eq h2 h2'
  subst er
  obtain ⟨d, h3, h4⟩ := Decide_p h hf h1 h2
  obtain ⟨d', h3', h4'⟩ := Decide_r h hf h1' h2'
  have ed : d = d' := h4.trans h4'.symm
  subst ed
  obtain ⟨c1, c2⟩ := citE_len h h2
  rw [h1, some_bind, h1', some_bind, h3, some_bind, h3', some_bind, bne_self_eq_false, cond_false, bne_self_eq_false, cond_false, bne_self_eq_false, cond_false, bne_self_eq_false, cond_false, Ints_refl c1, some_bind, Bool.not_true, cond_false, net_refl c2, some_bind, Bool.not_true, cond_false, iadd1 (by omega)]
  exact .ret ⟨hk3, hk3, rfl, hq.1⟩
theorem ans_l1 {raw : T_Lib} {t8 t10 : T_Lib × T_Src} (z0 : Sz raw) (z1 : Sz t8.1) (z2 : Sz t10.1) {given : List ByteArray} (hg : given.length ≤ 1000) {ix : Int} {s0 : T_Src} (hs : SrcOk s0) :
    T (loopC (law38_PA_l1 raw given ix t8 t10) (0, s0)) fun o => o = .inr () := by
  refine T.loopK 3 (fun k s => k ≤ 3 ∧ s.1 = (k : Int) ∧ SrcOk s.2) ⟨by omega, rfl, hs⟩ ?_
  rintro k ⟨_, s⟩ ⟨hk, rfl, hs⟩
  dsimp only [law38_PA_l1] at hs ⊢
  refine T.cond (fun c => ?_) fun c => .ret rfl
  have hk2 : k < [raw, t8.1, t10.1].length := by have := of_decide_eq_true c; omega
  have hk3 : k < 3 := hk2
  have h : Sz ([raw, t8.1, t10.1])[k] := get3 (p := Sz) (by intro x hx; simp at hx; rcases hx with rfl | rfl | rfl <;> assumption) hk2
  generalize hfe : ([raw, t8.1, t10.1])[k] = l at h
  rw [idxM_nat hk2, hfe, some_bind, Val_p h, some_bind, Val_r h, some_bind, bne_self_eq_false, cond_false, Conflict_p h, some_bind, Conflict_r h, some_bind, bne_self_eq_false, cond_false, bne_self_eq_false, cond_false, beq_self_eq_true, Bool.not_true, cond_false]
  refine T.bind (facts_plain hs) fun t ht => ?_
  refine T.bind (ans_l2 h hg (by have := sub_len ht.2; omega) ht.1) ?_
  rintro _ ⟨s', rfl, hs'⟩
  rw [sumK_inr, iadd1 (by omega)]
  exact .ret ⟨hk3, hk3, rfl, hs'⟩

theorem law38_PA_plain (raw : T_Lib) (given : List ByteArray) (l : List Int) (index : Int) {p0 p1 p5 p6 p7 : Prop}
    (g : ((raw.Sides.i0.length * 16 ≤ Go.reachBytes ∧ p0) ∧ (raw.Sides.i1.length * 16 ≤ Go.reachBytes ∧ p1)) ∧ (raw.Cases.length * 72 ≤ Go.reachBytes ∧ ∀ c ∈ raw.Cases, c.Name.size ≤ Go.maxLen ∧ (c.Facts.length * 16 ≤ Go.reachBytes ∧ ∀ x ∈ c.Facts, x.size ≤ Go.maxLen) ∧ (Go.Lit.int .i64 c.Winner).wf = true ∧ (c.Reason.length * 16 ≤ Go.reachBytes ∧ ∀ x ∈ c.Reason, x.size ≤ Go.maxLen)))
    (_ : p5) (_ : p6) (_ : p7) : law38_PA_m raw given l index = some true := by
  have hr : Go.reachBytes = 140737488351232 := rfl
  rw [hr] at g
  obtain ⟨⟨⟨s1, _⟩, s2, _⟩, s3, s4⟩ := g
  refine T.eq ?_
  unfold law38_PA_m
  refine T.bind (small_plain (l := raw) (by omega) (by omega) (by omega) fun c hc => ?_) fun b hb => ?_
  · obtain ⟨_, ⟨q1, _⟩, _, q2, _⟩ := s4 c hc
    omega
  refine T.cond (fun _ => by rw [awake_plain]; exact .ret rfl) fun c => ?_
  have hz := hb (by simpa using c)
  refine T.cond (fun _ => by rw [awake_plain]; exact .ret rfl) fun c2 => ?_
  have c2 := of_decide_eq_false c2
  refine T.bind New_plain fun s hs => ?_
  refine T.bind (library_plain hs (by omega) (by omega)) fun t8 h8 => ?_
  refine T.bind (bent_plain h8.2 h8.1) fun t10 h10 => ?_
  refine T.bind (ans_l1 hz (sz_of h8.1) h10.1 (by omega) h10.2) fun o ho => ?_
  subst ho
  rw [sumK_inr, awake_plain]
  exact .ret rfl
end Go.Dc
