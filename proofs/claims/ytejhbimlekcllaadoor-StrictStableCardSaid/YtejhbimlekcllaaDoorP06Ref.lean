/- Part P06.Ref of a proof: lemmas. -/
import Derived.Test.YtejhbimlekcllaaDoorP06Clo
set_option linter.unusedVariables false
set_option linter.unusedSimpArgs false
set_option linter.unusedSectionVars false
/-! The other closure. -/
namespace Go.Dc

def cmpR (x y : Li) : Int := if x = y then 0 else if x.Name.toList < y.Name.toList then -1 else if x.Name = y.Name then (if y.Neg then -1 else 1) else 1
theorem rcmp_eq (x y : Li) : ref01_Compare_m x y = some (cmpR x y) := by
  unfold ref01_Compare_m cmpR
  rw [letM_eq, bl_lt, ba_beq]
  by_cases h1 : x = y
  · simp [h1]
  · by_cases h2 : x.Name.toList < y.Name.toList
    · simp [h1, h2]
    · by_cases h3 : x.Name = y.Name
      · simp only [h1, h2, h3, decide_false, decide_true, cond_false, cond_true, if_false, if_true]
        simp only [h3] at h2
        simp only [h2, decide_false, cond_false, if_false]
        cases y.Neg <;> rfl
      · simp [h1, h2, h3]
theorem cmpR_lt {x y : Li} : cmpR x y < 0 ↔ LtL x y := by
  unfold cmpR LtL
  by_cases h1 : x = y
  · subst h1
    have := lt_irr x.Name.toList
    simp only [if_true, this, false_or, true_and]
    cases x.Neg <;> simp
  · by_cases h2 : x.Name.toList < y.Name.toList
    · simp [h1, h2]
    · by_cases h3 : x.Name = y.Name
      · simp only [h1, h2, h3, if_false, if_true, false_or, true_and]
        have h2' : ¬ y.Name.toList < y.Name.toList := lt_irr _
        simp only [h2', if_false, false_or]
        cases hx : x.Neg <;> cases hy : y.Neg
        · exact absurd (by cases x; cases y; simp_all) h1
        · simp
        · simp
        · exact absurd (by cases x; cases y; simp_all) h1
      · simp [h1, h2, h3]
theorem drop_mem {s : List Li} {k : Nat} {x : Li} : x ∈ s.drop k ↔ ∃ i, ∃ h : i < s.length, k ≤ i ∧ s[i] = x := by
  constructor
  · intro h
    obtain ⟨i, hi, rfl⟩ := List.getElem_of_mem h
    rw [List.length_drop] at hi
    exact ⟨k + i, by omega, by omega, by rw [List.getElem_drop]⟩
  · rintro ⟨i, h, hk, rfl⟩
    have hi : i - k < (s.drop k).length := by rw [List.length_drop]; omega
    have := List.getElem_mem hi
    rw [List.getElem_drop] at this
    simpa only [show k + (i - k) = i by omega] using this

theorem Insert_plain {l : List Li} {x : Li} (hl : l.length ≤ 1000000) (ha : AscL l) : T (ref01_Insert_m l x) fun r => AscL r ∧ (∀ y, y ∈ r ↔ y = x ∨ y ∈ l) ∧ r.length ≤ l.length + 1 := by
  have hlt : ∀ i j, (hij : i < j) → (hj : j < l.length) → LtL (l[i]'(by omega)) l[j] := fun i j hij hj => List.pairwise_iff_getElem.1 ha i j (by omega) hj hij
  unfold ref01_Insert_m
  refine T.bind (P := fun q => ∃ k : Nat, q = (k : Int) ∧ k ≤ l.length ∧ (∀ i, i < k → (hi : i < l.length) → LtL l[i] x) ∧ ((hk : k < l.length) → ¬ LtL l[k] x)) ?_ ?_
  · refine T.loopK l.length (fun k s => k ≤ l.length ∧ s = (k : Int) ∧ ∀ i, i < k → (hi : i < l.length) → LtL l[i] x) ⟨by omega, rfl, by omega⟩ ?_
    rintro k _ ⟨hk, rfl, hb⟩
    dsimp only [ref01_Insert_l1]
    refine T.cond (fun c => ?_) fun c => .ret ⟨k, rfl, hk, hb, fun h => absurd (of_decide_eq_false c) (by omega)⟩
    have hk2 : k < l.length := by have := of_decide_eq_true c; omega
    rw [idxM_nat hk2, some_bind, rcmp_eq, some_bind, iadd1 (by omega)]
    refine T.cond (fun c2 => .ret ⟨hk2, hk2, rfl, fun i hi h => ?_⟩) fun c2 => .ret ⟨k, rfl, hk, hb, fun _ h => of_decide_eq_false c2 (cmpR_lt.2 h)⟩
    rcases Nat.lt_or_ge i k with q | q
    · exact hb i q h
    · have : i = k := by omega
      subst this; exact cmpR_lt.1 (of_decide_eq_true c2)
  · rintro _ ⟨k, rfl, hk, hb, hn⟩
    have build : (∀ hk : k < l.length, l[k] ≠ x) → T (Option.bind (slM l 0 (k : Int)) fun t20 => Option.bind (appM 24 [] t20) fun out21 => Option.bind (slM l (k : Int) (l.length : Int)) fun t23 => Option.bind (appM 24 out21 [x]) fun t24 => Option.bind (appM 24 t24 t23) fun t26 => some t26)
        fun r => AscL r ∧ (∀ y, y ∈ r ↔ y = x ∨ y ∈ l) ∧ r.length ≤ l.length + 1 := fun hne => by
      rw [slM_eq (by omega) (by omega) (by omega), some_bind, appM_eq (by simp; omega), some_bind, slM_eq (by omega) (by omega) (by omega), some_bind, appM_eq (by simp; omega), some_bind, appM_eq (by simp; omega), some_bind]
      simp only [Int.toNat_natCast, Int.toNat_zero, List.drop_zero, List.nil_append, List.take_length]
      have hup : ∀ y ∈ l.drop k, LtL x y := fun y hy => by
        obtain ⟨i, hi, hki, rfl⟩ := drop_mem.1 hy
        have h1 : LtL x (l[k]'(by omega)) := ltL_of (hn (by omega)) fun e => hne (by omega) e.symm
        rcases Nat.lt_or_ge k i with q | q
        · exact ltL_trans h1 (hlt k i q hi)
        · have : i = k := by omega
          subst this; exact h1
      have hdn : ∀ y ∈ l.take k, LtL y x := fun y hy => by
        obtain ⟨i, hi, hik, rfl⟩ := mem_take_iff.1 hy
        exact hb i hik hi
      refine .ret ⟨?_, fun y => ?_, by simp; omega⟩
      · rw [List.append_assoc]
        refine List.pairwise_append.2 ⟨ha.sublist (List.take_sublist _ _), ?_, fun y hy z hz => ?_⟩
        · exact List.pairwise_cons.2 ⟨hup, ha.sublist (List.drop_sublist _ _)⟩
        · rcases List.mem_cons.1 hz with e | hz
          · rw [e]; exact hdn y hy
          · exact ltL_trans (hdn y hy) (hup z hz)
      · rw [List.mem_append, List.mem_append, List.mem_singleton]
        constructor
        · rintro ((h | h) | h)
          · exact .inr (List.mem_of_mem_take h)
          · exact .inl h
          · exact .inr (List.mem_of_mem_drop h)
        · rintro (h | h)
          · exact .inl (.inr h)
          · rw [← List.take_append_drop k l] at h
            rcases List.mem_append.1 h with h | h
            · exact .inl (.inl h)
            · exact .inr h
    rw [joinM_eq]
    refine T.cond (fun c => ?_) fun c => build fun h => absurd (of_decide_eq_false c) (by omega)
    have hk2 : k < l.length := by have := of_decide_eq_true c; omega
    rw [idxM_nat hk2, some_bind]
    refine T.cond (fun c2 => ?_) fun c2 => build fun _ => of_decide_eq_false c2
    have e := of_decide_eq_true c2
    refine .ret ⟨ha, fun y => ⟨.inr, fun h => h.elim (fun h => h ▸ e ▸ List.getElem_mem hk2) id⟩, by omega⟩
theorem rNormal_plain {l : List Li} (hl : l.length ≤ 100000) : T (ref01_Normal_m l) (Nf l) := by
  unfold ref01_Normal_m
  refine T.bind (P := Nf l) ?_ fun q hq => .ret hq
  refine T.loopK l.length (fun k s => k ≤ l.length ∧ s.2 = (k : Int) ∧ AscL s.1 ∧ (∀ x, x ∈ s.1 ↔ x ∈ l.take k) ∧ s.1.length ≤ k) ⟨by omega, rfl, .nil, by simp, by simp⟩ ?_
  rintro k ⟨s, _⟩ ⟨hk, rfl, ha, hm, hsl⟩
  dsimp only at ha hm hsl
  dsimp only [ref01_Normal_l1]
  refine T.cond (fun c => ?_) fun c => ?_
  · have hk2 : k < l.length := by have := of_decide_eq_true c; omega
    rw [idxM_nat hk2, some_bind]
    refine T.bind (Insert_plain (by omega) ha) fun r hr => ?_
    rw [letM_eq, iadd1 (by omega)]
    refine .ret ⟨hk2, hk2, rfl, hr.1, fun x => ?_, by have := hr.2.2; simp only; omega⟩
    rw [hr.2.1, hm, List.take_add_one, List.getElem?_eq_getElem hk2, List.mem_append]
    simp [or_comm]
  · have e : k = l.length := by have := of_decide_eq_false c; omega
    subst e
    rw [List.take_length] at hm
    exact .ret ⟨ha, hm, hsl⟩
theorem rHas_eq {l : List Li} {x : Li} (hl : l.length ≤ 1000000) : ref01_Has_m l x = some (decide (x ∈ l)) := by
  unfold ref01_Has_m
  rw [any_bind (p := fun t => decide (t = x)) (l := l)]
  · congr 1
    rw [Bool.eq_iff_iff, List.any_eq_true, decide_eq_true_iff]
    exact ⟨fun ⟨t, ht, e⟩ => of_decide_eq_true e ▸ ht, fun h => ⟨x, h, decide_eq_true rfl⟩⟩
  · intro i hi
    dsimp only [ref01_Has_l1]
    rw [decide_eq_true (by omega), cond_true, idxM_nat hi, some_bind, iadd1 (by omega)]
    cases decide (l[i] = x) <;> rfl
  · dsimp only [ref01_Has_l1]
    rw [decide_eq_false (by omega)]; rfl
theorem rall_eq {l s : List Li} (hl : l.length ≤ 1000000) (hs : s.length ≤ 1000000) : ref06_all_m l s = some (s.all fun x => decide (x ∈ l)) := by
  unfold ref06_all_m
  exact all_eq (g := fun x => ref01_Has_m l x) hs (fun x _ => rHas_eq hl) (by funext k; rfl)
theorem rSame_refl {l : List Li} (hl : l.length ≤ 1000000) : ref01_Same_m l l = some true := by
  unfold ref01_Same_m
  rw [bne_self_eq_false, cond_false]
  refine T.eq (T.bind (P := fun o => o = Sum.inr ()) ?_ fun o ho => by subst ho; exact .ret rfl)
  refine T.loopK l.length (fun k s => k ≤ l.length ∧ s = (k : Int)) ⟨by omega, rfl⟩ ?_
  rintro k _ ⟨hk, rfl⟩
  dsimp only [ref01_Same_l1]
  refine T.cond (fun c => ?_) fun c => .ret rfl
  have hk2 : k < l.length := by have := of_decide_eq_true c; omega
  rw [idxM_nat hk2, some_bind, some_bind, decide_eq_true rfl, Bool.not_true, cond_false, iadd1 (by omega)]
  exact .ret ⟨hk2, hk2, rfl⟩

/-! the loop -/
def missR (b : T_api_Base) (o : List Li) : Nat := (b.Rules.filter fun r => r.Strict && decide (r.Head ∉ o)).length
structure RI (b : T_api_Base) (l o : List Li) : Prop where
  asc : AscL o
  sub : ∀ x ∈ o, Cl b l x
  sup : ∀ x ∈ l, x ∈ o
  len : o.length + missR b o ≤ l.length + b.Rules.length
section
variable {b : T_api_Base} {l : List Li}
theorem rpass_plain (hL : l.length + b.Rules.length ≤ 100000) (hB : ∀ r ∈ b.Rules, r.Body.length ≤ 1000000) {o0 : List Li} (h0 : RI b l o0) :
    T (loopC (ref06_Closure_l2 b) (o0, false, 0)) fun q => RI b l q.1 ∧ (q.2 = true → missR b q.1 < missR b o0) ∧ (q.2 = false → q.1 = o0 ∧ ClosedS b (· ∈ q.1)) := by
  refine T.loopK b.Rules.length (fun k s => k ≤ b.Rules.length ∧ s.2.2 = (k : Int) ∧ RI b l s.1 ∧ (s.2.1 = true → missR b s.1 < missR b o0) ∧ (s.2.1 = false → s.1 = o0 ∧ ∀ j, j < k → ∀ (hj : j < b.Rules.length), b.Rules[j].Strict = true → (∀ y ∈ b.Rules[j].Body, y ∈ o0) → b.Rules[j].Head ∈ o0))
    ⟨by omega, rfl, h0, fun e => by simp at e, fun _ => ⟨rfl, by omega⟩⟩ ?_
  rintro k ⟨d, m, _⟩ ⟨hk, rfl, hI, h1, h2⟩
  dsimp only at hI h1 h2
  dsimp only [ref06_Closure_l2]
  refine T.cond (fun c => ?_) fun c => ?_
  · have hk2 : k < b.Rules.length := by have := of_decide_eq_true c; omega
    have hmem := List.getElem_mem hk2
    have hbl := hB _ hmem
    have hdl : d.length ≤ 100000 := by have := hI.len; omega
    rw [idxM_nat hk2, some_bind]
    refine T.joinP (fun j => (j = true → b.Rules[k].Strict = true ∧ b.Rules[k].Head ∉ d ∧ ∀ y ∈ b.Rules[k].Body, y ∈ d) ∧ (j = false → b.Rules[k].Strict = true → (∀ y ∈ b.Rules[k].Body, y ∈ d) → b.Rules[k].Head ∈ d)) (fun j hj => ?_) fun kk hkk => ?_
    · refine T.cond (fun e => ?_) fun e => ?_
      · obtain ⟨a1, a2, a3⟩ := hj.1 e
        refine T.bind (Insert_plain (by omega) hI.asc) fun r hr => ?_
        rw [letM_eq, iadd1 (by omega)]
        have hlt : missR b r < missR b d := by
          refine filter_lt' (fun q hq h1 => ?_) ⟨b.Rules[k], hmem, by rw [a1]; simpa using a2, by simp [hr.2.1]⟩
          rw [Bool.and_eq_true, decide_eq_true_iff] at h1 ⊢
          exact ⟨h1.1, fun h2 => h1.2 ((hr.2.1 _).2 (.inr h2))⟩
        refine .ret ⟨hk2, hk2, rfl, ⟨hr.1, fun x hx => ?_, fun x hx => (hr.2.1 x).2 (.inr (hI.sup x hx)), ?_⟩, fun _ => ?_, fun e => by simp at e⟩
        · rcases (hr.2.1 x).1 hx with e | hx
          · rw [e]; exact .rule hmem a1 fun y hy => hI.sub y (a3 y hy)
          · exact hI.sub x hx
        · have := hr.2.2; have := hI.len; simp only; omega
        · show missR b r < missR b o0
          cases m with
          | true => have := h1 rfl; omega
          | false => rw [← (h2 rfl).1]; exact hlt
      · rw [letM_eq, iadd1 (by omega)]
        refine .ret ⟨hk2, hk2, rfl, hI, h1, fun em => ?_⟩
        obtain ⟨q1, q2⟩ := h2 em
        refine ⟨q1, fun j hj' hjl hs hb => ?_⟩
        rcases Nat.lt_or_ge j k with q | q
        · exact q2 j q hjl hs hb
        · have : j = k := by omega
          subst this
          have := hj.2 e hs
          rw [show d = o0 from q1] at this
          exact this hb
    · refine T.cond (fun e => ?_) fun e => hkk _ ⟨fun x => (by cases x), fun _ hs => by rw [e] at hs; cases hs⟩
      rw [rall_eq (by omega) hbl, some_bind]
      refine T.cond (fun e2 => ?_) fun e2 => hkk _ ⟨fun x => (by cases x), fun _ _ hb => ?_⟩
      · have e2 := List.all_eq_true.1 e2
        rw [rHas_eq (by omega), some_bind]
        refine hkk _ ⟨fun e3 => ⟨e, by simpa using e3, fun y hy => of_decide_eq_true (e2 y hy)⟩, fun e3 _ _ => by simpa using e3⟩
      · have : (b.Rules[k].Body.all fun x => decide (x ∈ d)) = true := List.all_eq_true.2 fun y hy => decide_eq_true (hb y hy)
        rw [this] at e2; cases e2
  · have e : k = b.Rules.length := by have := of_decide_eq_false c; omega
    subst e
    refine .ret ⟨hI, h1, fun em => ⟨(h2 em).1, fun r hr hs hb => ?_⟩⟩
    obtain ⟨q1, q2⟩ := h2 em
    obtain ⟨j, hj, rfl⟩ := List.getElem_of_mem hr
    dsimp only at q1 hb ⊢
    rw [q1] at hb ⊢
    exact q2 j hj hj hs hb
theorem rClosure_plain (hL : l.length + b.Rules.length ≤ 100000) (hB : ∀ r ∈ b.Rules, r.Body.length ≤ 100000) :
    T (ref06_Closure_m b l) fun r => AscL r ∧ (∀ x, x ∈ r ↔ Cl b l x) ∧ r.length ≤ l.length + b.Rules.length := by
  unfold ref06_Closure_m
  refine T.bind (rNormal_plain (by omega)) fun o hN => ?_
  have h0 : RI b l o := ⟨hN.asc, fun x hx => .base ((hN.mem x).1 hx), fun x hx => (hN.mem x).2 hx, by
    have := hN.len
    have : missR b o ≤ b.Rules.length := List.length_filter_le _ _
    omega⟩
  refine T.bind (P := fun d => RI b l d ∧ ClosedS b (· ∈ d)) ?_ fun d hd => .ret ⟨hd.1.asc, fun x => ⟨hd.1.sub x, fun h => h.least hd.1.sup hd.2⟩, by have := hd.1.len; omega⟩
  refine T.loopM (fun s => RI b l s.1 ∧ (s.2 = false → ClosedS b (· ∈ s.1))) (fun s => 2 * missR b s.1 + (bif s.2 then 1 else 0)) ⟨h0, fun e => by simp at e⟩ ?_
  rintro ⟨d, m⟩ ⟨hI, hc⟩
  dsimp only [ref06_Closure_l1] at hI hc ⊢
  refine T.cond (fun e => ?_) fun e => .ret ⟨hI, hc e⟩
  refine T.bind (rpass_plain hL (fun r hr => Nat.le_trans (hB r hr) (by omega)) hI) ?_
  rintro ⟨d2, m2⟩ ⟨q1, q2, q3⟩
  refine .ret ⟨⟨q1, fun e => (q3 e).2⟩, ?_⟩
  dsimp only at q2 ⊢
  rw [e]
  cases m2 with
  | true => have := q2 rfl; simp; omega
  | false =>
    have e2 : d2 = d := (q3 rfl).1
    rw [e2]; simp
end
end Go.Dc
