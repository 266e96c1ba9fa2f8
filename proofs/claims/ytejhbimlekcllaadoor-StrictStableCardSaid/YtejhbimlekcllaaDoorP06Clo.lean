/- Part P06.Clo of a proof: lemmas. -/
import Derived.Test.YtejhbimlekcllaaDoorP06Cpt
import Derived.Test.YtejhbimlekcllaaDoorP06Maps
import Derived.Test.YtejhbimlekcllaaDoorP06Gen
set_option linter.unusedVariables false
set_option linter.unusedSimpArgs false
set_option linter.unusedSectionVars false
/-! What follows by strict rules. -/
namespace Go.Dc

/-- what follows from literals -/
inductive Cl (b : T_api_Base) (l : List Li) : Li → Prop
  | base {x : Li} (h : x ∈ l) : Cl b l x
  | rule {r : T_api_Rule} (h : r ∈ b.Rules) (hs : r.Strict = true) (hb : ∀ y ∈ r.Body, Cl b l y) : Cl b l r.Head
/-- closed under the strict rules -/
def ClosedS (b : T_api_Base) (S : Li → Prop) : Prop := ∀ r ∈ b.Rules, r.Strict = true → (∀ y ∈ r.Body, S y) → S r.Head
theorem Cl.least {b : T_api_Base} {l : List Li} {S : Li → Prop} (hl : ∀ x ∈ l, S x) (hc : ClosedS b S) {x : Li} (h : Cl b l x) : S x := by
  induction h with
  | base h => exact hl _ h
  | rule h hs hb ih => exact hc _ h hs ih
theorem Cl.mono {b : T_api_Base} {l l' : List Li} (hl : ∀ x ∈ l, x ∈ l') {x : Li} (h : Cl b l x) : Cl b l' x :=
  h.least (fun x hx => .base (hl x hx)) fun r hr hs hb => .rule hr hs hb

abbrev Mp := List (Li × T_anon61)
def keys (d : Mp) : List Li := d.map (·.1)
/-- strict rules whose head is not there -/
def miss (b : T_api_Base) (d : Mp) : Nat := (b.Rules.filter fun r => r.Strict && decide (r.Head ∉ keys d)).length
theorem filter_le {α : Type} {p q : α → Bool} : ∀ {l : List α}, (∀ x ∈ l, q x = true → p x = true) → (l.filter q).length ≤ (l.filter p).length
  | [], _ => by simp
  | x :: l, h => by
    have ih := filter_le (p := p) (q := q) (l := l) fun y hy => h y (List.mem_cons_of_mem _ hy)
    simp only [List.filter_cons]
    by_cases c : q x = true
    · rw [if_pos c, if_pos (h x (List.mem_cons_self ..) c)]; simp; omega
    · rw [if_neg c]; split
      · simp; omega
      · exact ih
theorem filter_lt' {α : Type} {p q : α → Bool} : ∀ {l : List α}, (∀ x ∈ l, q x = true → p x = true) → (∃ x ∈ l, p x = true ∧ q x = false) → (l.filter q).length < (l.filter p).length
  | [], _, h => by obtain ⟨x, hx, _⟩ := h; cases hx
  | y :: l, h, ⟨x, hx, h1, h2⟩ => by
    have hle := filter_le (p := p) (q := q) (l := l) fun z hz => h z (List.mem_cons_of_mem _ hz)
    simp only [List.filter_cons]
    rcases List.mem_cons.1 hx with e | hx
    · subst e
      rw [if_neg (by rw [h2]; simp), if_pos h1]; simp; omega
    · have ih := filter_lt' (p := p) (q := q) (l := l) (fun z hz => h z (List.mem_cons_of_mem _ hz)) ⟨x, hx, h1, h2⟩
      by_cases c : q y = true
      · rw [if_pos c, if_pos (h y (List.mem_cons_self ..) c)]; simp; omega
      · rw [if_neg c]; split
        · simp; omega
        · exact ih
theorem keys_put {d : Mp} {x : Li} (h : x ∉ keys d) : keys (mapPut d x ⟨⟩) = keys d ++ [x] := by
  unfold keys at *; rw [mapPut_keys, if_neg h]

section
variable {b : T_api_Base} {l : List Li}
/-- what the loop keeps -/
structure KI (b : T_api_Base) (l : List Li) (d : Mp) : Prop where
  nd : (keys d).Nodup
  sub : ∀ x ∈ keys d, Cl b l x
  sup : ∀ x ∈ l, x ∈ keys d
  len : d.length + miss b d ≤ l.length + b.Rules.length
theorem KI.put {d : Mp} (h : KI b l d) {r : T_api_Rule} (hr : r ∈ b.Rules) (hs : r.Strict = true) (hx : r.Head ∉ keys d) (hb : ∀ y ∈ r.Body, y ∈ keys d) : KI b l (mapPut d r.Head ⟨⟩) ∧ miss b (mapPut d r.Head ⟨⟩) < miss b d := by
  have hk := keys_put hx
  have hlt : miss b (mapPut d r.Head ⟨⟩) < miss b d := by
    refine filter_lt' (fun q hq h1 => ?_) ⟨r, hr, by rw [hs]; simpa using hx, by rw [hk]; simp⟩
    rw [Bool.and_eq_true, decide_eq_true_iff] at h1 ⊢
    exact ⟨h1.1, fun h2 => h1.2 (by rw [hk]; exact List.mem_append_left _ h2)⟩
  have hl : (mapPut d r.Head ⟨⟩).length = d.length + 1 := by
    have := congrArg List.length hk
    simpa [keys] using this
  refine ⟨⟨?_, fun x h1 => ?_, fun x h1 => ?_, ?_⟩, hlt⟩
  · rw [hk]; exact List.nodup_append.2 ⟨h.nd, by simp, fun x h1 y h2 e => by simp at h2; rw [h2] at e; exact hx (e ▸ h1)⟩
  · rw [hk] at h1
    rcases List.mem_append.1 h1 with h1 | h1
    · exact h.sub x h1
    · rw [List.mem_singleton.1 h1]; exact .rule hr hs fun y hy => h.sub y (hb y hy)
  · rw [hk]; exact List.mem_append_left _ (h.sup x h1)
  · have := h.len; omega

theorem lacks_eq {x : Li} {d : Mp} : strict_Closure_1_m x d = some (decide (x ∉ keys d)) := by
  unfold strict_Closure_1_m
  rw [letM_eq, mapHas_iff]
  congr 1
  unfold keys
  by_cases c : x ∈ d.map (·.1) <;> simp [c]
theorem anyLacks_eq {s : List Li} {d : Mp} (hs : s.length ≤ 1000000) : slices_ContainsFunc_api_Literal_api_Literal_m s d = some (s.any fun x => decide (x ∉ keys d)) := by
  unfold slices_ContainsFunc_api_Literal_api_Literal_m slices_IndexFunc_api_Literal_api_Literal_m
  exact cf_eq (g := fun x => strict_Closure_1_m x d) (p := fun x => decide (x ∉ keys d)) hs (fun x _ => lacks_eq) (by funext k; rfl)

/-- a pass over the rules -/
theorem pass_plain (hR : b.Rules.length ≤ 1000000) (hB : ∀ r ∈ b.Rules, r.Body.length ≤ 1000000) {d0 : Mp} (h0 : KI b l d0) :
    T (loopC (strict_Closure_l3 b) (false, 0, d0)) fun q => KI b l q.1 ∧ (q.2 = true → miss b q.1 < miss b d0) ∧ (q.2 = false → q.1 = d0 ∧ ClosedS b (· ∈ keys q.1)) := by
  refine T.loopK b.Rules.length (fun k s => k ≤ b.Rules.length ∧ s.2.1 = (k : Int) ∧ KI b l s.2.2 ∧ (s.1 = true → miss b s.2.2 < miss b d0) ∧ (s.1 = false → s.2.2 = d0 ∧ ∀ j, j < k → ∀ (hj : j < b.Rules.length), b.Rules[j].Strict = true → (∀ y ∈ b.Rules[j].Body, y ∈ keys d0) → b.Rules[j].Head ∈ keys d0))
    ⟨by omega, rfl, h0, fun e => by simp at e, fun _ => ⟨rfl, by omega⟩⟩ ?_
  rintro k ⟨m, _, d⟩ ⟨hk, rfl, hI, h1, h2⟩
  dsimp only at hI h1 h2
  dsimp only [strict_Closure_l3]
  refine T.cond (fun c => ?_) fun c => ?_
  · have hk2 : k < b.Rules.length := by have := of_decide_eq_true c; omega
    have hmem := List.getElem_mem hk2
    have hbl := hB _ hmem
    rw [idxM_nat hk2, some_bind, iadd1 (by omega)]
    refine T.joinP (fun j => (j = true → b.Rules[k].Strict = true ∧ b.Rules[k].Head ∉ keys d ∧ ∀ y ∈ b.Rules[k].Body, y ∈ keys d) ∧ (j = false → b.Rules[k].Strict = true → (∀ y ∈ b.Rules[k].Body, y ∈ keys d) → b.Rules[k].Head ∈ keys d)) (fun j hj => ?_) fun kk hkk => ?_
    · refine T.cond (fun e => ?_) fun e => ?_
      · obtain ⟨a1, a2, a3⟩ := hj.1 e
        obtain ⟨p1, p2⟩ := hI.put hmem a1 a2 a3
        refine .ret ⟨hk2, hk2, rfl, p1, fun _ => ?_, fun e => by simp at e⟩
        show miss b (mapPut d b.Rules[k].Head ⟨⟩) < miss b d0
        cases m with
        | true => have := h1 rfl; omega
        | false => rw [← (h2 rfl).1]; exact p2
      · refine .ret ⟨hk2, hk2, rfl, hI, h1, fun em => ?_⟩
        obtain ⟨q1, q2⟩ := h2 em
        refine ⟨q1, fun j hj' hjl hs hb => ?_⟩
        rcases Nat.lt_or_ge j k with q | q
        · exact q2 j q hjl hs hb
        · have : j = k := by omega
          subst this
          have := hj.2 e hs
          rw [show d = d0 from q1] at this
          exact this hb
    · refine T.cond (fun e => ?_) fun e => hkk _ ⟨fun x => (by cases x), fun _ hs => by rw [e] at hs; cases hs⟩
      rw [lacks_eq, some_bind]
      refine T.cond (fun e2 => ?_) fun e2 => hkk _ ⟨fun x => (by cases x), fun _ _ _ => by have := of_decide_eq_false e2; exact Classical.byContradiction fun h => this h⟩
      rw [anyLacks_eq hbl, some_bind]
      refine hkk _ ⟨fun e3 => ⟨e, of_decide_eq_true e2, fun y hy => ?_⟩, fun e3 _ hb => ?_⟩
      · have e3 : (b.Rules[k].Body.any fun x => decide (x ∉ keys d)) = false := by simpa using e3
        have := List.any_eq_false.1 e3 y hy
        exact Classical.byContradiction fun h => this (decide_eq_true h)
      · have e3 : (b.Rules[k].Body.any fun x => decide (x ∉ keys d)) = true := by simpa using e3
        obtain ⟨y, hy, h3⟩ := List.any_eq_true.1 e3
        exact absurd (hb y hy) (of_decide_eq_true h3)
  · have e : k = b.Rules.length := by have := of_decide_eq_false c; omega
    subst e
    refine .ret ⟨hI, h1, fun em => ⟨(h2 em).1, fun r hr hs hb => ?_⟩⟩
    obtain ⟨q1, q2⟩ := h2 em
    obtain ⟨j, hj, rfl⟩ := List.getElem_of_mem hr
    dsimp only at q1 hb ⊢
    rw [q1] at hb ⊢
    exact q2 j hj hj hs hb

theorem fold_keys {d : Mp} : ∀ {out : List Li}, out.length + d.length ≤ 3000000 → d.foldlM strict_Closure_l4 out = some (out ++ keys d) := by
  induction d with
  | nil => intro out _; simp [keys]
  | cons p d ih =>
    intro out h
    rw [List.length_cons] at h
    have e : strict_Closure_l4 out p = some (out ++ [p.1]) := by
      unfold strict_Closure_l4
      rw [appM_eq (by simp; omega), some_bind]
    simp only [List.foldlM_cons, e]
    show d.foldlM strict_Closure_l4 (out ++ [p.1]) = _
    rw [ih (by simp; omega)]
    simp [keys]

theorem Closure_plain (hl : l.length ≤ 100000) (hR : b.Rules.length ≤ 100000) (hB : ∀ r ∈ b.Rules, r.Body.length ≤ 100000) :
    T (strict_Closure_m b l) fun r => AscL r ∧ (∀ x, x ∈ r ↔ Cl b l x) ∧ r.length ≤ l.length + b.Rules.length := by
  unfold strict_Closure_m
  refine T.bind (P := fun d => KI b l d) ?_ fun d1 hd1 => ?_
  · refine T.loopK l.length (fun k s => k ≤ l.length ∧ s.1 = (k : Int) ∧ Filled s.2 (l.take k)) ⟨by omega, rfl, Filled.nil⟩ ?_
    rintro k ⟨_, s⟩ ⟨hk, rfl, hs⟩
    dsimp only [strict_Closure_l1] at hs ⊢
    refine T.cond (fun c => ?_) fun c => ?_
    · have hk2 : k < l.length := by have := of_decide_eq_true c; omega
      rw [idxM_nat hk2, some_bind, iadd1 (by omega)]
      refine .ret ⟨hk2, hk2, rfl, ?_⟩
      rw [List.take_add_one, List.getElem?_eq_getElem hk2]
      exact hs.put _ ⟨⟩
    · have e : k = l.length := by have := of_decide_eq_false c; omega
      subst e
      rw [List.take_length] at hs
      refine .ret ⟨hs.nd, fun x hx => .base ((hs.mem x).1 hx), fun x hx => (hs.mem x).2 hx, ?_⟩
      have h1 := hs.len
      have h2 : miss b s ≤ b.Rules.length := List.length_filter_le _ _
      show s.length + miss b s ≤ _
      omega
  · refine T.bind (P := fun d => KI b l d ∧ ClosedS b (· ∈ keys d)) ?_ fun d hd => ?_
    · refine T.loopM (fun s => KI b l s.2 ∧ (s.1 = false → ClosedS b (· ∈ keys s.2))) (fun s => 2 * miss b s.2 + (bif s.1 then 1 else 0)) ⟨hd1, fun e => by simp at e⟩ ?_
      rintro ⟨m, d⟩ ⟨hI, hc⟩
      dsimp only [strict_Closure_l2] at hI hc ⊢
      refine T.cond (fun e => ?_) fun e => .ret ⟨hI, hc e⟩
      refine T.bind (pass_plain (by omega) (fun r hr => Nat.le_trans (hB r hr) (by omega)) hI) ?_
      rintro ⟨d2, m2⟩ ⟨q1, q2, q3⟩
      refine .ret ⟨⟨q1, fun e => (q3 e).2⟩, ?_⟩
      dsimp only at q2 ⊢
      rw [e]
      cases m2 with
      | true => have := q2 rfl; simp; omega
      | false =>
        have hle : miss b d2 ≤ miss b d := by
          have e2 : d2 = d := (q3 rfl).1
          rw [e2]; exact Nat.le_refl _
        simp; omega
    · obtain ⟨hI, hcl⟩ := hd
      have hdl : d.length ≤ 200000 := by have := hI.len; omega
      have hkl : (keys d).length = d.length := by simp [keys]
      rw [show capM 24 (d.length : Int) = some () from if_pos ⟨by omega, by simp; omega⟩, some_bind]
      have hk : ∀ x, x ∈ keys d ↔ Cl b l x := fun x => ⟨hI.sub x, fun h => h.least hI.sup hcl⟩
      obtain ⟨r, hr, hN⟩ := Normal_plain (l := keys d) (by omega)
      have hval : ∀ d' : Mp, d'.Perm d → (d'.foldlM strict_Closure_l4 []).bind (fun q149 => Option.bind (literal_Normal_m q149) fun t150 => some t150) = some r := fun d' hp => by
        have hp' : (keys d').Perm (keys d) := hp.map _
        have hlen := hp.length_eq
        rw [fold_keys (by simp; omega), List.nil_append]
        obtain ⟨r', hr', hN'⟩ := Normal_plain (l := keys d') (by rw [hp'.length_eq]; omega)
        show (Option.bind (literal_Normal_m (keys d')) fun t150 => some t150) = some r
        rw [hr', some_bind, hN'.eq hN fun x => hp'.mem_iff]
      refine .of (a := r) ?_ ⟨hN.asc, fun x => by rw [hN.mem, hk], by have := hN.len; have := hI.len; omega⟩
      unfold rngM
      rw [if_pos fun d' hp => by rw [hval d' hp, hval d (.refl _)]]
      exact hval d (.refl _)
end
end Go.Dc
