/- Part P38C.LawC of a proof: lemmas. -/
import Derived.Test.YtcpkdjlfgfikcaaDoorP38CForce
import Derived.Test.YtcpkdjlfgfikcaaDoorP38CAwake
set_option linter.unusedVariables false
set_option linter.unusedSimpArgs false
set_option linter.unusedSectionVars false
/-! The law PrecedentConsistent. -/
namespace Go.Dc
variable {l : T_api_Library} {f : List ByteArray}

/-- two cases that contradict each other -/
def cfl (a b : T_api_Case) : Bool := (a.Winner == 1) && ((b.Winner == 2) && ((a.Reason.all fun x => memB x b.Facts) && b.Reason.all fun x => memB x a.Facts))
def cflB (l : T_api_Library) : Bool := l.Cases.any fun a => l.Cases.any fun b => cfl a b

theorem any_false_take {C : List T_api_Case} {p : T_api_Case → Bool} (h : ∀ i, i < C.length → ∀ hi : i < C.length, p C[i] = false) : C.any p = false := by
  rw [List.any_eq_false]
  intro x hx
  obtain ⟨i, hi, rfl⟩ := List.getElem_of_mem hx
  rw [h i hi hi]; simp
theorem Conflict_l2_plain (h : LibOk l) {i : Int} {a : T_api_Case} (ha : a ∈ l.Cases) : T (loopC (precedent_Conflict_l2 l i a) 0) fun o => match o with | .inl r => r.2.2 = true ∧ l.Cases.any (cfl a) = true | .inr _ => l.Cases.any (cfl a) = false := by
  have hlen := h.len
  obtain ⟨ka, _, oka⟩ := h.mem ha
  have l1 := sub_len oka.facts; have l2 := sub_len oka.reason
  refine T.loopK l.Cases.length (fun k s => k ≤ l.Cases.length ∧ s = (k : Int) ∧ ∀ i, i < k → ∀ hi : i < l.Cases.length, cfl a l.Cases[i] = false) ⟨by omega, rfl, by omega⟩ ?_
  rintro k _ ⟨hk, rfl, hn⟩
  dsimp only [precedent_Conflict_l2]
  refine T.cond (fun g => ?_) fun g => ?_
  · have hk2 : k < l.Cases.length := by have := of_decide_eq_true g; omega
    have ok := h.ok k hk2
    have l3 := sub_len ok.facts; have l4 := sub_len ok.reason
    rw [idxM_nat hk2, some_bind, iadd1 (by omega)]
    refine T.joinP (fun j => j = cfl a l.Cases[k]) (fun j hj => ?_) fun kk hkk => ?_
    · refine T.cond (fun c => .ret ⟨rfl, List.any_eq_true.2 ⟨_, List.getElem_mem hk2, by rw [← hj]; exact c⟩⟩) fun c => .ret ⟨hk2, hk2, rfl, fun i hi h2 => ?_⟩
      rcases Nat.lt_or_ge i k with h3 | h3
      · exact hn i h3 h2
      · have : i = k := by omega
        subst this; rw [← hj]; exact c
    · unfold cfl at hkk
      refine T.cond (fun c1 => T.cond (fun c2 => ?_) fun c2 => hkk _ (by rw [c1, c2]; rfl)) fun c1 => hkk _ (by rw [c1]; rfl)
      rw [within_eq (by omega) (by omega), some_bind]
      refine T.cond (fun c3 => ?_) fun c3 => hkk _ (by rw [c1, c2, c3]; rfl)
      rw [within_eq (by omega) (by omega), some_bind]
      exact hkk _ (by rw [c1, c2, c3]; rfl)
  · have hk2 : k = l.Cases.length := by have := of_decide_eq_false g; omega
    exact .ret (any_false_take fun i hi h2 => hn i (by omega) h2)
theorem Conflict_plain (h : LibOk l) : T (precedent_Conflict_m l) fun r => r.2.2 = cflB l := by
  have hlen := h.len
  unfold precedent_Conflict_m
  rw [Validate_plain h, some_bind, show ((0 : Int) != 0) = false from rfl, cond_false]
  refine T.bind (P := fun o => match o with | .inl r => r.2.2 = true ∧ cflB l = true | .inr _ => cflB l = false) ?_ fun o ho => ?_
  · refine T.loopK l.Cases.length (fun k s => k ≤ l.Cases.length ∧ s = (k : Int) ∧ ∀ i, i < k → ∀ hi : i < l.Cases.length, l.Cases.any (cfl l.Cases[i]) = false) ⟨by omega, rfl, by omega⟩ ?_
    rintro k _ ⟨hk, rfl, hn⟩
    dsimp only [precedent_Conflict_l1]
    refine T.cond (fun g => ?_) fun g => ?_
    · have hk2 : k < l.Cases.length := by have := of_decide_eq_true g; omega
      rw [idxM_nat hk2, some_bind, iadd1 (by omega)]
      refine T.bind (Conflict_l2_plain h (List.getElem_mem hk2)) fun o ho => ?_
      rcases o with r | u
      · exact .ret ⟨ho.1, List.any_eq_true.2 ⟨_, List.getElem_mem hk2, ho.2⟩⟩
      · refine .ret ⟨hk2, hk2, rfl, fun i hi h2 => ?_⟩
        rcases Nat.lt_or_ge i k with h3 | h3
        · exact hn i h3 h2
        · have : i = k := by omega
          subst this; exact ho
    · have hk2 : k = l.Cases.length := by have := of_decide_eq_false g; omega
      exact .ret (any_false_take fun i hi h2 => hn i (by omega) h2)
  · rcases o with r | u
    · exact .ret (by rw [ho.1, ho.2])
    · exact .ret (show false = cflB l from (show cflB l = false from ho).symm)

/-- the situation of a number -/
def fb (k : Nat) : List ByteArray := ((List.range 6).filter fun i => k / 2 ^ i % 2 == 1).map fun i => all6.getD i ByteArray.empty
theorem fb_sub : ∀ k, k < 64 → (fb k).Sublist all6 := by decide +kernel
theorem fb_loop : ∀ b : Bool, ∀ k : Nat, k < 64 → loopF 20 (law38_PrecedentConsistent_l2 (b, (k : Int))) (0, []) = some (fb k) := by decide +kernel
def cd (p : ByteArray → Bool) : Nat := (p (ByteArray.mk #[97])).toNat + 2 * (p (ByteArray.mk #[98])).toNat + 4 * (p (ByteArray.mk #[99])).toNat + 8 * (p (ByteArray.mk #[120])).toNat + 16 * (p (ByteArray.mk #[121])).toNat + 32 * (p (ByteArray.mk #[122])).toNat
theorem fb_cd (p : ByteArray → Bool) : cd p < 64 ∧ fb (cd p) = all6.filter p := by
  unfold cd
  simp only [all6, List.filter_cons, List.filter_nil]
  cases p (ByteArray.mk #[97]) <;> cases p (ByteArray.mk #[98]) <;> cases p (ByteArray.mk #[99]) <;> cases p (ByteArray.mk #[120]) <;> cases p (ByteArray.mk #[121]) <;> cases p (ByteArray.mk #[122]) <;> exact ⟨by decide, by decide +kernel⟩

def bothB (l : T_api_Library) (f : List ByteArray) : Bool := l.Cases.any (w1 (hitR l f)) && l.Cases.any (w2 (hitR l f))
theorem both_cfl (h : LibOk l) (hb : bothB l f = true) : cflB l = true := by
  unfold bothB at hb
  rw [Bool.and_eq_true, List.any_eq_true, List.any_eq_true] at hb
  obtain ⟨⟨a, ha, qa⟩, b, hb, qb⟩ := hb
  obtain ⟨ka, _, oka⟩ := h.mem ha
  obtain ⟨kb, _, okb⟩ := h.mem hb
  rw [w1_iff, hitR_iff] at qa
  rw [w2_iff, hitR_iff] at qb
  obtain ⟨⟨a1, a2⟩, wa⟩ := qa
  obtain ⟨⟨b1, b2⟩, wb⟩ := qb
  have wb : b.Winner = 2 := by have := okb.win; omega
  unfold cflB
  refine List.any_eq_true.2 ⟨a, ha, List.any_eq_true.2 ⟨b, hb, ?_⟩⟩
  unfold cfl
  rw [wa, wb]
  simp only [beq_self_eq_true, Bool.true_and, Bool.and_eq_true, List.all_eq_true, memB_iff]
  refine ⟨fun x hx => b2 x (a1 x hx) ?_, fun x hx => a2 x (b1 x hx) ?_⟩
  · rw [wb, h.sdl]; have := (oka.own x hx).2; rw [wa] at this; exact this
  · rw [wa, h.sdl]; have := (okb.own x hx).2; rw [wb] at this; exact this
theorem cfl_both (h : LibOk l) (hc : cflB l = true) : ∃ k, k < 64 ∧ bothB l (fb k) = true := by
  unfold cflB at hc
  obtain ⟨a, ha, hc⟩ := List.any_eq_true.1 hc
  obtain ⟨b, hb, hc⟩ := List.any_eq_true.1 hc
  obtain ⟨ka, _, oka⟩ := h.mem ha
  obtain ⟨kb, _, okb⟩ := h.mem hb
  unfold cfl at hc
  simp only [Bool.and_eq_true, beq_iff_eq, List.all_eq_true, memB_iff] at hc
  obtain ⟨wa, wb, c1, c2⟩ := hc
  obtain ⟨e1, e2⟩ := fb_cd fun x => memB x a.Reason || memB x b.Reason
  refine ⟨_, e1, ?_⟩
  rw [e2]
  have mf : ∀ x, x ∈ all6.filter (fun x => memB x a.Reason || memB x b.Reason) ↔ x ∈ all6 ∧ (x ∈ a.Reason ∨ x ∈ b.Reason) := fun x => by
    rw [List.mem_filter, Bool.or_eq_true, memB_iff, memB_iff]
  unfold bothB
  rw [Bool.and_eq_true, List.any_eq_true, List.any_eq_true]
  refine ⟨⟨a, ha, w1_iff.2 ⟨hitR_iff.2 ⟨fun x hx => (mf x).2 ⟨oka.reason.subset hx, .inl hx⟩, fun x hx hs => ?_⟩, wa⟩⟩, ⟨b, hb, w2_iff.2 ⟨hitR_iff.2 ⟨fun x hx => (mf x).2 ⟨okb.reason.subset hx, .inr hx⟩, fun x hx hs => ?_⟩, by omega⟩⟩⟩
  · rcases ((mf x).1 hx).2 with h1 | h1
    · exact absurd hs (h.sides oka.win (by rw [h.sdl]; exact (oka.own x h1).2))
    · exact c2 x h1
  · rcases ((mf x).1 hx).2 with h1 | h1
    · exact c1 x h1
    · exact absurd hs (h.sides okb.win (by rw [h.sdl]; exact (okb.own x h1).2))

theorem law38_PrecedentConsistent_plain (l : List Int) {p0 : Prop} (_ : p0) : law38_PrecedentConsistent_m l = some true := by
  refine T.eq ?_
  unfold law38_PrecedentConsistent_m
  refine T.bind New_plain fun s hs => ?_
  refine T.bind (library_plain hs (m := 4) (by omega) (by omega)) ?_
  rintro ⟨lib, s1⟩ ⟨hL, hs1⟩
  dsimp only at hL
  refine T.bind (Conflict_plain hL) fun t ht => ?_
  refine T.bind (P := fun o => o = Sum.inr ((List.range 64).any fun k => bothB lib (fb k))) ?_ fun o ho => ?_
  · refine T.loopK 64 (fun k s => k ≤ 64 ∧ s = ((List.range k).any (fun k => bothB lib (fb k)), (k : Int))) ⟨by omega, rfl⟩ ?_
    rintro k _ ⟨hk, rfl⟩
    dsimp only [law38_PrecedentConsistent_l1]
    refine T.cond (fun g => ?_) fun g => ?_
    · have hk2 : k < 64 := by have := of_decide_eq_true g; omega
      have hra : (List.range (k + 1)).any (fun k => bothB lib (fb k)) = ((List.range k).any (fun k => bothB lib (fb k)) || bothB lib (fb k)) := by rw [List.range_succ, List.any_append]; simp
      rw [show loopC (law38_PrecedentConsistent_l2 ((List.range k).any (fun k => bothB lib (fb k)), (k : Int))) (0, []) = some (fb k) from loopC_iff.2 ⟨20, fb_loop _ k hk2⟩, some_bind, Reasons_plain hL (fb_sub k hk2), some_bind]
      simp only [show ((0 : Int) != 0) = false from rfl, cond_false, letM_eq]
      rw [iadd1 (by omega), picks_pos, picks_pos]
      refine T.cond (fun c => .ret ⟨hk2, hk2, by rw [hra, c]; rfl⟩) fun c => T.cond (fun c2 => .ret ⟨hk2, hk2, ?_⟩) fun c2 => .ret ⟨hk2, hk2, ?_⟩
      · rw [hra, c]; unfold bothB; rw [c2]; rfl
      · rw [hra, c]; unfold bothB; rw [c2]; rfl
    · have e : k = 64 := by have := of_decide_eq_false g; omega
      subst e
      exact .ret rfl
  · subst ho
    rw [sumK_inr, ht]
    have : ((List.range 64).any fun k => bothB lib (fb k)) = cflB lib := by
      rw [Bool.eq_iff_iff]
      constructor
      · intro h
        obtain ⟨k, _, hk⟩ := List.any_eq_true.1 h
        exact both_cfl hL hk
      · intro h
        obtain ⟨k, hk, hb⟩ := cfl_both hL h
        exact List.any_eq_true.2 ⟨k, List.mem_range.2 hk, hb⟩
    rw [this, beq_self_eq_true, cond_true, awake_plain, some_bind]
    exact .ret rfl
end Go.Dc
