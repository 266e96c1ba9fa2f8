/- Part P38F.LawF of a proof: lemmas. -/
import Derived.Test.YtcpkdjlfgfikcaaDoorP38FForce
import Derived.Test.YtcpkdjlfgfikcaaDoorP38FAwake
set_option linter.unusedVariables false
set_option linter.unusedSimpArgs false
set_option linter.unusedSectionVars false
/-! The law PrecedentForces. -/
namespace Go.Dc
variable {l : T_api_Library} {f : List ByteArray} {c : T_api_Case}

theorem Distinguish_plain (h : LibOk l) (hf : f.Sublist all6) {k : Nat} (hk : k < l.Cases.length) : T (precedent_Distinguish_m l (k : Int) f) fun r => r.2 = 0 ∧ ((r.1.length : Int) == 0) = hitS l f l.Cases[k] := by
  have hlen := h.len
  have hfl := sub_len hf
  have ok := h.ok k hk
  have hcf := sub_len ok.facts
  have ho := ownF_len (l := l) (f := l.Cases[k].Facts) (w := l.Cases[k].Winner)
  have hcc := ownF_len (l := l) (f := f) (w := 3 - l.Cases[k].Winner)
  unfold precedent_Distinguish_m
  rw [Validate_plain h, some_bind, show ((0 : Int) != 0) = false from rfl, cond_false, decide_eq_false (by omega), cond_false, decide_eq_false (by omega), cond_false, known_plain h hf, some_bind, show ((0 : Int) != 0) = false from rfl, cond_false,
    idxM_nat hk, some_bind, own_eq ok.win (by rw [h.sdlen]; omega) (by omega), some_bind]
  generalize hO : ownF l l.Cases[k].Facts l.Cases[k].Winner = O at ho
  have hg : ∀ x ∈ O, precedent_Distinguish_1_m x f = some (memB x f) := fun x _ => by
    unfold precedent_Distinguish_1_m
    rw [Contains_eq (by omega), some_bind]
  have hix : slices_IndexFunc_string_string_4_m O f = _ := ix_eq (g := fun x => precedent_Distinguish_1_m x f) (p := fun x => memB x f) (by omega) hg (F := slices_IndexFunc_string_string_4_l1 O f) (by funext k; rfl)
  have hdf := df_eq (z := ByteArray.empty) (by omega) hg hix (F := slices_DeleteFunc_string_string_1_l1 f) (by funext st; rfl)
  unfold slices_DeleteFunc_string_string_1_m
  rw [hdf, some_bind, counter_eq ok.win (by rw [h.sdlen]; omega) (by omega), some_bind]
  generalize hC : ownF l f (3 - l.Cases[k].Winner) = C at hcc
  have hof : (O.filter fun x => !memB x f).length ≤ O.length := List.length_filter_le _ _
  refine T.bind (P := fun q => q = (O.filter fun x => !memB x f) ++ C.filter fun x => !memB x l.Cases[k].Facts) ?_ fun q hq => ?_
  · refine T.loopK C.length (fun j s => j ≤ C.length ∧ s.1 = (j : Int) ∧ s.2 = (O.filter fun x => !memB x f) ++ (C.take j).filter fun x => !memB x l.Cases[k].Facts) ⟨by omega, rfl, by simp⟩ ?_
    rintro j ⟨_, out⟩ ⟨hj, rfl, ho'⟩
    dsimp only [precedent_Distinguish_l1] at ho' ⊢
    refine T.cond (fun c1 => ?_) fun c1 => ?_
    · have hj2 : j < C.length := by have := of_decide_eq_true c1; omega
      have htk : ∀ p : ByteArray → Bool, (C.take (j + 1)).filter p = (C.take j).filter p ++ (if p C[j] then [C[j]] else []) := fun p => by
        rw [List.take_add_one, List.getElem?_eq_getElem hj2, List.filter_append]
        congr 1; simp [List.filter_cons]
      have hol : out.length ≤ 12 := by
        rw [ho', List.length_append]
        have : ((C.take j).filter fun x => !memB x l.Cases[k].Facts).length ≤ 6 := Nat.le_trans (List.length_filter_le _ _) (by rw [List.length_take]; omega)
        omega
      rw [idxM_nat hj2, some_bind, Contains_eq (by omega), some_bind, iadd1 (by omega)]
      refine T.cond (fun c2 => ?_) fun c2 => .ret ⟨hj2, hj2, rfl, by simp only; rw [htk, ho', c2]; simp⟩
      rw [appM_eq (by simp; omega), some_bind]
      exact .ret ⟨hj2, hj2, rfl, by simp only; rw [htk, ho', c2]; simp⟩
    · have e : j = C.length := by have := of_decide_eq_false c1; omega
      subst e
      rw [List.take_length] at ho'
      exact .ret ho'
  · have hql : q.length ≤ 100 := by
      rw [hq, List.length_append]
      have : (C.filter fun x => !memB x l.Cases[k].Facts).length ≤ C.length := List.length_filter_le _ _
      omega
    unfold sortedSM
    rw [if_pos (by omega), some_bind]
    refine .ret ⟨rfl, ?_⟩
    simp only
    rw [sortS_len, Bool.eq_iff_iff, hitS_iff]
    have e1 : ((q.length : Int) == 0) = true ↔ q = [] := by
      rw [beq_iff_eq]
      constructor
      · intro e; exact List.eq_nil_of_length_eq_zero (by omega)
      · rintro rfl; rfl
    rw [e1, hq, List.append_eq_nil_iff, List.filter_eq_nil_iff, List.filter_eq_nil_iff, ← hO, ← hC]
    simp only [mem_ownF, Bool.not_eq_true', Bool.not_eq_false, memB_iff, and_imp]

theorem forces_own {k : Nat} (ok : CaseOk k c) : hitS l c.Facts c = true := by
  rw [hitS_iff]
  exact ⟨fun x hx _ => hx, fun x hx _ => hx⟩
theorem strong_reason {k : Nat} (h : LibOk l) (ok : CaseOk k c) (hs : hitS l f c = true) : hitR l f c = true := by
  rw [hitS_iff] at hs
  rw [hitR_iff]
  exact ⟨fun x hx => hs.1 x (ok.own x hx).1 (by rw [h.sdl]; exact (ok.own x hx).2), hs.2⟩

theorem law38_PrecedentForces_plain (l : List Int) {p0 : Prop} (_ : p0) : law38_PrecedentForces_m l = some true := by
  refine T.eq ?_
  unfold law38_PrecedentForces_m
  refine T.bind New_plain fun s hs => ?_
  refine T.bind (library_plain hs (m := 5) (by omega) (by omega)) ?_
  rintro ⟨lib, s1⟩ ⟨hL, hs1⟩
  refine T.bind (facts_plain hs1) ?_
  rintro ⟨f, s2⟩ ⟨hs2, hf⟩
  dsimp only at hL hs2 hf ⊢
  have hlen := hL.len
  rw [Strong_plain hL hf, some_bind, Reasons_plain hL hf, some_bind]
  simp only [show ((0 : Int) != 0) = false from rfl, cond_false]
  rw [picks_inside (by omega) fun c hc h => by
    obtain ⟨k, _, ok⟩ := hL.mem hc
    exact w1_iff.2 ⟨strong_reason hL ok (w1_iff.1 h).1, (w1_iff.1 h).2⟩, some_bind, Bool.not_true, cond_false]
  rw [picks_inside (by omega) fun c hc h => by
    obtain ⟨k, _, ok⟩ := hL.mem hc
    exact w2_iff.2 ⟨strong_reason hL ok (w2_iff.1 h).1, (w2_iff.1 h).2⟩, some_bind, Bool.not_true, cond_false]
  refine T.bind (P := fun o => o = Sum.inr ()) ?_ fun o ho => by subst ho; rw [sumK_inr, awake_plain, some_bind]; exact .ret rfl
  refine T.loopK lib.Cases.length (fun k s => k ≤ lib.Cases.length ∧ s = (k : Int)) ⟨by omega, rfl⟩ ?_
  rintro k _ ⟨hk, rfl⟩
  dsimp only [law38_PrecedentForces_l1]
  refine T.cond (fun g => ?_) fun g => .ret rfl
  have hk2 : k < lib.Cases.length := by have := of_decide_eq_true g; omega
  have ok := hL.ok k hk2
  have q1 := picks_len (q := w1 (hitS lib f)) (C := lib.Cases) (k := lib.Cases.length)
  have q2 := picks_len (q := w2 (hitS lib f)) (C := lib.Cases) (k := lib.Cases.length)
  have q3 := picks_len (q := w1 (hitS lib lib.Cases[k].Facts)) (C := lib.Cases) (k := lib.Cases.length)
  have q4 := picks_len (q := w2 (hitS lib lib.Cases[k].Facts)) (C := lib.Cases) (k := lib.Cases.length)
  rw [idxM_nat hk2, some_bind]
  refine T.bind (Distinguish_plain hL hf hk2) ?_
  rintro ⟨d, e⟩ ⟨rfl, hd⟩
  dsimp only at hd ⊢
  rw [Strong_plain hL ok.facts, some_bind]
  simp only [show ((0 : Int) != 0) = false from rfl, cond_false]
  rw [kIn_eq (by omega), some_bind, kIn_eq (by omega), some_bind, mem_picks_nat hk2, mem_picks_nat hk2, iadd1 (by omega)]
  have own : hitS lib lib.Cases[k].Facts lib.Cases[k] = true := forces_own ok
  refine T.joinP (fun j => j.1 = hitS lib f lib.Cases[k] ∧ j.2 = true) (fun j hj => ?_) fun kk hkk => ?_
  · rw [hj.1, hj.2, hd]
    simp only [beq_self_eq_true, Bool.not_true, cond_false, letM_eq]
    exact .ret ⟨hk2, hk2, rfl⟩
  · refine T.cond (fun c1 => ?_) fun c1 => ?_
    · have hw : lib.Cases[k].Winner = 2 := eq_of_beq c1
      rw [kIn_eq (by omega), some_bind, kIn_eq (by omega), some_bind, mem_picks_nat hk2, mem_picks_nat hk2]
      refine hkk _ ⟨?_, ?_⟩
      · simp only [w2, hw]; simp
      · simp only [w2, hw, own]; simp
    · have hw : lib.Cases[k].Winner = 1 := by
        rcases ok.win with h | h
        · exact h
        · rw [h] at c1; cases c1
      refine hkk _ ⟨?_, ?_⟩
      · simp only [w1, hw]; simp
      · simp only [w1, hw, own]; simp
end Go.Dc
