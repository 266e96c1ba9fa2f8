/- Part P38S.Made of a proof: lemmas. -/
import Derived.Test.YtcpkdjlfgfikcaaDoorP38SPrec
set_option linter.unusedVariables false
set_option linter.unusedSimpArgs false
set_option linter.unusedSectionVars false
/-! The libraries and situations that the laws make. -/
namespace Go.Dc

theorem bstr1_size {x : Int} : (bstr [x]).size = 1 := by simp [bstr]
theorem facts_plain {s : T_deliberationkeep_Src} (h : SrcOk s) : T (law38_facts_m s) fun r => SrcOk r.2 ∧ r.1.Sublist all6 := by
  unfold law38_facts_m
  refine T.bind (P := fun q => SrcOk q.1 ∧ q.2.Sublist all6) ?_ fun q hq => .ret ⟨hq.1, hq.2⟩
  refine T.loopK 6 (fun k s => k ≤ 6 ∧ s.1 = (k : Int) ∧ SrcOk s.2.1 ∧ s.2.2.Sublist (all6.take k)) ⟨by omega, rfl, h, .refl _⟩ ?_
  rintro k ⟨_, src, out⟩ ⟨hk, rfl, hs, ho⟩
  unfold law38_facts_l1
  dsimp only at hs ho ⊢
  rw [show [(ByteArray.mk #[97]), (ByteArray.mk #[98]), (ByteArray.mk #[99]), (ByteArray.mk #[120]), (ByteArray.mk #[121]), (ByteArray.mk #[122])] = all6 from rfl]
  have e6 : all6.length = 6 := rfl
  have hol := ho.length_le
  rw [List.length_take] at hol
  refine T.cond (fun c => ?_) fun c => .ret ⟨hs, ho.trans (List.take_sublist _ _)⟩
  have hk2 : k < 6 := by have := of_decide_eq_true c; omega
  have htk : all6.take (k + 1) = all6.take k ++ [all6[k]'(by omega)] := by rw [List.take_add_one, List.getElem?_eq_getElem (by omega)]; rfl
  rw [idxM_nat (show k < all6.length by omega), some_bind, iadd1 (by omega)]
  refine T.bind (N_plain hs (n := 2) (by omega)) fun t ht => ?_
  refine T.cond (fun _ => ?_) fun _ => .ret ⟨hk2, hk2, rfl, ht.1, by simp only; rw [htk]; exact ho.trans (List.sublist_append_left _ _)⟩
  rw [appM_eq (by simp; omega), some_bind]
  exact .ret ⟨hk2, hk2, rfl, ht.1, by simp only; rw [htk]; exact ho.append (.refl _)⟩

theorem Range12_plain {s : T_deliberationkeep_Src} (h : SrcOk s) : T (keep_Src_Range_m s 1 2) fun r => SrcOk r.2 ∧ (r.1 = 1 ∨ r.1 = 2) := by
  unfold keep_Src_Range_m
  rw [show iadd .i64 (isub .i64 2 1) 1 = 2 from rfl]
  refine T.bind (N_plain h (n := 2) (by omega)) ?_
  rintro ⟨v, s'⟩ ⟨hs, hv⟩
  obtain ⟨h0, h1⟩ := hv (by omega)
  dsimp only at h0 h1
  rw [letM_eq, iadd64 (by simp only; omega) (by simp only; omega)]
  exact .ret ⟨hs, by simp only; omega⟩

theorem LibOk.app {a : T_arr2_25} {L : List T_api_Case} {c : T_api_Case} (h : LibOk ⟨a, L⟩) (hc : CaseOk L.length c) (hl : L.length + 1 ≤ 6) : LibOk ⟨a, L ++ [c]⟩ := by
  refine ⟨h.s1, h.s2, by simp; omega, fun k hk => ?_⟩
  simp only [List.length_append, List.length_singleton] at hk
  simp only
  rcases Nat.lt_or_ge k L.length with h1 | h1
  · rw [List.getElem_append_left h1]; exact h.ok k h1
  · have e : k = L.length := by omega
    subst e
    simpa using hc

theorem library_plain {s : T_deliberationkeep_Src} (h : SrcOk s) {m : Int} (h0 : 0 ≤ m) (h6 : m ≤ 6) : T (law38_library_m s m) fun r => LibOk r.1 ∧ SrcOk r.2 := by
  unfold law38_library_m
  rw [show law38_sides_m = some ⟨sd1, sd2⟩ from rfl, some_bind, iadd64 (by omega) (by omega)]
  refine T.bind (N_plain h (n := m + 1) (by omega)) ?_
  rintro ⟨i, src⟩ ⟨hs, hi⟩
  obtain ⟨i0, i1⟩ := hi (by omega)
  dsimp only at i0 i1 hs
  refine T.bind (P := fun q => SrcOk q.1 ∧ LibOk ⟨⟨sd1, sd2⟩, q.2⟩) ?_ fun q hq => .ret ⟨hq.2, hq.1⟩
  refine T.loopK 6 (fun k s => s.1 = i - k ∧ (k : Int) ≤ i ∧ SrcOk s.2.1 ∧ s.2.2.length ≤ k ∧ LibOk ⟨⟨sd1, sd2⟩, s.2.2⟩) ⟨by simp, i0, hs, by simp, ⟨rfl, rfl, by simp, fun k hk => by simp at hk⟩⟩ ?_
  rintro k ⟨_, src, L⟩ ⟨rfl, hk, hs, hl, hL⟩
  dsimp only [law38_library_l1] at hs hl hL ⊢
  refine T.cond (fun c => ?_) fun c => .ret ⟨hs, hL⟩
  have hk2 : (k : Int) < i := by have := of_decide_eq_true c; omega
  have hname : sconM (ByteArray.mk #[110]) (bstr [IntKind.wrap .u8 (iadd .i64 97 (L.length : Int))]) = some (nm L.length) := by
    rw [iadd64 (by omega) (by omega)]
    unfold sconM
    rw [bstr1_size, if_neg (by decide)]; rfl
  rw [hname, some_bind, isub64 (by omega) (by omega)]
  refine T.bind (facts_plain hs) ?_
  rintro ⟨f, src1⟩ ⟨hs1, hf⟩
  refine T.bind (Range12_plain hs1) ?_
  rintro ⟨w, src2⟩ ⟨hs2, hw⟩
  dsimp only at hf hw ⊢
  have hfl := sub_len hf
  rw [rOwn_eq hw (by rw [hL.sdlen]; omega) (by omega), some_bind]
  generalize hO : ownF ⟨⟨sd1, sd2⟩, L⟩ f w = O
  have hOf : O.Sublist f := by rw [← hO]; exact List.filter_sublist
  have hOl : O.length ≤ 6 := Nat.le_trans hOf.length_le hfl
  have hOs : ∀ x ∈ O, x ∈ f ∧ x ∈ (if w = 1 then sd1 else sd2) := fun x hx => by
    rw [← hO, mem_ownF, hL.sdl] at hx; exact hx
  refine T.bind (P := fun q => SrcOk q.1 ∧ q.2.Sublist O) ?_ ?_
  · refine T.loopK O.length (fun k s => k ≤ O.length ∧ s.1 = (k : Int) ∧ SrcOk s.2.1 ∧ s.2.2.Sublist (O.take k)) ⟨by omega, rfl, hs2, .refl _⟩ ?_
    rintro j ⟨_, src3, out⟩ ⟨hj, rfl, hs3, ho⟩
    dsimp only [law38_library_l2] at hs3 ho ⊢
    have hol := ho.length_le
    rw [List.length_take] at hol
    refine T.cond (fun c => ?_) fun c => .ret ⟨hs3, ho.trans (List.take_sublist _ _)⟩
    have hj2 : j < O.length := by have := of_decide_eq_true c; omega
    have htk : O.take (j + 1) = O.take j ++ [O[j]] := by rw [List.take_add_one, List.getElem?_eq_getElem hj2]; rfl
    rw [idxM_nat hj2, some_bind, iadd1 (by omega)]
    refine T.bind (N_plain hs3 (n := 2) (by omega)) fun t ht => ?_
    refine T.cond (fun _ => ?_) fun _ => .ret ⟨hj2, hj2, rfl, ht.1, by simp only; rw [htk]; exact ho.trans (List.sublist_append_left _ _)⟩
    rw [appM_eq (by simp; omega), some_bind]
    exact .ret ⟨hj2, hj2, rfl, ht.1, by simp only; rw [htk]; exact ho.append (.refl _)⟩
  · rintro ⟨src4, R⟩ ⟨hs4, hR⟩
    dsimp only at hs4 hR ⊢
    refine T.cond (fun c => ?_) fun c => ?_
    · rw [letM_eq]
      exact .ret ⟨by omega, by simp only; omega, by omega, hs4, by simp only; omega, hL⟩
    · have hO0 : O.length ≠ 0 := fun e => by rw [e] at c; simp at c
      refine T.joinP (fun r => r.Sublist O ∧ r ≠ []) (fun r hr => ?_) fun kk hkk => ?_
      · rw [appM_eq (by simp; omega), some_bind, letM_eq]
        refine .ret ⟨by omega, by simp only; omega, by omega, hs4, by simp; omega, ?_⟩
        exact hL.app ⟨rfl, hf, hw, hr.2, (hr.1.trans hOf).trans hf, fun x hx => hOs x (hr.1.subset hx)⟩ (by omega)
      · refine T.cond (fun c2 => ?_) fun c2 => hkk _ ⟨hR, fun e => by rw [e] at c2; simp at c2⟩
        rw [slM_eq (by omega) (by omega) (by omega), some_bind]
        refine hkk _ ⟨?_, fun e => ?_⟩
        · simp only [Int.toNat_zero, List.drop_zero]; exact List.take_sublist _ _
        · simp at e
          exact hO0 (by rw [e]; rfl)
end Go.Dc
