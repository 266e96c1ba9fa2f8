/- Part P38S.Prec of a proof: lemmas. -/
import Derived.Test.YtcpkdjlfgfikcaaDoorP38SStr
import Derived.Test.YtcpkdjlfgfikcaaDoorP38SMaps
import Derived.Test.YtcpkdjlfgfikcaaDoorLAW38SF
set_option linter.unusedVariables false
set_option linter.unusedSimpArgs false
set_option linter.unusedSectionVars false
/-! Libraries: what the functions on them compute. -/
namespace Go.Dc

/-- the factors of a side -/
def sdl (l : T_api_Library) (w : Int) : List ByteArray := if w = 1 then l.Sides.i0 else l.Sides.i1
theorem sd_ix {l : T_api_Library} {w : Int} (hw : w = 1 ∨ w = 2) : idxM [l.Sides.i0, l.Sides.i1] (isub .i64 w 1) = some (sdl l w) := by
  rcases hw with rfl | rfl <;> rfl
/-- the factors of a side among some -/
def ownF (l : T_api_Library) (f : List ByteArray) (w : Int) : List ByteArray := f.filter fun x => memB x (sdl l w)
theorem mem_ownF {l : T_api_Library} {f : List ByteArray} {w : Int} {x : ByteArray} : x ∈ ownF l f w ↔ x ∈ f ∧ x ∈ sdl l w := by
  unfold ownF; rw [List.mem_filter, memB_iff]
theorem ownF_len {l : T_api_Library} {f : List ByteArray} {w : Int} : (ownF l f w).length ≤ f.length := List.length_filter_le _ _

section
variable {l : T_api_Library} {f : List ByteArray} {w : Int}
theorem own_eq (hw : w = 1 ∨ w = 2) (h1 : (sdl l w).length ≤ 1000000) (hf : f.length ≤ 1000000) : precedent_own_m l f w = some (ownF l f w) := by
  unfold precedent_own_m
  rw [Clone_eq hf, some_bind]
  have hg : ∀ x ∈ f, precedent_own_1_m x l w = some (!memB x (sdl l w)) := fun x _ => by
    unfold precedent_own_1_m
    rw [sd_ix hw, some_bind, Contains_eq h1, some_bind]
  have hix : slices_IndexFunc_string_string_m f l w = _ := ix_eq (g := fun x => precedent_own_1_m x l w) (p := fun x => !memB x (sdl l w)) hf hg (F := slices_IndexFunc_string_string_l1 f l w) (by funext k; rfl)
  have := df_eq (z := ByteArray.empty) hf hg hix (F := slices_DeleteFunc_string_string_l1 l w) (by funext st; rfl)
  unfold slices_DeleteFunc_string_string_m
  rw [this, some_bind]
  unfold ownF
  congr 2
  funext x; simp
theorem rOwn_eq (hw : w = 1 ∨ w = 2) (h1 : (sdl l w).length ≤ 1000000) (hf : f.length ≤ 1000000) : ref38_Own_m l f w = some (ownF l f w) := by
  unfold ref38_Own_m
  refine T.eq (T.bind (P := fun q => q = ownF l f w) ?_ fun q hq => .ret hq)
  refine T.loopK f.length (fun k s => k ≤ f.length ∧ s.1 = (k : Int) ∧ s.2 = (f.take k).filter fun x => memB x (sdl l w)) ⟨by omega, rfl, by simp⟩ ?_
  rintro k ⟨_, s⟩ ⟨hk, rfl, hs⟩
  dsimp only [ref38_Own_l1] at hs ⊢
  refine T.cond (fun c => ?_) fun c => ?_
  · have hk2 : k < f.length := by have := of_decide_eq_true c; omega
    have hsl : s.length ≤ k := by rw [hs]; exact Nat.le_trans (List.length_filter_le _ _) (by rw [List.length_take]; omega)
    have htk : (f.take (k + 1)).filter (fun x => memB x (sdl l w)) = (f.take k).filter (fun x => memB x (sdl l w)) ++ (if memB f[k] (sdl l w) then [f[k]] else []) := by
      rw [List.take_add_one, List.getElem?_eq_getElem hk2, List.filter_append]
      congr 1; simp [List.filter_cons]
    rw [sd_ix hw, some_bind, idxM_nat hk2, some_bind, rIn_eq h1, some_bind, iadd1 (by omega)]
    refine T.cond (fun c2 => ?_) fun c2 => .ret ⟨hk2, hk2, rfl, by simp only; rw [htk, hs, c2]; simp⟩
    rw [some_bind, appM_eq (by simp; omega), some_bind, letM_eq]
    exact .ret ⟨hk2, hk2, rfl, by simp only; rw [htk, hs, c2]; simp⟩
  · have e : k = f.length := by have := of_decide_eq_false c; omega
    subst e
    rw [List.take_length] at hs
    exact .ret hs
theorem counter_eq (hw : w = 1 ∨ w = 2) (h1 : (sdl l (3 - w)).length ≤ 1000000) (hf : f.length ≤ 1000000) : precedent_counter_m l f w = some (ownF l f (3 - w)) := by
  unfold precedent_counter_m
  rw [isub64 (by omega) (by omega), own_eq (by omega) h1 hf]; rfl

/-- strictly ascending texts -/
def RiseP (f : List ByteArray) : Prop := f.Pairwise fun a b => Op.bytesLess a.toList b.toList = true
theorem rising_eq (hf : f.length ≤ 1000000) (h : RiseP f) : precedent_rising_m f = some true := by
  unfold precedent_rising_m
  refine T.eq (T.bind (P := fun o => o = Sum.inr ()) ?_ fun o ho => by subst ho; exact .ret rfl)
  refine T.loopK f.length (fun k s => s = ((k + 1 : Nat) : Int)) rfl ?_
  rintro k _ rfl
  dsimp only [precedent_rising_l1]
  refine T.cond (fun c => ?_) fun c => .ret rfl
  have hk2 : k + 1 < f.length := by have := of_decide_eq_true c; omega
  rw [isub64 (by omega) (by omega), show ((k + 1 : Nat) : Int) - 1 = (k : Int) by omega, idxM_nat (show k < f.length by omega), some_bind, idxM_nat hk2, some_bind, iadd1 (by omega)]
  have hp := List.pairwise_iff_getElem.1 h k (k + 1) (by omega) hk2 (by omega)
  rw [hp]
  exact .ret ⟨by omega, rfl⟩
end

/-! ### libraries as the laws make them -/
def sd1 : List ByteArray := [(ByteArray.mk #[97]), (ByteArray.mk #[98]), (ByteArray.mk #[99])]
def sd2 : List ByteArray := [(ByteArray.mk #[120]), (ByteArray.mk #[121]), (ByteArray.mk #[122])]
def all6 : List ByteArray := [(ByteArray.mk #[97]), (ByteArray.mk #[98]), (ByteArray.mk #[99]), (ByteArray.mk #[120]), (ByteArray.mk #[121]), (ByteArray.mk #[122])]
def nm (k : Nat) : ByteArray := ByteArray.mk #[110] ++ bstr [IntKind.wrap .u8 (97 + (k : Int))]
theorem all6_rise : RiseP all6 := by unfold RiseP all6; simp [Op.bytesLess, ba_toList]
theorem all6_nd : all6.Nodup := by decide
theorem sub_rise {f : List ByteArray} (h : f.Sublist all6) : RiseP f := List.Pairwise.sublist h all6_rise
theorem sub_len {f : List ByteArray} (h : f.Sublist all6) : f.length ≤ 6 := h.length_le
theorem sd_cases {x : ByteArray} (h : x ∈ all6) : x ∈ sd1 ∧ x ∉ sd2 ∨ x ∈ sd2 ∧ x ∉ sd1 := by
  have : ∀ x ∈ all6, (memB x sd1 && !memB x sd2 || memB x sd2 && !memB x sd1) = true := by decide
  have h1 := this x h
  rw [← memB_iff, ← memB_iff]
  revert h1
  cases memB x sd1 <;> cases memB x sd2 <;> simp
theorem sd1_sub : sd1.Sublist all6 := by decide
theorem sd2_sub : sd2.Sublist all6 := by decide
theorem names_ok : ∀ k, k < 8 → literal_ValidName_m (nm k) = some true := by
  intro k hk
  have : ∀ k, k < 8 → literal_ValidName_f 20 (nm k) = some true := by decide +kernel
  exact literal_ValidName_f_le (k_ := 20) _ (this k hk)
theorem all6_names : ∀ x ∈ all6, literal_ValidName_m x = some true := by
  intro x hx
  have : ∀ x ∈ all6, literal_ValidName_f 20 x = some true := by decide +kernel
  exact literal_ValidName_f_le (k_ := 20) _ (this x hx)
theorem nm_inj : ∀ i, i < 8 → ∀ j, j < 8 → nm i = nm j → i = j := by decide +kernel

structure CaseOk (k : Nat) (c : T_api_Case) : Prop where
  name : c.Name = nm k
  facts : c.Facts.Sublist all6
  win : c.Winner = 1 ∨ c.Winner = 2
  ne : c.Reason ≠ []
  reason : c.Reason.Sublist all6
  own : ∀ x ∈ c.Reason, x ∈ c.Facts ∧ x ∈ (if c.Winner = 1 then sd1 else sd2)
structure LibOk (l : T_api_Library) : Prop where
  s1 : l.Sides.i0 = sd1
  s2 : l.Sides.i1 = sd2
  len : l.Cases.length ≤ 6
  ok : ∀ (k : Nat) (hk : k < l.Cases.length), CaseOk k l.Cases[k]

theorem LibOk.sdl {l : T_api_Library} (h : LibOk l) (w : Int) : sdl l w = if w = 1 then sd1 else sd2 := by
  unfold Dc.sdl; rw [h.s1, h.s2]
theorem LibOk.sdlen {l : T_api_Library} (h : LibOk l) (w : Int) : (Dc.sdl l w).length = 3 := by
  rw [h.sdl]; split <;> rfl
theorem LibOk.factors {l : T_api_Library} (h : LibOk l) : precedent_factors_m l = some all6 := by
  unfold precedent_factors_m
  rw [Concat_eq (by rw [h.s1]; decide) (by rw [h.s2]; decide), h.s1, h.s2]; rfl
theorem LibOk.mem {l : T_api_Library} (h : LibOk l) {c : T_api_Case} (hc : c ∈ l.Cases) : ∃ k, k < l.Cases.length ∧ CaseOk k c := by
  obtain ⟨k, hk, rfl⟩ := List.getElem_of_mem hc
  exact ⟨k, hk, h.ok k hk⟩

theorem all6_within {f : List ByteArray} (h : f.Sublist all6) : precedent_within_m f all6 = some true := by
  rw [within_eq (by have := sub_len h; omega) (by decide)]
  congr 1
  rw [List.all_eq_true]
  exact fun x hx => memB_iff.2 (h.subset hx)
theorem Validate_plain {l : T_api_Library} (h : LibOk l) : precedent_Validate_m l = some 0 := by
  have hlen := h.len
  have n1 : ∀ s : List ByteArray, s.length ≤ 10 → (∀ x ∈ s, x ∈ all6) → precedent_named_m s = some true := fun s hs hx => by
    unfold precedent_named_m slices_ContainsFunc_string_string_m slices_IndexFunc_string_string_1_m
    rw [cf_eq (s := s) (g := fun x => precedent_named_1_m x) (p := fun _ => false) (by omega) (fun x hm => by unfold precedent_named_1_m; rw [all6_names x (hx x hm)]; rfl) (by funext k; rfl), some_bind]
    simp
  have q1 : precedent_some_m l = some false := by
    unfold precedent_some_m slices_ContainsFunc_api_Case_api_Case_m slices_IndexFunc_api_Case_api_Case_m
    rw [cf_eq (s := l.Cases) (g := fun x => precedent_Validate_1_m x) (p := fun _ => false) (by omega) (fun c hc => by
      obtain ⟨k, hk, ok⟩ := h.mem hc
      unfold precedent_Validate_1_m; rw [ok.name, names_ok k (by omega)]; rfl) (by funext k; rfl), some_bind]
    simp
  have q2 : precedent_some_1_m l = some false := by
    unfold precedent_some_1_m slices_ContainsFunc_api_Case_api_Case_1_m slices_IndexFunc_api_Case_api_Case_1_m
    rw [cf_eq (s := l.Cases) (g := fun x => precedent_Validate_2_m x) (p := fun _ => false) (by omega) (fun c hc => by
      obtain ⟨k, hk, ok⟩ := h.mem hc
      unfold precedent_Validate_2_m
      rw [rising_eq (by have := sub_len ok.facts; omega) (sub_rise ok.facts), some_bind, rising_eq (by have := sub_len ok.reason; omega) (sub_rise ok.reason)]; rfl) (by funext k; rfl), some_bind]
    simp
  have q3 : slices_ContainsFunc_string_string_2_m l.Sides.i0 l.Sides.i1 = some false := by
    rw [h.s1, h.s2]
    unfold slices_ContainsFunc_string_string_2_m slices_IndexFunc_string_string_3_m
    rw [cf_eq (s := sd1) (g := fun x => precedent_Validate_3_m x sd2) (p := fun x => memB x sd2) (by decide) (fun x hx => by unfold precedent_Validate_3_m; rw [Contains_eq (by decide)]; rfl) (by funext k; rfl)]
    congr 1
  have q4 : precedent_some_2_m l = some false := by
    unfold precedent_some_2_m slices_ContainsFunc_api_Case_api_Case_2_m slices_IndexFunc_api_Case_api_Case_2_m
    rw [cf_eq (s := l.Cases) (g := fun x => precedent_Validate_4_m x) (p := fun _ => false) (by omega) (fun c hc => by
      obtain ⟨k, hk, ok⟩ := h.mem hc
      unfold precedent_Validate_4_m
      rcases ok.win with e | e <;> rw [e] <;> rfl) (by funext k; rfl), some_bind]
    simp
  have q5 : precedent_some_3_m l l = some false := by
    unfold precedent_some_3_m slices_ContainsFunc_api_Case_api_Case_3_m slices_IndexFunc_api_Case_api_Case_3_m
    rw [cf_eq (s := l.Cases) (g := fun x => precedent_Validate_5_m x l) (p := fun _ => false) (by omega) (fun c hc => by
      obtain ⟨k, hk, ok⟩ := h.mem hc
      have hf := sub_len ok.facts
      have hr := sub_len ok.reason
      have hne : ((c.Reason.length : Int) == 0) = false := by
        have : c.Reason.length ≠ 0 := fun e => ok.ne (List.eq_nil_of_length_eq_zero e)
        simp; exact ok.ne
      unfold precedent_Validate_5_m
      rw [h.factors, some_bind, all6_within ok.facts, some_bind, Bool.not_true, cond_false, hne, cond_false, own_eq ok.win (by rw [h.sdlen]; omega) (by omega), some_bind,
        within_eq (by omega) (by have := ownF_len (l := l) (f := c.Facts) (w := c.Winner); omega), some_bind]
      congr 1
      rw [Bool.not_eq_false', List.all_eq_true]
      intro x hx
      obtain ⟨o1, o2⟩ := ok.own x hx
      exact memB_iff.2 (mem_ownF.2 ⟨o1, by rw [h.sdl]; exact o2⟩)) (by funext k; rfl), some_bind]
    simp
  unfold precedent_Validate_m
  refine T.eq (T.bind (P := fun q => q.length = l.Cases.length) ?_ fun q hq => ?_)
  · refine T.loopK l.Cases.length (fun k s => k ≤ l.Cases.length ∧ s.1 = (k : Int) ∧ Filled s.2 ((List.range k).map nm)) ⟨by omega, rfl, Filled.nil⟩ ?_
    rintro k ⟨_, s⟩ ⟨hk, rfl, hs⟩
    dsimp only [precedent_Validate_l1] at hs ⊢
    refine T.cond (fun c => ?_) fun c => ?_
    · have hk2 : k < l.Cases.length := by have := of_decide_eq_true c; omega
      rw [idxM_nat hk2, some_bind, iadd1 (by omega), (h.ok k hk2).name]
      exact .ret ⟨hk2, hk2, rfl, by rw [List.range_succ, List.map_append]; exact hs.put (nm k) true⟩
    · have e : k = l.Cases.length := by have := of_decide_eq_false c; omega
      refine .ret ?_
      show s.length = _
      have hnd : ((List.range k).map nm).Nodup := by
        unfold List.Nodup
        rw [List.pairwise_map]
        refine List.Pairwise.imp_of_mem ?_ (List.nodup_range (n := k))
        intro i j hi hj hne he
        exact hne (nm_inj i (by have := List.mem_range.1 hi; omega) j (by have := List.mem_range.1 hj; omega) he)
      have := hs.iff.2 hnd
      rw [this]; simp [e]
  · simp only [joinM_eq, letM_eq]
    rw [h.s1, h.s2] at *
    have d1 : decide ((sd1.length : Int) > 12) = false := rfl
    have d2 : decide ((sd2.length : Int) > 12) = false := rfl
    have d3 : decide ((l.Cases.length : Int) > 16) = false := decide_eq_false (by omega)
    have m1 := n1 sd1 (by decide) fun x hx => sd1_sub.subset hx
    have m2 := n1 sd2 (by decide) fun x hx => sd2_sub.subset hx
    have r1 : precedent_rising_m sd1 = some true := rising_eq (by decide) (sub_rise sd1_sub)
    have r2 : precedent_rising_m sd2 = some true := rising_eq (by decide) (sub_rise sd2_sub)
    rw [d1, d2, d3, m1, m2, r1, r2, q1, q2, q3, q4, q5]
    simp only [cond_false, cond_true, some_bind, Bool.not_true, Bool.not_false]
    rw [decide_eq_false (by omega), cond_false]
    exact .ret rfl
end Go.Dc
