/- Part P38M.LawM of a proof: lemmas. -/
import Derived.Test.YtcpkdjlfgfikcaaDoorP38MForce
import Derived.Test.YtcpkdjlfgfikcaaDoorP38MAwake
set_option linter.unusedVariables false
set_option linter.unusedSimpArgs false
set_option linter.unusedSectionVars false
/-! The law PrecedentMore. -/
namespace Go.Dc
variable {l : T_api_Library} {f g : List ByteArray} {c : T_api_Case} {e : ByteArray}

/-- g has one factor more than f -/
structure OneMore (f g : List ByteArray) (e : ByteArray) : Prop where
  sub : ∀ x ∈ f, x ∈ g
  only : ∀ x ∈ g, x = e ∨ x ∈ f
theorem more_gain (h : LibOk l) (m : OneMore f g e) (he : e ∈ sdl l c.Winner) (hw : c.Winner = 1 ∨ c.Winner = 2) : (hitR l f c = true → hitR l g c = true) ∧ (hitS l f c = true → hitS l g c = true) := by
  have hn := h.sides hw he
  rw [hitR_iff, hitR_iff, hitS_iff, hitS_iff]
  refine ⟨fun ⟨a, b⟩ => ⟨fun x hx => m.sub x (a x hx), fun x hx hs => ?_⟩, fun ⟨a, b⟩ => ⟨fun x hx hs => m.sub x (a x hx hs), fun x hx hs => ?_⟩⟩
  all_goals
    rcases m.only x hx with rfl | hx
    · exact absurd hs hn
    · exact b x hx hs
theorem more_lose {k : Nat} (h : LibOk l) (m : OneMore f g e) (he : e ∈ sdl l (3 - c.Winner)) (ok : CaseOk k c) : (hitR l g c = true → hitR l f c = true) ∧ (hitS l g c = true → hitS l f c = true) := by
  have hw := ok.win
  have hn := h.sides (w := 3 - c.Winner) (by omega) he
  rw [show 3 - (3 - c.Winner) = c.Winner by omega] at hn
  rw [hitR_iff, hitR_iff, hitS_iff, hitS_iff]
  refine ⟨fun ⟨a, b⟩ => ⟨fun x hx => ?_, fun x hx hs => b x (m.sub x hx) hs⟩, fun ⟨a, b⟩ => ⟨fun x hx hs => ?_, fun x hx hs => b x (m.sub x hx) hs⟩⟩
  · rcases m.only x (a x hx) with rfl | hx2
    · exact absurd (by rw [h.sdl]; exact (ok.own x hx).2) hn
    · exact hx2
  · rcases m.only x (a x hx hs) with rfl | hx2
    · exact absurd hs hn
    · exact hx2

theorem law38_PrecedentMore_plain (l : List Int) {p0 : Prop} (_ : p0) : law38_PrecedentMore_m l = some true := by
  refine T.eq ?_
  unfold law38_PrecedentMore_m
  refine T.bind New_plain fun s hs => ?_
  refine T.bind (library_plain hs (m := 5) (by omega) (by omega)) ?_
  rintro ⟨lib, s1⟩ ⟨hL, hs1⟩
  refine T.bind (facts_plain hs1) ?_
  rintro ⟨f, s2⟩ ⟨hs2, hf⟩
  dsimp only at hL hs2 hf ⊢
  rw [show [(ByteArray.mk #[97]), (ByteArray.mk #[98]), (ByteArray.mk #[99]), (ByteArray.mk #[120]), (ByteArray.mk #[121]), (ByteArray.mk #[122])] = all6 from rfl]
  have hlen := hL.len
  have hfl := sub_len hf
  refine T.bind (P := fun r => r.1 ∈ all6) ?_ ?_
  · unfold keep_Src_Text_m
    refine T.bind (N_plain hs2 (n := (all6.length : Int)) (by decide)) ?_
    rintro ⟨v, s3⟩ ⟨_, hv⟩
    obtain ⟨v0, v1⟩ := hv (by decide)
    dsimp only at v0 v1 ⊢
    obtain ⟨k, rfl⟩ := Int.eq_ofNat_of_zero_le v0
    have hk : k < all6.length := by omega
    rw [show idxM all6 (k : Int) = some all6[k] from idxM_nat hk, some_bind]
    exact .ret (List.getElem_mem _)
  rintro ⟨e, s3⟩ he
  dsimp only at he ⊢
  refine T.bind (P := fun g => g = all6.filter fun x => decide (x = e) || memB x f) ?_ fun g hg => ?_
  · refine T.loopK 6 (fun k s => k ≤ 6 ∧ s.1 = (k : Int) ∧ s.2 = (all6.take k).filter fun x => decide (x = e) || memB x f) ⟨by omega, rfl, by simp⟩ ?_
    rintro k ⟨_, out⟩ ⟨hk, rfl, ho⟩
    unfold law38_PrecedentMore_l1
    dsimp only at ho ⊢
    rw [show [(ByteArray.mk #[97]), (ByteArray.mk #[98]), (ByteArray.mk #[99]), (ByteArray.mk #[120]), (ByteArray.mk #[121]), (ByteArray.mk #[122])] = all6 from rfl]
    have e6 : all6.length = 6 := rfl
    refine T.cond (fun c => ?_) fun c => ?_
    · have hk2 : k < 6 := by have := of_decide_eq_true c; omega
      have htk : ∀ p : ByteArray → Bool, (all6.take (k + 1)).filter p = (all6.take k).filter p ++ (if p (all6[k]'(by omega)) then [all6[k]'(by omega)] else []) := fun p => by
        rw [List.take_add_one, List.getElem?_eq_getElem (by omega), List.filter_append]
        congr 1; simp [List.filter_cons]
      have hol : out.length ≤ 6 := by rw [ho]; exact Nat.le_trans (List.length_filter_le _ _) (by rw [List.length_take]; omega)
      rw [idxM_nat (show k < all6.length by omega), some_bind, iadd1 (by omega)]
      refine T.joinP (fun j => j = (decide (all6[k]'(by omega) = e) || memB (all6[k]'(by omega)) f)) (fun j hj => ?_) fun kk hkk => ?_
      · refine T.cond (fun c2 => ?_) fun c2 => .ret ⟨hk2, hk2, rfl, by simp only; rw [htk, ← ho, ← hj, c2]; simp⟩
        rw [appM_eq (by simp; omega), some_bind]
        exact .ret ⟨hk2, hk2, rfl, by simp only; rw [htk, ← ho, ← hj, c2]; simp⟩
      · rw [ba_beq, rIn_eq (by omega), some_bind]
        refine T.cond (fun c2 => hkk _ (by rw [c2]; rfl)) fun c2 => hkk _ (by rw [c2]; rfl)
    · have hk2 : k = 6 := by have := of_decide_eq_false c; omega
      subst hk2
      refine .ret ?_
      show out = _
      rw [ho]; rfl
  · have hgs : g.Sublist all6 := by rw [hg]; exact List.filter_sublist
    have om : OneMore f g e := by
      refine ⟨fun x hx => ?_, fun x hx => ?_⟩
      · rw [hg, List.mem_filter]
        exact ⟨hf.subset hx, by rw [memB_iff.2 hx]; simp⟩
      · rw [hg, List.mem_filter, Bool.or_eq_true, decide_eq_true_iff, memB_iff] at hx
        exact hx.2
    rw [Reasons_plain hL hf, some_bind, Reasons_plain hL hgs, some_bind, Strong_plain hL hf, some_bind, Strong_plain hL hgs, some_bind]
    simp only [show ((0 : Int) != 0) = false from rfl, cond_false]
    rw [show law38_sides_m = some ⟨sd1, sd2⟩ from rfl, some_bind, show idxM [sd1, sd2] (0 : Int) = some sd1 from rfl, some_bind, rIn_eq (by decide), some_bind, awake_plain]
    have case1 : ∀ c ∈ lib.Cases, c.Winner = 1 → sdl lib c.Winner = sd1 := fun c _ hw => by rw [hL.sdl, hw]; rfl
    refine T.cond (fun c1 => ?_) fun c1 => ?_
    · have he1 : e ∈ sd1 := memB_iff.1 c1
      have A : ∀ c ∈ lib.Cases, c.Winner = 1 → e ∈ sdl lib c.Winner := fun c _ hw => by rw [hL.sdl, if_pos hw]; exact he1
      have B : ∀ c ∈ lib.Cases, c.Winner ≠ 1 → e ∈ sdl lib (3 - c.Winner) := fun c hc hw => by
        obtain ⟨k, _, ok⟩ := hL.mem hc
        rw [hL.sdl, if_pos (by have := ok.win; omega)]; exact he1
      rw [picks_inside (by omega) fun c hc h => w1_iff.2 ⟨(more_gain hL om (A c hc (w1_iff.1 h).2) (.inl (w1_iff.1 h).2)).1 (w1_iff.1 h).1, (w1_iff.1 h).2⟩, some_bind, cond_true]
      rw [picks_inside (by omega) fun c hc h => by
        obtain ⟨k, _, ok⟩ := hL.mem hc
        exact w2_iff.2 ⟨(more_lose hL om (B c hc (w2_iff.1 h).2) ok).1 (w2_iff.1 h).1, (w2_iff.1 h).2⟩, some_bind, cond_true]
      rw [picks_inside (by omega) fun c hc h => w1_iff.2 ⟨(more_gain hL om (A c hc (w1_iff.1 h).2) (.inl (w1_iff.1 h).2)).2 (w1_iff.1 h).1, (w1_iff.1 h).2⟩, some_bind, cond_true]
      rw [picks_inside (by omega) fun c hc h => by
        obtain ⟨k, _, ok⟩ := hL.mem hc
        exact w2_iff.2 ⟨(more_lose hL om (B c hc (w2_iff.1 h).2) ok).2 (w2_iff.1 h).1, (w2_iff.1 h).2⟩, some_bind, cond_true]
      exact .ret rfl
    · have he2 : e ∈ sd2 := by
        rcases sd_cases he with ⟨h1, _⟩ | ⟨h1, _⟩
        · rw [memB_iff.2 h1] at c1; cases c1
        · exact h1
      have A : ∀ c ∈ lib.Cases, c.Winner ≠ 1 → e ∈ sdl lib c.Winner := fun c _ hw => by rw [hL.sdl, if_neg hw]; exact he2
      have B : ∀ c ∈ lib.Cases, c.Winner = 1 → e ∈ sdl lib (3 - c.Winner) := fun c hc hw => by rw [hL.sdl, if_neg (by omega)]; exact he2
      rw [picks_inside (by omega) fun c hc h => by
        obtain ⟨k, _, ok⟩ := hL.mem hc
        exact w2_iff.2 ⟨(more_gain hL om (A c hc (w2_iff.1 h).2) ok.win).1 (w2_iff.1 h).1, (w2_iff.1 h).2⟩, some_bind, cond_true]
      rw [picks_inside (by omega) fun c hc h => by
        obtain ⟨k, _, ok⟩ := hL.mem hc
        exact w1_iff.2 ⟨(more_lose hL om (B c hc (w1_iff.1 h).2) ok).1 (w1_iff.1 h).1, (w1_iff.1 h).2⟩, some_bind, cond_true]
      rw [picks_inside (by omega) fun c hc h => by
        obtain ⟨k, _, ok⟩ := hL.mem hc
        exact w2_iff.2 ⟨(more_gain hL om (A c hc (w2_iff.1 h).2) ok.win).2 (w2_iff.1 h).1, (w2_iff.1 h).2⟩, some_bind, cond_true]
      rw [picks_inside (by omega) fun c hc h => by
        obtain ⟨k, _, ok⟩ := hL.mem hc
        exact w1_iff.2 ⟨(more_lose hL om (B c hc (w1_iff.1 h).2) ok).2 (w1_iff.1 h).1, (w1_iff.1 h).2⟩, some_bind, cond_true]
      exact .ret rfl
end Go.Dc
