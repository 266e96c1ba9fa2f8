/- Part P29.Laws of a proof: lemmas. -/
import Derived.Test.YtnbclhmodbmdhaaP29Fin
import Derived.Test.YtnbclhmodbmdhaaP29Awake
set_option linter.unusedVariables false
set_option linter.unusedSimpArgs false
/-! The laws about channels, in plain words. -/
namespace Go.Dc

theorem event_plain {s : T_deliberationkeep_Src} (hs : SrcOk s) {c : Ch} (h : Inv c) : T (law29_event_m s c) fun r => SrcOk r.2 := by
  have hf := h.fl
  unfold law29_event_m
  refine T.bind (Pick_plain hs (by simp) (by simp)) fun a ⟨ha, _⟩ => T.bind (N_plain ha (by omega)) fun b ⟨hb, _⟩ => ?_
  rw [iadd64 (by omega) (by omega)]
  exact T.bind (N_plain hb (by omega)) fun d ⟨hd, _⟩ => T.bind (Pick_plain hd (by simp) (by simp)) fun e ⟨he, _⟩ => .ret he

theorem More_plain {s : T_deliberationkeep_Src} : keep_Src_More_m s = some (decide (s.At < (s.L.length : Int))) := rfl

theorem Prefix_plain {items l : List Int} : T (law29_ChannelPrefix_m items l) (· = true) := by
  unfold law29_ChannelPrefix_m
  refine T.cond (fun _ => by rw [awake_plain]; exact .ret rfl) fun g => ?_
  have g' : items.length ≤ 60 := by simp at g; omega
  refine T.bind New_plain fun s hs => T.bind (Range_plain hs (by omega) (by omega) (by omega)) fun w ⟨hw, w1, w2⟩ => ?_
  obtain ⟨e, hc⟩ := newS_inv (I := items) (w := w.1) g' w1 w2
  rw [CNew_plain, e, some_bind]
  have hI : (⟨items, w.1, 0, [], [], []⟩ : Ch).Items = items := rfl
  dsimp only
  generalize (⟨items, w.1, 0, [], [], []⟩ : Ch) = c at hc hI ⊢
  rw [show ((0 : Int) != 0) = false from rfl]
  simp only [cond_false]
  refine T.bind (P := fun r => r = Sum.inr ()) ?_ ?_
  · refine T.loopK 60 (fun k x => x.1 = (k : Int) ∧ k ≤ 60 ∧ SrcOk x.2.1 ∧ Inv x.2.2 ∧ x.2.2.Items = items) ⟨rfl, by omega, hw, hc, hI⟩ ?_
    rintro k ⟨_, s, c⟩ ⟨rfl, hk, hs, hc, hI⟩
    dsimp only [law29_ChannelPrefix_l1] at *
    have body : ∀ x : Bool × Bool, k < 60 → T (Option.bind (law29_event_m s c) fun t32 =>
      Option.bind (channel_Step_m c t32.1) fun t33 =>
      bif t33.2 != 0 then
        letM (iadd .i64 (k : Int) 1) fun i39 =>
        some (Sum.inr (i39, t32.2, c))
      else
        bif decide ((t33.1.Received.length : Int) > (items.length : Int)) then
          some (Sum.inl (Sum.inl false))
        else
          Option.bind (slM items 0 (t33.1.Received.length : Int)) fun t36 =>
          Option.bind (keep_Ints_m t33.1.Received t36) fun t37 =>
          bif !t37 then
            some (Sum.inl (Sum.inl false))
          else
            bif decide (t33.1.Base > (t33.1.Received.length : Int)) then
              some (Sum.inl (Sum.inl false))
            else
              bif decide (t33.1.Base < c.Base) then
                some (Sum.inl (Sum.inl false))
              else
                bif decide ((t33.1.Received.length : Int) < (c.Received.length : Int)) then
                  some (Sum.inl (Sum.inl false))
                else
                  bif decide ((t33.1.Held.length : Int) ≥ t33.1.Window) then
                    some (Sum.inl (Sum.inl false))
                  else
                    letM (iadd .i64 (k : Int) 1) fun i40 =>
                    some (Sum.inr (i40, t32.2, t33.1)))
        (onO (fun r => r = (Sum.inr () : Sum Bool Unit)) fun s' => k < 60 ∧ s'.1 = ((k + 1 : Nat) : Int) ∧ k + 1 ≤ 60 ∧ SrcOk s'.2.1 ∧ Inv s'.2.2 ∧ s'.2.2.Items = items) := by
      intro _ hk'
      refine T.bind (event_plain hs hc) fun e he => ?_
      rw [Step_plain hc, some_bind, iadd1 (by omega)]
      refine T.cond (fun h => T.letM (.ret ⟨hk', rfl, by omega, he, hc, hI⟩)) fun h => ?_
      have h0 : (stepS c e.1).2 = 0 := by simpa using h
      obtain ⟨i1, i2, i3, i4, i5⟩ := hc.step h0
      have hrl := i1.rl; have hit := i1.it; have hh := i1.held; have hb1 := i1.b1
      have hI' : (stepS c e.1).1.Items = items := i4.trans hI
      rw [hI'] at hrl
      refine T.cond (fun h => by simp at h; omega) fun h => ?_
      rw [slM_eq (Int.le_refl _) (by omega) (by omega), some_bind]
      have hrc := i1.rc
      rw [hI'] at hrc
      have e2 : (stepS c e.1).1.Received = (items.take ((stepS c e.1).1.Received.length : Int).toNat).drop (0 : Int).toNat := by
        rw [Int.toNat_natCast]; exact hrc
      rw [← e2, Ints_plain (by rw [hI'] at hit; omega), some_bind, decide_eq_true rfl]
      refine T.cond (fun h => by simp at h) fun _ => ?_
      refine T.cond (fun h => by simp at h; omega) fun _ => ?_
      refine T.cond (fun h => by simp at h; omega) fun _ => ?_
      refine T.cond (fun h => by simp at h; omega) fun _ => ?_
      refine T.cond (fun h => by simp at h; omega) fun _ => ?_
      exact T.letM (.ret ⟨hk', rfl, by omega, he, i1, hI'⟩)
    refine T.joinP (fun _ => k < 60) (fun x hx => body x hx) fun q hq => ?_
    refine T.cond (fun g => ?_) fun g => .ret rfl
    have gk : k < 60 := by have := of_decide_eq_true g; omega
    refine T.cond (fun _ => hq _ gk) fun _ => ?_
    rw [More_plain, some_bind]
    exact T.cond (fun _ => hq _ gk) fun _ => .ret rfl
  · rintro _ rfl
    show T (Option.bind law29_awake_m _) _
    rw [awake_plain]; exact .ret rfl

theorem law29_ChannelPrefix_plain {A B : Prop} (x0 x1 : List Int) (_ : A) (_ : B) : law29_ChannelPrefix_m x0 x1 = some true := Prefix_plain.eq

/-- some events, as Finishes and Repeats have them -/
theorem walk_plain {σ : Type} {I : List Int} {f : Int × T_deliberationkeep_Src × Ch → Option (Sum σ (Int × T_deliberationkeep_Src × Ch))} {out : T_deliberationkeep_Src → Ch → σ} (n : Nat) (hn : n ≤ 1000)
    (hf : ∀ i s c, f (i, s, c) = bif decide (i < (n : Int)) then
      Option.bind (keep_Src_More_m s) fun t31 =>
      bif t31 then
        Option.bind (law29_event_m s c) fun t34 =>
        Option.bind (channel_Step_m c t34.1) fun t35 =>
        bif t35.2 == 0 then
          letM (iadd .i64 i 1) fun i38 =>
          some (Sum.inr (i38, t34.2, t35.1))
        else
          letM (iadd .i64 i 1) fun i39 =>
          some (Sum.inr (i39, t34.2, c))
      else
        some (Sum.inl (out s c))
    else
      some (Sum.inl (out s c))) {s : T_deliberationkeep_Src} {c : Ch} (hs : SrcOk s) (hc : Inv c) (hI : c.Items = I) :
    T (loopC f (0, s, c)) fun r => ∃ s c, r = out s c ∧ SrcOk s ∧ Inv c ∧ c.Items = I := by
  refine T.loopK n (fun k x => x.1 = (k : Int) ∧ k ≤ n ∧ SrcOk x.2.1 ∧ Inv x.2.2 ∧ x.2.2.Items = I) ⟨rfl, by omega, hs, hc, hI⟩ ?_
  rintro k ⟨_, s, c⟩ ⟨rfl, hk, hs, hc, hI⟩
  dsimp only at *
  rw [hf]
  refine T.cond (fun g => ?_) fun g => .ret ⟨s, c, rfl, hs, hc, hI⟩
  have gk : k < n := by simpa using g
  rw [More_plain, some_bind]
  refine T.cond (fun _ => ?_) fun _ => .ret ⟨s, c, rfl, hs, hc, hI⟩
  refine T.bind (event_plain hs hc) fun e he => ?_
  rw [Step_plain hc, some_bind, iadd1 (by omega)]
  refine T.cond (fun h => ?_) fun h => T.letM (.ret ⟨gk, rfl, by omega, he, hc, hI⟩)
  have h0 : (stepS c e.1).2 = 0 := by simpa using h
  obtain ⟨i1, i2, i3, i4, i5⟩ := hc.step h0
  exact T.letM (.ret ⟨gk, rfl, by omega, he, i1, i4.trans hI⟩)

theorem Finishes_plain {items l : List Int} : T (law29_ChannelFinishes_m items l) (· = true) := by
  unfold law29_ChannelFinishes_m
  refine T.cond (fun _ => by rw [awake_plain]; exact .ret rfl) fun g => ?_
  have g' : items.length ≤ 60 := by simp at g; omega
  refine T.bind New_plain fun s hs => T.bind (Range_plain hs (by omega) (by omega) (by omega)) fun w ⟨hw, w1, w2⟩ => ?_
  obtain ⟨e, hc⟩ := newS_inv (I := items) (w := w.1) g' w1 w2
  rw [CNew_plain, e, some_bind]
  have hI : (⟨items, w.1, 0, [], [], []⟩ : Ch).Items = items := rfl
  dsimp only
  generalize (⟨items, w.1, 0, [], [], []⟩ : Ch) = c at hc hI ⊢
  rw [show ((0 : Int) != 0) = false from rfl]
  simp only [cond_false]
  refine T.bind (walk_plain (out := fun _ c => c) 40 (by omega) (fun i s c => rfl) hw hc hI) ?_
  clear hc hI
  rintro c ⟨s2, c2, e2, hs2, hc, hI⟩
  have e2 : c = c2 := e2
  subst e2
  have h0 := hc.b0; have h1 := hc.b1; have hrl := hc.rl; have hit := hc.it
  rw [CFinish_plain hc, some_bind]
  obtain ⟨a, b, c1, d, e, f⟩ := finS_ok (c.Items.length - c.Base.toNat) c hc (by omega)
  generalize finS (c.Items.length - c.Base.toNat) c = r at *
  have a1 := a.b1; have a2 := a.rl; have a3 := a.rc
  have hrec : r.1.Received = items := by
    have : r.1.Received.length = r.1.Items.length := by rw [c1] at a2 ⊢; omega
    rw [this, List.take_length, c1, hI] at a3
    exact a3
  rw [Done_plain, some_bind]
  refine T.cond (fun _ => ?_) fun h => by
    have : r.1.Base = r.1.Items.length := by rw [b, c1]
    simp at h; exact absurd this h
  rw [hrec, Ints_plain (by omega), some_bind, decide_eq_true rfl]
  refine T.cond (fun _ => ?_) fun h => by cases h
  refine T.cond (fun _ => ?_) fun h => by rw [d] at h; simp at h
  rw [isub64 (by omega) (by omega)]
  refine T.cond (fun _ => by rw [awake_plain]; exact .ret rfl) fun h => ?_
  have := of_decide_eq_false h
  rw [hI] at f hrl
  omega

theorem law29_ChannelFinishes_plain {A B : Prop} (x0 x1 : List Int) (_ : A) (_ : B) : law29_ChannelFinishes_m x0 x1 = some true := Finishes_plain.eq
end Go.Dc
