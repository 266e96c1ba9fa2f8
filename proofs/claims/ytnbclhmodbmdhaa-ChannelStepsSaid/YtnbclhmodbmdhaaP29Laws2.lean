/- Part P29.Laws2 of a proof: lemmas. -/
import Derived.Test.YtnbclhmodbmdhaaP29Laws
set_option linter.unusedVariables false
set_option linter.unusedSimpArgs false
/-! The other two laws about channels. -/
namespace Go.Dc

theorem drain_mem : ∀ {l : List Pk} {n : Int} {q : Pk}, q ∈ l → q ∈ (drain n l).1 ∨ q.Number < n + (drain n l).2.length
  | [], _, _, h => by simp at h
  | p :: l, n, q, h => by
    by_cases e : p.Number = n
    · have e1 : drain n (p :: l) = ((drain (n + 1) l).1, p.Value :: (drain (n + 1) l).2) := by simp [drain, e]
      rw [e1]
      simp only [List.length_cons]
      rcases List.mem_cons.1 h with rfl | h
      · right; omega
      · rcases drain_mem (n := n + 1) h with h1 | h1
        · exact .inl h1
        · right; omega
    · have e1 : drain n (p :: l) = (p :: l, []) := by simp [drain, e]
      rw [e1]; exact .inl h

/-- what was received once is known -/
theorem known_after {c : Ch} (h : Inv c) {p : Pk} (hp : val c.Items p) : known (recvS c p) p := by
  have hlen : (recvS c p).Received.length = c.Received.length + (drain c.Received.length (heldS c p)).2.length := by simp [recvS]
  have mem : ∀ q, q ∈ heldS c p → q.Number = p.Number → known (recvS c p) p := fun q hq e => by
    rcases drain_mem (n := (c.Received.length : Int)) hq with h1 | h1
    · exact .inr (.inr ⟨q, h1, e⟩)
    · left; rw [hlen]; omega
  by_cases hk : known c p
  · rcases id hk with a | a | ⟨q, hq, a⟩
    · left; rw [hlen]; omega
    · right; left
      have : drain (c.Received.length : Int) (heldS c p) = (c.Held, []) := by
        rw [heldS_known hk]; exact drain_none fun q hq => (h.hr q hq).1
      rw [hlen, this]; exact a
    · exact mem q (by rw [heldS_known hk]; exact hq) a
  · obtain ⟨k, hpos⟩ := exists_pos p.Number c.Held h.hs
    exact mem p (by rw [heldS_new hk hpos]; exact mem_insAt.2 (.inl rfl)) rfl

theorem recv_again {c : Ch} (h : Inv c) {p : Pk} (hk : known c p) : (recvS c p).Received = c.Received ∧ (recvS c p).Held = c.Held ∧ (recvS c p).Base = c.Base := by
  have : drain (c.Received.length : Int) (heldS c p) = (c.Held, []) := by
    rw [heldS_known hk]; exact drain_none fun q hq => (h.hr q hq).1
  refine ⟨?_, ?_, rfl⟩
  · show c.Received ++ (drain c.Received.length (heldS c p)).2 = _
    rw [this]; simp
  · show (drain c.Received.length (heldS c p)).1 = _
    rw [this]

theorem step_copy {c : Ch} {k : Int} (h0 : 0 ≤ k) (h1 : k < c.Flight.length) (h2 : c.Flight.length < 200) : stepS c ⟨4, k⟩ = ({ c with Flight := c.Flight ++ [pk c.Flight k.toNat] }, 0) := by
  unfold stepS
  dsimp only
  rw [if_neg (by omega), if_neg (by omega), if_neg (by omega), if_pos rfl, if_neg (by omega)]
theorem step_dlv {c : Ch} {k : Int} (h0 : 0 ≤ k) (h1 : k < c.Flight.length) : stepS c ⟨2, k⟩ = (actS { c with Flight := without c.Flight k.toNat } (pk c.Flight k.toNat), 0) := by
  unfold stepS
  dsimp only
  rw [if_neg (by omega), if_neg (by omega), if_neg (by omega), if_neg (by omega), if_neg (by omega)]

theorem pk_app {l : List Pk} {k : Nat} (hk : k < l.length) (m : List Pk) : pk (l ++ m) k = pk l k := by
  simp [pk, List.getD, List.getElem?_append_left hk]
theorem without_app {l : List Pk} {k : Nat} (hk : k < l.length) (p : Pk) : without (l ++ [p]) k = without l k ++ [p] := by
  unfold without
  rw [List.take_append_of_le_length (by omega), List.drop_append_of_le_length (by omega), List.append_assoc]

theorem Repeats_plain {items l : List Int} : T (law29_ChannelRepeats_m items l) (· = true) := by
  unfold law29_ChannelRepeats_m
  refine T.cond (fun _ => by rw [awake_plain]; exact .ret rfl) fun g => ?_
  have g' : items.length ≤ 60 := by simp at g; omega
  refine T.bind New_plain fun s hs => T.bind (Range_plain hs (by omega) (by omega) (by omega)) fun w ⟨hw, w1, w2⟩ => ?_
  obtain ⟨e, hc⟩ := newS_inv (I := items) (w := w.1) g' w1 w2
  rw [CNew_plain, e, some_bind]
  have hI : (⟨items, w.1, 0, [], [], []⟩ : Ch).Items = items := rfl
  dsimp only
  generalize (⟨items, w.1, 0, [], [], []⟩ : Ch) = c at hc hI ⊢
  rw [show ((0 : Int) != 0) = false from rfl]
  simp only [cond_false]
  refine T.bind (walk_plain (out := fun s c => (s, c)) 20 (by omega) (fun i s c => rfl) hw hc hI) ?_
  clear hc hI
  rintro r ⟨s2, c, e2, hs2, hc, hI⟩
  have e2 : r = (s2, c) := e2
  subst e2
  dsimp only
  refine T.cond (fun _ => by rw [awake_plain]; exact .ret rfl) fun h1 => ?_
  refine T.cond (fun _ => by rw [awake_plain]; exact .ret rfl) fun h2 => ?_
  have n1 : 1 ≤ c.Flight.length := by simp at h1; exact List.length_pos_iff.2 h1
  have n2 : c.Flight.length ≤ 100 := by have := of_decide_eq_false h2; omega
  refine T.bind (N_plain hs2 (by omega)) fun k ⟨_, hk⟩ => ?_
  obtain ⟨k0, k1⟩ := hk (by omega)
  -- x: the packet is repeated
  rw [Step_plain hc, some_bind, step_copy k0 k1 (by omega)]
  generalize hp : pk c.Flight k.1.toNat = p
  have hx : Inv { c with Flight := c.Flight ++ [p] } := hc.flight (by simp; omega) fun q hq => by
    rcases List.mem_append.1 hq with hq | hq
    · exact .inl hq
    · rw [List.mem_singleton.1 hq, ← hp]; exact .inl (pk_mem (by omega))
  dsimp only
  rw [Step_plain hx, some_bind, step_dlv k0 (by dsimp only; simp; omega)]
  dsimp only
  have hkn : k.1.toNat < c.Flight.length := by omega
  rw [pk_app hkn, hp, without_app hkn]
  have hpf := hc.fr _ (pk_mem hkn)
  rw [hp] at hpf
  have hw' : Inv { c with Flight := without c.Flight k.1.toNat ++ [p] } := hc.flight (by simp [len_without hkn]; omega) fun q hq => by
    rcases List.mem_append.1 hq with hq | hq
    · exact .inl (mem_without hq)
    · rw [List.mem_singleton.1 hq, ← hp]; exact .inl (pk_mem hkn)
  have hlw : (without c.Flight k.1.toNat).length = c.Flight.length - 1 := len_without hkn
  obtain ⟨hy, _⟩ := hw'.act hpf
  -- the flight behind the delivery
  have hfl : ∃ more, (actS { c with Flight := without c.Flight k.1.toNat ++ [p] } p).Flight = without c.Flight k.1.toNat ++ [p] ++ more := by
    unfold actS
    split
    · exact ⟨[], by simp⟩
    · unfold recvS
      dsimp only
      split
      · exact ⟨_, rfl⟩
      · exact ⟨[], by simp⟩
  generalize hyy : actS { c with Flight := without c.Flight k.1.toNat ++ [p] } p = y at hy hfl ⊢
  obtain ⟨more, hfl⟩ := hfl
  refine T.cond (fun h => by cases h) fun _ => ?_
  refine T.cond (fun h => by cases h) fun _ => ?_
  refine T.cond (fun h => by simp at h; omega) fun _ => ?_
  refine T.cond (fun h => by rw [hfl] at h; simp at h; omega) fun _ => ?_
  rw [isub64 (by omega) (by omega), Step_plain hy, some_bind, step_dlv (by omega) (by rw [hfl]; simp; omega)]
  dsimp only
  refine T.cond (fun _ => ?_) fun h => by cases h
  have hidx : pk y.Flight ((c.Flight.length : Int) - 1).toNat = p := by
    rw [hfl, show ((c.Flight.length : Int) - 1).toNat = (without c.Flight k.1.toNat).length from by omega, pk_app (by simp)]
    simp [pk, List.getD]
  rw [hidx]
  have hy2 : Inv { y with Flight := without y.Flight ((c.Flight.length : Int) - 1).toNat } := inv_without hy (by rw [hfl]; simp; omega)
  have key : (actS { y with Flight := without y.Flight ((c.Flight.length : Int) - 1).toNat } p).Received = y.Received ∧ (actS { y with Flight := without y.Flight ((c.Flight.length : Int) - 1).toNat } p).Held = y.Held ∧
      (actS { y with Flight := without y.Flight ((c.Flight.length : Int) - 1).toNat } p).Base = y.Base := by
    cases ha : p.Ack with
    | true =>
      have e1 : ∀ c : Ch, actS c p = { c with Base := max c.Base p.Number } := fun c => by unfold actS; rw [if_pos ha]
      rw [e1] at hyy ⊢
      refine ⟨rfl, rfl, ?_⟩
      subst hyy
      show max (max c.Base p.Number) p.Number = max c.Base p.Number
      omega
    | false =>
      have e1 : ∀ c : Ch, actS c p = recvS c p := fun c => by unfold actS; rw [if_neg (by rw [ha]; simp)]
      rw [e1] at hyy ⊢
      have hkn2 : known y p := by rw [← hyy]; exact known_after hw' (hpf.2.2 ha)
      exact recv_again hy2 hkn2
  rw [key.1, key.2.1, key.2.2, Ints_plain (by have := hy.it; have := hy.rl; omega), some_bind, decide_eq_true rfl]
  refine T.cond (fun _ => ?_) fun h => by cases h
  refine T.cond (fun _ => ?_) fun h => by simp at h
  refine T.cond (fun _ => ?_) fun h => by simp at h
  rw [awake_plain]; exact .ret rfl

theorem law29_ChannelRepeats_plain {A B : Prop} (x0 x1 : List Int) (_ : A) (_ : B) : law29_ChannelRepeats_m x0 x1 = some true := Repeats_plain.eq

/-! ### Steps -/
theorem step_bad {c : Ch} {e : T_api_NetEvent} (h : (stepS c e).2 ≠ 0) : (stepS c e).1 = chz := by
  unfold stepS at h ⊢
  split at h
  · rename_i g; rw [if_pos g]
  · rename_i g; rw [if_neg g]
    split at h
    · rename_i g; rw [if_pos g]
      split at h
      · rename_i g; rw [if_pos g]
      · rename_i g; rw [if_neg g]
        split at h
        · rename_i g; rw [if_pos g]
        · exact absurd rfl h
    · rename_i g; rw [if_neg g]
      split at h
      · rename_i g; rw [if_pos g]
      · rename_i g; rw [if_neg g]
        split at h
        · rename_i g; rw [if_pos g]
          split at h
          · rename_i g; rw [if_pos g]
          · exact absurd rfl h
        · split at h
          · exact absurd rfl h
          · exact absurd rfl h

theorem step_sml {c : Ch} (h : Inv c) (e : T_api_NetEvent) : Sml (stepS c e).1 := by
  by_cases g : (stepS c e).2 = 0
  · exact (h.step g).1.sml
  · rw [step_bad g]; exact sml_z
theorem newS_sml {I : List Int} {w : Int} : Sml (newS I w).1 := by
  unfold newS
  split
  · exact sml_z
  · split
    · exact sml_z
    · refine ⟨?_, ?_, ?_, ?_⟩ <;> simp; omega

theorem Steps_plain {items : List Int} {window : Int} {l : List Int} {odd : T_api_NetEvent} : T (law29_ChannelSteps_m items window l odd) (· = true) := by
  classical
  unfold law29_ChannelSteps_m
  refine T.cond (fun _ => by rw [awake_plain]; exact .ret rfl) fun g => ?_
  have g' : items.length ≤ 100 := by simp at g; omega
  refine T.bind New_plain fun s hs => ?_
  rw [CNew_plain, some_bind, RNew_plain, some_bind]
  refine T.cond (fun h => by simp at h) fun _ => ?_
  rw [RSame_plain newS_sml, some_bind, decide_eq_true rfl]
  refine T.cond (fun h => by cases h) fun _ => ?_
  refine T.bind (Range_plain hs (by omega) (by omega) (by omega)) fun a ⟨ha, a1, a2⟩ => ?_
  have hm : 0 ≤ imin (items.length : Int) a.1 ∧ imin (items.length : Int) a.1 ≤ items.length ∧ imin (items.length : Int) a.1 ≤ 6 := by unfold imin; split <;> omega
  rw [slM_eq (Int.le_refl _) hm.1 hm.2.1, some_bind]
  refine T.bind (Range_plain ha (by omega) (by omega) (by omega)) fun w ⟨hw, w1, w2⟩ => ?_
  obtain ⟨e, hc⟩ := newS_inv (I := (items.take (imin (items.length : Int) a.1).toNat).drop (0 : Int).toNat) (w := w.1) (by simp; omega) w1 (by omega)
  rw [CNew_plain, e, some_bind]
  dsimp only
  generalize (⟨(items.take (imin (items.length : Int) a.1).toNat).drop (0 : Int).toNat, w.1, 0, [], [], []⟩ : Ch) = c at hc ⊢
  refine T.bind (P := fun r => ∃ c, r = Sum.inr c ∧ Inv c) ?_ ?_
  · refine T.loopK 40 (fun k x => x.1 = (k : Int) ∧ k ≤ 40 ∧ SrcOk x.2.1 ∧ Inv x.2.2) ⟨rfl, by omega, hw, hc⟩ ?_
    rintro k ⟨_, s, c⟩ ⟨rfl, hk, hs, hc⟩
    dsimp only [law29_ChannelSteps_l1] at *
    refine T.joinP (fun _ => k < 40) (fun x hk' => ?_) fun q hq => ?_
    · refine T.bind (event_plain hs hc) fun ev he => ?_
      refine T.joinP (fun _ => True) (fun x _ => ?_) fun q hq => T.cond (fun _ => hq _ trivial) fun _ => hq _ trivial
      rw [Step_plain hc, some_bind, RStep_plain hc, some_bind]
      refine T.cond (fun h => by simp at h) fun _ => ?_
      rw [RSame_plain (step_sml hc x), some_bind, decide_eq_true rfl]
      refine T.cond (fun h => by cases h) fun _ => ?_
      rw [Done_plain, some_bind, RDone_plain, some_bind, iadd1 (by omega)]
      refine T.cond (fun h => by simp at h) fun _ => ?_
      refine T.cond (fun h => ?_) fun h => T.letM (.ret ⟨hk', rfl, by omega, he, hc⟩)
      have h0 : (stepS c x).2 = 0 := by simpa using h
      exact T.letM (.ret ⟨hk', rfl, by omega, he, (hc.step h0).1⟩)
    · refine T.cond (fun g => ?_) fun g => .ret ⟨c, rfl, hc⟩
      have gk : k < 40 := by have := of_decide_eq_true g; omega
      refine T.cond (fun _ => hq _ gk) fun _ => ?_
      rw [More_plain, some_bind]
      exact T.cond (fun _ => hq _ gk) fun _ => .ret ⟨c, rfl, hc⟩
  · rintro _ ⟨c, rfl, hc⟩
    have h0 := hc.b0; have h1 := hc.b1; have hrl := hc.rl
    show T (Option.bind (channel_Finish_m c) _) _
    rw [CFinish_plain hc, some_bind, RFinish_plain hc, some_bind]
    obtain ⟨fi, _⟩ := finS_ok (c.Items.length - c.Base.toNat) c hc (by omega)
    refine T.cond (fun _ => ?_) fun h => by simp at h
    rw [RSame_plain fi.sml, some_bind, decide_eq_true rfl]
    refine T.cond (fun _ => ?_) fun h => by cases h
    rw [CSame_plain hc.sml, some_bind, decide_eq_true rfl]
    refine T.cond (fun _ => ?_) fun h => by cases h
    rw [CSame_plain fi.sml, some_bind, RSame_plain fi.sml, some_bind]
    refine T.cond (fun _ => ?_) fun h => by simp at h
    rw [awake_plain]; exact .ret rfl

theorem law29_ChannelSteps_plain {A B C D : Prop} (x0 : List Int) (x1 : Int) (x2 : List Int) (x3 : T_api_NetEvent) (_ : A) (_ : B) (_ : C) (_ : D) : law29_ChannelSteps_m x0 x1 x2 x3 = some true := Steps_plain.eq
end Go.Dc
