/- Part P29.Ref of a proof: lemmas. -/
import Derived.Test.YtnbclhmodbmdhaaP29Prog
set_option linter.unusedVariables false
set_option linter.unusedSimpArgs false
/-! The reference's way. -/
namespace Go.Dc

/-! ### lists compared -/
theorem eq_loop {α : Type} [DecidableEq α] {a b : List α} (hl : a.length = b.length) (hn : a.length ≤ 1000000) {f : Int → Option (Sum (Sum Bool Unit) Int)}
    (h : ∀ i (hi : i < a.length) (hj : i < b.length), f (i : Int) = some (if a[i] = b[i] then .inr ((i : Int) + 1) else .inl (.inl false)))
    (hend : f (a.length : Int) = some (.inl (.inr ()))) : (loopC f 0).bind (sumK (fun a : Bool => some a) fun _ : Unit => some true) = some (decide (a = b)) := by
  have key : ∀ m i, a.length - i ≤ m → i ≤ a.length → (loopC f (i : Int)).bind (sumK (fun a : Bool => some a) fun _ : Unit => some true) = some (decide (a.drop i = b.drop i)) := by
    intro m
    induction m with
    | zero =>
      intro i h1 h2
      have e : i = a.length := by omega
      subst e
      rw [loopC_eq, hend]
      have : b.drop a.length = [] := List.drop_eq_nil_of_le (by omega)
      rw [List.drop_length, this]; rfl
    | succ m ih =>
      intro i h1 h2
      by_cases e : i = a.length
      · subst e
        rw [loopC_eq, hend]
        have : b.drop a.length = [] := List.drop_eq_nil_of_le (by omega)
        rw [List.drop_length, this]; rfl
      · have hi : i < a.length := by omega
        have hj : i < b.length := by omega
        have ea := List.drop_eq_getElem_cons hi
        have eb := List.drop_eq_getElem_cons hj
        rw [loopC_eq, h i hi hj]
        by_cases g : a[i] = b[i]
        · rw [if_pos g]
          simp only [Option.bind_some]
          have := ih (i + 1) (by omega) (by omega)
          rw [show ((i + 1 : Nat) : Int) = (i : Int) + 1 from rfl] at this
          rw [this]
          congr 1
          rw [decide_eq_decide, ea, eb, g]
          exact ⟨fun e => by rw [e], fun e => (List.cons.inj e).2⟩
        · rw [if_neg g]
          simp only [Option.bind_some, sumK]
          congr 1
          symm
          refine decide_eq_false fun e => g ?_
          rw [ea, eb] at e
          exact (List.cons.inj e).1
  have := key _ 0 (Nat.le_refl _) (Nat.zero_le _)
  simpa using this

theorem Ints_plain {a b : List Int} (hn : a.length ≤ 1000000) : keep_Ints_m a b = some (decide (a = b)) := by
  unfold keep_Ints_m
  by_cases hl : a.length = b.length
  · rw [show ((a.length : Int) != (b.length : Int)) = false from by simp [hl]]
    simp only [cond_false]
    refine eq_loop hl hn (fun i hi hj => ?_) ?_
    · dsimp only [keep_Ints_l1]
      rw [decide_eq_true (show (i : Int) < (a.length : Int) by omega), idxM_nat hi, idxM_nat hj, iadd64 (by omega) (by omega)]
      simp only [cond_true, some_bind]
      by_cases g : a[i] = b[i]
      · rw [show (a[i] != b[i]) = false from by simp [g], if_pos g]; rfl
      · rw [show (a[i] != b[i]) = true from by simp [g], if_neg g]; rfl
    · dsimp only [keep_Ints_l1]
      rw [decide_eq_false (show ¬ (a.length : Int) < (a.length : Int) by omega)]; rfl
  · rw [show ((a.length : Int) != (b.length : Int)) = true from by simp; omega]
    simp only [cond_true, Option.some.injEq]
    symm
    exact decide_eq_false fun e => hl (by rw [e])

theorem Eqi_plain {a b : List Int} (hn : a.length ≤ 1000000) : slices_Equal_int_int_m a b = some (decide (a = b)) := by
  unfold slices_Equal_int_int_m
  by_cases hl : a.length = b.length
  · rw [show ((a.length : Int) != (b.length : Int)) = false from by simp [hl]]
    simp only [cond_false]
    refine eq_loop hl hn (fun i hi hj => ?_) ?_
    · dsimp only [slices_Equal_int_int_l1]
      rw [decide_eq_true (show (i : Int) < (a.length : Int) by omega), idxM_nat hi, idxM_nat hj, iadd64 (by omega) (by omega)]
      simp only [cond_true, some_bind]
      by_cases g : a[i] = b[i]
      · rw [show (a[i] != b[i]) = false from by simp [g], if_pos g]; rfl
      · rw [show (a[i] != b[i]) = true from by simp [g], if_neg g]; rfl
    · dsimp only [slices_Equal_int_int_l1]
      rw [decide_eq_false (show ¬ (a.length : Int) < (a.length : Int) by omega)]; rfl
  · rw [show ((a.length : Int) != (b.length : Int)) = true from by simp; omega]
    simp only [cond_true, Option.some.injEq]
    symm
    exact decide_eq_false fun e => hl (by rw [e])

theorem Pks_plain {a b : List Pk} (hn : a.length ≤ 1000000) : ref29_packets_m a b = some (decide (a = b)) := by
  unfold ref29_packets_m
  by_cases hl : a.length = b.length
  · rw [show ((a.length : Int) != (b.length : Int)) = false from by simp [hl]]
    simp only [cond_false]
    refine eq_loop hl hn (fun i hi hj => ?_) ?_
    · dsimp only [ref29_packets_l1]
      rw [decide_eq_true (show (i : Int) < (a.length : Int) by omega), idxM_nat hi, idxM_nat hj, iadd64 (by omega) (by omega)]
      simp only [cond_true, some_bind]
      by_cases g : a[i] = b[i]
      · rw [decide_eq_true g, if_pos g]; rfl
      · rw [decide_eq_false g, if_neg g]; rfl
    · dsimp only [ref29_packets_l1]
      rw [decide_eq_false (show ¬ (a.length : Int) < (a.length : Int) by omega)]; rfl
  · rw [show ((a.length : Int) != (b.length : Int)) = true from by simp; omega]
    simp only [cond_true, Option.some.injEq]
    symm
    exact decide_eq_false fun e => hl (by rw [e])

theorem Eqp_plain {a b : List Pk} (hn : a.length ≤ 1000000) : slices_Equal_api_Packet_api_Packet_m a b = some (decide (a = b)) := by
  unfold slices_Equal_api_Packet_api_Packet_m
  by_cases hl : a.length = b.length
  · rw [show ((a.length : Int) != (b.length : Int)) = false from by simp [hl]]
    simp only [cond_false]
    refine eq_loop hl hn (fun i hi hj => ?_) ?_
    · dsimp only [slices_Equal_api_Packet_api_Packet_l1]
      rw [decide_eq_true (show (i : Int) < (a.length : Int) by omega), idxM_nat hi, idxM_nat hj, iadd64 (by omega) (by omega)]
      simp only [cond_true, some_bind]
      by_cases g : a[i] = b[i]
      · rw [decide_eq_true g, if_pos g]; rfl
      · rw [decide_eq_false g, if_neg g]; rfl
    · dsimp only [slices_Equal_api_Packet_api_Packet_l1]
      rw [decide_eq_false (show ¬ (a.length : Int) < (a.length : Int) by omega)]; rfl
  · rw [show ((a.length : Int) != (b.length : Int)) = true from by simp; omega]
    simp only [cond_true, Option.some.injEq]
    symm
    exact decide_eq_false fun e => hl (by rw [e])

/-- the lists of a channel are not long -/
def Sml (c : Ch) : Prop := c.Items.length ≤ 1000 ∧ c.Received.length ≤ 1000 ∧ c.Held.length ≤ 1000 ∧ c.Flight.length ≤ 1000
theorem Inv.sml {c : Ch} (h : Inv c) : Sml c := ⟨by have := h.it; omega, by have := h.it; have := h.rl; omega, by have := h.held; omega, by have := h.fl; omega⟩
theorem sml_z : Sml chz := by simp [Sml, chz]

theorem RSame_plain {a b : Ch} (h : Sml a) : ref29_Same_m a b = some (decide (a = b)) := by
  obtain ⟨h1, h2, h3, h4⟩ := h
  unfold ref29_Same_m
  rw [Ints_plain (by omega), some_bind, Ints_plain (by omega), some_bind, Pks_plain (by omega), some_bind, Pks_plain (by omega), some_bind]
  obtain ⟨ai, aw, ab, ar, ah, af⟩ := a
  obtain ⟨bi, bw, bb, br, bh, bf⟩ := b
  simp only [T_api_Channel.mk.injEq]
  rw [show (aw == bw) = decide (aw = bw) from by rw [Bool.eq_iff_iff]; simp, show (ab == bb) = decide (ab = bb) from by rw [Bool.eq_iff_iff]; simp]
  by_cases e1 : ai = bi <;> by_cases e2 : aw = bw <;> by_cases e3 : ab = bb <;> by_cases e4 : ar = br <;> by_cases e5 : ah = bh <;> by_cases e6 : af = bf <;> simp [e1, e2, e3, e4, e5, e6]

theorem CSame_plain {a b : Ch} (h : Sml a) : channel_Same_m a b = some (decide (a = b)) := by
  obtain ⟨h1, h2, h3, h4⟩ := h
  unfold channel_Same_m
  rw [Eqi_plain (by omega), some_bind, Eqi_plain (by omega), some_bind, Eqp_plain (by omega), some_bind, Eqp_plain (by omega), some_bind]
  obtain ⟨ai, aw, ab, ar, ah, af⟩ := a
  obtain ⟨bi, bw, bb, br, bh, bf⟩ := b
  simp only [T_api_Channel.mk.injEq]
  rw [show (aw == bw) = decide (aw = bw) from by rw [Bool.eq_iff_iff]; simp, show (ab == bb) = decide (ab = bb) from by rw [Bool.eq_iff_iff]; simp]
  by_cases e1 : ai = bi <;> by_cases e2 : aw = bw <;> by_cases e3 : ab = bb <;> by_cases e4 : ar = br <;> by_cases e5 : ah = bh <;> by_cases e6 : af = bf <;> simp [e1, e2, e3, e4, e5, e6]

/-! ### New -/
def newS (I : List Int) (w : Int) : Ch × Int := if 60 < I.length then (chz, 2) else if w < 1 ∨ 8 < w then (chz, 1) else (⟨I, w, 0, [], [], []⟩, 0)
theorem CNew_plain {I : List Int} {w : Int} : channel_New_m I w = some (newS I w) := by
  unfold channel_New_m newS slices_Clone_int_int_m
  simp only [letM_eq]
  by_cases g1 : 60 < I.length
  · rw [decide_eq_true (show (I.length : Int) > 60 by omega), if_pos g1]; rfl
  rw [decide_eq_false (show ¬ (I.length : Int) > 60 by omega), if_neg g1]
  by_cases g2 : w < 1
  · rw [decide_eq_true g2, if_pos (.inl g2)]; rfl
  rw [decide_eq_false g2]
  by_cases g3 : w > 8
  · rw [decide_eq_true g3, if_pos (.inr g3)]; rfl
  rw [decide_eq_false g3, if_neg (by omega), app_nil (by omega)]; rfl
theorem RNew_plain {I : List Int} {w : Int} : ref29_New_m I w = some (newS I w) := by
  unfold ref29_New_m newS
  by_cases g1 : 60 < I.length
  · rw [decide_eq_true (show (I.length : Int) > 60 by omega), if_pos g1]; rfl
  rw [decide_eq_false (show ¬ (I.length : Int) > 60 by omega), if_neg g1]
  by_cases g2 : w < 1
  · rw [decide_eq_true g2, if_pos (.inl g2)]; rfl
  rw [decide_eq_false g2]
  by_cases g3 : w > 8
  · rw [decide_eq_true g3, if_pos (.inr g3)]; rfl
  rw [decide_eq_false g3, if_neg (by omega), app_nil (by omega)]; rfl
theorem newS_inv {I : List Int} {w : Int} (h0 : I.length ≤ 60) (h1 : 1 ≤ w) (h2 : w ≤ 8) : newS I w = (⟨I, w, 0, [], [], []⟩, 0) ∧ Inv ⟨I, w, 0, [], [], []⟩ := by
  refine ⟨by unfold newS; rw [if_neg (by omega), if_neg (by omega)], ⟨h0, h1, h2, Int.le_refl _, ?_, ?_, ?_, List.Pairwise.nil, ?_, ?_, ?_⟩⟩ <;> simp

/-! ### Step -/
theorem with_plain {l : List Pk} {p : Pk} (h : l.length ≤ 1000) : ref29_with_m l p = some (l ++ [p]) := by
  unfold ref29_with_m
  rw [app_nil (by omega), some_bind, app_one (by omega), some_bind]
theorem without_plain {l : List Pk} {n : Int} (h0 : 0 ≤ n) (h1 : n < l.length) (h2 : l.length ≤ 1000) : ref29_without_m l n = some (without l n.toNat) := by
  unfold ref29_without_m
  rw [slM_eq (Int.le_refl _) h0 (by omega), some_bind, iadd64 (by omega) (by omega), slM_eq (by omega) (by omega) (Int.le_refl _), some_bind, app_nil (by simp; omega), some_bind, appM_eq (by simp; omega), some_bind]
  unfold without
  rw [show (n + 1).toNat = n.toNat + 1 from by omega]
  simp

theorem rdrain_loop : ∀ (H : List Pk) (R : List Int), R.length + H.length ≤ 10000 →
    loopC ref29_receive_l3 (H, R) = some (R ++ (drain R.length H).2, (drain R.length H).1)
  | [], R, _ => by
    rw [loopC_eq]
    simp [ref29_receive_l3, drain]
  | h :: t, R, hl => by
    have hl' : R.length + t.length + 1 ≤ 10000 := by simp at hl; omega
    rw [loopC_eq]
    have e0 : idxM (h :: t) 0 = some h := rfl
    have e1 : decide (((h :: t).length : Int) > 0) = true := by simp
    dsimp only [ref29_receive_l3]
    rw [e1, e0]
    simp only [cond_true, some_bind]
    by_cases e : h.Number = R.length
    · rw [show (h.Number == (R.length : Int)) = true from by simpa using e]
      simp only [cond_true]
      rw [app_one (by omega), some_bind, slM_eq (by omega) (by simp; omega) (Int.le_refl _), some_bind]
      have e3 : ((h :: t).take (((h :: t).length : Int)).toNat).drop (1 : Int).toNat = t := by simp
      rw [e3]
      simp only [Option.bind_some]
      rw [rdrain_loop t (R ++ [h.Value]) (by simp; omega)]
      have e4 : drain (R.length : Int) (h :: t) = ((drain ((R.length : Int) + 1) t).1, h.Value :: (drain ((R.length : Int) + 1) t).2) := by simp [drain, e]
      rw [e4]
      simp
    · rw [show (h.Number == (R.length : Int)) = false from by simpa using e]
      have e4 : drain (R.length : Int) (h :: t) = (h :: t, []) := by simp [drain, e]
      rw [e4]
      simp

theorem known_loop {c : Ch} {p : Pk} (hl : c.Held.length ≤ 1000) (b : Bool) : T (loopC (ref29_receive_l1 c p) (b, 0)) fun r => r = true ↔ b = true ∨ ∃ q ∈ c.Held, q.Number = p.Number := by
  refine T.loopK c.Held.length (fun i s => s.2 = (i : Int) ∧ i ≤ c.Held.length ∧ (s.1 = true ↔ b = true ∨ ∃ k, k < i ∧ (pk c.Held k).Number = p.Number)) ⟨rfl, by omega, by simp⟩ ?_
  rintro i ⟨x, _⟩ ⟨rfl, hi, hx⟩
  dsimp only [ref29_receive_l1] at *
  refine T.cond (fun g => ?_) fun g => ?_
  · have g' : i < c.Held.length := by simpa using g
    rw [iadd1 (by omega)]
    refine T.cond (fun h1 => ?_) fun h1 => ?_
    · refine T.letM (.ret ⟨g', rfl, by omega, ?_⟩)
      simp only [true_iff]
      rcases hx.1 h1 with h2 | ⟨k, h2, h3⟩
      · exact .inl h2
      · exact .inr ⟨k, by omega, h3⟩
    · rw [idx_pk g', some_bind]
      refine T.letM (.ret ⟨g', rfl, by omega, ?_⟩)
      simp only [beq_iff_eq]
      constructor
      · intro e; exact .inr ⟨i, by omega, e⟩
      · rintro (e | ⟨k, h2, h3⟩)
        · rw [hx.2 (.inl e)] at h1; cases h1
        · by_cases e : k = i
          · subst e; exact h3
          · rw [hx.2 (.inr ⟨k, by omega, h3⟩)] at h1; cases h1
  · have g' : ¬ i < c.Held.length := by simpa using g
    refine .ret ?_
    show x = true ↔ _
    rw [hx]
    constructor
    · rintro (e | ⟨k, h2, h3⟩)
      · exact .inl e
      · exact .inr ⟨_, pk_mem (by omega), h3⟩
    · rintro (e | ⟨q, hq, h3⟩)
      · exact .inl e
      · obtain ⟨k, hk, rfl⟩ := mem_pk hq
        exact .inr ⟨k, by omega, h3⟩

theorem pos_loop {c : Ch} {p : Pk} (hs : Srt c.Held) (hl : c.Held.length ≤ 1000) : T (loopC (ref29_receive_l2 c p) 0) fun r => 0 ≤ r ∧ IsPos p.Number c.Held r.toNat := by
  refine T.loopK c.Held.length (fun i s => s = (i : Int) ∧ i ≤ c.Held.length ∧ ∀ k, k < i → (pk c.Held k).Number < p.Number) ⟨rfl, by omega, fun k hk => by omega⟩ ?_
  rintro i _ ⟨rfl, hi, hx⟩
  dsimp only [ref29_receive_l2] at *
  refine T.cond (fun g => ?_) fun g => ?_
  · have g' : i < c.Held.length := by simpa using g
    rw [idx_pk g', some_bind]
    refine T.cond (fun h1 => ?_) fun h1 => ?_
    · rw [iadd1 (by omega)]
      refine T.letM (.ret ⟨g', rfl, by omega, fun k hk => ?_⟩)
      by_cases e : k = i
      · subst e; simpa using h1
      · exact hx k (by omega)
    · have h1' : p.Number ≤ (pk c.Held i).Number := by simpa using h1
      refine .ret ⟨by omega, ⟨by omega, fun k hk => hx k (by omega), fun k hk hkl => ?_⟩⟩
      by_cases e : k = i
      · subst e; exact h1'
      · have := hs.get (i := i) (j := k) (by omega) hkl; omega
  · have g' : ¬ i < c.Held.length := by simpa using g
    exact .ret ⟨by omega, ⟨by omega, fun k hk => hx k (by omega), fun k hk hkl => by omega⟩⟩

theorem rreceive_plain {c : Ch} (h : Inv c) {p : Pk} (hp : val c.Items p) : ref29_receive_m c p = some (recvS c p) := by
  have hi := h.it; have hrl := h.rl; have hh := h.held; have hf := h.fl; have hw0 := h.w0; have hw1 := h.w1
  obtain ⟨v0, v1, v2⟩ := hp
  have hN := h.newH ⟨v0, v1, v2⟩
  unfold ref29_receive_m
  simp only [letM_eq]
  have hadd : iadd .i64 (c.Received.length : Int) c.Window = c.Received.length + c.Window := iadd64 (by omega) (by omega)
  rw [hadd]
  have tail : ∀ H, H = heldS c p → (Option.bind (appM 8 [] c.Received) fun t47 =>
          Option.bind (loopC (ref29_receive_l3) (H, t47)) fun q65 : (List Int) × (List T_api_Packet) =>
          bif decide ((c.Flight.length : Int) < 200) then
            Option.bind (ref29_with_m c.Flight (T_api_Packet.mk true (q65.1.length : Int) 0)) fun t68 =>
            some (T_api_Channel.mk c.Items c.Window c.Base q65.1 q65.2 t68)
          else
            some (T_api_Channel.mk c.Items c.Window c.Base q65.1 q65.2 c.Flight)) = some (recvS c p) := by
    rintro H rfl
    rw [app_nil (by omega), some_bind, rdrain_loop _ _ (by have := hN.2.2; omega), some_bind]
    dsimp only
    unfold recvS
    by_cases g : c.Flight.length < 200
    · rw [decide_eq_true (show (c.Flight.length : Int) < 200 by omega), if_pos g]
      simp only [cond_true]
      rw [with_plain (by omega), some_bind]
    · rw [decide_eq_false (show ¬ (c.Flight.length : Int) < 200 by omega), if_neg g]; rfl
  unfold joinM
  dsimp only
  have go : ∀ b, (b = true ↔ p.Number < c.Received.length ∨ (c.Received.length : Int) + c.Window ≤ p.Number) →
      (Option.bind (loopC (ref29_receive_l1 c p) (b, 0)) fun q19 : Bool =>
      bif !q19 then
        Option.bind (loopC (ref29_receive_l2 c p) 0) fun q31 : Int =>
        Option.bind (slM c.Held 0 q31) fun t35 =>
        Option.bind (appM 24 [] t35) fun t36 =>
        Option.bind (appM 24 t36 [p]) fun t38 =>
        Option.bind (slM c.Held q31 (c.Held.length : Int)) fun t40 =>
        Option.bind (appM 24 t38 t40) fun t41 =>
          Option.bind (appM 8 [] c.Received) fun t47 =>
          Option.bind (loopC (ref29_receive_l3) (t41, t47)) fun q65 : (List Int) × (List T_api_Packet) =>
          bif decide ((c.Flight.length : Int) < 200) then
            Option.bind (ref29_with_m c.Flight (T_api_Packet.mk true (q65.1.length : Int) 0)) fun t68 =>
            some (T_api_Channel.mk c.Items c.Window c.Base q65.1 q65.2 t68)
          else
            some (T_api_Channel.mk c.Items c.Window c.Base q65.1 q65.2 c.Flight)
      else
          Option.bind (appM 8 [] c.Received) fun t47 =>
          Option.bind (loopC (ref29_receive_l3) (c.Held, t47)) fun q65 : (List Int) × (List T_api_Packet) =>
          bif decide ((c.Flight.length : Int) < 200) then
            Option.bind (ref29_with_m c.Flight (T_api_Packet.mk true (q65.1.length : Int) 0)) fun t68 =>
            some (T_api_Channel.mk c.Items c.Window c.Base q65.1 q65.2 t68)
          else
            some (T_api_Channel.mk c.Items c.Window c.Base q65.1 q65.2 c.Flight)) = some (recvS c p) := by
    intro b hb
    obtain ⟨x, hx, hxk⟩ := known_loop (p := p) (c := c) (by omega) b
    rw [hx, some_bind]
    have hkn : x = true ↔ known c p := by
      rw [hxk, hb]; unfold known
      constructor
      · rintro ((a | a) | a)
        · exact .inl a
        · exact .inr (.inl a)
        · exact .inr (.inr a)
      · rintro (a | a | a)
        · exact .inl (.inl a)
        · exact .inl (.inr a)
        · exact .inr a
    cases x with
    | true =>
      simp only [Bool.not_true, cond_false]
      exact tail _ (heldS_known (hkn.1 rfl)).symm
    | false =>
      simp only [Bool.not_false, cond_true]
      obtain ⟨r, hr, r0, rpos⟩ := pos_loop (c := c) (p := p) h.hs (by omega)
      have hle := rpos.le
      rw [hr, some_bind, slM_eq (Int.le_refl _) r0 (by omega), some_bind, app_nil (by simp; omega), some_bind, app_one (by simp; omega), some_bind, slM_eq r0 (by omega) (Int.le_refl _), some_bind, appM_eq (by simp; omega), some_bind]
      refine tail _ ?_
      rw [heldS_new (fun hk => by have := hkn.2 hk; cases this) rpos]
      unfold insAt
      simp
  by_cases g1 : p.Number < (c.Received.length : Int)
  · rw [decide_eq_true g1]
    simp only [cond_true]
    exact go true (by simp [g1])
  · rw [decide_eq_false g1]
    simp only [cond_false]
    exact go _ (by simp only [decide_eq_true_eq]; omega)

theorem RStep_plain {c : Ch} (h : Inv c) (e : T_api_NetEvent) : ref29_Step_m c e = some (stepS c e) := by
  have hfl := h.fl; have hi := h.it; have h0 := h.b0; have h1 := h.b1; have hrl := h.rl; have hw1 := h.w1
  unfold ref29_Step_m stepS
  by_cases g1 : e.Kind < 1
  · rw [decide_eq_true g1, if_pos (.inl g1)]; rfl
  rw [decide_eq_false g1]
  by_cases g2 : e.Kind > 4
  · rw [decide_eq_true g2, if_pos (.inr g2)]; rfl
  rw [decide_eq_false g2, if_neg (by omega)]
  simp only [cond_false]
  by_cases k1 : e.Kind = 1
  · rw [show (e.Kind == 1) = true from by simpa using k1, if_pos k1]
    simp only [cond_true]
    by_cases n1 : e.N < 0
    · rw [decide_eq_true n1, if_pos (.inl n1)]; rfl
    rw [decide_eq_false n1]
    by_cases n2 : e.N ≥ c.Window
    · rw [decide_eq_true n2, if_pos (.inr (.inl n2))]; rfl
    rw [decide_eq_false n2]
    have hk : iadd .i64 c.Base e.N = c.Base + e.N := iadd64 (by omega) (by omega)
    rw [hk]
    simp only [cond_false]
    by_cases n3 : c.Base + e.N ≥ (c.Items.length : Int)
    · rw [decide_eq_true n3, if_pos (.inr (.inr n3))]; rfl
    rw [decide_eq_false n3, if_neg (by omega)]
    simp only [cond_false]
    by_cases n4 : 200 ≤ c.Flight.length
    · rw [decide_eq_true (show (c.Flight.length : Int) ≥ 200 by omega), if_pos n4]; rfl
    rw [decide_eq_false (show ¬ (c.Flight.length : Int) ≥ 200 by omega), if_neg n4]
    simp only [cond_false]
    rw [idxM_getD' 0 (by omega) (by omega), some_bind, with_plain (by omega), some_bind]
  rw [show (e.Kind == 1) = false from by simpa using k1, if_neg k1]
  simp only [cond_false]
  by_cases n1 : e.N < 0
  · rw [decide_eq_true n1, if_pos (.inl n1)]; rfl
  rw [decide_eq_false n1]
  by_cases n2 : e.N ≥ (c.Flight.length : Int)
  · rw [decide_eq_true n2, if_pos (.inr n2)]; rfl
  rw [decide_eq_false n2, if_neg (by omega)]
  simp only [cond_false]
  rw [idx_pk' (by omega) (by omega), some_bind]
  by_cases k4 : e.Kind = 4
  · rw [show (e.Kind == 4) = true from by simpa using k4, if_pos k4]
    simp only [cond_true]
    by_cases n4 : 200 ≤ c.Flight.length
    · rw [decide_eq_true (show (c.Flight.length : Int) ≥ 200 by omega), if_pos n4]; rfl
    rw [decide_eq_false (show ¬ (c.Flight.length : Int) ≥ 200 by omega), if_neg n4]
    simp only [cond_false]
    rw [with_plain (by omega), some_bind]
  rw [show (e.Kind == 4) = false from by simpa using k4, if_neg k4]
  simp only [cond_false]
  rw [without_plain (by omega) (by omega) (by omega), some_bind]
  by_cases k3 : e.Kind = 3
  · rw [show (e.Kind == 3) = true from by simpa using k3, if_pos k3]; rfl
  rw [show (e.Kind == 3) = false from by simpa using k3, if_neg k3]
  simp only [cond_false]
  have hp := h.fr _ (pk_mem (l := c.Flight) (i := e.N.toNat) (by omega))
  unfold actS
  cases ha : (pk c.Flight e.N.toNat).Ack with
  | true =>
    rw [if_pos rfl]
    simp only [cond_true]
    have : imax c.Base (pk c.Flight e.N.toNat).Number = max c.Base (pk c.Flight e.N.toNat).Number := by unfold imax; split <;> omega
    rw [this]
  | false =>
    rw [if_neg (by simp)]
    simp only [cond_false]
    rw [rreceive_plain (inv_without h (by omega)) (hp.2.2 ha), some_bind]

theorem Done_plain {c : Ch} : channel_Done_m c = some (c.Base == (c.Items.length : Int)) := rfl
theorem RDone_plain {c : Ch} : ref29_Done_m c = some (c.Base == (c.Items.length : Int)) := rfl
end Go.Dc
