/- Part P29.Prog of a proof: lemmas. -/
import Derived.Test.YtnbclhmodbmdhaaP29Keep
import Derived.Test.YtnbclhmodbmdhaaP29Spec
set_option linter.unusedVariables false
set_option linter.unusedSimpArgs false
/-! The program's way: what its functions return. -/
namespace Go.Dc

def two : Ch → T_channel_line := T_channel_line.mk

theorem app_nil {α : Type} {b : Nat} {l : List α} (h : l.length * b ≤ 140737488355328) : appM b [] l = some l := by
  rw [appM_eq (by simpa using h)]; rfl
theorem app_one {α : Type} {b : Nat} {l : List α} {x : α} (h : (l.length + 1) * b ≤ 140737488355328) : appM b l [x] = some (l ++ [x]) := by
  rw [appM_eq (by simpa using h)]

theorem copied_plain {c : Ch} (h : Inv c) : channel_copied_m c = some ⟨c⟩ := by
  have h1 := h.it; have h2 := h.rl; have h3 := h.held; have h4 := h.fl
  unfold channel_copied_m slices_Clone_int_int_m slices_Clone_api_Packet_api_Packet_m
  rw [app_nil (by omega), some_bind, app_nil (by omega), some_bind, app_nil (by omega), some_bind, app_nil (by omega), some_bind]

theorem full_plain {c : Ch} : channel_line_full_1_m ⟨c⟩ = some (decide (200 ≤ c.Flight.length)) := by
  unfold channel_line_full_1_m
  simp only [letM_eq, Option.some.injEq, decide_eq_decide]
  omega

/-! ### binary search -/
theorem mid_eq {a b : Int} (h0 : 0 ≤ a) (h1 : 0 ≤ b) (h2 : a + b ≤ 1000000) : IntKind.wrap .i64 (ishr .u64 (IntKind.wrap .u64 (iadd .i64 a b)) 1) = (a + b) / 2 := by
  rw [iadd64 (by omega) (by omega)]
  have e1 : IntKind.wrap .u64 (a + b) = a + b := by simp [IntKind.wrap, IntKind.signed, IntKind.bits]; omega
  have e2 : ishr .u64 (a + b) 1 = (a + b) / 2 := by
    unfold ishr
    rw [show min (Int.toNat 1) (IntKind.bits .u64) = 1 from rfl, Int.fdiv_eq_ediv_of_nonneg _ (by decide)]
    rfl
  rw [e1, e2, wrap64 (by omega) (by omega)]

theorem cmp_plain {p : Pk} {x : Int} (h0 : 0 ≤ p.Number) (h1 : p.Number ≤ 1000) (h2 : 0 ≤ x) (h3 : x ≤ 1000) : channel_line_receive_1_m p x = some (p.Number - x) := by
  unfold channel_line_receive_1_m
  rw [letM_eq, isub64 (by omega) (by omega)]

theorem bs_plain {l : List Pk} {x : Int} (hs : Srt l) (hl : l.length ≤ 100) (hr : ∀ p ∈ l, 0 ≤ p.Number ∧ p.Number ≤ 1000) (h0 : 0 ≤ x) (h1 : x ≤ 1000) :
    T (slices_BinarySearchFunc_api_Packet_api_Packet_int_1_m l x) fun r => 0 ≤ r.1 ∧ IsPos x l r.1.toNat ∧ (r.2 = true ↔ ∃ q ∈ l, q.Number = x) := by
  unfold slices_BinarySearchFunc_api_Packet_api_Packet_int_1_m
  refine T.letM ?_
  refine T.bind (P := fun q => 0 ≤ q ∧ IsPos x l q.toNat) ?_ ?_
  · refine T.loopM (fun s => 0 ≤ s.1 ∧ s.1 ≤ s.2 ∧ s.2 ≤ (l.length : Int) ∧ (∀ i : Nat, (i : Int) < s.1 → (pk l i).Number < x) ∧ ∀ i : Nat, s.2 ≤ (i : Int) → i < l.length → x ≤ (pk l i).Number) (fun s => (s.2 - s.1).toNat)
      ⟨Int.le_refl _, by dsimp only; omega, Int.le_refl _, fun i hi => by dsimp only at hi; omega, fun i hi hl => by dsimp only at hi; omega⟩ ?_
    rintro ⟨a, b⟩ ⟨a0, ab, bl, lo, hi⟩
    dsimp only [slices_BinarySearchFunc_api_Packet_api_Packet_int_1_l1] at *
    refine T.cond (fun g => ?_) fun g => ?_
    · have g' : a < b := of_decide_eq_true g
      rw [mid_eq a0 (by omega) (by omega), letM_eq]
      have hm0 : 0 ≤ (a + b) / 2 := by omega
      have hml : (a + b) / 2 < l.length := by omega
      rw [idx_pk' hm0 hml, some_bind]
      have hpr := hr _ (pk_mem (l := l) (i := ((a + b) / 2).toNat) (by omega))
      rw [cmp_plain hpr.1 hpr.2 h0 h1, some_bind]
      refine T.cond (fun g2 => ?_) fun g2 => ?_
      · have g2' := of_decide_eq_true g2
        rw [letM_eq, iadd64 (by omega) (by omega)]
        refine .ret ⟨⟨by dsimp only; omega, by dsimp only; omega, bl, fun i hi => ?_, hi⟩, by dsimp only; omega⟩
        dsimp only at hi
        by_cases e : i = ((a + b) / 2).toNat
        · subst e; omega
        · have := hs.get (i := i) (j := ((a + b) / 2).toNat) (by omega) (by omega)
          omega
      · have g2' := of_decide_eq_false g2
        refine .ret ⟨⟨a0, by dsimp only; omega, by dsimp only; omega, lo, fun i hi hil => ?_⟩, by dsimp only; omega⟩
        dsimp only at hi
        by_cases e : i = ((a + b) / 2).toNat
        · subst e; omega
        · have := hs.get (i := ((a + b) / 2).toNat) (j := i) (by omega) hil
          omega
    · have g' := of_decide_eq_false g
      exact .ret ⟨a0, ⟨by omega, fun i hi => lo i (by omega), fun i hi' hil => hi i (by omega) hil⟩⟩
  · rintro q ⟨q0, hq⟩
    refine T.cond (fun g => ?_) fun g => ?_
    · have g' := of_decide_eq_true g
      rw [idx_pk' q0 g', some_bind]
      have hpr := hr _ (pk_mem (l := l) (i := q.toNat) (by omega))
      rw [cmp_plain hpr.1 hpr.2 h0 h1, some_bind]
      refine .ret ⟨q0, hq, ?_⟩
      have hge := hq.hi q.toNat (Nat.le_refl _) (by omega)
      simp only [beq_iff_eq]
      constructor
      · intro e; exact ⟨_, pk_mem (l := l) (i := q.toNat) (by omega), by omega⟩
      · rintro ⟨p, hp, e⟩
        obtain ⟨i, hi, rfl⟩ := mem_pk hp
        by_cases hiq : i < q.toNat
        · have := hq.lo i hiq; omega
        · by_cases e2 : i = q.toNat
          · subst e2; omega
          · have := hs.get (i := q.toNat) (j := i) (by omega) hi; omega
    · have g' := of_decide_eq_false g
      refine .ret ⟨q0, hq, ?_⟩
      simp only [Bool.false_eq_true, false_iff]
      rintro ⟨p, hp, e⟩
      obtain ⟨i, hi, rfl⟩ := mem_pk hp
      have := hq.le
      have := hq.lo i (by omega)
      omega

/-! ### delivering -/
theorem drain_loop : ∀ (H : List Pk) (R : List Int), R.length + H.length ≤ 10000 →
    loopC channel_line_receive_l1 (R, H) = some (R ++ (drain R.length H).2, (drain R.length H).1)
  | [], R, _ => by
    rw [loopC_eq]
    simp [channel_line_receive_l1, drain]
  | h :: t, R, hl => by
    have hl' : R.length + t.length + 1 ≤ 10000 := by simp at hl; omega
    rw [loopC_eq]
    have e0 : idxM (h :: t) 0 = some h := rfl
    have e1 : decide (((h :: t).length : Int) > 0) = true := by simp
    dsimp only [channel_line_receive_l1]
    rw [e1, e0]
    simp only [cond_true, some_bind]
    by_cases e : h.Number = R.length
    · rw [show (h.Number == (R.length : Int)) = true from by simpa using e]
      simp only [cond_true]
      rw [app_one (by omega), some_bind, slM_eq (by omega) (by simp; omega) (Int.le_refl _), some_bind]
      have e3 : ((h :: t).take (((h :: t).length : Int)).toNat).drop (1 : Int).toNat = t := by simp
      rw [e3]
      simp only [Option.bind_some]
      rw [drain_loop t (R ++ [h.Value]) (by simp; omega)]
      have e4 : drain (R.length : Int) (h :: t) = ((drain ((R.length : Int) + 1) t).1, h.Value :: (drain ((R.length : Int) + 1) t).2) := by simp [drain, e]
      rw [e4]
      simp
    · rw [show (h.Number == (R.length : Int)) = false from by simpa using e]
      have e4 : drain (R.length : Int) (h :: t) = (h :: t, []) := by simp [drain, e]
      rw [e4]
      simp

theorem receive_plain {c : Ch} (h : Inv c) {p : Pk} (hp : val c.Items p) : channel_line_receive_m ⟨c⟩ p = some ⟨recvS c p⟩ := by
  have hi := h.it; have hrl := h.rl; have hh := h.held; have hf := h.fl; have hw0 := h.w0; have hw1 := h.w1
  obtain ⟨v0, v1, v2⟩ := hp
  have hN := h.newH ⟨v0, v1, v2⟩
  unfold channel_line_receive_m
  dsimp only
  simp only [letM_eq]
  obtain ⟨r, hr, r0, rpos, rf⟩ := bs_plain (x := p.Number) h.hs (by omega) (fun q hq => ⟨(h.hr q hq).2.2.1, by have := (h.hr q hq).2.2.2.1; omega⟩) v0 (by omega)
  rw [hr, some_bind]
  -- what happens behind the choice
  have tail : ∀ H, H = heldS c p → (Option.bind (loopC channel_line_receive_l1 (c.Received, H)) fun q : (List Int) × (List T_api_Packet) =>
      Option.bind (channel_line_full_1_m (T_channel_line.mk (T_api_Channel.mk c.Items c.Window c.Base q.1 q.2 c.Flight))) fun t34 =>
      bif !t34 then
        Option.bind (appM 24 c.Flight [(T_api_Packet.mk true (q.1.length : Int) 0)]) fun t36 =>
        some (T_channel_line.mk (T_api_Channel.mk c.Items c.Window c.Base q.1 q.2 t36))
      else
        some (T_channel_line.mk (T_api_Channel.mk c.Items c.Window c.Base q.1 q.2 c.Flight))) = some ⟨recvS c p⟩ := by
    rintro H rfl
    rw [drain_loop _ _ (by have := hN.2.2; omega), some_bind, full_plain, some_bind]
    dsimp only
    unfold recvS
    by_cases g : 200 ≤ c.Flight.length
    · rw [decide_eq_true g, if_neg (by omega)]; rfl
    · rw [decide_eq_false g, if_pos (by omega)]
      simp only [Bool.not_false, cond_true]
      rw [app_one (by omega), some_bind]
  unfold joinM
  dsimp only
  have hadd : iadd .i64 (c.Received.length : Int) c.Window = c.Received.length + c.Window := iadd64 (by omega) (by omega)
  rw [hadd]
  have hins : slices_Insert_api_Packet_api_Packet_m c.Held r.1 [p] = some (insAt r.1.toNat p c.Held) := by
    unfold slices_Insert_api_Packet_api_Packet_m insM
    have := rpos.le
    rw [if_pos ⟨r0, by omega, rfl, by omega⟩]
    unfold insAt
    simp
  by_cases g1 : p.Number ≥ (c.Received.length : Int)
  · rw [decide_eq_true g1]
    simp only [cond_true]
    by_cases g2 : p.Number < (c.Received.length : Int) + c.Window
    · rw [decide_eq_true g2]
      simp only [cond_true]
      by_cases g3 : r.2 = true
      · rw [g3]
        simp only [Bool.not_true, cond_false]
        exact tail _ (heldS_known (.inr (.inr (rf.1 g3)))).symm
      · rw [Bool.eq_false_iff.2 g3]
        simp only [Bool.not_false, cond_true]
        rw [hins, some_bind]
        refine tail _ (heldS_new ?_ rpos).symm
        rintro (a | a | a)
        · omega
        · omega
        · exact g3 (rf.2 a)
    · rw [decide_eq_false g2]
      simp only [cond_false]
      exact tail _ (heldS_known (.inr (.inl (by omega)))).symm
  · rw [decide_eq_false g1]
    simp only [cond_false]
    exact tail _ (heldS_known (.inl (by omega))).symm

theorem delete_plain {l : List Pk} {n : Int} (h0 : 0 ≤ n) (h1 : n < l.length) (h2 : l.length ≤ 1000) : slices_Delete_api_Packet_api_Packet_m l n (iadd .i64 n 1) = some (without l n.toNat) := by
  unfold slices_Delete_api_Packet_api_Packet_m delM
  rw [iadd64 (by omega) (by omega), if_pos ⟨h0, by omega, by omega⟩]
  unfold without
  rw [show (n + 1).toNat = n.toNat + 1 from by omega]

theorem inv_without {c : Ch} (h : Inv c) {n : Nat} (hn : n < c.Flight.length) : Inv { c with Flight := without c.Flight n } :=
  h.flight (by rw [len_without hn]; have := h.fl; omega) fun p hp => .inl (mem_without hp)

theorem deliver_plain {c : Ch} (h : Inv c) {n : Int} (h0 : 0 ≤ n) (h1 : n < c.Flight.length) : channel_line_deliver_m ⟨c⟩ n = some ⟨actS { c with Flight := without c.Flight n.toNat } (pk c.Flight n.toNat)⟩ := by
  have hfl := h.fl
  unfold channel_line_deliver_m
  dsimp only
  rw [idx_pk' h0 h1, some_bind, delete_plain h0 h1 (by omega), some_bind]
  have hp := h.fr _ (pk_mem (l := c.Flight) (i := n.toNat) (by omega))
  unfold actS
  cases ha : (pk c.Flight n.toNat).Ack with
  | true =>
    rw [if_pos rfl]
    simp only [cond_true]
    have : imax c.Base (pk c.Flight n.toNat).Number = max c.Base (pk c.Flight n.toNat).Number := by unfold imax; split <;> omega
    rw [this]
  | false =>
    rw [if_neg (by simp)]
    simp only [cond_false]
    rw [receive_plain (inv_without h (by omega)) (hp.2.2 ha), some_bind]

/-- what sending does -/
noncomputable def sendS (c : Ch) (n : Int) : Int × Ch :=
  if n < 0 ∨ c.Window ≤ n ∨ c.Items.length ≤ c.Base + n then (1, c) else if 200 ≤ c.Flight.length then (2, c) else
    (0, { c with Flight := c.Flight ++ [⟨false, c.Base + n, c.Items.getD (c.Base + n).toNat 0⟩] })

theorem send_plain {c : Ch} (h : Inv c) {n : Int} : channel_line_send_m ⟨c⟩ n = some ((sendS c n).1, ⟨(sendS c n).2⟩) := by
  have hi := h.it; have h0 := h.b0; have h1 := h.b1; have hrl := h.rl; have hw1 := h.w1
  unfold channel_line_send_m sendS
  dsimp only
  simp only [letM_eq]
  unfold joinM
  dsimp only
  by_cases g1 : n < 0
  · rw [decide_eq_true g1, if_pos (.inl g1)]; rfl
  rw [decide_eq_false g1]
  by_cases g2 : n ≥ c.Window
  · rw [decide_eq_true g2, if_pos (.inr (.inl g2))]; rfl
  rw [decide_eq_false g2]
  have hk : iadd .i64 c.Base n = c.Base + n := iadd64 (by omega) (by omega)
  rw [hk, decide_eq_false (show ¬ c.Base + n < 0 by omega)]
  simp only [cond_false]
  by_cases g3 : c.Base + n ≥ (c.Items.length : Int)
  · rw [decide_eq_true g3, if_pos (.inr (.inr g3))]; rfl
  rw [decide_eq_false g3, if_neg (by omega)]
  simp only [cond_false]
  rw [full_plain, some_bind]
  by_cases g4 : 200 ≤ c.Flight.length
  · rw [decide_eq_true g4, if_pos g4]; rfl
  rw [decide_eq_false g4, if_neg g4]
  simp only [cond_false]
  rw [idxM_getD' 0 (by omega) (by omega), some_bind, app_one (by omega), some_bind]

theorem Step_plain {c : Ch} (h : Inv c) (e : T_api_NetEvent) : channel_Step_m c e = some (stepS c e) := by
  have hfl := h.fl
  unfold channel_Step_m
  rw [copied_plain h, some_bind]
  unfold joinM stepS
  dsimp only
  by_cases k1 : e.Kind = 1
  · rw [show (e.Kind == 1) = true from by simpa using k1, if_neg (by omega), if_pos k1]
    simp only [cond_true]
    rw [send_plain h, some_bind]
    unfold sendS
    by_cases g3 : e.N < 0 ∨ c.Window ≤ e.N ∨ c.Items.length ≤ c.Base + e.N
    · rw [if_pos g3, if_pos g3]; rfl
    rw [if_neg g3, if_neg g3]
    by_cases g4 : 200 ≤ c.Flight.length
    · rw [if_pos g4, if_pos g4]; rfl
    rw [if_neg g4, if_neg g4]; rfl
  rw [show (e.Kind == 1) = false from by simpa using k1]
  simp only [cond_false]
  by_cases k2 : e.Kind = 2
  · rw [show (e.Kind == 2) = true from by simpa using k2, if_neg (by omega), if_neg k1]
    simp only [cond_true]
    by_cases g1 : e.N < 0
    · rw [decide_eq_true g1, if_pos (.inl g1)]; rfl
    rw [decide_eq_false g1]
    by_cases g2 : e.N ≥ (c.Flight.length : Int)
    · rw [decide_eq_true g2, if_pos (.inr g2)]; rfl
    rw [decide_eq_false g2, if_neg (by omega), if_neg (by omega), if_neg (by omega)]
    simp only [cond_false]
    rw [deliver_plain h (by omega) (by omega), some_bind]
  rw [show (e.Kind == 2) = false from by simpa using k2]
  simp only [cond_false]
  by_cases k3 : e.Kind = 3
  · rw [show (e.Kind == 3) = true from by simpa using k3, if_neg (by omega), if_neg k1]
    simp only [cond_true]
    by_cases g1 : e.N < 0
    · rw [decide_eq_true g1, if_pos (.inl g1)]; rfl
    rw [decide_eq_false g1]
    by_cases g2 : e.N ≥ (c.Flight.length : Int)
    · rw [decide_eq_true g2, if_pos (.inr g2)]; rfl
    rw [decide_eq_false g2, if_neg (by omega), if_neg (by omega), if_pos k3]
    simp only [cond_false]
    rw [delete_plain (by omega) (by omega) (by omega), some_bind]
  rw [show (e.Kind == 3) = false from by simpa using k3]
  simp only [cond_false]
  by_cases k4 : e.Kind = 4
  · rw [show (e.Kind == 4) = true from by simpa using k4, if_neg (by omega), if_neg k1]
    simp only [cond_true]
    by_cases g1 : e.N < 0
    · rw [decide_eq_true g1, if_pos (.inl g1)]; rfl
    rw [decide_eq_false g1]
    by_cases g2 : e.N ≥ (c.Flight.length : Int)
    · rw [decide_eq_true g2, if_pos (.inr g2)]; rfl
    rw [decide_eq_false g2, if_neg (by omega), if_pos k4]
    simp only [cond_false]
    rw [full_plain, some_bind]
    by_cases g4 : 200 ≤ c.Flight.length
    · rw [decide_eq_true g4, if_pos g4]; rfl
    rw [decide_eq_false g4, if_neg g4]
    simp only [cond_false]
    rw [idx_pk' (by omega) (by omega), some_bind, app_one (by omega), some_bind]
  rw [show (e.Kind == 4) = false from by simpa using k4, if_pos (by omega)]
  rfl
end Go.Dc
