/- Part P29.Fin of a proof: lemmas. -/
import Derived.Test.YtnbclhmodbmdhaaP29Ref
set_option linter.unusedVariables false
set_option linter.unusedSimpArgs false
/-! Finish: rounds without loss. -/
namespace Go.Dc

theorem drain_pos {l : List Pk} {n : Int} (hs : Srt l) (hn : ∀ p ∈ l, n ≤ p.Number) (hq : ∃ q ∈ l, q.Number = n) : 1 ≤ (drain n l).2.length := by
  cases l with
  | nil => obtain ⟨q, h, _⟩ := hq; simp at h
  | cons p l =>
    obtain ⟨h1, h2⟩ := List.pairwise_cons.1 hs
    obtain ⟨q, hq, e⟩ := hq
    have hp : p.Number = n := by
      have := hn p (by simp)
      rcases List.mem_cons.1 hq with rfl | hq
      · exact e
      · have := h1 q hq; omega
    simp [drain, hp]

def bare (c : Ch) : Ch := { c with Flight := [] }
def pkt (c : Ch) : Pk := ⟨false, c.Base, c.Items.getD c.Base.toNat 0⟩
noncomputable def got (c : Ch) : Ch := recvS (bare c) (pkt c)
noncomputable def rnd (c : Ch) : Ch := { got c with Flight := [], Base := max c.Base (got c).Received.length }

noncomputable def finS : Nat → Ch → Ch × Int
  | 0, c => (bare c, 0)
  | k + 1, c => if c.Base = c.Items.length then (bare c, 0) else ((finS k (rnd c)).1, (finS k (rnd c)).2 + 1)

theorem inv_bare {c : Ch} (h : Inv c) : Inv (bare c) := h.flight (by simp) fun p hp => by simp at hp

theorem got_flight {c : Ch} : (got c).Flight = [⟨true, (got c).Received.length, 0⟩] := by
  simp [got, recvS, bare]
theorem act1 {c : Ch} : actS { ({ bare c with Flight := [pkt c] } : Ch) with Flight := without [pkt c] 0 } (pk [pkt c] 0) = got c := by
  unfold actS
  rw [if_neg (by simp [pk, pkt])]
  rfl
theorem act2 {c : Ch} : actS { got c with Flight := without (got c).Flight 0 } (pk (got c).Flight 0) = rnd c := by
  rw [got_flight]
  unfold actS
  rw [if_pos (by rfl)]
  rfl
section
variable {c : Ch} (h : Inv c) (hb : c.Base ≠ c.Items.length)
include h hb
theorem pkt_val : val c.Items (pkt c) := by
  have := h.b0; have := h.b1; have := h.rl
  exact ⟨h.b0, by show c.Base < _; omega, rfl⟩
theorem got_inv : Inv (got c) ∧ c.Received.length ≤ (got c).Received.length := (inv_bare h).recv (@pkt_val c h hb)
theorem got_more : c.Base < (got c).Received.length := by
  have hg := (got_inv h hb).2
  have h1 := h.b1
  by_cases e : c.Base < c.Received.length
  · omega
  · have e' : c.Base = c.Received.length := by omega
    have hN := (inv_bare h).newH (@pkt_val c h hb)
    have hnk : ¬ known (bare c) (pkt c) := by
      have hw := h.w0
      rintro (a | a | ⟨q, hq, a⟩)
      · exact e a
      · have a' : (c.Received.length : Int) + c.Window ≤ c.Base := a; omega
      · have := (h.hr q hq).1
        have a' : q.Number = c.Base := a
        omega
    obtain ⟨k, hk⟩ := exists_pos (pkt c).Number c.Held h.hs
    have hin : pkt c ∈ heldS (bare c) (pkt c) := by
      rw [heldS_new hnk (c := bare c) hk]; exact mem_insAt.2 (.inl rfl)
    have := drain_pos (n := (c.Received.length : Int)) hN.1 (fun p hp => (hN.2.1 p hp).1) ⟨_, hin, by show c.Base = _; exact e'⟩
    have hlen : (got c).Received.length = c.Received.length + (drain c.Received.length (heldS (bare c) (pkt c))).2.length := by simp [got, recvS, bare]
    omega
theorem rnd_inv : Inv (rnd c) ∧ c.Base + 1 ≤ (rnd c).Base ∧ (rnd c).Items = c.Items := by
  obtain ⟨g, g2⟩ := got_inv h hb
  have hm := got_more h hb
  have h0 := h.b0
  refine ⟨⟨g.it, g.w0, g.w1, ?_, ?_, g.rl, g.rc, g.hs, g.hr, by simp [rnd], fun p hp => by simp [rnd] at hp⟩, ?_, rfl⟩
  · show 0 ≤ max c.Base _; omega
  · show max c.Base _ ≤ ((got c).Received.length : Int); omega
  · show c.Base + 1 ≤ max c.Base _; omega
theorem send_round : sendS (bare c) 0 = (0, { bare c with Flight := [pkt c] }) := by
  have := h.b0; have := h.b1; have := h.rl; have := h.w0
  unfold sendS
  rw [if_neg (by show ¬ ((0 : Int) < 0 ∨ c.Window ≤ 0 ∨ (c.Items.length : Int) ≤ c.Base + 0); omega), if_neg (by simp [bare])]
  simp [bare, pkt]
theorem sent_inv : Inv { bare c with Flight := [pkt c] } := (inv_bare h).flight (by simp) fun p hp => by
  rw [List.mem_singleton.1 hp]; exact .inr ⟨rfl, @pkt_val c h hb⟩
end

theorem CFin_loop : ∀ (k : Nat) (c : Ch) (n : Int), Inv c → (c.Items.length : Int) - c.Base ≤ k → 0 ≤ n → n + k ≤ 1000 →
    loopC channel_Finish_l1 (n, c.Window, c.Base, c.Items, c.Received, c.Held, c.Flight) = some ((finS k c).1, n + (finS k c).2) := by
  have done : ∀ (c : Ch) (n : Int), c.Base = c.Items.length → loopC channel_Finish_l1 (n, c.Window, c.Base, c.Items, c.Received, c.Held, c.Flight) = some (bare c, n) := by
    intro c n e
    rw [loopC_eq]
    dsimp only [channel_Finish_l1]
    unfold joinM
    dsimp only
    rw [Done_plain, some_bind]
    dsimp only
    rw [show (c.Base == (c.Items.length : Int)) = true from by simpa using e]
    rfl
  intro k
  induction k with
  | zero =>
    intro c n h h1 h2 h3
    have := h.b1; have := h.rl
    rw [done c n (by omega)]
    simp [finS]
  | succ k ih =>
    intro c n h h1 h2 h3
    by_cases e : c.Base = c.Items.length
    · rw [done c n e]; simp [finS, e]
    · obtain ⟨r1, r2, r3⟩ := rnd_inv h e
      have hr := ih (rnd c) (n + 1) r1 (by rw [r3]; omega) (by omega) (by omega)
      have hf : finS (k + 1) c = ((finS k (rnd c)).1, (finS k (rnd c)).2 + 1) := by simp [finS, e]
      rw [hf, loopC_eq]
      dsimp only [channel_Finish_l1]
      unfold joinM
      dsimp only
      rw [Done_plain, some_bind]
      dsimp only
      rw [show (c.Base == (c.Items.length : Int)) = false from by simpa using e]
      simp only [cond_false]
      have hs : channel_line_send_m ⟨⟨c.Items, c.Window, c.Base, c.Received, c.Held, []⟩⟩ 0 = some (0, ⟨{ bare c with Flight := [pkt c] }⟩) := by
        have := send_plain (inv_bare h) (n := 0)
        rw [send_round h e] at this
        exact this
      rw [hs, some_bind]
      dsimp only
      rw [show ((0 : Int) != 0) = false from rfl]
      simp only [cond_false]
      have hd1 : channel_line_deliver_m ⟨⟨(bare c).Items, (bare c).Window, (bare c).Base, (bare c).Received, (bare c).Held, [pkt c]⟩⟩ 0 = some ⟨got c⟩ := by
        have := deliver_plain (sent_inv h e) (n := 0) (Int.le_refl _) (by simp)
        rw [show (0 : Int).toNat = 0 from rfl, act1] at this
        exact this
      rw [hd1, some_bind]
      have hd2 : channel_line_deliver_m ⟨got c⟩ 0 = some ⟨rnd c⟩ := by
        have := deliver_plain (got_inv h e).1 (n := 0) (Int.le_refl _) (by rw [got_flight]; simp)
        rw [show (0 : Int).toNat = 0 from rfl, act2] at this
        exact this
      rw [hd2, some_bind, letM_eq, iadd64 (by omega) (by omega)]
      dsimp only
      rw [show ((rnd c).Base == (bare c).Base) = false from by
        have : (rnd c).Base ≠ c.Base := by omega
        simpa [bare] using this]
      simp only [cond_false, Option.bind_some]
      rw [hr]
      congr 2
      omega

theorem CFinish_plain {c : Ch} (h : Inv c) : channel_Finish_m c = some (finS (c.Items.length - c.Base.toNat) c) := by
  have := h.it; have := h.b0; have := h.b1; have := h.rl
  unfold channel_Finish_m
  rw [copied_plain h, some_bind]
  dsimp only
  rw [CFin_loop (c.Items.length - c.Base.toNat) c 0 h (by omega) (by omega) (by omega), some_bind]
  simp

theorem RFin_loop : ∀ (k : Nat) (c : Ch) (n : Int), Inv c → (c.Items.length : Int) - c.Base ≤ k → 0 ≤ n → n + k ≤ 1000 →
    loopC ref29_Finish_l1 (n, c) = some ((finS k c).1, n + (finS k c).2) := by
  have done : ∀ (c : Ch) (n : Int), c.Base = c.Items.length → loopC ref29_Finish_l1 (n, c) = some (bare c, n) := by
    intro c n e
    rw [loopC_eq]
    dsimp only [ref29_Finish_l1]
    rw [RDone_plain, some_bind]
    dsimp only
    rw [show (c.Base == (c.Items.length : Int)) = true from by simpa using e]
    rfl
  intro k
  induction k with
  | zero =>
    intro c n h h1 h2 h3
    have := h.b1; have := h.rl
    rw [done c n (by omega)]
    simp [finS]
  | succ k ih =>
    intro c n h h1 h2 h3
    by_cases e : c.Base = c.Items.length
    · rw [done c n e]; simp [finS, e]
    · obtain ⟨r1, r2, r3⟩ := rnd_inv h e
      have hr := ih (rnd c) (n + 1) r1 (by rw [r3]; omega) (by omega) (by omega)
      have hf : finS (k + 1) c = ((finS k (rnd c)).1, (finS k (rnd c)).2 + 1) := by simp [finS, e]
      rw [hf, loopC_eq]
      dsimp only [ref29_Finish_l1]
      rw [RDone_plain, some_bind]
      dsimp only
      rw [show (c.Base == (c.Items.length : Int)) = false from by simpa using e]
      simp only [cond_false]
      have s1 : ref29_Step_m ⟨c.Items, c.Window, c.Base, c.Received, c.Held, []⟩ ⟨1, 0⟩ = some ({ bare c with Flight := [pkt c] }, 0) := by
        have := RStep_plain (inv_bare h) ⟨1, 0⟩
        rw [show ref29_Step_m ⟨c.Items, c.Window, c.Base, c.Received, c.Held, []⟩ ⟨1, 0⟩ = _ from this]
        have hsd := send_round h e
        unfold sendS at hsd
        unfold stepS
        dsimp only
        rw [if_neg (by omega), if_pos rfl]
        split at hsd
        · have := congrArg Prod.fst hsd; simp at this
        · rename_i g
          rw [if_neg g]
          split at hsd
          · have := congrArg Prod.fst hsd; simp at this
          · rename_i g2
            rw [if_neg g2]
            rw [(Prod.mk.inj hsd).2]
      rw [s1, some_bind]
      have s2 : ref29_Step_m { bare c with Flight := [pkt c] } ⟨2, 0⟩ = some (got c, 0) := by
        rw [RStep_plain (sent_inv h e)]
        unfold stepS
        dsimp only
        rw [if_neg (by omega), if_neg (by omega), if_neg (by simp), if_neg (by omega), if_neg (by omega), show (0 : Int).toNat = 0 from rfl, act1]
      dsimp only at s2 ⊢
      rw [s2, some_bind]
      have s3 : ref29_Step_m (got c) ⟨2, 0⟩ = some (rnd c, 0) := by
        rw [RStep_plain (got_inv h e).1]
        unfold stepS
        dsimp only
        rw [if_neg (by omega), if_neg (by omega), if_neg (by rw [got_flight]; simp), if_neg (by omega), if_neg (by omega), show (0 : Int).toNat = 0 from rfl, act2]
      rw [s3, some_bind, letM_eq, iadd64 (by omega) (by omega)]
      simp only [Option.bind_some]
      rw [hr]
      congr 2
      omega

theorem RFinish_plain {c : Ch} (h : Inv c) : ref29_Finish_m c = some (finS (c.Items.length - c.Base.toNat) c) := by
  have := h.it; have := h.b0; have := h.b1; have := h.rl
  unfold ref29_Finish_m
  rw [RFin_loop (c.Items.length - c.Base.toNat) c 0 h (by omega) (by omega) (by omega), some_bind]
  simp

theorem finS_ok : ∀ (k : Nat) (c : Ch), Inv c → (c.Items.length : Int) - c.Base ≤ k → Inv (finS k c).1 ∧ (finS k c).1.Base = c.Items.length ∧ (finS k c).1.Items = c.Items ∧ (finS k c).1.Flight = [] ∧ 0 ≤ (finS k c).2 ∧ (finS k c).2 ≤ k := by
  intro k
  induction k with
  | zero =>
    intro c h h1
    have := h.b1; have := h.rl
    exact ⟨inv_bare h, by show c.Base = _; omega, rfl, rfl, Int.le_refl _, Int.le_refl _⟩
  | succ k ih =>
    intro c h h1
    by_cases e : c.Base = c.Items.length
    · simp only [finS, if_pos e]
      exact ⟨inv_bare h, e, rfl, rfl, Int.le_refl _, by omega⟩
    · obtain ⟨r1, r2, r3⟩ := rnd_inv h e
      obtain ⟨a, b, c1, d, f, g⟩ := ih (rnd c) r1 (by rw [r3]; omega)
      simp only [finS, if_neg e]
      rw [r3] at b c1
      exact ⟨a, b, c1, d, by omega, by omega⟩
end Go.Dc
