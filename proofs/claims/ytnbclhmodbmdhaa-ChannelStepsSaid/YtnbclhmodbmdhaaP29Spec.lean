/- Part P29.Spec of a proof: lemmas. -/
import Derived.Test.YtnbclhmodbmdhaaLAW29Types
import Derived.Test.YtnbclhmodbmdhaaDcPlain2
set_option linter.unusedVariables false
set_option linter.unusedSimpArgs false
/-! Channels: what a step does, and what stays true. -/
namespace Go.Dc
abbrev Ch := T_api_Channel
abbrev Pk := T_api_Packet

def pz : Pk := ⟨false, 0, 0⟩
def pk (l : List Pk) (i : Nat) : Pk := l.getD i pz
theorem idx_pk {l : List Pk} {i : Nat} (h : i < l.length) : idxM l (i : Int) = some (pk l i) := idxM_getD h
theorem idx_pk' {l : List Pk} {n : Int} (h0 : 0 ≤ n) (h : n < l.length) : idxM l n = some (pk l n.toNat) := idxM_getD' _ h0 h
theorem pk_mem {l : List Pk} {i : Nat} (h : i < l.length) : pk l i ∈ l := by simp [pk, List.getD, h]
theorem mem_pk {l : List Pk} {p : Pk} (h : p ∈ l) : ∃ i, i < l.length ∧ pk l i = p := by
  obtain ⟨i, hi, e⟩ := List.mem_iff_getElem.1 h
  exact ⟨i, hi, by simp [pk, List.getD, hi, e]⟩

abbrev Srt (l : List Pk) : Prop := l.Pairwise fun a b => a.Number < b.Number

theorem Srt.get {l : List Pk} (h : Srt l) {i j : Nat} (hij : i < j) (hj : j < l.length) : (pk l i).Number < (pk l j).Number := by
  have := List.pairwise_iff_getElem.1 h i j (by omega) hj hij
  simpa [pk, List.getD, hj, show i < l.length by omega] using this

/-- where a number stands in an ascending list, or would stand -/
structure IsPos (x : Int) (l : List Pk) (k : Nat) : Prop where
  le : k ≤ l.length
  lo : ∀ i, i < k → (pk l i).Number < x
  hi : ∀ i, k ≤ i → i < l.length → x ≤ (pk l i).Number

theorem IsPos.unique {x : Int} {l : List Pk} {k k' : Nat} (h : IsPos x l k) (h' : IsPos x l k') : k = k' := by
  rcases Nat.lt_trichotomy k k' with e | e | e
  · have := h'.lo k e; have := h.hi k (Nat.le_refl _) (by have := h'.le; omega); omega
  · exact e
  · have := h.lo k' e; have := h'.hi k' (Nat.le_refl _) (by have := h.le; omega); omega

theorem exists_pos (x : Int) : ∀ (l : List Pk), Srt l → ∃ k, IsPos x l k
  | [], _ => ⟨0, ⟨Nat.le_refl _, fun i hi => by omega, fun i _ hi => by simp at hi⟩⟩
  | p :: l, h => by
    obtain ⟨h1, h2⟩ := List.pairwise_cons.1 h
    by_cases hp : p.Number < x
    · obtain ⟨k, hk⟩ := exists_pos x l h2
      refine ⟨k + 1, ⟨by simpa using hk.le, fun i hi => ?_, fun i hi hl => ?_⟩⟩
      · cases i with
        | zero => simpa [pk] using hp
        | succ i => have := hk.lo i (by omega); simpa [pk] using this
      · cases i with
        | zero => omega
        | succ i => have := hk.hi i (by omega) (by simpa using hl); simpa [pk] using this
    · refine ⟨0, ⟨Nat.zero_le _, fun i hi => by omega, fun i _ hl => ?_⟩⟩
      obtain h3 := pk_mem hl
      rcases List.mem_cons.1 h3 with e | e
      · rw [e]; omega
      · have := h1 _ e; omega

/-- the packets that can be delivered now go out of those that are held -/
def drain : Int → List Pk → List Pk × List Int
  | _, [] => ([], [])
  | n, h :: t => if h.Number = n then ((drain (n + 1) t).1, h.Value :: (drain (n + 1) t).2) else (h :: t, [])

def val (I : List Int) (p : Pk) : Prop := 0 ≤ p.Number ∧ p.Number < I.length ∧ p.Value = I.getD p.Number.toNat 0

theorem drain_ok (I : List Int) : ∀ (l : List Pk) (n : Nat), n ≤ I.length → Srt l → (∀ p ∈ l, (n : Int) ≤ p.Number ∧ val I p) →
    Srt (drain n l).1 ∧ (∀ p ∈ (drain n l).1, p ∈ l ∧ (n : Int) + (drain n l).2.length < p.Number) ∧ n + (drain n l).2.length ≤ I.length ∧
      I.take n ++ (drain n l).2 = I.take (n + (drain n l).2.length)
  | [], n, hn, _, _ => ⟨List.Pairwise.nil, by simp [drain], by simpa [drain] using hn, by simp [drain]⟩
  | h :: t, n, hn, hs, hv => by
    obtain ⟨h1, h2⟩ := List.pairwise_cons.1 hs
    obtain ⟨v1, v2, v3, v4⟩ := hv h (by simp)
    by_cases e : h.Number = n
    · have hlt : n < I.length := by omega
      obtain ⟨a, b, c, d⟩ := drain_ok I t (n + 1) hlt h2 fun p hp => ⟨by have := h1 p hp; omega, (hv p (by simp [hp])).2⟩
      have e1 : drain (n : Int) (h :: t) = ((drain ((n + 1 : Nat) : Int) t).1, h.Value :: (drain ((n + 1 : Nat) : Int) t).2) := by
        simp [drain, e]
      rw [e1]
      refine ⟨a, fun p hp => ?_, ?_, ?_⟩
      · obtain ⟨b1, b2⟩ := b p hp
        refine ⟨by simp [b1], ?_⟩
        simp only [List.length_cons]; omega
      · simp only [List.length_cons]; omega
      · have hg : h.Value = I[n] := by rw [v4, e]; simp [List.getD, hlt]
        rw [List.length_cons, show n + ((drain ((n + 1 : Nat) : Int) t).2.length + 1) = n + 1 + (drain ((n + 1 : Nat) : Int) t).2.length from by omega, ← d, hg]
        have e2 : I.take (n + 1) = I.take n ++ [I[n]] := by rw [List.take_add_one, List.getElem?_eq_getElem hlt]; rfl
        rw [e2, List.append_assoc]; rfl
    · have e1 : drain (n : Int) (h :: t) = (h :: t, []) := by simp [drain, e]
      rw [e1]
      refine ⟨hs, fun p hp => ⟨hp, ?_⟩, by simpa using hn, by simp⟩
      simp only [List.length_nil]
      rcases List.mem_cons.1 hp with rfl | hp
      · omega
      · have := h1 p hp; omega

theorem drain_none {n : Int} {l : List Pk} (h : ∀ p ∈ l, n < p.Number) : drain n l = (l, []) := by
  cases l with
  | nil => rfl
  | cons p l => have := h p (by simp); simp [drain, show ¬ p.Number = n by omega]

theorem srt_len : ∀ {l : List Pk} {a b : Int}, Srt l → a ≤ b → (∀ p ∈ l, a ≤ p.Number ∧ p.Number < b) → (l.length : Int) ≤ b - a
  | [], a, b, _, h, _ => by simp; omega
  | p :: l, a, b, hs, hab, h => by
    obtain ⟨h1, h2⟩ := List.pairwise_cons.1 hs
    obtain ⟨h3, h4⟩ := h p (by simp)
    have := srt_len (a := p.Number + 1) (b := b) h2 (by omega) fun q hq => ⟨by have := h1 q hq; omega, (h q (by simp [hq])).2⟩
    simp only [List.length_cons]; omega

def insAt (k : Nat) (p : Pk) (l : List Pk) : List Pk := l.take k ++ p :: l.drop k

theorem mem_insAt {k : Nat} {p q : Pk} {l : List Pk} : q ∈ insAt k p l ↔ q = p ∨ q ∈ l := by
  unfold insAt
  rw [List.mem_append, List.mem_cons]
  constructor
  · rintro (h | h | h)
    · exact .inr (List.mem_of_mem_take h)
    · exact .inl h
    · exact .inr (List.mem_of_mem_drop h)
  · rintro (h | h)
    · exact .inr (.inl h)
    · rw [← List.take_append_drop k l, List.mem_append] at h
      exact h.imp id .inr

theorem srt_insAt {k : Nat} {p : Pk} {l : List Pk} (hs : Srt l) (hk : IsPos p.Number l k) (hno : ∀ q ∈ l, q.Number ≠ p.Number) : Srt (insAt k p l) := by
  unfold insAt
  refine List.pairwise_append.2 ⟨hs.sublist (List.take_sublist _ _), List.pairwise_cons.2 ⟨fun q hq => ?_, hs.sublist (List.drop_sublist _ _)⟩, fun a ha b hb => ?_⟩
  · obtain ⟨i, hi, e⟩ := List.mem_iff_getElem.1 hq
    rw [List.getElem_drop] at e
    have hl : k + i < l.length := by simp at hi; omega
    have := hk.hi (k + i) (by omega) hl
    have h2 := hno q (List.mem_of_mem_drop hq)
    have e2 : pk l (k + i) = q := by simp [pk, List.getD, hl, e]
    rw [e2] at this; omega
  · obtain ⟨i, hi, e⟩ := List.mem_iff_getElem.1 ha
    rw [List.getElem_take] at e
    have hil : i < k ∧ i < l.length := by simp at hi; omega
    have h1 := hk.lo i hil.1
    have e2 : pk l i = a := by simp [pk, List.getD, hil.2, e]
    rw [e2] at h1
    rcases List.mem_cons.1 hb with rfl | hb
    · exact h1
    · obtain ⟨m, hm, e'⟩ := List.mem_iff_getElem.1 hb
      rw [List.getElem_drop] at e'
      have hl : k + m < l.length := by simp at hm; omega
      have := hk.hi (k + m) (by omega) hl
      have e3 : pk l (k + m) = b := by simp [pk, List.getD, hl, e']
      rw [e3] at this; omega

/-- the receiver's known packets -/
def known (c : Ch) (p : Pk) : Prop := p.Number < c.Received.length ∨ (c.Received.length : Int) + c.Window ≤ p.Number ∨ ∃ q ∈ c.Held, q.Number = p.Number

open Classical in
noncomputable def heldS (c : Ch) (p : Pk) : List Pk := if known c p then c.Held else if h : ∃ k, IsPos p.Number c.Held k then insAt h.choose p c.Held else c.Held
noncomputable def recvS (c : Ch) (p : Pk) : Ch :=
  { c with
    Received := c.Received ++ (drain c.Received.length (heldS c p)).2
    Held := (drain c.Received.length (heldS c p)).1
    Flight := if c.Flight.length < 200 then c.Flight ++ [⟨true, (c.Received ++ (drain c.Received.length (heldS c p)).2).length, 0⟩] else c.Flight }

theorem heldS_known {c : Ch} {p : Pk} (h : known c p) : heldS c p = c.Held := by unfold heldS; rw [if_pos h]
theorem heldS_new {c : Ch} {p : Pk} {k : Nat} (h : ¬ known c p) (hk : IsPos p.Number c.Held k) : heldS c p = insAt k p c.Held := by
  unfold heldS
  have hx : ∃ k, IsPos p.Number c.Held k := ⟨k, hk⟩
  rw [if_neg h, dif_pos hx, hx.choose_spec.unique hk]

noncomputable def actS (c : Ch) (p : Pk) : Ch := if p.Ack then { c with Base := max c.Base p.Number } else recvS c p
def without (l : List Pk) (n : Nat) : List Pk := l.take n ++ l.drop (n + 1)
def chz : Ch := ⟨[], 0, 0, [], [], []⟩

/-- one event -/
noncomputable def stepS (c : Ch) (e : T_api_NetEvent) : Ch × Int :=
  if e.Kind < 1 ∨ 4 < e.Kind then (chz, 4) else
  if e.Kind = 1 then
    (if e.N < 0 ∨ c.Window ≤ e.N ∨ c.Items.length ≤ c.Base + e.N then (chz, 1) else if 200 ≤ c.Flight.length then (chz, 2) else
      ({ c with Flight := c.Flight ++ [⟨false, c.Base + e.N, c.Items.getD (c.Base + e.N).toNat 0⟩] }, 0)) else
  if e.N < 0 ∨ c.Flight.length ≤ e.N then (chz, 1) else
  if e.Kind = 4 then (if 200 ≤ c.Flight.length then (chz, 2) else ({ c with Flight := c.Flight ++ [pk c.Flight e.N.toNat] }, 0)) else
  if e.Kind = 3 then ({ c with Flight := without c.Flight e.N.toNat }, 0) else
  (actS { c with Flight := without c.Flight e.N.toNat } (pk c.Flight e.N.toNat), 0)

structure Inv (c : Ch) : Prop where
  it : c.Items.length ≤ 60
  w0 : 1 ≤ c.Window
  w1 : c.Window ≤ 8
  b0 : 0 ≤ c.Base
  b1 : c.Base ≤ c.Received.length
  rl : c.Received.length ≤ c.Items.length
  rc : c.Received = c.Items.take c.Received.length
  hs : Srt c.Held
  hr : ∀ p ∈ c.Held, (c.Received.length : Int) < p.Number ∧ p.Number < c.Received.length + c.Window ∧ val c.Items p
  fl : c.Flight.length ≤ 200
  fr : ∀ p ∈ c.Flight, 0 ≤ p.Number ∧ (p.Ack = true → p.Number ≤ c.Received.length) ∧ (p.Ack = false → val c.Items p)

theorem Inv.held {c : Ch} (h : Inv c) : c.Held.length < 8 ∧ (c.Held.length : Int) < c.Window := by
  have h1 := srt_len (a := c.Received.length + 1) (b := c.Received.length + c.Window) h.hs (by have := h.w0; omega) fun p hp => ⟨by have := (h.hr p hp).1; omega, (h.hr p hp).2.1⟩
  have := h.w1
  omega

theorem Inv.newH {c : Ch} (h : Inv c) {p : Pk} (hp : val c.Items p) : Srt (heldS c p) ∧ (∀ q ∈ heldS c p, (c.Received.length : Int) ≤ q.Number ∧ q.Number < c.Received.length + c.Window ∧ val c.Items q) ∧ (heldS c p).length ≤ 8 := by
  by_cases hk : known c p
  · rw [heldS_known hk]
    exact ⟨h.hs, fun q hq => ⟨by have := (h.hr q hq).1; omega, (h.hr q hq).2.1, (h.hr q hq).2.2⟩, by have := h.held; omega⟩
  · obtain ⟨k, hpos⟩ := exists_pos p.Number c.Held h.hs
    rw [heldS_new hk hpos]
    unfold known at hk
    rw [not_or, not_or] at hk
    obtain ⟨k1, k2, k3⟩ := hk
    refine ⟨srt_insAt h.hs hpos fun q hq e => k3 ⟨q, hq, e⟩, fun q hq => ?_, ?_⟩
    · rcases mem_insAt.1 hq with rfl | hq
      · exact ⟨by omega, by omega, hp⟩
      · exact ⟨by have := (h.hr q hq).1; omega, (h.hr q hq).2.1, (h.hr q hq).2.2⟩
    · have := h.held; have := hpos.le; simp [insAt]; omega

theorem Inv.recv {c : Ch} (h : Inv c) {p : Pk} (hp : val c.Items p) : Inv (recvS c p) ∧ c.Received.length ≤ (recvS c p).Received.length := by
  obtain ⟨h1, h2, h3⟩ := h.newH hp
  obtain ⟨a, b, c1, d⟩ := drain_ok c.Items (heldS c p) c.Received.length h.rl h1 fun q hq => ⟨(h2 q hq).1, (h2 q hq).2.2⟩
  have hlen : (recvS c p).Received.length = c.Received.length + (drain c.Received.length (heldS c p)).2.length := by simp [recvS]
  refine ⟨⟨h.it, h.w0, h.w1, h.b0, by rw [hlen]; have := h.b1; show c.Base ≤ _; omega, by rw [hlen]; exact c1, ?_, a, fun q hq => ?_, ?_, fun q hq => ?_⟩, by omega⟩
  · rw [hlen]
    show c.Received ++ _ = c.Items.take _
    rw [← d, ← h.rc]
  · obtain ⟨b1, b2⟩ := b q hq
    rw [hlen]
    obtain ⟨e1, e2, e3⟩ := h2 q b1
    exact ⟨by omega, by show _ < _ + c.Window; omega, e3⟩
  · show (if _ then _ else _ : List Pk).length ≤ 200
    split
    · simp; omega
    · exact h.fl
  · have old : q ∈ c.Flight → 0 ≤ q.Number ∧ (q.Ack = true → q.Number ≤ (recvS c p).Received.length) ∧ (q.Ack = false → val c.Items q) := fun hq => by
      obtain ⟨f1, f2, f3⟩ := h.fr q hq
      exact ⟨f1, fun ha => by have := f2 ha; rw [hlen]; omega, f3⟩
    have hq' : q ∈ (if c.Flight.length < 200 then c.Flight ++ [⟨true, (c.Received ++ (drain c.Received.length (heldS c p)).2).length, 0⟩] else c.Flight) := hq
    split at hq'
    · rcases List.mem_append.1 hq' with hq' | hq'
      · exact old hq'
      · rw [List.mem_singleton] at hq'
        subst hq'
        exact ⟨Int.natCast_nonneg _, fun _ => Int.le_refl _, fun h => by cases h⟩
    · exact old hq'

theorem Inv.flight {c : Ch} (h : Inv c) {F : List Pk} (hl : F.length ≤ 200) (hf : ∀ p ∈ F, p ∈ c.Flight ∨ p.Ack = false ∧ val c.Items p) : Inv { c with Flight := F } :=
  ⟨h.it, h.w0, h.w1, h.b0, h.b1, h.rl, h.rc, h.hs, h.hr, hl, fun p hp => by
    rcases hf p hp with h1 | ⟨h1, h2⟩
    · exact h.fr p h1
    · exact ⟨h2.1, fun h' => (by rw [h1] at h'; cases h'), fun _ => h2⟩⟩

theorem mem_without {l : List Pk} {n : Nat} {p : Pk} (h : p ∈ without l n) : p ∈ l := by
  unfold without at h
  rcases List.mem_append.1 h with h | h
  · exact List.mem_of_mem_take h
  · exact List.mem_of_mem_drop h
theorem len_without {l : List Pk} {n : Nat} (h : n < l.length) : (without l n).length = l.length - 1 := by simp [without]; omega

theorem Inv.act {c : Ch} (h : Inv c) {p : Pk} (hp : 0 ≤ p.Number ∧ (p.Ack = true → p.Number ≤ c.Received.length) ∧ (p.Ack = false → val c.Items p)) :
    Inv (actS c p) ∧ c.Received.length ≤ (actS c p).Received.length ∧ c.Base ≤ (actS c p).Base ∧ (actS c p).Items = c.Items ∧ (actS c p).Window = c.Window := by
  cases ha : p.Ack with
  | true =>
    have e : actS c p = { c with Base := max c.Base p.Number } := by unfold actS; rw [if_pos ha]
    have h1 := hp.2.1 ha
    have hb0 := h.b0; have hb1 := h.b1
    rw [e]
    exact ⟨⟨h.it, h.w0, h.w1, (by show (0 : Int) ≤ max c.Base p.Number; omega), (by show max c.Base p.Number ≤ (c.Received.length : Int); omega), h.rl, h.rc, h.hs, h.hr, h.fl, h.fr⟩, Nat.le_refl _, (by show c.Base ≤ max c.Base p.Number; omega), rfl, rfl⟩
  | false =>
    have e : actS c p = recvS c p := by unfold actS; rw [if_neg (by rw [ha]; simp)]
    rw [e]
    obtain ⟨h1, h2⟩ := h.recv (hp.2.2 ha)
    exact ⟨h1, h2, Int.le_refl _, rfl, rfl⟩

theorem Inv.step {c : Ch} (h : Inv c) {e : T_api_NetEvent} (he : (stepS c e).2 = 0) :
    Inv (stepS c e).1 ∧ c.Received.length ≤ (stepS c e).1.Received.length ∧ c.Base ≤ (stepS c e).1.Base ∧ (stepS c e).1.Items = c.Items ∧ (stepS c e).1.Window = c.Window := by
  have h0 := h.b0; have hb1 := h.b1
  unfold stepS at he ⊢
  by_cases g1 : e.Kind < 1 ∨ 4 < e.Kind
  · rw [if_pos g1] at he; cases he
  rw [if_neg g1] at he ⊢
  by_cases g2 : e.Kind = 1
  · rw [if_pos g2] at he ⊢
    by_cases g3 : e.N < 0 ∨ c.Window ≤ e.N ∨ c.Items.length ≤ c.Base + e.N
    · rw [if_pos g3] at he; cases he
    rw [if_neg g3] at he ⊢
    by_cases g4 : 200 ≤ c.Flight.length
    · rw [if_pos g4] at he; cases he
    rw [if_neg g4]
    refine ⟨h.flight (by simp; omega) fun p hp => ?_, Nat.le_refl _, Int.le_refl _, rfl, rfl⟩
    rcases List.mem_append.1 hp with hp | hp
    · exact .inl hp
    · rw [List.mem_singleton] at hp; subst hp
      exact .inr ⟨rfl, by show 0 ≤ c.Base + e.N; omega, by show c.Base + e.N < _; omega, rfl⟩
  rw [if_neg g2] at he ⊢
  by_cases g3 : e.N < 0 ∨ c.Flight.length ≤ e.N
  · rw [if_pos g3] at he; cases he
  rw [if_neg g3] at he ⊢
  have hn : e.N.toNat < c.Flight.length := by omega
  by_cases g4 : e.Kind = 4
  · rw [if_pos g4] at he ⊢
    by_cases g5 : 200 ≤ c.Flight.length
    · rw [if_pos g5] at he; cases he
    rw [if_neg g5]
    refine ⟨h.flight (by simp; omega) fun p hp => ?_, Nat.le_refl _, Int.le_refl _, rfl, rfl⟩
    rcases List.mem_append.1 hp with hp | hp
    · exact .inl hp
    · rw [List.mem_singleton] at hp; subst hp; exact .inl (pk_mem hn)
  rw [if_neg g4] at he ⊢
  have hw : Inv { c with Flight := without c.Flight e.N.toNat } := h.flight (by rw [len_without hn]; have := h.fl; omega) fun p hp => .inl (mem_without hp)
  by_cases g5 : e.Kind = 3
  · rw [if_pos g5]
    exact ⟨hw, Nat.le_refl _, Int.le_refl _, rfl, rfl⟩
  · rw [if_neg g5]
    exact hw.act (h.fr _ (pk_mem hn))
end Go.Dc
