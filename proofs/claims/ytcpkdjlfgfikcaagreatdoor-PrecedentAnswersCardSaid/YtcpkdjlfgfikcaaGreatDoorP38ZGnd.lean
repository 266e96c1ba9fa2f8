/- Part P38Z.Gnd of a proof: lemmas. -/
import Derived.Test.YtcpkdjlfgfikcaaGreatDoorP38ZAwake
import Derived.Test.YtcpkdjlfgfikcaaGreatDoorDcGr
set_option linter.unusedVariables false
set_option linter.unusedSimpArgs false
/-! The grounded labelling of the reference. -/
namespace Go.Dc

def sf (l : List Int) : Nat → Int := fun i => l.getD i 0
theorem idx_sf {l : List Int} {i : Nat} (h : i < l.length) : idxM l (i : Int) = some (sf l i) := idxM_getD h
theorem sf_set {l : List Int} {i j : Nat} {x : Int} (h : i < l.length) : sf (l.set i x) j = if i = j then x else sf l j := getD_set h

/-- a graph, its attacks in whatever order -/
structure GV0 (g : T_Gra) : Prop where
  n0 : 0 ≤ g.N
  n1 : g.N ≤ 40
  v : ∀ p ∈ g.L, 0 ≤ p.From ∧ p.From < g.N ∧ 0 ≤ p.To ∧ p.To < g.N

def att (g : T_Gra) (a b : Int) : Prop := ∃ p ∈ g.L, p.From = a ∧ p.To = b

theorem nHas_plain {g : T_Gra} (hl : g.L.length ≤ 1000000) {a b : Int} : net_Has_m g a b = some (g.L.any fun p => p.From == a && p.To == b) := by
  unfold net_Has_m
  refine any_bind (fun i hi => ?_) ?_
  · simp only [net_Has_l1]
    rw [decide_eq_true (by omega : (i : Int) < g.L.length), idxM_nat hi]
    simp only [cond_true, some_bind]
    rw [iadd1 (by omega)]
    by_cases h1 : g.L[i].From == a
    · by_cases h2 : g.L[i].To == b <;> simp [h1, h2]
    · simp [h1]
  · simp only [net_Has_l1]
    rw [decide_eq_false (by omega)]; rfl

theorem has_iff {g : T_Gra} {a b : Int} : (g.L.any fun p => p.From == a && p.To == b) = true ↔ att g a b := by
  simp [att, List.any_eq_true]

theorem nAttacked_plain {g : T_Gra} (hl : g.L.length ≤ 1000000) {s : List Int} (hs : s.length ≤ 1000000) {b : Int} : T (net_Attacked_m g s b) fun r => (r = true ↔ ∃ a ∈ s, att g a b) := by
  unfold net_Attacked_m
  have : (loopC (net_Attacked_l1 g s b) 0).bind (sumK (fun a : Bool => some a) fun _ : Unit => some false) = some (s.any fun a => g.L.any fun p => p.From == a && p.To == b) := by
    refine any_bind (fun i hi => ?_) ?_
    · simp only [net_Attacked_l1]
      rw [decide_eq_true (by omega : (i : Int) < s.length), idxM_nat hi]
      simp only [cond_true, some_bind, nHas_plain hl]
      rw [iadd1 (by omega)]
      cases (g.L.any fun p => p.From == s[i] && p.To == b) <;> rfl
    · simp only [net_Attacked_l1]
      rw [decide_eq_false (by omega)]; rfl
  rw [this]
  refine .ret ?_
  rw [List.any_eq_true]
  constructor
  · rintro ⟨a, h1, h2⟩; exact ⟨a, h1, has_iff.1 h2⟩
  · rintro ⟨a, h1, h2⟩; exact ⟨a, h1, has_iff.2 h2⟩

/-- the labels behind some rounds -/
structure Lb (g : T_Gra) (r : Nat) (l : Nat → Int) : Prop where
  v : ∀ i : Nat, (i : Int) < g.N → l i = 1 ∨ l i = 2 ∨ l i = 3
  i1 : ∀ i : Nat, (i : Int) < g.N → l i = 1 → ∀ b : Nat, att g b i → l b = 2
  i2 : ∀ i : Nat, (i : Int) < g.N → l i = 1 → ∀ b : Nat, att g i b → l b = 2
  i3 : ∀ i : Nat, (i : Int) < g.N → l i = 2 → ∃ a : Nat, (a : Int) < g.N ∧ att g a i ∧ l a = 1
  i4 : ∀ i : Nat, (i : Int) < g.N → GrN (att g) r i → l i = 1
  i5 : ∀ i : Nat, (i : Int) < g.N → l i = 1 → Gr (att g) i

open Classical in
theorem nGrounded_plain {g : T_Gra} (hg : GV0 g) (hl : g.L.length ≤ 1000000) : T (net_Grounded_m g) fun r => r.1.length = g.N.toNat ∧ (∀ i : Nat, (i : Int) < g.N → (sf r.1 i = 1 ∨ sf r.1 i = 2 ∨ sf r.1 i = 3) ∧ (sf r.1 i = 1 ↔ Gr (att g) i) ∧ (sf r.1 i = 2 ↔ ∃ a : Nat, att g a i ∧ Gr (att g) a)) := by
  obtain ⟨N, hN⟩ : ∃ N : Nat, g.N = (N : Int) := ⟨g.N.toNat, by have := hg.n0; omega⟩
  have h40 := hg.n1
  have hatt : ∀ a b, att g a b → 0 ≤ a ∧ a < (N : Int) ∧ 0 ≤ b ∧ b < (N : Int) := by
    rintro a b ⟨p, hp, rfl, rfl⟩
    have := hg.v p hp; omega
  have nat : ∀ a b, att g a b → ∃ m n : Nat, a = m ∧ b = n ∧ m < N ∧ n < N := fun a b h => by
    have := hatt a b h; exact ⟨a.toNat, b.toNat, by omega, by omega, by omega, by omega⟩
  unfold net_Grounded_m
  rw [hN, mkM_T (by omega), some_bind, some_bind]
  -- all undecided
  refine T.bind (P := fun l => l.length = N ∧ ∀ i, i < N → sf l i = 3) ?_ fun l0 ⟨hl0, h3⟩ => ?_
  · refine T.loopK N (fun i s => s.1 = (i : Int) ∧ i ≤ N ∧ s.2.length = N ∧ ∀ j, j < i → sf s.2 j = 3) ⟨rfl, by omega, by simp, by simp⟩ ?_
    rintro i ⟨_, l⟩ ⟨rfl, hi, hll, hj⟩
    dsimp only [net_Grounded_l1] at *
    rw [hN]
    refine T.cond (fun h => ?_) fun h => ?_
    · simp at h
      rw [idx_sf (by omega), some_bind, iadd1 (by omega)]
      refine .letM (.ret ⟨h, rfl, by omega, by simpa using hll, fun j hj2 => ?_⟩)
      dsimp only
      rw [Int.toNat_natCast, sf_set (by omega)]
      by_cases e : i = j
      · rw [if_pos e]
      · rw [if_neg e]; exact hj j (by omega)
    · simp at h
      exact .ret ⟨hll, fun j hj2 => hj j (by omega)⟩
  -- rounds
  refine T.bind (P := fun q => q.1.length = N ∧ Lb g (N + 1) (sf q.1)) ?_ fun q ⟨hq, hb⟩ => ?_
  rotate_left
  · have h4 : ∀ i : Nat, (i : Int) < g.N → Gr (att g) i → sf q.1 i = 1 := fun i hi h => hb.i4 i (by omega) ((Gr.bound (n := N) (fun a b h => ⟨(hatt a b h).1, (hatt a b h).2.1⟩) (by omega) (by omega) h).mono (by omega))
    refine .ret ⟨by rw [hq]; omega, fun i hi => ⟨hb.v i (by omega), ⟨hb.i5 i (by omega), h4 i (by omega)⟩, ⟨fun h => ?_, fun ⟨a, h1, h2⟩ => ?_⟩⟩⟩
    · obtain ⟨a, h1, h2, h3⟩ := hb.i3 i (by omega) h
      exact ⟨a, h2, hb.i5 a h1 h3⟩
    · have := hatt _ _ h1
      exact hb.i2 a (by omega) (h4 a (by omega) h2) i h1
  refine T.loopK (N + 1) (fun r s => s.1 = ((r + 1 : Nat) : Int) ∧ r ≤ N + 1 ∧ s.2.1.length = N ∧ s.2.2.length = N ∧ Lb g r (sf s.2.1)) ⟨rfl, by omega, hl0, by simp, ?_⟩ ?_
  · exact ⟨fun i hi => .inr (.inr (h3 i (by omega))), fun i hi h => by rw [h3 i (by omega)] at h; omega, fun i hi h => by rw [h3 i (by omega)] at h; omega,
      fun i hi h => by rw [h3 i (by omega)] at h; omega, fun i _ h => h.elim, fun i hi h => by rw [h3 i (by omega)] at h; omega⟩
  rintro r ⟨_, l, rk⟩ ⟨rfl, hr, hll, hrk, hb⟩
  dsimp only [net_Grounded_l2] at *
  rw [hN, iadd1 (by omega)]
  refine T.cond (fun h => ?_) fun h => ?_
  rotate_left
  · simp at h
    have e : r = N + 1 := by omega
    exact .ret ⟨hll, e ▸ hb⟩
  simp at h
  -- the nodes of this round
  refine T.bind (P := fun now => now.length ≤ N ∧ ∀ x : Int, x ∈ now ↔ ∃ i : Nat, x = i ∧ i < N ∧ sf l i = 3 ∧ ∀ b : Nat, att g b i → sf l b = 2) ?_ fun now ⟨hnl, hnow⟩ => ?_
  · refine T.loopK N (fun i s => s.1 = (i : Int) ∧ i ≤ N ∧ s.2.length ≤ i ∧ ∀ x : Int, x ∈ s.2 ↔ ∃ j : Nat, x = j ∧ j < i ∧ sf l j = 3 ∧ ∀ b : Nat, att g b j → sf l b = 2) ⟨rfl, by omega, by simp, by simp⟩ ?_
    rintro i ⟨_, now⟩ ⟨rfl, hi, hnl, hnow⟩
    dsimp only [net_Grounded_l3] at *
    rw [hN]
    refine T.cond (fun h2 => ?_) fun h2 => ?_
    rotate_left
    · simp at h2
      have e : i = N := by omega
      subst e
      exact .ret ⟨hnl, hnow⟩
    simp at h2
    rw [idx_sf (by omega), some_bind, iadd1 (by omega)]
    refine T.bind (P := fun ok => (ok = true ↔ sf l i = 3 ∧ ∀ b : Nat, att g b i → sf l b = 2)) ?_ fun ok hok => ?_
    · refine T.loopK N (fun b s => s.2 = (b : Int) ∧ b ≤ N ∧ (s.1 = true ↔ sf l i = 3 ∧ ∀ c : Nat, c < b → att g c i → sf l c = 2)) ⟨rfl, by omega, by simp⟩ ?_
      rintro b ⟨ok, _⟩ ⟨rfl, hbl, hok⟩
      dsimp only [net_Grounded_l4] at *
      rw [hN]
      refine T.cond (fun h5 => ?_) fun h5 => ?_
      rotate_left
      · simp at h5
        refine .ret (show (ok = true ↔ _) from ?_)
        rw [hok]
        constructor
        · rintro ⟨h6, h7⟩
          refine ⟨h6, fun c hc => h7 c ?_ hc⟩
          obtain ⟨m, n, h8, _, h9, _⟩ := nat _ _ hc
          omega
        · rintro ⟨h6, h7⟩; exact ⟨h6, fun c _ hc => h7 c hc⟩
      simp at h5
      rw [nHas_plain hl, some_bind, iadd1 (by omega), idx_sf (by omega), some_bind]
      have stp : ∀ ok' : Bool, (ok' = true ↔ ok = true ∧ (att g b i → sf l b = 2)) → T (some (Sum.inr (ok', ((b + 1 : Nat) : Int))) : Option (Sum Bool (Bool × Int))) (onO (fun ok => (ok = true ↔ sf l i = 3 ∧ ∀ b : Nat, att g b i → sf l b = 2)) fun s' => b < N ∧ s'.2 = ((b + 1 : Nat) : Int) ∧ b + 1 ≤ N ∧ (s'.1 = true ↔ sf l i = 3 ∧ ∀ c : Nat, c < b + 1 → att g c i → sf l c = 2)) := fun ok' ho => .ret ⟨h5, rfl, by omega, by
        dsimp only
        rw [ho, hok]
        constructor
        · rintro ⟨⟨h6, h7⟩, h8⟩
          refine ⟨h6, fun c hc hca => ?_⟩
          by_cases e : c = b
          · subst e; exact h8 hca
          · exact h7 c (by omega) hca
        · rintro ⟨h6, h7⟩; exact ⟨⟨h6, fun c hc => h7 c (by omega)⟩, h7 b (by omega)⟩⟩
      refine T.cond (fun h6 => ?_) fun h6 => .letM (stp false (by simp [h6]))
      refine T.cond (fun h7 => .letM (stp true ?_)) fun h7 => .letM (stp _ ?_)
      · have : ¬ att g b i := fun hh => by rw [has_iff.2 hh] at h7; cases h7
        simp [h6, this]
      · have : att g b i := has_iff.1 (by simpa using h7)
        simp [h6, this]
    · have new : ∀ (P : Prop), (sf l i = 3 ∧ ∀ b : Nat, att g b i → sf l b = 2) = P → ∀ x : Int, (∃ j : Nat, x = j ∧ j < i + 1 ∧ sf l j = 3 ∧ ∀ b : Nat, att g b j → sf l b = 2) ↔ x ∈ now ∨ (x = i ∧ P) := by
        rintro _ rfl x
        rw [hnow]
        constructor
        · rintro ⟨j, h6, h7, h8⟩
          by_cases e : j = i
          · subst e; exact .inr ⟨h6, h8⟩
          · exact .inl ⟨j, h6, by omega, h8⟩
        · rintro (⟨j, h6, h7, h8⟩ | ⟨h6, h7⟩)
          · exact ⟨j, h6, by omega, h8⟩
          · exact ⟨i, h6, by omega, h7⟩
      refine T.cond (fun h6 => ?_) fun h6 => ?_
      · rw [appM_eq (by simp; omega), some_bind]
        refine .letM (.ret ⟨h2, rfl, by omega, by simp; omega, fun x => ?_⟩)
        rw [new True (eq_true (hok.1 h6))]
        simp
      · refine .letM (.ret ⟨h2, rfl, by omega, by dsimp only; omega, fun x => ?_⟩)
        rw [new False (eq_false fun hh => by rw [← hok, h6] at hh; cases hh)]
        simp
  -- they are in
  refine T.bind (P := fun q => q.1.length = N ∧ q.2.length = N ∧ ∀ i, i < N → sf q.1 i = if (i : Int) ∈ now then 1 else sf l i) ?_ fun q ⟨hq1, hq2, hq⟩ => ?_
  · refine T.loopK now.length (fun k s => s.1 = (k : Int) ∧ k ≤ now.length ∧ s.2.1.length = N ∧ s.2.2.length = N ∧ ∀ i, i < N → sf s.2.1 i = if (i : Int) ∈ now.take k then 1 else sf l i) ⟨rfl, by omega, hll, hrk, by simp⟩ ?_
    rintro k ⟨_, l', rk'⟩ ⟨rfl, hk, h1, h2, h3⟩
    dsimp only [net_Grounded_l5] at *
    refine T.cond (fun h4 => ?_) fun h4 => ?_
    rotate_left
    · simp at h4
      rw [List.take_of_length_le (by omega)] at h3
      exact .ret ⟨h1, h2, h3⟩
    simp at h4
    obtain ⟨i, hi, hiN, _⟩ := (hnow now[k]).1 (List.getElem_mem h4)
    rw [idxM_nat h4, some_bind, hi, idx_sf (by omega), some_bind, idx_sf (by omega), some_bind, iadd1 (by omega)]
    refine .ret ⟨h4, rfl, by omega, by simpa using h1, by simpa using h2, fun j hj => ?_⟩
    dsimp only
    rw [Int.toNat_natCast, sf_set (by omega), List.take_succ_eq_append_getElem h4, hi]
    simp only [List.mem_append, List.mem_singleton]
    by_cases e : i = j
    · subst e; simp
    · rw [if_neg e, h3 j hj]
      have : ¬ (j : Int) = i := by omega
      simp [this]
  -- and what they attack is out
  refine T.bind (P := fun q' => q'.1.length = N ∧ q'.2.length = N ∧ ∀ i, i < N → sf q'.1 i = if sf q.1 i = 3 ∧ ∃ a ∈ now, att g a i then 2 else sf q.1 i) ?_ fun q' ⟨hr1, hr2, hr3⟩ => ?_
  · refine T.loopK N (fun k s => s.1 = (k : Int) ∧ k ≤ N ∧ s.2.1.length = N ∧ s.2.2.length = N ∧ ∀ i, i < N → sf s.2.1 i = if i < k ∧ sf q.1 i = 3 ∧ ∃ a ∈ now, att g a i then 2 else sf q.1 i) ⟨rfl, by omega, hq1, hq2, by simp⟩ ?_
    rintro k ⟨_, l', rk'⟩ ⟨rfl, hk, h1, h2, h3⟩
    dsimp only [net_Grounded_l6] at *
    rw [hN]
    refine T.cond (fun h4 => ?_) fun h4 => ?_
    rotate_left
    · simp at h4
      refine .ret ⟨h1, h2, fun i hi => ?_⟩
      dsimp only
      rw [h3 i hi]
      simp [show i < k by omega]
    simp at h4
    have hk3 : sf l' k = sf q.1 k := by rw [h3 k h4]; simp
    rw [iadd1 (by omega), idx_sf (by omega), some_bind]
    refine T.joinP (fun j => (j = true ↔ sf q.1 k = 3 ∧ ∃ a ∈ now, att g a k)) (fun j hj => ?_) fun kk hkk => ?_
    · refine T.cond (fun h5 => ?_) fun h5 => ?_
      · rw [idx_sf (by omega), some_bind]
        refine .letM (.ret ⟨h4, rfl, by omega, by simpa using h1, by simpa using h2, fun i hi => ?_⟩)
        dsimp only
        rw [Int.toNat_natCast, sf_set (by omega)]
        by_cases e : k = i
        · subst e; rw [if_pos rfl, if_pos ⟨by omega, hj.1 h5⟩]
        · rw [if_neg e, h3 i hi]
          have : i < k + 1 ↔ i < k := by omega
          simp only [this]
      · refine .letM (.ret ⟨h4, rfl, by omega, h1, h2, fun i hi => ?_⟩)
        dsimp only
        rw [h3 i hi]
        by_cases e : k = i
        · subst e
          have : ¬ (sf q.1 k = 3 ∧ ∃ a ∈ now, att g a k) := fun hh => by rw [hj.2 hh] at h5; cases h5
          simp [this]
        · have : i < k + 1 ↔ i < k := by omega
          simp only [this]
    · rw [hk3]
      refine T.cond (fun h5 => ?_) fun h5 => hkk _ ?_
      · exact T.bind (nAttacked_plain hl (by omega)) fun r hr => hkk _ (by rw [hr]; simp at h5; simp [h5])
      · simp at h5; simp [h5]
  -- the labels behind this round
  rw [iadd1 (by omega)]
  refine .letM (.ret ⟨by omega, rfl, by omega, hr1, hr2, ?_⟩)
  have val : ∀ i, i < N → (sf q'.1 i = 1 ↔ sf l i = 1 ∨ (i : Int) ∈ now) := fun i hi => by
    rw [hr3 i hi, hq i hi]
    by_cases h1 : (i : Int) ∈ now
    · simp [h1]
    · by_cases h2 : sf l i = 3
      · by_cases h3 : ∃ a ∈ now, att g a i <;> simp [h1, h2, h3]
      · simp [h1, h2]
  have val2 : ∀ i, i < N → (sf q'.1 i = 2 ↔ sf l i = 2 ∨ (sf l i = 3 ∧ (i : Int) ∉ now ∧ ∃ a ∈ now, att g a i)) := fun i hi => by
    rw [hr3 i hi, hq i hi]
    by_cases h1 : (i : Int) ∈ now
    · obtain ⟨j, e, _, h3, _⟩ := (hnow _).1 h1
      have e' : j = i := by omega
      subst e'
      simp [h1, h3]
    · by_cases h2 : sf l i = 3
      · by_cases h3 : ∃ a ∈ now, att g a i
        · simp [h1, h2, h3]
        · simp [h1, h2, h3]
      · simp [h1, h2]
  have nowi : ∀ i : Nat, (i : Int) ∈ now → i < N ∧ sf l i = 3 ∧ ∀ b : Nat, att g b i → sf l b = 2 := fun i hi => by
    obtain ⟨j, e, h1, h2, h3⟩ := (hnow _).1 hi
    have e' : j = i := by omega
    subst e'
    exact ⟨h1, h2, h3⟩
  have inow : ∀ i : Nat, i < N → sf l i = 3 → (∀ b : Nat, att g b i → sf l b = 2) → (i : Int) ∈ now := fun i h1 h2 h3 => (hnow _).2 ⟨i, rfl, h1, h2, h3⟩
  have lt : ∀ a b : Nat, att g a b → a < N ∧ b < N := fun a b h => by have := hatt _ _ h; omega
  -- what an in node attacks
  have i2' : ∀ i : Nat, i < N → sf q'.1 i = 1 → ∀ b : Nat, att g i b → sf q'.1 b = 2 := fun i hi h1 b hb' => by
    have hbN := (lt _ _ hb').2
    rw [val2 b hbN]
    rcases (val i hi).1 h1 with h2 | h2
    · exact .inl (hb.i2 i (by omega) h2 b hb')
    · have h3 := nowi i h2
      rcases hb.v b (by omega) with h4 | h4 | h4
      · have := hb.i1 b (by omega) h4 i hb'; omega
      · exact .inl h4
      · refine .inr ⟨h4, fun h5 => ?_, _, h2, hb'⟩
        have := (nowi b h5).2.2 i hb'; omega
  have i5' : ∀ i : Nat, i < N → sf q'.1 i = 1 → Gr (att g) i := fun i hi h1 => by
    rcases (val i hi).1 h1 with h2 | h2
    · exact hb.i5 i (by omega) h2
    · refine Gr.mk (n := N) (fun a b h => ⟨(hatt a b h).1, (hatt a b h).2.1⟩) fun b hbi => ?_
      obtain ⟨m, _, rfl, _, hm, _⟩ := nat _ _ hbi
      obtain ⟨a, ha, h3, h4⟩ := hb.i3 m (by omega) ((nowi i h2).2.2 m hbi)
      exact ⟨a, h3, hb.i5 a ha h4⟩
  refine ⟨fun i hi => ?_, fun i hi h1 b hbi => ?_, fun i hi h1 b hbi => i2' i (by omega) h1 b hbi, fun i hi h1 => ?_, fun i hi h1 => ?_, fun i hi h1 => i5' i (by omega) h1⟩
  · rw [hr3 i (by omega), hq i (by omega)]
    rcases hb.v i hi with h1 | h1 | h1 <;> by_cases h2 : (i : Int) ∈ now <;> by_cases h3 : ∃ a ∈ now, att g a i <;> simp [h1, h2, h3]
  · rw [val2 b (lt _ _ hbi).1]
    rcases (val i (by omega)).1 h1 with h2 | h2
    · exact .inl (hb.i1 i hi h2 b hbi)
    · exact .inl ((nowi i h2).2.2 b hbi)
  · rcases (val2 i (by omega)).1 h1 with h2 | ⟨_, _, a, ha, h2⟩
    · obtain ⟨a, h3, h4, h5⟩ := hb.i3 i hi h2
      exact ⟨a, h3, h4, (val a (by omega)).2 (.inl h5)⟩
    · obtain ⟨m, _, rfl, _, hm, _⟩ := nat _ _ h2
      exact ⟨m, by omega, h2, (val m hm).2 (.inr ha)⟩
  · rw [val i (by omega)]
    have hall : ∀ b : Nat, att g b i → sf l b = 2 := fun b hbi => by
      obtain ⟨c, h2, h3⟩ := h1 b hbi
      obtain ⟨m, _, rfl, _, hm, _⟩ := nat _ _ h2
      exact hb.i2 m (by omega) (hb.i4 m (by omega) h3) b h2
    rcases hb.v i hi with h2 | h2 | h2
    · exact .inl h2
    · obtain ⟨a, h3, h4, h5⟩ := hb.i3 i hi h2
      have := hall a h4; omega
    · exact .inr (inow i (by omega) h2 hall)


end Go.Dc
