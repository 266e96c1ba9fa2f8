/- Part P28C.Base of a proof: lemmas. -/
import Derived.Test.YtodnndlcnignbaaLAW28CA3
import Derived.Test.YtodnndlcnignbaaDcPlain2
set_option linter.unusedVariables false
set_option linter.unusedSimpArgs false
/-! Dialogues: what they are, and their statuses. -/
namespace Go.Dc
abbrev Mv := T_api_Move
abbrev Dg := T_api_Dialogue

def mv (M : List Mv) (i : Nat) : Mv := M.getD i default
def tg (M : List Mv) (i : Nat) : Nat := (mv M i).Target.toNat
def ret (M : List Mv) (i : Nat) : Prop := ∃ k, k < M.length ∧ (mv M k).Kind = 3 ∧ (mv M k).Target = (i : Int)

def MvOk (N : Int) (M : List Mv) (i : Nat) : Prop :=
  ((mv M i).By = 1 ∨ (mv M i).By = 2) ∧
  ((mv M i).Kind = 2 ∧ 0 ≤ (mv M i).Target ∧ (mv M i).Target < i ∧ 0 ≤ (mv M i).Node ∧ (mv M i).Node < N ∧ (mv M i).By = 3 - (mv M (tg M i)).By ∧ ((mv M (tg M i)).Kind = 1 ∨ (mv M (tg M i)).Kind = 2) ∨
   (mv M i).Kind = 3 ∧ 0 ≤ (mv M i).Target ∧ (mv M i).Target < i ∧ (mv M (tg M i)).Kind = 2 ∨
   (mv M i).Kind = 4 ∧ (mv M i).Target = 0)

structure Dlg (d : Dg) : Prop where
  n1 : 1 ≤ d.Moves.length
  n2 : d.Moves.length ≤ 200
  N1 : d.Graph.N ≤ 40
  Ln : d.Graph.L.length ≤ 10000
  root0 : 0 ≤ d.Root
  root1 : d.Root < d.Graph.N
  lim : 1 ≤ d.Limits.i0 ∧ d.Limits.i0 ≤ 200 ∧ 0 ≤ d.Limits.i1 ∧ d.Limits.i1 ≤ 200
  hd : mv d.Moves 0 = ⟨1, 1, d.Root, 0⟩
  mo : ∀ i, 1 ≤ i → i < d.Moves.length → MvOk d.Graph.N d.Moves i

theorem idx_mv {M : List Mv} {i : Nat} (h : i < M.length) : idxM M (i : Int) = some (mv M i) := idxM_getD h
theorem idx_mv' {M : List Mv} {n : Int} (h0 : 0 ≤ n) (h : n < M.length) : idxM M n = some (mv M n.toNat) := idxM_getD' _ h0 h

section
variable {d : Dg} (hd : Dlg d)
include hd
theorem Dlg.by' {i : Nat} (hi : i < d.Moves.length) : (mv d.Moves i).By = 1 ∨ (mv d.Moves i).By = 2 := by
  cases i with
  | zero => rw [hd.hd]; exact .inl rfl
  | succ i => exact (hd.mo _ (by omega) hi).1
theorem Dlg.att {i : Nat} (hi : i < d.Moves.length) (hk : (mv d.Moves i).Kind = 2) : 1 ≤ i ∧ 0 ≤ (mv d.Moves i).Target ∧ (mv d.Moves i).Target < i ∧ tg d.Moves i < i ∧ 0 ≤ (mv d.Moves i).Node ∧ (mv d.Moves i).Node < d.Graph.N ∧
    (mv d.Moves i).By = 3 - (mv d.Moves (tg d.Moves i)).By ∧ ((mv d.Moves (tg d.Moves i)).Kind = 1 ∨ (mv d.Moves (tg d.Moves i)).Kind = 2) := by
  cases i with
  | zero => rw [hd.hd] at hk; cases hk
  | succ i =>
    rcases (hd.mo _ (by omega) hi).2 with ⟨_, h1, h2, h3, h4, h5, h6⟩ | ⟨h, _⟩ | ⟨h, _⟩
    · exact ⟨by omega, h1, h2, by unfold tg; omega, h3, h4, h5, h6⟩
    · omega
    · omega
theorem Dlg.claim {i : Nat} (hi : i < d.Moves.length) (hk : (mv d.Moves i).Kind = 1) : i = 0 := by
  cases i with
  | zero => rfl
  | succ i => rcases (hd.mo _ (by omega) hi).2 with ⟨h, _⟩ | ⟨h, _⟩ | ⟨h, _⟩ <;> omega
theorem Dlg.kind {i : Nat} (hi : i < d.Moves.length) : (mv d.Moves i).Kind = 1 ∧ i = 0 ∨ (mv d.Moves i).Kind = 2 ∨ (mv d.Moves i).Kind = 3 ∨ (mv d.Moves i).Kind = 4 := by
  cases i with
  | zero => rw [hd.hd]; exact .inl ⟨rfl, rfl⟩
  | succ i => rcases (hd.mo _ (by omega) hi).2 with ⟨h, _⟩ | ⟨h, _⟩ | ⟨h, _⟩ <;> omega
theorem Dlg.rtr {i : Nat} (hi : i < d.Moves.length) (hk : (mv d.Moves i).Kind = 3) : 1 ≤ i ∧ 0 ≤ (mv d.Moves i).Target ∧ (mv d.Moves i).Target < i ∧ tg d.Moves i < i ∧ (mv d.Moves (tg d.Moves i)).Kind = 2 := by
  cases i with
  | zero => rw [hd.hd] at hk; cases hk
  | succ i =>
    rcases (hd.mo _ (by omega) hi).2 with ⟨h, _⟩ | ⟨_, h1, h2, h3⟩ | ⟨h, _⟩
    · omega
    · exact ⟨by omega, h1, h2, by unfold tg; omega, h3⟩
    · omega
theorem Dlg.ret0 : ¬ ret d.Moves 0 := by
  rintro ⟨k, hk, h3, ht⟩
  obtain ⟨h1, h2, h4, h5, h6⟩ := hd.rtr hk h3
  have : tg d.Moves k = 0 := by unfold tg; rw [ht]; rfl
  rw [this, hd.hd] at h6
  cases h6
end

/-! ### statuses -/
def Kid (M : List Mv) (s : Nat → Int) (i k : Nat) : Prop := i < k ∧ k < M.length ∧ tg M k = i ∧ s k = 1

structure StF (M : List Mv) (s : Nat → Int) : Prop where
  al : ∀ i, i < M.length → (s i ≠ 0 ↔ i = 0 ∨ ((mv M i).Kind = 2 ∧ ¬ ret M i ∧ s (tg M i) ≠ 0))
  st : ∀ i, i < M.length → s i = 0 ∨ s i = 2 ∧ (∃ k, Kid M s i k) ∨ s i = 1 ∧ ¬ ∃ k, Kid M s i k

theorem StF.unique {M : List Mv} {s s' : Nat → Int} (h : StF M s) (h' : StF M s') (ht : ∀ i, 1 ≤ i → i < M.length → (mv M i).Kind = 2 → tg M i < i) : ∀ i, i < M.length → s i = s' i := by
  have ha : ∀ i, i < M.length → (s i ≠ 0 ↔ s' i ≠ 0) := by
    intro i
    induction i using Nat.strongRecOn with
    | _ i ih =>
      intro hi
      rw [h.al i hi, h'.al i hi]
      by_cases h0 : i = 0
      · simp [h0]
      · simp only [h0, false_or]
        constructor
        · rintro ⟨h1, h2, h3⟩
          have := ht i (by omega) hi h1
          exact ⟨h1, h2, (ih _ this (by omega)).1 h3⟩
        · rintro ⟨h1, h2, h3⟩
          have := ht i (by omega) hi h1
          exact ⟨h1, h2, (ih _ this (by omega)).2 h3⟩
  suffices hh : ∀ m i, M.length - i ≤ m → i < M.length → s i = s' i from fun i hi => hh _ i (Nat.le_refl _) hi
  intro m
  induction m with
  | zero => intro i h1 h2; omega
  | succ m ih =>
    intro i h1 hi
    have hk : (∃ k, Kid M s i k) ↔ ∃ k, Kid M s' i k := by
      constructor
      · rintro ⟨k, h1, h2, h3, h4⟩; exact ⟨k, h1, h2, h3, by rw [← ih k (by omega) h2]; exact h4⟩
      · rintro ⟨k, h1, h2, h3, h4⟩; exact ⟨k, h1, h2, h3, by rw [ih k (by omega) h2]; exact h4⟩
    have h2 := ha i hi
    rcases h.st i hi with h3 | ⟨h3, h4⟩ | ⟨h3, h4⟩ <;> rcases h'.st i hi with h5 | ⟨h5, h6⟩ | ⟨h5, h6⟩
    · rw [h3, h5]
    · rw [h3, h5] at h2; simp at h2
    · rw [h3, h5] at h2; simp at h2
    · rw [h3, h5] at h2; simp at h2
    · rw [h3, h5]
    · exact absurd (hk.1 h4) h6
    · rw [h3, h5] at h2; simp at h2
    · exact absurd (hk.2 h6) h4
    · rw [h3, h5]

def sf (l : List Int) : Nat → Int := fun i => l.getD i 0
def bf (l : List Bool) : Nat → Bool := fun i => l.getD i false

/-- the statuses of a dialogue, as a list -/
def IsSt (M : List Mv) (l : List Int) : Prop := l.length = M.length ∧ StF M (sf l)

theorem IsSt.unique {M : List Mv} {l l' : List Int} (h : IsSt M l) (h' : IsSt M l') (ht : ∀ i, 1 ≤ i → i < M.length → (mv M i).Kind = 2 → tg M i < i) : l = l' := by
  refine List.ext_getElem (by rw [h.1, h'.1]) fun i h1 h2 => ?_
  have := h.2.unique h'.2 ht i (by rw [← h.1]; exact h1)
  simpa [sf, List.getD, h1, h2] using this

theorem idx_sf {l : List Int} {i : Nat} (h : i < l.length) : idxM l (i : Int) = some (sf l i) := idxM_getD h
theorem idx_sf' {l : List Int} {n : Int} (h0 : 0 ≤ n) (h : n < l.length) : idxM l n = some (sf l n.toNat) := idxM_getD' _ h0 h
theorem idx_bf {l : List Bool} {i : Nat} (h : i < l.length) : idxM l (i : Int) = some (bf l i) := idxM_getD h
theorem idx_bf' {l : List Bool} {n : Int} (h0 : 0 ≤ n) (h : n < l.length) : idxM l n = some (bf l n.toNat) := idxM_getD' _ h0 h
theorem sf_set {l : List Int} {i j : Nat} {x : Int} (h : i < l.length) : sf (l.set i x) j = if i = j then x else sf l j := getD_set h
theorem bf_set {l : List Bool} {i j : Nat} {x : Bool} (h : i < l.length) : bf (l.set i x) j = if i = j then x else bf l j := getD_set h

/-- what a status tells of its move -/
theorem StF.kid {d : Dg} (hd : Dlg d) {s : Nat → Int} (h : StF d.Moves s) {i : Nat} (hi : i < d.Moves.length) (h0 : 1 ≤ i) (hs : s i ≠ 0) : (mv d.Moves i).Kind = 2 ∧ ¬ ret d.Moves i ∧ s (tg d.Moves i) ≠ 0 := by
  rcases (h.al i hi).1 hs with h1 | h1
  · omega
  · exact h1

/-! the program's way -/
theorem protocol_attacks_plain {M : List Mv} {i : Nat} (hi : i < M.length) : protocol_attacks_m M i = some (decide ((mv M i).Kind = 2 ∧ 0 ≤ (mv M i).Target ∧ (mv M i).Target < i)) := by
  unfold protocol_attacks_m
  simp only [idx_mv hi, Option.bind_some, letM_eq]
  by_cases h1 : (mv M i).Kind = 2
  · by_cases h2 : 0 ≤ (mv M i).Target <;> by_cases h3 : (mv M i).Target < i <;> simp [h1, h2, h3]
  · rw [show ((mv M i).Kind == 2) = false from by simp [h1]]
    simp [h1]

theorem status1 {d : Dg} (hd : Dlg d) : T (loopC (protocol_Status_l1 d) (0, List.replicate d.Moves.length false)) fun b => b.length = d.Moves.length ∧ ∀ j, j < d.Moves.length → (bf b j = true ↔ ret d.Moves j) := by
  have hn := hd.n2
  refine T.loopK d.Moves.length (fun i s => s.1 = (i : Int) ∧ i ≤ d.Moves.length ∧ s.2.length = d.Moves.length ∧ ∀ j, j < d.Moves.length → (bf s.2 j = true ↔ ∃ k, k < i ∧ (mv d.Moves k).Kind = 3 ∧ (mv d.Moves k).Target = (j : Int))) ⟨rfl, by omega, by simp, fun j hj => ?_⟩ ?_
  · rw [show bf (List.replicate d.Moves.length false) j = false from getD_rep]; simp
  · rintro i ⟨_, b⟩ ⟨rfl, hi, hb, hj⟩
    dsimp only [protocol_Status_l1] at *
    refine T.cond (fun g => ?_) fun g => ?_
    · simp at g
      rw [idx_mv g, some_bind, iadd1 (by omega)]
      refine T.join ?_
      have no : ¬ (mv d.Moves i).Kind = 3 → T (some (Sum.inr ((((i + 1 : Nat) : Int)), b)) : Option (Sum (List Bool) (Int × List Bool))) (onO (fun r => r.length = d.Moves.length ∧ ∀ j, j < d.Moves.length → (bf r j = true ↔ ret d.Moves j)) fun s' => i < d.Moves.length ∧ s'.1 = ((i + 1 : Nat) : Int) ∧ i + 1 ≤ d.Moves.length ∧ s'.2.length = d.Moves.length ∧ ∀ j, j < d.Moves.length → (bf s'.2 j = true ↔ ∃ k, k < i + 1 ∧ (mv d.Moves k).Kind = 3 ∧ (mv d.Moves k).Target = (j : Int))) := fun hk => .ret ⟨g, rfl, by omega, hb, fun j hjl => by
        rw [hj j hjl]
        constructor
        · rintro ⟨k, h1, h2⟩; exact ⟨k, by omega, h2⟩
        · rintro ⟨k, h1, h2⟩
          by_cases e : k = i
          · subst e; exact absurd h2.1 hk
          · exact ⟨k, by omega, h2⟩⟩
      refine T.cond (fun h3 => ?_) fun h3 => ?_
      · simp at h3
        obtain ⟨h1, h2, h4, h5, h6⟩ := hd.rtr g h3
        refine T.cond (fun _ => ?_) fun h => by simp at h; omega
        rw [show decide ((mv d.Moves i).Target < (b.length : Int)) = true from decide_eq_true (by omega)]
        simp only [cond_true]
        rw [idx_bf' h2 (by omega), some_bind]
        refine .ret ⟨g, rfl, by omega, by simpa using hb, fun j hjl => ?_⟩
        rw [bf_set (by omega)]
        by_cases e : (mv d.Moves i).Target.toNat = j
        · rw [if_pos e]
          simp only [true_iff]
          exact ⟨i, by omega, h3, by omega⟩
        · rw [if_neg e, hj j hjl]
          constructor
          · rintro ⟨k, h1, h2⟩; exact ⟨k, by omega, h2⟩
          · rintro ⟨k, h1, h2⟩
            by_cases e' : k = i
            · subst e'; omega
            · exact ⟨k, by omega, h2⟩
      · simp at h3
        refine T.cond (fun h => by cases h) fun _ => no h3
    · simp at g
      have e : i = d.Moves.length := by omega
      exact .ret ⟨hb, fun j hjl => by rw [hj j hjl, e]; rfl⟩

/-- which moves are alive -/
def Alive (M : List Mv) (s : Nat → Int) (n : Nat) : Prop := ∀ i, i < n → (s i = 0 ∨ s i = 1) ∧ (s i ≠ 0 ↔ i = 0 ∨ ((mv M i).Kind = 2 ∧ ¬ ret M i ∧ s (tg M i) ≠ 0))

theorem status2 {d : Dg} (hd : Dlg d) {b : List Bool} (hb : b.length = d.Moves.length) (hb2 : ∀ j, j < d.Moves.length → (bf b j = true ↔ ret d.Moves j)) :
    T (loopC (protocol_Status_l2 d b) (0, List.replicate d.Moves.length 0)) fun l => l.length = d.Moves.length ∧ Alive d.Moves (sf l) d.Moves.length := by
  have hn := hd.n2
  refine T.loopK d.Moves.length (fun i s => s.1 = (i : Int) ∧ i ≤ d.Moves.length ∧ s.2.length = d.Moves.length ∧ Alive d.Moves (sf s.2) i ∧ ∀ j, i ≤ j → sf s.2 j = 0) ⟨rfl, by omega, by simp, fun j hj => by omega, fun j _ => by exact getD_rep⟩ ?_
  rintro i ⟨_, l⟩ ⟨rfl, hi, hl, ha, hz⟩
  dsimp only [protocol_Status_l2] at *
  have step1 : i < d.Moves.length → (i = 0 ∨ ((mv d.Moves i).Kind = 2 ∧ ¬ ret d.Moves i ∧ sf l (tg d.Moves i) ≠ 0)) → Alive d.Moves (sf (l.set i 1)) (i + 1) ∧ ∀ j, i + 1 ≤ j → sf (l.set i 1) j = 0 := by
    intro g hc
    refine ⟨fun j hj => ?_, fun j hj => by rw [sf_set (by omega), if_neg (by omega)]; exact hz j (by omega)⟩
    have ht : j = 0 ∨ (mv d.Moves j).Kind ≠ 2 ∨ tg d.Moves j < j := by
      by_cases hk : (mv d.Moves j).Kind = 2
      · exact .inr (.inr (hd.att (by omega) hk).2.2.2.1)
      · exact .inr (.inl hk)
    by_cases e : i = j
    · subst e
      rw [sf_set (by omega), if_pos rfl]
      refine ⟨.inr rfl, ?_⟩
      simp only [ne_eq, Int.reduceEq, not_false_eq_true, true_iff]
      rcases hc with hc | ⟨h1, h2, h3⟩
      · exact .inl hc
      · refine .inr ⟨h1, h2, ?_⟩
        rw [sf_set (by omega), if_neg (by have := (hd.att g h1).2.2.2.1; omega)]; exact h3
    · have hji : j < i := by omega
      obtain ⟨h1, h2⟩ := ha j hji
      rw [sf_set (by omega), if_neg e]
      refine ⟨h1, h2.trans ?_⟩
      by_cases h0 : j = 0
      · simp [h0]
      · simp only [h0, false_or]
        by_cases hk : (mv d.Moves j).Kind = 2
        · have := (hd.att (by omega) hk).2.2.2.1
          rw [sf_set (by omega), if_neg (by omega)]
        · simp [hk]
  have step0 : i < d.Moves.length → ¬ (i = 0 ∨ ((mv d.Moves i).Kind = 2 ∧ ¬ ret d.Moves i ∧ sf l (tg d.Moves i) ≠ 0)) → Alive d.Moves (sf l) (i + 1) ∧ ∀ j, i + 1 ≤ j → sf l j = 0 := by
    intro g hc
    refine ⟨fun j hj => ?_, fun j hj => hz j (by omega)⟩
    by_cases e : i = j
    · subst e
      rw [hz i (by omega)]
      exact ⟨.inl rfl, by simp only [ne_eq, not_true_eq_false, false_iff]; exact hc⟩
    · exact ha j (by omega)
  refine T.cond (fun g => ?_) fun g => ?_
  · simp at g
    rw [iadd1 (by omega), idx_sf (by omega), protocol_attacks_plain g, idx_bf (by omega), idx_mv g]
    simp only [some_bind, Int.toNat_natCast]
    refine T.cond (fun h0 => ?_) fun h0 => ?_
    · have h0' : i = 0 := by simpa using h0
      obtain ⟨h1, h2⟩ := step1 g (.inl h0')
      exact .ret ⟨g, rfl, by omega, by simpa using hl, h1, h2⟩
    · have h0' : i ≠ 0 := by simpa using h0
      refine T.cond (fun h1 => ?_) fun h1 => ?_
      · simp only [decide_eq_true_eq] at h1
        obtain ⟨hk, h2, h3⟩ := h1
        refine T.cond (fun h4 => ?_) fun h4 => ?_
        · have h4' : ¬ ret d.Moves i := by rw [← hb2 i g]; simpa using h4
          rw [idx_sf' h2 (by omega), some_bind]
          refine T.cond (fun h5 => ?_) fun h5 => ?_
          · obtain ⟨h6, h7⟩ := step1 g (.inr ⟨hk, h4', by simpa [tg] using h5⟩)
            exact .ret ⟨g, rfl, by omega, by simpa using hl, h6, h7⟩
          · obtain ⟨h6, h7⟩ := step0 g fun h => by
              rcases h with h | ⟨_, _, h⟩
              · exact h0' h
              · exact h (by simpa [tg] using h5)
            exact .ret ⟨g, rfl, by omega, hl, h6, h7⟩
        · have h4' : ret d.Moves i := by rw [← hb2 i g]; simpa using h4
          obtain ⟨h6, h7⟩ := step0 g fun h => by
            rcases h with h | ⟨_, h, _⟩
            · exact h0' h
            · exact h h4'
          exact .ret ⟨g, rfl, by omega, hl, h6, h7⟩
      · simp only [decide_eq_false_iff_not] at h1
        obtain ⟨h6, h7⟩ := step0 g fun h => by
          rcases h with h | ⟨h, _, _⟩
          · exact h0' h
          · exact h1 ⟨h, (hd.att g h).2.1, (hd.att g h).2.2.1⟩
        exact .ret ⟨g, rfl, by omega, hl, h6, h7⟩
  · simp at g
    have e : i = d.Moves.length := by omega
    exact .ret ⟨hl, e ▸ ha⟩

theorem status3 {d : Dg} (hd : Dlg d) {l0 : List Int} (hl0 : l0.length = d.Moves.length) (ha0 : Alive d.Moves (sf l0) d.Moves.length) :
    T (loopC (protocol_Status_l3 d) ((d.Moves.length : Int) - 1, l0)) (IsSt d.Moves) := by
  have hn := hd.n2; have h1n := hd.n1
  -- s: the statuses so far; all moves behind i have been looked at
  let J : Nat → List Int → Prop := fun i l => l.length = d.Moves.length ∧ (∀ j, j < d.Moves.length → (sf l j ≠ 0 ↔ sf l0 j ≠ 0)) ∧
    ∀ j, j < d.Moves.length → sf l j = 0 ∨ sf l j = 2 ∧ (∃ k, i < k ∧ Kid d.Moves (sf l) j k) ∨ sf l j = 1 ∧ ¬ ∃ k, i < k ∧ Kid d.Moves (sf l) j k
  refine T.loopK d.Moves.length (fun k s => k < d.Moves.length ∧ s.1 = (d.Moves.length : Int) - 1 - k ∧ J (d.Moves.length - 1 - k) s.2) ⟨by omega, by simp, hl0, fun j _ => Iff.rfl, fun j hj => ?_⟩ ?_
  · rcases (ha0 j hj).1 with h | h
    · exact .inl h
    · refine .inr (.inr ⟨h, ?_⟩)
      rintro ⟨k, h1, h2, h3, _⟩
      omega
  · rintro k ⟨_, l⟩ ⟨hk, rfl, hl, hz, hj⟩
    dsimp only [protocol_Status_l3] at *
    generalize hi : d.Moves.length - 1 - k = i at *
    have ei : (d.Moves.length : Int) - 1 - k = (i : Int) := by omega
    rw [ei]
    refine T.cond (fun g => ?_) fun g => ?_
    · simp at g
      have hil : i < d.Moves.length := by omega
      rw [idx_sf (by omega), some_bind, isub1 (by omega)]
      simp only [letM_eq]
      have e2 : (i : Int) - 1 = (d.Moves.length : Int) - 1 - (k + 1 : Nat) := by omega
      have e3 : d.Moves.length - 1 - (k + 1) = i - 1 := by omega
      refine T.cond (fun h1 => ?_) fun h1 => ?_
      · simp at h1
        have hal := (ha0 i hil).2.1 ((hz i hil).1 (by omega))
        have hkd : (mv d.Moves i).Kind = 2 := by
          rcases hal with h | h
          · omega
          · exact h.1
        obtain ⟨a1, a2, a3, a4, _⟩ := hd.att hil hkd
        have hap : sf l0 (tg d.Moves i) ≠ 0 := by
          rcases hal with h | h
          · omega
          · exact h.2.2
        rw [idx_mv hil, some_bind, idx_sf' a2 (by omega), some_bind]
        have et : (mv d.Moves i).Target.toNat = tg d.Moves i := rfl
        rw [et]
        refine .ret ⟨hk, by omega, e2, by simpa using hl, fun j hjl => ?_, fun j hjl => ?_⟩
        · rw [sf_set (by omega)]
          by_cases e : tg d.Moves i = j
          · subst e; rw [if_pos rfl]; simp [hap]
          · rw [if_neg e]; exact hz j hjl
        · rw [e3]
          have up : ∀ q, i ≤ q → sf (l.set (tg d.Moves i) 2) q = sf l q := fun q hq => by rw [sf_set (by omega), if_neg (by omega)]
          have kd : ∀ q, i ≤ q → (Kid d.Moves (sf (l.set (tg d.Moves i) 2)) j q ↔ Kid d.Moves (sf l) j q) := fun q hq => by unfold Kid; rw [up q hq]
          rw [sf_set (by omega)]
          by_cases e : tg d.Moves i = j
          · subst e
            rw [if_pos rfl]
            exact .inr (.inl ⟨rfl, i, by omega, (kd i (Nat.le_refl _)).2 ⟨a4, hil, rfl, h1⟩⟩)
          · rw [if_neg e]
            rcases hj j hjl with h | ⟨h2, q, hq, h3⟩ | ⟨h2, h3⟩
            · exact .inl h
            · exact .inr (.inl ⟨h2, q, by omega, (kd q (by omega)).2 h3⟩)
            · refine .inr (.inr ⟨h2, ?_⟩)
              rintro ⟨q, hq, h4⟩
              have h5 := (kd q (by omega)).1 h4
              by_cases e5 : q = i
              · subst e5; exact e h5.2.2.1
              · exact h3 ⟨q, by omega, h5⟩
      · simp at h1
        refine .ret ⟨hk, by omega, e2, hl, hz, fun j hjl => ?_⟩
        rw [e3]
        rcases hj j hjl with h | ⟨h2, q, hq, h3⟩ | ⟨h2, h3⟩
        · exact .inl h
        · exact .inr (.inl ⟨h2, q, by omega, h3⟩)
        · refine .inr (.inr ⟨h2, ?_⟩)
          rintro ⟨q, hq, h4⟩
          by_cases e5 : q = i
          · subst e5; exact h1 h4.2.2.2
          · exact h3 ⟨q, by omega, h4⟩
    · simp at g
      have e : i = 0 := by omega
      subst e
      refine .ret ⟨hl, fun j hjl => ?_, fun j hjl => ?_⟩
      · rw [hz j hjl, (ha0 j hjl).2]
        by_cases h0 : j = 0
        · simp [h0]
        · simp only [h0, false_or]
          by_cases hkd : (mv d.Moves j).Kind = 2
          · have := (hd.att hjl hkd).2.2.2.1
            rw [hz _ (by omega)]
          · simp [hkd]
      · rcases hj j hjl with h | ⟨h2, q, hq, h3⟩ | ⟨h2, h3⟩
        · exact .inl h
        · exact .inr (.inl ⟨h2, q, h3⟩)
        · refine .inr (.inr ⟨h2, ?_⟩)
          rintro ⟨q, h4⟩
          exact h3 ⟨q, by have := h4.1; omega, h4⟩

theorem status_plain {d : Dg} (hd : Dlg d) : T (protocol_Status_m d) (IsSt d.Moves) := by
  have hn := hd.n2; have h1n := hd.n1
  unfold protocol_Status_m
  rw [mkM_T (by omega), some_bind, mkM_T (by omega), some_bind]
  refine T.bind (status1 hd) fun b ⟨hb, hb2⟩ => T.bind (status2 hd hb hb2) fun l ⟨hl, ha⟩ => .letM ?_
  rw [hl, isub1 (by omega)]
  exact T.bind (status3 hd hl ha) fun q hq => .ret hq
end Go.Dc
