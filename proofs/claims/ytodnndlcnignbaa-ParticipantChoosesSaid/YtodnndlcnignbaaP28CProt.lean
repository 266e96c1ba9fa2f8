/- Part P28C.Prot of a proof: lemmas. -/
import Derived.Test.YtodnndlcnignbaaP28CBase
set_option linter.unusedVariables false
set_option linter.unusedSimpArgs false
/-! The program's dialogues: leading part, legal attacks, outcome. -/
namespace Go.Dc

def lead (s : Nat → Int) : Int := if s 0 = 1 then 1 else 2

structure LedF (M : List Mv) (s : Nat → Int) (b : Nat → Bool) : Prop where
  z : b 0 = true
  s : ∀ i, 1 ≤ i → i < M.length → (b i = true ↔ s i ≠ 0 ∧ b (tg M i) = true ∧ ((mv M (tg M i)).By = lead s ∨ s i = 1))

structure TabOk (d : Dg) (t : T_protocol_table) : Prop where
  td : t.d = d
  st : IsSt d.Moves t.status
  ld : t.leader = lead (sf t.status)
  bl : t.leading.length = d.Moves.length
  b : LedF d.Moves (sf t.status) (bf t.leading)

theorem StF.root {M : List Mv} {s : Nat → Int} (h : StF M s) (h0 : 1 ≤ M.length) : s 0 = 1 ∨ s 0 = 2 := by
  have h1 := (h.al 0 (by omega)).2 (.inl rfl)
  rcases h.st 0 (by omega) with h2 | ⟨h2, _⟩ | ⟨h2, _⟩
  · exact absurd h2 h1
  · exact .inr h2
  · exact .inl h2

theorem StF.vals {M : List Mv} {s : Nat → Int} (h : StF M s) {i : Nat} (hi : i < M.length) : s i = 0 ∨ s i = 1 ∨ s i = 2 := by
  rcases h.st i hi with h2 | ⟨h2, _⟩ | ⟨h2, _⟩ <;> simp [h2]

theorem of_l1_plain {d : Dg} (hd : Dlg d) {l : List Int} (hl : IsSt d.Moves l) {b0 : List Bool} (hb0 : b0.length = d.Moves.length) (hz : bf b0 0 = true) (hf : ∀ j, 1 ≤ j → bf b0 j = false) :
    T (loopC (protocol_of_l1 d l (lead (sf l))) (1, b0)) fun b => b.length = d.Moves.length ∧ LedF d.Moves (sf l) (bf b) := by
  have hn := hd.n2; have h1n := hd.n1
  obtain ⟨hll, hs⟩ := hl
  let J : Nat → List Bool → Prop := fun i b => b.length = d.Moves.length ∧ bf b 0 = true ∧ (∀ j, i ≤ j → bf b j = false) ∧
    ∀ j, 1 ≤ j → j < i → (bf b j = true ↔ sf l j ≠ 0 ∧ bf b (tg d.Moves j) = true ∧ ((mv d.Moves (tg d.Moves j)).By = lead (sf l) ∨ sf l j = 1))
  refine T.loopK d.Moves.length (fun k s => s.1 = ((k + 1 : Nat) : Int) ∧ k < d.Moves.length ∧ J (k + 1) s.2) ⟨by simp, by omega, hb0, hz, fun j hj => hf j (by omega), fun j h1 h2 => by omega⟩ ?_
  rintro k ⟨_, b⟩ ⟨rfl, hk, hb, hbz, hbf, hbs⟩
  dsimp only [protocol_of_l1] at *
  generalize hi : k + 1 = i at *
  refine T.cond (fun g => ?_) fun g => ?_
  · simp at g
    rw [idx_sf (by omega), some_bind, iadd1 (by omega)]
    simp only [letM_eq]
    -- writing x at i
    have put : ∀ x : Bool, (x = true ↔ sf l i ≠ 0 ∧ bf b (tg d.Moves i) = true ∧ ((mv d.Moves (tg d.Moves i)).By = lead (sf l) ∨ sf l i = 1)) → J (i + 1) (b.set i x) := fun x hx => by
      have tlt : ∀ j, 1 ≤ j → j < d.Moves.length → sf l j ≠ 0 → tg d.Moves j < j := fun j h1 h2 h3 => (hd.att h2 (hs.kid hd h2 h1 h3).1).2.2.2.1
      refine ⟨by simpa using hb, by rw [bf_set (by omega), if_neg (by omega)]; exact hbz, fun j hj => by rw [bf_set (by omega), if_neg (by omega)]; exact hbf j (by omega), fun j h1 h2 => ?_⟩
      rw [bf_set (by omega)]
      by_cases h3 : sf l j = 0
      · by_cases e : i = j
        · subst e; rw [if_pos rfl, hx]; simp [h3]
        · rw [if_neg e, hbs j h1 (by omega)]; simp [h3]
      · have := tlt j h1 (by omega) h3
        rw [bf_set (by omega), if_neg (show ¬ i = tg d.Moves j by omega)]
        by_cases e : i = j
        · subst e; rw [if_pos rfl]; exact hx
        · rw [if_neg e]; exact hbs j h1 (by omega)
    have keep : ¬ (sf l i ≠ 0 ∧ bf b (tg d.Moves i) = true ∧ ((mv d.Moves (tg d.Moves i)).By = lead (sf l) ∨ sf l i = 1)) → J (i + 1) b := fun hx =>
      ⟨hb, hbz, fun j hj => hbf j (by omega), fun j h1 h2 => by
        by_cases e : i = j
        · subst e; rw [hbf i (by omega)]; simp only [Bool.false_eq_true, false_iff]; exact hx
        · exact hbs j h1 (by omega)⟩
    have go : ∀ b', J (i + 1) b' → T (some (Sum.inr ((((i + 1 : Nat) : Int)), b')) : Option (Sum (List Bool) (Int × List Bool))) (onO (fun r => r.length = d.Moves.length ∧ LedF d.Moves (sf l) (bf r)) fun s' => k < d.Moves.length ∧ s'.1 = ((i + 1 : Nat) : Int) ∧ i < d.Moves.length ∧ J (i + 1) s'.2) := fun b' h => .ret ⟨hk, rfl, g, h⟩
    refine T.cond (fun h0 => ?_) fun h0 => ?_
    · have h0' : sf l i = 0 := by simpa using h0
      exact go _ (keep fun h => h.1 h0')
    · have h0' : sf l i ≠ 0 := by simpa using h0
      obtain ⟨hkd, _, hap⟩ := hs.kid hd g (by omega) h0'
      obtain ⟨a1, a2, a3, a4, _⟩ := hd.att g hkd
      rw [idx_mv g, some_bind, idx_bf' a2 (by omega), some_bind]
      have et : (mv d.Moves i).Target.toNat = tg d.Moves i := rfl
      rw [et]
      refine T.cond (fun h1 => ?_) fun h1 => ?_
      · have h1' : bf b (tg d.Moves i) = false := by simpa using h1
        exact go _ (keep fun h => by rw [h1'] at h; cases h.2.1)
      · have h1' : bf b (tg d.Moves i) = true := by simpa using h1
        rw [some_bind, idx_mv' a2 (by omega), some_bind, et]
        refine T.cond (fun h2 => ?_) fun h2 => ?_
        · have h2' : (mv d.Moves (tg d.Moves i)).By = lead (sf l) := by simpa using h2
          rw [idx_bf (by omega), some_bind, Int.toNat_natCast]
          exact go _ (put true ⟨fun _ => ⟨h0', h1', .inl h2'⟩, fun _ => rfl⟩)
        · have h2' : ¬ (mv d.Moves (tg d.Moves i)).By = lead (sf l) := by simpa using h2
          rw [some_bind, idx_bf (by omega), some_bind, Int.toNat_natCast]
          refine go _ (put _ ?_)
          simp [h0', h1', h2']
  · simp at g
    have e : i = d.Moves.length := by omega
    exact .ret ⟨hb, hbz, fun j h1 h2 => hbs j h1 (by omega)⟩

theorem of_plain {d : Dg} (hd : Dlg d) : T (protocol_of_m d) (TabOk d) := by
  have hn := hd.n2; have h1n := hd.n1
  unfold protocol_of_m
  refine T.bind (status_plain hd) fun l hl => ?_
  rw [mkM_T (by omega), some_bind]
  have h0 := hl.2.root h1n
  have hz : idxM l (0 : Int) = some (sf l 0) := idx_sf' (by omega) (by rw [hl.1]; omega)
  have main : T ((fun j11 : Int => Option.bind (idxM (List.replicate d.Moves.length false) 0) fun t14 =>
      Option.bind (loopC (protocol_of_l1 d l j11) (1, (List.replicate d.Moves.length false).set (Int.toNat 0) true)) fun q43 : (List Bool) =>
      some (T_protocol_table.mk d l j11 q43)) (lead (sf l))) (TabOk d) := by
    dsimp only
    rw [idx_bf' (by omega) (by simp; omega), some_bind]
    refine T.bind (of_l1_plain hd hl (by simp) (by rw [bf_set (by simp; omega)]; rfl) fun j hj => by rw [bf_set (by simp; omega), if_neg (by simp; omega)]; exact getD_rep) fun b ⟨hb1, hb2⟩ => .ret ⟨rfl, hl, rfl, hb1, hb2⟩
  refine T.join ?_
  rw [hz, some_bind]
  refine T.cond (fun h => ?_) fun h => ?_
  · have h' : sf l 0 = 2 := by simpa using h
    rw [show lead (sf l) = 2 from by unfold lead; rw [if_neg (by omega)]] at main
    exact main
  · have h' : sf l 0 = 1 := by have : ¬ sf l 0 = 2 := by simpa using h
                               omega
    rw [show lead (sf l) = 1 from by unfold lead; rw [if_pos h']] at main
    exact main

theorem lead_12 (s : Nat → Int) : lead s = 1 ∨ lead s = 2 := by unfold lead; split <;> simp

theorem other_plain {x : Int} (h : x = 1 ∨ x = 2) : protocol_other_m x = some (3 - x) := by
  unfold protocol_other_m
  rw [isub64 (by omega) (by omega)]; rfl

/-! ### legal attacks -/
theorem contains_plain' {l : List Mv} {x : Mv} (hl : l.length ≤ 100000000) : slices_Contains_api_Move_api_Move_m l x = some (decide (x ∈ l)) := by
  unfold slices_Contains_api_Move_api_Move_m slices_Index_api_Move_api_Move_m
  have h1 : ∃ r : Int, (loopC (slices_Index_api_Move_api_Move_l1 l x) 0) = some (if x ∈ l then .inl r else .inr ()) ∧ 0 ≤ r := by
    suffices hh : ∀ m i, l.length - i ≤ m → i ≤ l.length → ∃ r : Int, loopC (slices_Index_api_Move_api_Move_l1 l x) (i : Int) = some (if x ∈ l.drop i then .inl r else .inr ()) ∧ 0 ≤ r from hh _ 0 (Nat.le_refl _) (Nat.zero_le _)
    intro m
    induction m with
    | zero =>
      intro i h1 h2
      refine ⟨0, ?_, by omega⟩
      rw [loopC_eq]
      simp only [slices_Index_api_Move_api_Move_l1]
      rw [show decide ((i : Int) < l.length) = false from decide_eq_false (by omega), List.drop_of_length_le (by omega)]
      simp
    | succ m ih =>
      intro i h1 h2
      by_cases e : i = l.length
      · refine ⟨0, ?_, by omega⟩
        rw [loopC_eq]
        simp only [slices_Index_api_Move_api_Move_l1]
        rw [show decide ((i : Int) < l.length) = false from decide_eq_false (by omega), List.drop_of_length_le (by omega)]
        simp
      · have hi : i < l.length := by omega
        obtain ⟨r, hr, h0⟩ := ih (i + 1) (by omega) (by omega)
        rw [loopC_eq]
        simp only [slices_Index_api_Move_api_Move_l1]
        rw [show decide ((i : Int) < l.length) = true from decide_eq_true (by omega), idxM_nat hi, some_bind, iadd1 (by omega), List.drop_eq_getElem_cons hi]
        simp only [cond_true]
        by_cases hx : x = l[i]
        · refine ⟨i, ?_, by omega⟩
          rw [decide_eq_true hx, if_pos (show x ∈ l[i] :: l.drop (i + 1) from List.mem_cons.2 (.inl hx))]; rfl
        · refine ⟨r, ?_, h0⟩
          rw [decide_eq_false hx]
          simp only [cond_false, Option.bind_some]
          rw [hr]
          simp only [List.mem_cons, hx, false_or]
  obtain ⟨r, h2, h3⟩ := h1
  rw [h2]
  by_cases hx : x ∈ l
  · simp [hx, sumK, letM, h3]
  · simp [hx, sumK, letM]

/-- the proponent has moved the node on the way to a move -/
inductive RepN (M : List Mv) (a : Int) : Nat → Prop
  | here {t : Nat} : (mv M t).By = 1 → (mv M t).Node = a → RepN M a t
  | up {t : Nat} : t ≠ 0 → RepN M a (tg M t) → RepN M a t

theorem RepN.cases' {M : List Mv} {a : Int} {t : Nat} : RepN M a t ↔ ((mv M t).By = 1 ∧ (mv M t).Node = a) ∨ (t ≠ 0 ∧ RepN M a (tg M t)) := by
  constructor
  · intro h
    cases h with
    | here h1 h2 => exact .inl ⟨h1, h2⟩
    | up h1 h2 => exact .inr ⟨h1, h2⟩
  · rintro (⟨h1, h2⟩ | ⟨h1, h2⟩)
    · exact .here h1 h2
    · exact .up h1 h2

theorem moved_plain {d : Dg} (hd : Dlg d) {tb : T_protocol_table} (ht : TabOk d tb) {t : Nat} (h1 : t < d.Moves.length) (h2 : sf tb.status t ≠ 0) {a : Int} :
    T (protocol_table_moved_m tb (t : Int) a) fun r => (r = true ↔ RepN d.Moves a t) := by
  have hn := hd.n2
  unfold protocol_table_moved_m
  refine T.bind (P := fun r => (r = true ↔ RepN d.Moves a t)) ?_ fun r hr => .ret hr
  refine T.loopM (fun s : Int => ∃ u : Nat, s = (u : Int) ∧ u < d.Moves.length ∧ sf tb.status u ≠ 0 ∧ (RepN d.Moves a u ↔ RepN d.Moves a t)) (fun s => s.toNat) ⟨t, rfl, h1, h2, Iff.rfl⟩ ?_
  rintro _ ⟨u, rfl, hu, hs, hiff⟩
  dsimp only [protocol_table_moved_l1]
  rw [ht.td, idx_mv hu, some_bind]
  have next : ¬ ((mv d.Moves u).By = 1 ∧ (mv d.Moves u).Node = a) → T ((bif (u : Int) == 0 then some (Sum.inl false) else some (Sum.inr (mv d.Moves u).Target) : Option (Sum Bool Int))) (onO (fun r => (r = true ↔ RepN d.Moves a t)) fun s' => (∃ v : Nat, s' = (v : Int) ∧ v < d.Moves.length ∧ sf tb.status v ≠ 0 ∧ (RepN d.Moves a v ↔ RepN d.Moves a t)) ∧ s'.toNat < (u : Int).toNat) := fun hno => by
    refine T.cond (fun h0 => ?_) fun h0 => ?_
    · have h0' : u = 0 := by simpa using h0
      refine .ret (show (false = true ↔ RepN d.Moves a t) from ?_)
      simp only [Bool.false_eq_true, false_iff]
      rw [← hiff, RepN.cases']
      rintro (h | h)
      · exact hno h
      · exact h.1 h0'
    · have h0' : u ≠ 0 := by simpa using h0
      obtain ⟨hk, _, hup⟩ := ht.st.2.kid hd hu (by omega) hs
      obtain ⟨a1, a2, a3, a4, _⟩ := hd.att hu hk
      refine .ret ⟨⟨tg d.Moves u, by unfold tg; omega, by omega, hup, ?_⟩, by omega⟩
      rw [← hiff, RepN.cases' (t := u)]
      constructor
      · intro h; exact .inr ⟨h0', h⟩
      · rintro (h | h)
        · exact absurd h hno
        · exact h.2
  refine T.join (T.cond (fun g => T.cond (fun g2 => ?_) fun g2 => ?_) fun g => ?_)
  · refine .ret (show (true = true ↔ RepN d.Moves a t) from ?_)
    simp only [true_iff]
    rw [← hiff]
    exact .here (by simpa using g) (by simpa using g2)
  · exact next fun h => by simp [h.2] at g2
  · exact next fun h => by simp [h.1] at g

/-- the legal attacks -/
def Leg (d : Dg) (s : Nat → Int) (b : Nat → Bool) (x : Mv) : Prop :=
  ∃ (t : Nat) (p : T_api_Pair), t < d.Moves.length ∧ b t = true ∧ (mv d.Moves t).By = lead s ∧ p ∈ d.Graph.L ∧ p.To = (mv d.Moves t).Node ∧ x = ⟨3 - lead s, 2, p.From, (t : Int)⟩ ∧ x ∉ d.Moves ∧ (3 - lead s = 1 → ¬ RepN d.Moves p.From t)

theorem LedF.alive {d : Dg} (hd : Dlg d) {s : Nat → Int} {b : Nat → Bool} (hs : StF d.Moves s) (h : LedF d.Moves s b) {i : Nat} (hi : i < d.Moves.length) (hb : b i = true) : s i ≠ 0 := by
  by_cases h0 : i = 0
  · subst h0; exact (hs.al 0 hi).2 (.inl rfl)
  · exact ((h.s i (by omega) hi).1 hb).1

theorem legal_plain {d : Dg} (hd : Dlg d) {tb : T_protocol_table} (ht : TabOk d tb) :
    T (protocol_table_legal_m tb) fun l => l.length ≤ d.Moves.length * d.Graph.L.length ∧ ∀ x, x ∈ l ↔ Leg d (sf tb.status) (bf tb.leading) x := by
  have hn := hd.n2; have hLn := hd.Ln
  have hl2 := lead_12 (sf tb.status)
  unfold protocol_table_legal_m
  rw [ht.ld, other_plain hl2, some_bind]
  -- what the moves ahead of i give
  let I : Nat → List Mv → Prop := fun i l => l.length ≤ i * d.Graph.L.length ∧ ∀ x, x ∈ l ↔ Leg d (sf tb.status) (bf tb.leading) x ∧ x.Target < i
  refine T.bind (P := fun l => l.length ≤ d.Moves.length * d.Graph.L.length ∧ ∀ x, x ∈ l ↔ Leg d (sf tb.status) (bf tb.leading) x) ?_ fun l hl => .ret hl
  refine T.loopK d.Moves.length (fun i s => s.1 = (i : Int) ∧ i ≤ d.Moves.length ∧ I i s.2) ⟨rfl, by omega, by simp, fun x => ?_⟩ ?_
  · simp only [List.not_mem_nil, false_iff]
    rintro ⟨⟨t, p, _, _, _, _, _, rfl, _⟩, h⟩
    simp only at h
    omega
  · rintro i ⟨_, l⟩ ⟨rfl, hi, hl, hm⟩
    dsimp only [protocol_table_legal_l1] at *
    rw [ht.td, ht.ld]
    refine T.cond (fun g => ?_) fun g => ?_
    · simp at g
      rw [idx_mv g, some_bind, idx_bf (by rw [ht.bl]; exact g), some_bind, iadd1 (by omega)]
      have mul : (i + 1) * d.Graph.L.length = i * d.Graph.L.length + d.Graph.L.length := Nat.succ_mul _ _
      have skip : ¬ (bf tb.leading i = true ∧ (mv d.Moves i).By = lead (sf tb.status)) → I (i + 1) l := fun hno => ⟨by omega, fun x => by
        rw [hm x]
        constructor
        · rintro ⟨h1, h2⟩; exact ⟨h1, by omega⟩
        · rintro ⟨h1, h2⟩
          refine ⟨h1, ?_⟩
          obtain ⟨t, p, a1, a2, a3, a4, a5, rfl, _⟩ := h1
          simp only at h2 ⊢
          have : t ≠ i := fun e => hno (e ▸ ⟨a2, a3⟩)
          omega⟩
      refine T.cond (fun h1 => ?_) fun h1 => ?_
      · have h1' : bf tb.leading i = false := by simpa using h1
        exact .ret ⟨g, rfl, by omega, skip fun h => by rw [h1'] at h; cases h.1⟩
      · have h1' : bf tb.leading i = true := by simpa using h1
        refine T.cond (fun h2 => ?_) fun h2 => ?_
        · have h2' : ¬ (mv d.Moves i).By = lead (sf tb.status) := by simpa using h2
          exact .ret ⟨g, rfl, by omega, skip fun h => h2' h.2⟩
        · have h2' : (mv d.Moves i).By = lead (sf tb.status) := by simpa using h2
          have hal := ht.b.alive hd ht.st.2 g h1'
          refine T.bind (P := fun l' => I (i + 1) l') ?_ fun l' hl' => .ret ⟨g, rfl, by omega, hl'⟩
          -- the pairs
          let W : T_api_Pair → Prop := fun p => p.To = (mv d.Moves i).Node ∧ (⟨3 - lead (sf tb.status), 2, p.From, (i : Int)⟩ : Mv) ∉ d.Moves ∧ (3 - lead (sf tb.status) = 1 → ¬ RepN d.Moves p.From i)
          refine T.loopK d.Graph.L.length (fun j s => s.1 = (j : Int) ∧ j ≤ d.Graph.L.length ∧ s.2.length ≤ i * d.Graph.L.length + j ∧ ∀ x, x ∈ s.2 ↔ x ∈ l ∨ ∃ p ∈ d.Graph.L.take j, W p ∧ x = ⟨3 - lead (sf tb.status), 2, p.From, (i : Int)⟩) ⟨rfl, by omega, by simpa using hl, fun x => by simp⟩ ?_
          rintro j ⟨_, l'⟩ ⟨rfl, hj, hlen, hmem⟩
          dsimp only [protocol_table_legal_l2] at *
          rw [ht.td]
          refine T.cond (fun g3 => ?_) fun g3 => ?_
          · simp at g3
            rw [idxM_nat g3, some_bind, iadd1 (by omega)]
            have hb : i * d.Graph.L.length ≤ 200 * 10000 := Nat.mul_le_mul (by omega) (by omega)
            have tk : d.Graph.L.take (j + 1) = d.Graph.L.take j ++ [d.Graph.L[j]] := List.take_succ_eq_append_getElem g3
            have no : ¬ W d.Graph.L[j] → ∀ x, x ∈ l' ↔ x ∈ l ∨ ∃ p ∈ d.Graph.L.take (j + 1), W p ∧ x = ⟨3 - lead (sf tb.status), 2, p.From, (i : Int)⟩ := fun hno x => by
              rw [hmem x, tk]
              constructor
              · rintro (h | ⟨p, h, h3⟩)
                · exact .inl h
                · exact .inr ⟨p, List.mem_append_left _ h, h3⟩
              · rintro (h | ⟨p, h, h3, h4⟩)
                · exact .inl h
                · rcases List.mem_append.1 h with h | h
                  · exact .inr ⟨p, h, h3, h4⟩
                  · rw [List.mem_singleton.1 h] at h3; exact absurd h3 hno
            have yes : W d.Graph.L[j] → ∀ x, x ∈ l' ++ [⟨3 - lead (sf tb.status), 2, d.Graph.L[j].From, (i : Int)⟩] ↔ x ∈ l ∨ ∃ p ∈ d.Graph.L.take (j + 1), W p ∧ x = ⟨3 - lead (sf tb.status), 2, p.From, (i : Int)⟩ := fun hyes x => by
              rw [List.mem_append, hmem x, tk, List.mem_singleton]
              constructor
              · rintro ((h | ⟨p, h, h3⟩) | h)
                · exact .inl h
                · exact .inr ⟨p, List.mem_append_left _ h, h3⟩
                · exact .inr ⟨d.Graph.L[j], List.mem_append_right _ (List.mem_singleton.2 rfl), hyes, h⟩
              · rintro (h | ⟨p, h, h3, h4⟩)
                · exact .inl (.inl h)
                · rcases List.mem_append.1 h with h | h
                  · exact .inl (.inr ⟨p, h, h3, h4⟩)
                  · rw [List.mem_singleton.1 h] at h4; exact .inr h4
            refine T.cond (fun h3 => ?_) fun h3 => ?_
            · have h3' : ¬ d.Graph.L[j].To = (mv d.Moves i).Node := by simpa using h3
              exact .ret ⟨g3, rfl, by omega, by dsimp only; omega, no fun h => h3' h.1⟩
            · have h3' : d.Graph.L[j].To = (mv d.Moves i).Node := by simpa using h3
              rw [contains_plain' (by omega), some_bind]
              refine T.cond (fun h4 => ?_) fun h4 => ?_
              · simp only [decide_eq_true_eq] at h4
                exact .ret ⟨g3, rfl, by omega, by dsimp only; omega, no fun h => h.2.1 h4⟩
              · simp only [decide_eq_false_iff_not] at h4
                refine T.cond (fun h5 => ?_) fun h5 => ?_
                · have h5' : 3 - lead (sf tb.status) = 1 := by simpa using h5
                  refine T.bind (moved_plain hd ht g hal) fun r hr => ?_
                  refine T.cond (fun h6 => ?_) fun h6 => ?_
                  · exact .ret ⟨g3, rfl, by omega, by dsimp only; omega, no fun h => h.2.2 h5' (hr.1 h6)⟩
                  · rw [appM_eq (by simp; omega), some_bind]
                    exact .ret ⟨g3, rfl, by omega, by simp; omega, yes ⟨h3', h4, fun _ h => by rw [hr.2 h] at h6; cases h6⟩⟩
                · have h5' : ¬ 3 - lead (sf tb.status) = 1 := by simpa using h5
                  rw [appM_eq (by simp; omega), some_bind]
                  exact .ret ⟨g3, rfl, by omega, by simp; omega, yes ⟨h3', h4, fun h => absurd h h5'⟩⟩
          · simp at g3
            have e : j = d.Graph.L.length := by omega
            subst e
            refine .ret ⟨by omega, fun x => ?_⟩
            rw [hmem x, List.take_length, hm x]
            constructor
            · rintro (⟨h3, h4⟩ | ⟨p, h3, ⟨h4, h5, h6⟩, rfl⟩)
              · exact ⟨h3, by omega⟩
              · exact ⟨⟨i, p, g, h1', h2', h3, h4, rfl, h5, h6⟩, by simp only; omega⟩
            · rintro ⟨⟨t, p, a1, a2, a3, a4, a5, rfl, a6, a7⟩, h4⟩
              simp only at h4
              by_cases e : t = i
              · subst e; exact .inr ⟨p, a4, ⟨a5, a6, a7⟩, rfl⟩
              · exact .inl ⟨⟨t, p, a1, a2, a3, a4, a5, rfl, a6, a7⟩, by simp only; omega⟩
    · simp at g
      have e : i = d.Moves.length := by omega
      subst e
      refine .ret ⟨hl, fun x => ?_⟩
      rw [hm x]
      constructor
      · exact fun h => h.1
      · rintro h
        refine ⟨h, ?_⟩
        obtain ⟨t, p, a1, _, _, _, _, rfl, _⟩ := h
        simp only; omega
end Go.Dc
