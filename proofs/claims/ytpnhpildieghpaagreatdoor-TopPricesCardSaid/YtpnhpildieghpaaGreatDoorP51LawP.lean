/- Part P51.LawP of a proof: lemmas. -/
import Derived.Test.YtpnhpildieghpaaGreatDoorP51SortC
import Derived.Test.YtpnhpildieghpaaGreatDoorLAWTPF
import Derived.KernelRfl
import Derived.Test.YtpnhpildieghpaaGreatDoorMRepW
set_option linter.unusedVariables false
set_option linter.unusedSimpArgs false
set_option linter.unusedSectionVars false
/-! The grounded labelling and its ranks: the whole. -/
namespace Go.Dc
open Go.Proofs Go.Sort
open Classical
variable {g : T_api_Graph} {N : Nat}

theorem Repeat_plain : ∀ n : Nat, n ≤ 40 → slices_Repeat_int_int_m [3] (n : Int) = some (List.replicate n 3) := by
  intro n hn
  have : ∀ n : Nat, n < 41 → slices_Repeat_int_int_f 20 [3] (n : Int) = some (List.replicate n 3) := by decide +kernel
  exact slices_Repeat_int_int_f_le (k_ := 20) _ (this n (by omega))

/-- the ranks prove the labels -/
def PrvP (g : T_api_Graph) (y r : List Int) : Prop := ∀ i : Nat, i < g.N.toNat →
  (sf y i = 1 → 1 ≤ sf r i ∧ ∀ a : Nat, att g a i → sf r a < sf r i) ∧
  (sf y i = 2 → ∃ a : Nat, a < g.N.toNat ∧ att g a i ∧ sf y a = 1 ∧ 1 ≤ sf r a ∧ sf r a ≤ sf r i)
/-- a proof of the grounded labelling -/
def AccG (g : T_api_Graph) (y r : List Int) : Prop := LOk g.N.toNat y ∧ r.length = g.N.toNat ∧ compP g y = true ∧ PrvP g y r

theorem att_atts (h : GVal g) {i : Nat} {a : Int} : a ∈ attsP g (i : Int) ↔ ∃ b : Nat, a = b ∧ att g b i := by
  rw [mem_attsP]
  constructor
  · intro ha
    obtain ⟨p, hp, h1, h2⟩ := ha
    have := h.v p hp
    exact ⟨a.toNat, by omega, p, hp, by omega, h2⟩
  · rintro ⟨b, rfl, hb⟩; exact hb
theorem uOf_nat {y : List Int} {b : Nat} : uOf y (b : Int) = sf y b := by unfold uOf; rw [Int.toNat_natCast]

theorem Hdd.acc (h : GVal g) (hN : g.N = N) {rd : Int} {l r o : List Int} (H : Hdd g N rd l r o []) : AccG g l r := by
  have hNt : g.N.toNat = N := by omega
  refine ⟨?_, by rw [hNt]; exact H.rl, ?_, fun i hi => ?_⟩
  · rw [hNt]
    refine ⟨H.ll, fun x hx => ?_⟩
    obtain ⟨i, hi, rfl⟩ := List.getElem_of_mem hx
    have e : sf l i = l[i] := by unfold sf; simp [List.getD, hi]
    have := H.v i (by have := H.ll; omega)
    rw [← e]; omega
  · unfold compP
    rw [range_all, hNt]
    intro i hi
    unfold legalP
    rcases H.v i hi with e | e | e
    · rw [if_pos e, List.all_eq_true]
      intro a ha
      obtain ⟨b, rfl, hb⟩ := (att_atts h).1 ha
      rw [uOf_nat, (((H.ri i hi).1 e).2.2 b hb).1]; rfl
    · rw [if_neg (by omega), if_pos e, List.any_eq_true]
      obtain ⟨_, a, _, a2, a3, _⟩ := (H.ri i hi).2 e
      exact ⟨(a : Int), (att_atts h).2 ⟨a, rfl, a2⟩, by rw [uOf_nat, a3]; rfl⟩
    · rw [if_neg (by omega), if_neg (by omega)]
      have n1 : ((attsP g (i : Int)).any fun a => uOf l a == 1) = false := by
        rw [List.any_eq_false]
        intro a ha
        obtain ⟨b, rfl, hb⟩ := (att_atts h).1 ha
        have hbN : b < N := by have := (att_lt h hb).1; omega
        rw [uOf_nat]
        intro hh
        exact H.done b hbN (eq_of_beq hh) i hb e
      have n2 : ((attsP g (i : Int)).all fun a => uOf l a == 2) = false := by
        cases hc : (attsP g (i : Int)).all fun a => uOf l a == 2 with
        | false => rfl
        | true =>
          have hz : opa g (sf l) i = 0 := zero_opa fun b hb => by
            have := List.all_eq_true.1 hc (b : Int) ((att_atts h).2 ⟨b, rfl, hb⟩)
            rw [uOf_nat] at this
            exact eq_of_beq this
          have := H.zero i hi e (by rw [H.op i hi, hz]; rfl)
          cases this
      rw [n1, n2]; rfl
  · rw [hNt] at hi
    refine ⟨fun e => ?_, fun e => ?_⟩
    · obtain ⟨a1, a2, a3⟩ := (H.ri i hi).1 e
      exact ⟨a1, fun a ha => (a3 a ha).2⟩
    · obtain ⟨a1, a, a2, a3, a4, a5, a6⟩ := (H.ri i hi).2 e
      exact ⟨a, by rw [hNt]; exact a2, a3, a4, a5, a6⟩

theorem build_plain (h : GVal g) (hl : g.L.length ≤ 100000) (hN : g.N = N) : T (grounded_build_m g) fun q => AccG g q.1 q.2 := by
  have h40 := h.n1
  unfold grounded_build_m
  have hR : slices_Repeat_int_int_m [3] g.N = some (List.replicate N 3) := by rw [hN]; exact Repeat_plain N (by omega)
  have hM : mkM 8 (0 : Int) g.N = some (List.replicate N 0) := by rw [hN]; exact mkM_T (by omega)
  simp only [hR, hM, some_bind, meetO_self]
  refine T.join ?_
  dsimp only
  refine T.bind (P := fun o => o.length = 40 ∧ ∀ j : Nat, j < 40 → sf o j = ((g.L.countP fun p => decide (p.To = (j : Int))) : Nat)) ?_ ?_
  · refine T.loopK g.L.length (fun k s => k ≤ g.L.length ∧ s.1 = (k : Int) ∧ s.2.length = 40 ∧ ∀ j : Nat, j < 40 → sf s.2 j = (((g.L.take k).countP fun p => decide (p.To = (j : Int))) : Nat)) ⟨by omega, rfl, by simp, fun j hj => by
      have : sf (List.replicate 40 0) j = 0 := by
        unfold sf
        rw [List.getD_eq_getElem?_getD, List.getElem?_replicate]; split <;> rfl
      rw [this]; simp⟩ ?_
    rintro k ⟨_, o⟩ ⟨hk, rfl, ho, hj⟩
    dsimp only [grounded_build_l1] at ho hj ⊢
    refine T.cond (fun c => ?_) fun c => ?_
    · have hk2 : k < g.L.length := by have := of_decide_eq_true c; omega
      have hv := h.v _ (List.getElem_mem hk2)
      obtain ⟨t, ht⟩ : ∃ t : Nat, g.L[k].To = (t : Int) := ⟨g.L[k].To.toNat, by omega⟩
      have htk : ∀ j : Nat, (g.L.take (k + 1)).countP (fun p => decide (p.To = (j : Int))) = (g.L.take k).countP (fun p => decide (p.To = (j : Int))) + if t = j then 1 else 0 := fun j => by
        rw [List.take_add_one, List.getElem?_eq_getElem hk2, List.countP_append]
        congr 1
        simp only [Option.toList_some, List.countP_singleton, ht]
        by_cases e : t = j
        · rw [if_pos e, if_pos (decide_eq_true (by omega))]
        · rw [if_neg e, if_neg (by simpa using (fun h : (t : Int) = j => e (by omega)))]
      have hle : (g.L.take k).countP (fun p => decide (p.To = (t : Int))) ≤ g.L.length := Nat.le_trans List.countP_le_length (by rw [List.length_take]; omega)
      rw [idxM_nat hk2, some_bind, ht, vidx_sf ho (by omega), some_bind, some_bind, iadd1 (by omega), Int.toNat_natCast, hj t (by omega), iadd1 (by omega)]
      refine .ret ⟨hk2, hk2, rfl, by simpa using ho, fun j hj2 => ?_⟩
      simp only
      rw [sf_set (by omega), htk]
      by_cases e : t = j
      · subst e; rw [if_pos rfl, if_pos rfl]
      · rw [if_neg e, if_neg e, hj j hj2]; rfl
    · have e : k = g.L.length := by have := of_decide_eq_false c; omega
      subst e
      rw [List.take_length] at hj
      exact .ret ⟨ho, hj⟩
  rintro o ⟨ho, hoj⟩
  refine T.bind (P := fun Q => Q.Nodup ∧ ∀ x : Int, x ∈ Q ↔ ∃ i : Nat, x = i ∧ i < N ∧ sf o i = 0) ?_ ?_
  · refine T.loopK N (fun k s => k ≤ N ∧ s.1 = (k : Int) ∧ s.2.Nodup ∧ s.2.length ≤ k ∧ ∀ x : Int, x ∈ s.2 ↔ ∃ i : Nat, x = i ∧ i < k ∧ sf o i = 0) ⟨by omega, rfl, by simp, by simp, by simp⟩ ?_
    rintro k ⟨_, Q⟩ ⟨hk, rfl, hnd, hQl, hQ⟩
    dsimp only [grounded_build_l2] at hnd hQl hQ ⊢
    rw [hN]
    refine T.cond (fun c => ?_) fun c => ?_
    · have hk2 : k < N := by have := of_decide_eq_true c; omega
      rw [vidx_sf ho (by omega), some_bind, iadd1 (by omega)]
      refine T.cond (fun c2 => ?_) fun c2 => .ret ⟨hk2, hk2, rfl, hnd, by simp only; omega, fun x => ?_⟩
      · have hz : sf o k = 0 := eq_of_beq c2
        rw [appM_eq (by simp; omega), some_bind]
        refine .ret ⟨hk2, hk2, rfl, List.nodup_append.2 ⟨hnd, by simp, fun a ha b hb e => ?_⟩, by simp; omega, fun x => ?_⟩
        · rw [List.mem_singleton.1 hb] at e
          subst e
          obtain ⟨i, e, hi, _⟩ := (hQ _).1 ha
          omega
        · simp only [List.mem_append, List.mem_singleton, hQ]
          constructor
          · rintro (⟨i, e, hi, q⟩ | rfl)
            · exact ⟨i, e, by omega, q⟩
            · exact ⟨k, rfl, by omega, hz⟩
          · rintro ⟨i, e, hi, q⟩
            by_cases e2 : i = k
            · exact .inr (by omega)
            · exact .inl ⟨i, e, by omega, q⟩
      · simp only
        rw [hQ]
        constructor
        · rintro ⟨i, e, hi, q⟩; exact ⟨i, e, by omega, q⟩
        · rintro ⟨i, e, hi, q⟩
          refine ⟨i, e, ?_, q⟩
          by_cases e2 : i = k
          · subst e2; rw [q] at c2; cases c2
          · omega
    · have e : k = N := by have := of_decide_eq_false c; omega
      subst e
      exact .ret ⟨hnd, hQ⟩
  rintro Q ⟨hnd, hQ⟩
  have h3 : ∀ j, j < N → sf (List.replicate N 3) j = 3 := fun j hj => by simp [sf, hj]
  have op0 : ∀ j, j < N → sf o j = (opa g (sf (List.replicate N 3)) j : Int) := fun j hj => by
    rw [hoj j (by omega), pairs_count h]
    congr 1
    unfold opa
    rw [hN, Int.toNat_natCast]
    refine List.countP_congr fun a ha => ?_
    rw [decide_eq_true_iff, decide_eq_true_iff, h3 a (List.mem_range.1 ha)]
    exact ⟨fun h => ⟨h, by omega⟩, fun h => h.1⟩
  have H0 : Hdd g N ((0 : Nat) : Int) (List.replicate N 3) (List.replicate N 0) o Q := by
    refine ⟨⟨by simp, by simp, ho, fun i hi => .inr (.inr (h3 i hi)), ⟨fun q hq => ?_, hnd⟩, op0, fun j hj _ hz => (hQ _).2 ⟨j, rfl, hj, hz⟩, fun i hi => ⟨fun h1 => by rw [h3 i hi] at h1; omega, fun h1 => by rw [h3 i hi] at h1; omega⟩⟩, fun i hi h1 => by rw [h3 i hi] at h1; omega⟩
    obtain ⟨i, rfl, hi, hz⟩ := (hQ q).1 hq
    exact ⟨i, rfl, hi, h3 i hi, hz⟩
  have hc3 : ∀ l, c3 N l ≤ N := fun l => by unfold c3; exact Nat.le_trans List.countP_le_length (by simp)
  refine T.bind (P := fun q => AccG g q.1 q.2) ?_ fun q hq => .ret hq
  refine T.loopM (fun s => ∃ rd : Nat, s.1 = ((rd + 1 : Nat) : Int) ∧ rd + c3 N s.2.1 ≤ N ∧ Hdd g N (rd : Int) s.2.1 s.2.2.1 s.2.2.2.1 s.2.2.2.2) (fun s => c3 N s.2.1) ⟨0, rfl, by have := hc3 (List.replicate N 3); simpa using this, H0⟩ ?_
  rintro ⟨_, l, r, o, Q⟩ ⟨rd, rfl, hrd, H⟩
  dsimp only at hrd H
  by_cases hQ0 : Q = []
  · subst hQ0
    unfold grounded_build_l7
    dsimp only
    rw [decide_eq_false (by simp), cond_false]
    exact .ret (H.acc h hN)
  · refine (round_plain h hl hN (rd := rd) (by omega) H hQ0).mono ?_
    rintro s ⟨l', r', o', Q', rfl, H', hlt⟩
    exact ⟨⟨rd + 1, rfl, by simp only; omega, H'⟩, hlt⟩
end Go.Dc

/-! Proofs of the grounded labelling are looked at. -/
namespace Go.Dc
open Go.Proofs Go.Sort
variable {g : T_api_Graph}

theorem idx_u {l : List Int} {x : Int} (h0 : 0 ≤ x) (h1 : x < l.length) : idxM l x = some (uOf l x) := by
  obtain ⟨n, rfl⟩ := Int.eq_ofNat_of_zero_le h0
  rw [uOf_nat]; exact idx_sf (by omega)

theorem cont1_plain {c r : List Int} {i : Int} (hc : c.length ≤ 1000) (hr : ∀ x ∈ c, 0 ≤ x ∧ x < r.length) (h0 : 0 ≤ i) (h1 : i < r.length) : slices_ContainsFunc_int_int_s2_m c r i = some (c.any fun k => decide (uOf r k ≥ uOf r i)) := by
  unfold slices_ContainsFunc_int_int_s2_m
  have h : T (slices_IndexFunc_int_int_s2_m c r i) fun q => 0 ≤ q ↔ (c.any fun k => decide (uOf r k ≥ uOf r i)) = true := by
    unfold slices_IndexFunc_int_int_s2_m
    refine indexf_loop (l := c) (fun j hj => ?_) ?_
    · have h2 := hr _ (List.getElem_mem hj)
      unfold slices_IndexFunc_int_int_s2_l1 grounded_proved_1_m
      rw [show decide ((j : Int) < (c.length : Int)) = true by simp [hj], cond_true, idxM_nat hj, iadd64 (by omega) (by omega)]
      simp only [Option.bind_some]
      rw [idx_u h2.1 h2.2, some_bind, idx_u h0 h1, some_bind, some_bind]
      cases decide (uOf r c[j] ≥ uOf r i) <;> rfl
    · unfold slices_IndexFunc_int_int_s2_l1; simp
  obtain ⟨q, q1, q2⟩ := h
  rw [q1]; exact cont_of q2
def wit (y r : List Int) (i k : Int) : Bool := uOf y k == 1 && (decide (uOf r k ≥ 1) && decide (uOf r k ≤ uOf r i))
theorem cont2_plain {c y r : List Int} {i : Int} (hc : c.length ≤ 1000) (hr : ∀ x ∈ c, 0 ≤ x ∧ x < r.length) (hy : y.length = r.length) (h0 : 0 ≤ i) (h1 : i < r.length) : slices_ContainsFunc_int_int_s3_m c y r i = some (c.any (wit y r i)) := by
  unfold slices_ContainsFunc_int_int_s3_m
  have h : T (slices_IndexFunc_int_int_s3_m c y r i) fun q => 0 ≤ q ↔ (c.any (wit y r i)) = true := by
    unfold slices_IndexFunc_int_int_s3_m
    refine indexf_loop (l := c) (fun j hj => ?_) ?_
    · have h2 := hr _ (List.getElem_mem hj)
      unfold slices_IndexFunc_int_int_s3_l1 grounded_proved_2_m
      rw [show decide ((j : Int) < (c.length : Int)) = true by simp [hj], cond_true, idxM_nat hj, iadd64 (by omega) (by omega)]
      simp only [Option.bind_some]
      rw [idx_u h2.1 (by omega), some_bind, idx_u h2.1 h2.2, some_bind, some_bind, idx_u h0 h1, some_bind]
      unfold wit
      cases uOf y c[j] == 1 <;> cases decide (uOf r c[j] ≥ 1) <;> cases decide (uOf r c[j] ≤ uOf r i) <;> rfl
    · unfold slices_IndexFunc_int_int_s3_l1; simp
  obtain ⟨q, q1, q2⟩ := h
  rw [q1]; exact cont_of q2

/-- the rank of a node proves its label -/
def PrvI (g : T_api_Graph) (y r : List Int) (i : Nat) : Prop :=
  (sf y i = 1 → 1 ≤ sf r i ∧ ∀ a : Nat, att g a i → sf r a < sf r i) ∧
  (sf y i = 2 → ∃ a : Nat, a < g.N.toNat ∧ att g a i ∧ sf y a = 1 ∧ 1 ≤ sf r a ∧ sf r a ≤ sf r i)
theorem att_lt' (h : GVal g) {a i : Nat} (ha : att g a i) : a < g.N.toNat := by have := (att_lt h ha).1; omega
theorem proved_plain (h : GVal g) (hg : g.L.length ≤ 100000) {y r : List Int} (hy : LOk g.N.toNat y) (hr : r.length = g.N.toNat) {i : Nat} (hi : i < g.N.toNat) : T (grounded_proved_m g y r (i : Int)) fun b => b = true ↔ PrvI g y r i := by
  have hyl := hy.len; have hal := attsP_len h (i := (i : Int)); have hrg := attsP_rng h (i := (i : Int)); have h40 := h.n1; have hn0 := h.n0
  have hc : ∀ x ∈ attsP g (i : Int), 0 ≤ x ∧ x < r.length := fun x hx => by have := hrg x hx; omega
  unfold grounded_proved_m
  rw [gAttackers_plain h hg (by omega), some_bind, idx_sf (by omega), some_bind]
  have hii : idxM r (i : Int) = some (sf r i) := idx_sf (by omega)
  refine T.cond (fun c => ?_) fun c => T.cond (fun c2 => ?_) fun c2 => ?_
  · have e : sf y i = 1 := eq_of_beq c
    rw [hii, some_bind]
    refine T.cond (fun c3 => ?_) fun c3 => .ret ⟨fun h => (by cases h), fun hp => ?_⟩
    · rw [cont1_plain (by omega) hc (by omega) (by omega), some_bind]
      refine .ret ?_
      rw [Bool.not_eq_true', List.any_eq_false]
      unfold PrvI
      constructor
      · intro hh
        refine ⟨fun _ => ⟨of_decide_eq_true c3, fun a ha => ?_⟩, fun e2 => by omega⟩
        have := hh (a : Int) ((att_atts h).2 ⟨a, rfl, ha⟩)
        rw [uOf_nat, uOf_nat] at this
        simpa using this
      · rintro ⟨hh, _⟩ a ha
        obtain ⟨b, rfl, hb⟩ := (att_atts h).1 ha
        have := (hh e).2 b hb
        rw [uOf_nat, uOf_nat]; simpa using this
    · have := (hp.1 e).1
      have := of_decide_eq_false c3; omega
  · have e : sf y i = 2 := eq_of_beq c2
    rw [cont2_plain (by omega) hc (by omega) (by omega) (by omega), some_bind]
    refine .ret ?_
    rw [List.any_eq_true]
    unfold PrvI wit
    constructor
    · rintro ⟨a, ha, hw⟩
      obtain ⟨b, rfl, hb⟩ := (att_atts h).1 ha
      simp only [uOf_nat, Bool.and_eq_true, decide_eq_true_eq, beq_iff_eq] at hw
      exact ⟨fun e2 => by omega, fun _ => ⟨b, att_lt' h hb, hb, hw.1, hw.2.1, hw.2.2⟩⟩
    · rintro ⟨_, hh⟩
      obtain ⟨a, _, a2, a3, a4, a5⟩ := hh e
      refine ⟨(a : Int), (att_atts h).2 ⟨a, rfl, a2⟩, ?_⟩
      simp only [uOf_nat, Bool.and_eq_true, decide_eq_true_eq, beq_iff_eq]
      exact ⟨a3, a4, a5⟩
  · have e1 : sf y i ≠ 1 := fun e => by rw [e] at c; simp at c
    have e2 : sf y i ≠ 2 := fun e => by rw [e] at c2; simp at c2
    exact .ret ⟨fun _ => ⟨fun e => absurd e e1, fun e => absurd e e2⟩, fun _ => rfl⟩

theorem GCheck_plain (h : GVal g) (hg : g.L.length ≤ 100000) {y r : List Int} (hl : y.length ≤ 1000000) : T (grounded_Check_m g y r) fun x => x = 0 ↔ AccG g y r := by
  have hn0 := h.n0; have h40 := h.n1
  unfold grounded_Check_m
  rw [gValidate_plain h (by omega), some_bind, show ((0 : Int) != 0) = false from rfl, cond_false]
  refine T.join ?_
  refine T.bind (LValid_plain hn0 hl) fun b hb => ?_
  refine T.cond (fun c => .ret ⟨fun h => (by cases h), fun hh => ?_⟩) fun c => ?_
  · rw [hb.2 hh.1] at c; cases c
  have hy := hb.1 (by simpa using c)
  cases hc : (((r.length : Int) : Int) != g.N) with
  | true => exact .ret ⟨fun h => (by cases h), fun hh => by have := hh.2.1; simp at hc; omega⟩
  | false =>
    have hr : r.length = g.N.toNat := by simp at hc; omega
    show T (Option.bind (labelling_IsComplete_m g y) _) _
    refine T.bind (LComplete_plain h hg hl) fun b2 hb2 => ?_
    refine T.cond (fun c2 => .ret ⟨fun h => (by cases h), fun hh => ?_⟩) fun c2 => ?_
    · rw [hb2.2 ⟨hh.1, hh.2.2.1⟩] at c2; cases c2
    have hcomp := (hb2.1 (by simpa using c2)).2
    refine T.bind (P := fun q => match q with | .inl a => a ≠ 0 ∧ ¬ PrvP g y r | .inr _ => PrvP g y r) ?_ fun q hq => ?_
    · refine T.loopK g.N.toNat (fun k s => k ≤ g.N.toNat ∧ s = (k : Int) ∧ ∀ i, i < k → PrvI g y r i) ⟨by omega, rfl, by simp⟩ ?_
      rintro k _ ⟨hk, rfl, hp⟩
      dsimp only [grounded_Check_l1]
      refine T.cond (fun c3 => ?_) fun c3 => .ret ?_
      · have hk2 : k < g.N.toNat := by have := of_decide_eq_true c3; omega
        refine T.bind (proved_plain h hg hy hr hk2) fun p hpp => ?_
        rw [iadd1 (by omega)]
        refine T.cond (fun c4 => .ret ⟨by decide, fun hall => ?_⟩) fun c4 => .ret ⟨hk2, hk2, rfl, fun i hi => ?_⟩
        · rw [hpp.2 (hall k hk2)] at c4; cases c4
        · by_cases e : i = k
          · subst e; exact hpp.1 (by simpa using c4)
          · exact hp i (by omega)
      · have e : k = g.N.toNat := by have := of_decide_eq_false c3; omega
        subst e
        exact hp
    · cases q with
      | inl a => exact .ret ⟨fun h => absurd h hq.1, fun hh => absurd hh.2.2.2 hq.2⟩
      | inr a => exact .ret ⟨fun _ => ⟨hy, hr, hcomp, hq⟩, fun _ => rfl⟩

/-! ### the question of all complete labellings -/
theorem Decide4_plain (h : GVal g) (hg : g.L.length ≤ 100000) {n : Nat} (hn : n < g.N.toNat) : T (verdict_Decide_m g 4 (n : Int)) fun r => r.2 = 0 ∧ ∃ L R, r.1 = ⟨sf L n == 1, L, R, []⟩ ∧ AccG g L R := by
  have hn0 := h.n0; have h40 := h.n1
  obtain ⟨⟨L, R⟩, e, hb⟩ := build_plain h hg (N := g.N.toNat) (by omega)
  have hLl := hb.1.len
  unfold verdict_Decide_m
  refine T.bind (asked_plain hg) fun r hr => ?_
  rcases hr with ⟨rfl, _, _, _⟩ | ⟨_, hb⟩
  case inr => exact absurd ⟨h, by omega, by omega⟩ hb
  rw [show ((0 : Int) != 0) = false from rfl, cond_false, show ((4 : Int) == 4) = true from rfl, cond_true]
  unfold grounded_Label_m grounded_Ranks_m
  rw [e, some_bind, some_bind, idx_sf (by omega), some_bind, some_bind, some_bind]
  exact .ret ⟨rfl, L, R, rfl, hb⟩
theorem VCheck4_plain (h : GVal g) (hg : g.L.length ≤ 100000) {n : Nat} (hn : n < g.N.toNat) {v : T_api_Verdict} (hl : v.Labels.length ≤ 1000000) :
    T (verdict_Check_m g 4 (n : Int) v) fun r => r = 0 ↔ v.Steps = [] ∧ AccG g v.Labels v.Ranks ∧ v.Holds = (sf v.Labels n == 1) := by
  have hn0 := h.n0; have h40 := h.n1
  unfold verdict_Check_m
  refine T.bind (asked_plain hg) fun r hr => ?_
  rcases hr with ⟨rfl, _, _, _⟩ | ⟨_, hb⟩
  case inr => exact absurd ⟨h, by omega, by omega⟩ hb
  rw [show ((0 : Int) != 0) = false from rfl, cond_false, show ((4 : Int) == 4) = true from rfl, cond_true]
  refine T.bind (P := fun r => r = 0 ↔ v.Steps = [] ∧ AccG g v.Labels v.Ranks ∧ v.Holds = (sf v.Labels n == 1)) ?_ fun r hr => .ret hr
  unfold verdict_ranked_m
  refine T.cond (fun c => .ret ⟨fun h => (by cases h), fun hh => by rw [hh.1] at c; simp at c⟩) fun c => ?_
  have hs := len_pos.1 c
  refine T.bind (GCheck_plain h hg hl) fun x hx => ?_
  refine T.cond (fun c2 => .ret ⟨fun h => (by cases h), fun hh => by rw [hx.2 hh.2.1] at c2; simp at c2⟩) fun c2 => ?_
  have ha := hx.1 (by simpa using c2)
  have hll := ha.1.len
  rw [idx_sf (by omega), some_bind]
  refine T.cond (fun c3 => .ret ⟨fun h => (by cases h), fun hh => by rw [hh.2.2] at c3; simp at c3⟩) fun c3 => .ret ⟨fun _ => ⟨hs, ha, ?_⟩, fun _ => rfl⟩
  simpa using c3
end Go.Dc

/-! Complete labellings: how many there are. -/
namespace Go.Dc
open Go.Proofs Go.Sort
variable {g : T_api_Graph}

def Cpl (g : T_api_Graph) (z : List Int) : Prop := LOk g.N.toNat z ∧ compP g z = true
theorem Cpl.at {z : List Int} (h : Cpl g z) {i : Nat} (hi : i < g.N.toNat) : legalP g z i = true := range_all.1 h.2 i hi

/-! ### few -/
def code : Nat → List Int → Nat
  | 0, _ => 0
  | k + 1, z => code k z + if sf z k = 1 then 2 ^ k else 0
end Go.Dc

/-! What a question means: sets of nodes, in a part of a graph. -/
namespace Go.Dc
open Go.Proofs Go.Sort
variable {g : T_api_Graph}

/-- admissible in a part of the nodes -/
def Adm (g : T_api_Graph) (A S : Nat → Prop) : Prop := (∀ a, S a → A a) ∧ (∀ a b : Nat, S a → S b → ¬ att g a b) ∧ ∀ a b : Nat, S a → A b → att g b a → ∃ c : Nat, S c ∧ att g c b
def Stb (g : T_api_Graph) (A S : Nat → Prop) : Prop := (∀ a, S a → A a) ∧ (∀ a b : Nat, S a → S b → ¬ att g a b) ∧ ∀ b : Nat, A b → ¬ S b → ∃ c : Nat, S c ∧ att g c b
/-- what a set defends is in it -/
def Clsd (g : T_api_Graph) (A S : Nat → Prop) : Prop := ∀ j : Nat, A j → (∀ b : Nat, A b → att g b j → ∃ c : Nat, S c ∧ A c ∧ att g c b) → S j
def Grd (g : T_api_Graph) (A : Nat → Prop) (i : Nat) : Prop := ∀ S, Clsd g A S → S i
def TruS (g : T_api_Graph) (A : Nat → Prop) (q : Int) (i : Nat) : Prop := if q = 1 then ∃ S, Adm g A S ∧ S i else if q = 2 then ∃ S, Stb g A S ∧ S i else if q = 3 then ∀ S, Stb g A S → S i else Grd g A i

/-! ### graphs that are alike -/
/-- h is the part A of g, by φ -/
structure Emb (g h : T_api_Graph) (A : Nat → Prop) (M : Nat) (φ : Nat → Nat) : Prop where
  inj : ∀ a b, a < M → b < M → φ a = φ b → a = b
  into : ∀ a, a < M → A (φ a)
  onto : ∀ x, A x → ∃ a, a < M ∧ φ a = x
  att : ∀ a b : Nat, a < M → b < M → (att h a b ↔ att g (φ a : Nat) (φ b : Nat))
theorem Emb.adm {h : T_api_Graph} {A : Nat → Prop} {M : Nat} {φ : Nat → Nat} (e : Emb g h A M φ) {i : Nat} (hi : i < M) : (∃ S, Adm g A S ∧ S (φ i)) ↔ ∃ S, Adm h (· < M) S ∧ S i := by
  constructor
  · rintro ⟨S, ⟨h1, h2, h3⟩, h4⟩
    refine ⟨fun a => a < M ∧ S (φ a), ⟨fun a ha => ha.1, fun a b ha hb hab => h2 _ _ ha.2 hb.2 ((e.att a b ha.1 hb.1).1 hab), fun a b ha hb hab => ?_⟩, hi, h4⟩
    obtain ⟨c, hc, hcb⟩ := h3 (φ a) (φ b) ha.2 (e.into b hb) ((e.att b a hb ha.1).1 hab)
    obtain ⟨c', hc', rfl⟩ := e.onto c (h1 c hc)
    exact ⟨c', ⟨hc', hc⟩, (e.att c' b hc' hb).2 hcb⟩
  · rintro ⟨S, ⟨h1, h2, h3⟩, h4⟩
    refine ⟨fun x => ∃ a, a < M ∧ φ a = x ∧ S a, ⟨?_, ?_, ?_⟩, i, hi, rfl, h4⟩
    · rintro _ ⟨a, ha, rfl, _⟩; exact e.into a ha
    · rintro _ _ ⟨a, ha, rfl, hsa⟩ ⟨b, hb, rfl, hsb⟩ hab; exact h2 a b hsa hsb ((e.att a b ha hb).2 hab)
    · rintro _ x ⟨a, ha, rfl, hsa⟩ hx hab
      obtain ⟨b, hb, rfl⟩ := e.onto x hx
      obtain ⟨c, hc, hcb⟩ := h3 a b hsa hb ((e.att b a hb ha).2 hab)
      exact ⟨φ c, ⟨c, h1 c hc, rfl, hc⟩, (e.att c b (h1 c hc) hb).1 hcb⟩
theorem Emb.stb {h : T_api_Graph} {A : Nat → Prop} {M : Nat} {φ : Nat → Nat} (e : Emb g h A M φ) {S : Nat → Prop} (hs : Stb g A S) : Stb h (· < M) fun a => a < M ∧ S (φ a) := by
  obtain ⟨h1, h2, h3⟩ := hs
  refine ⟨fun a ha => ha.1, fun a b ha hb hab => h2 _ _ ha.2 hb.2 ((e.att a b ha.1 hb.1).1 hab), fun b hb hnb => ?_⟩
  obtain ⟨c, hc, hcb⟩ := h3 (φ b) (e.into b hb) fun hh => hnb ⟨hb, hh⟩
  obtain ⟨c', hc', rfl⟩ := e.onto c (h1 c hc)
  exact ⟨c', ⟨hc', hc⟩, (e.att c' b hc' hb).2 hcb⟩
theorem Emb.back {h : T_api_Graph} {A : Nat → Prop} {M : Nat} {φ : Nat → Nat} (e : Emb g h A M φ) {S : Nat → Prop} {i : Nat} (hi : i < M) : (∃ a, a < M ∧ φ a = φ i ∧ S a) ↔ S i :=
  ⟨fun ⟨a, ha, h1, h2⟩ => by rwa [e.inj a i ha hi h1] at h2, fun h => ⟨i, hi, rfl, h⟩⟩
theorem Emb.grd {h : T_api_Graph} {A : Nat → Prop} {M : Nat} {φ : Nat → Nat} (e : Emb g h A M φ) {i : Nat} (hi : i < M) : Grd g A (φ i) ↔ Grd h (· < M) i := by
  constructor
  · intro hg S hS
    refine (e.back hi).1 (hg (fun x => ∃ a, a < M ∧ φ a = x ∧ S a) fun x hx hd => ?_)
    obtain ⟨j, hj, rfl⟩ := e.onto x hx
    refine ⟨j, hj, rfl, hS j hj fun b hb hbj => ?_⟩
    obtain ⟨_, ⟨c, hc, rfl, hsc⟩, _, hcb⟩ := hd (φ b) (e.into b hb) ((e.att b j hb hj).1 hbj)
    exact ⟨c, hsc, hc, (e.att c b hc hb).2 hcb⟩
  · intro hg S hS
    refine (hg (fun a => a < M ∧ S (φ a)) fun j hj hd => ⟨hj, hS (φ j) (e.into j hj) fun x hx hxj => ?_⟩).2
    obtain ⟨b, hb, rfl⟩ := e.onto x hx
    obtain ⟨c, hc, hcM, hcb⟩ := hd b hb ((e.att b j hb hj).2 hxj)
    exact ⟨φ c, hc.2, e.into c hcM, (e.att c b hcM hb).1 hcb⟩
/-! ### sets and labellings -/
theorem legal_in (h : GVal g) {z : List Int} {i : Nat} (hl : legalP g z i = true) (e : sf z i = 1) : ∀ a : Nat, att g a i → sf z a = 2 := fun a ha => by
  unfold legalP at hl
  rw [if_pos e] at hl
  have := eq_of_beq (List.all_eq_true.1 hl (a : Int) ((att_atts h).2 ⟨a, rfl, ha⟩))
  rwa [uOf_nat] at this
theorem legal_out (h : GVal g) {z : List Int} {i : Nat} (hl : legalP g z i = true) (e : sf z i = 2) : ∃ a : Nat, att g a i ∧ sf z a = 1 := by
  unfold legalP at hl
  rw [if_neg (by omega), if_pos e] at hl
  obtain ⟨a, ha, hb⟩ := List.any_eq_true.1 hl
  obtain ⟨b, rfl, hb2⟩ := (att_atts h).1 ha
  rw [uOf_nat] at hb
  exact ⟨b, hb2, eq_of_beq hb⟩
open Classical in
/-- the labelling of a set -/
noncomputable def labOf (g : T_api_Graph) (S : Nat → Prop) : List Int := (List.range g.N.toNat).map fun j => if S j then 1 else if ∃ c : Nat, S c ∧ att g c j then 2 else 3
theorem att_ltN (h : GVal g) {a b : Nat} (hab : att g a b) : a < g.N.toNat ∧ b < g.N.toNat := by have := att_lt h hab; omega
open Classical in
noncomputable def cntP (N : Nat) (P : Nat → Prop) : Nat := (List.range N).countP fun a => decide (P a)
/-- labellings in which nothing is undecided -/
def CplS (g : T_api_Graph) (z : List Int) : Prop := Cpl g z ∧ ∀ j, j < g.N.toNat → sf z j ≠ 3
/-! ### the grounded set -/
theorem prv_in (h : GVal g) {y r : List Int} (ha : AccG g y r) {S : Nat → Prop} (hS : Clsd g (· < g.N.toNat) S) : ∀ (m : Nat) (i : Nat), i < g.N.toNat → sf y i = 1 → sf r i ≤ (m : Int) → S i := by
  obtain ⟨hy, hr, hcy, hp⟩ := ha
  intro m
  induction m with
  | zero => intro i hi h1 hm; have := ((hp i hi).1 h1).1; omega
  | succ m ih =>
    intro i hi h1 hm
    obtain ⟨p1, p2⟩ := (hp i hi).1 h1
    refine hS i hi fun b hb hbi => ?_
    have h2 := legal_in h (range_all.1 hcy i hi) h1 b hbi
    obtain ⟨a, a1, a2, a3, a4, a5⟩ := (hp b hb).2 h2
    have := p2 b hbi
    exact ⟨a, ih a a1 a3 (by omega), a1, a2⟩
theorem in_clsd (h : GVal g) {y : List Int} (hy : Cpl g y) : Clsd g (· < g.N.toNat) fun a => a < g.N.toNat ∧ sf y a = 1 := fun j hj hd => by
  have out : ∀ b : Nat, att g b j → sf y b = 2 := fun b hb => by
    have hbN := (att_ltN h hb).1
    obtain ⟨c, ⟨hc, hc1⟩, _, hcb⟩ := hd b hbN hb
    rcases hy.1.at hbN with e | e | e
    · have := legal_in h (hy.at hbN) e c hcb; omega
    · exact e
    · have hl := hy.at hbN
      unfold legalP at hl
      rw [if_neg (by omega), if_neg (by omega)] at hl
      simp only [Bool.and_eq_true, Bool.not_eq_true'] at hl
      have := List.any_eq_false.1 hl.1 (c : Int) ((att_atts h).2 ⟨c, rfl, hcb⟩)
      rw [uOf_nat, hc1] at this; exact absurd rfl this
  refine ⟨hj, ?_⟩
  rcases hy.1.at hj with e | e | e
  · exact e
  · obtain ⟨c, hc, hc1⟩ := legal_out h (hy.at hj) e
    have := out c hc; omega
  · have hl := hy.at hj
    unfold legalP at hl
    rw [if_neg (by omega), if_neg (by omega)] at hl
    simp only [Bool.and_eq_true, Bool.not_eq_true'] at hl
    have : ((attsP g (j : Int)).all fun a => uOf y a == 2) = true := List.all_eq_true.2 fun a ha => by
      obtain ⟨b, rfl, hb⟩ := (att_atts h).1 ha
      rw [uOf_nat, out b hb]; rfl
    rw [this] at hl; cases hl.2
theorem grd_iff (h : GVal g) {y r : List Int} (ha : AccG g y r) {n : Nat} (hn : n < g.N.toNat) : sf y n = 1 ↔ Grd g (· < g.N.toNat) n :=
  ⟨fun h1 S hS => prv_in h ha hS (sf r n).toNat n hn h1 (by omega), fun hg => (hg _ (in_clsd h ⟨ha.1, ha.2.2.1⟩)).2⟩

/-! ### verdicts -/
end Go.Dc

/-! The answers of a net, and of Decide, in sets. -/
namespace Go.Dc
open Go.Proofs Go.Sort
variable {g : T_api_Graph}

open Classical in
theorem bits_of (N : Nat) (P : Nat → Prop) : ∃ s : Nat, ∀ i, s.testBit i = true ↔ i < N ∧ P i :=
  ⟨setOf ((List.range N).filter fun i => decide (P i)), fun i => by rw [setOf_bit, List.mem_filter, List.mem_range, decide_eq_true_iff]⟩

/-- the net n is the part A of the graph g -/
structure NetA (g : T_api_Graph) (A : Nat → Prop) (N : Nat) (n : Nt) : Prop where
  ok : NtOk N n
  all : ∀ i, n.all.testBit i = true ↔ A i
  at_ : ∀ i j, n.a i j ↔ att g i j ∧ A i ∧ A j

section
variable {A : Nat → Prop} {N : Nat} {n : Nt} (h : NetA g A N n)
include h
theorem NetA.lt {i : Nat} (hi : A i) : i < N := h.ok.al i ((h.all i).2 hi)
theorem NetA.adm {s : Nat} (hs : SubB s n.all) : AdmP n s ↔ Adm g A fun i => s.testBit i = true := by
  have hA : ∀ i, s.testBit i = true → A i := fun i hi => (h.all i).1 (hs i hi)
  constructor
  · rintro ⟨h1, h2⟩
    refine ⟨hA, fun a b ha hb hab => h1 a b ha hb ((h.at_ a b).2 ⟨hab, hA a ha, hA b hb⟩), fun a b ha hb hab => ?_⟩
    obtain ⟨k, hk, hkb⟩ := h2 b a ha ((h.at_ b a).2 ⟨hab, hb, hA a ha⟩)
    exact ⟨k, hk, ((h.at_ k b).1 hkb).1⟩
  · rintro ⟨_, h1, h2⟩
    refine ⟨fun i j hi hj hij => h1 i j hi hj ((h.at_ i j).1 hij).1, fun i j hj hij => ?_⟩
    obtain ⟨q1, q2, q3⟩ := (h.at_ i j).1 hij
    obtain ⟨c, hc, hcb⟩ := h2 j i hj q2 q1
    exact ⟨c, hc, (h.at_ c i).2 ⟨hcb, hA c hc, q2⟩⟩
theorem NetA.stb {s : Nat} (hs : SubB s n.all) : StbP n s ↔ Stb g A fun i => s.testBit i = true := by
  have hA : ∀ i, s.testBit i = true → A i := fun i hi => (h.all i).1 (hs i hi)
  constructor
  · rintro ⟨h1, h2⟩
    refine ⟨hA, fun a b ha hb hab => h1 a b ha hb ((h.at_ a b).2 ⟨hab, hA a ha, hA b hb⟩), fun b hb hnb => ?_⟩
    obtain ⟨k, hk, hkb⟩ := h2 b ((h.all b).2 hb) (by simpa using hnb)
    exact ⟨k, hk, ((h.at_ k b).1 hkb).1⟩
  · rintro ⟨_, h1, h2⟩
    refine ⟨fun i j hi hj hij => h1 i j hi hj ((h.at_ i j).1 hij).1, fun i hi hni => ?_⟩
    obtain ⟨c, hc, hcb⟩ := h2 i ((h.all i).1 hi) (by simp [hni])
    exact ⟨c, hc, (h.at_ c i).2 ⟨hcb, hA c hc, (h.all i).1 hi⟩⟩
/-- a set of nodes, as bits -/
theorem NetA.bits (S : Nat → Prop) (hS : ∀ i, S i → A i) : ∃ s, SubB s n.all ∧ (fun i => s.testBit i = true) = S := by
  obtain ⟨s, hs⟩ := bits_of N S
  have hs' : ∀ i, s.testBit i = true ↔ S i := fun i => (hs i).trans ⟨fun h => h.2, fun hi => ⟨h.lt (hS i hi), hi⟩⟩
  exact ⟨s, fun i hi => (h.all i).2 (hS i ((hs' i).1 hi)), funext fun i => propext (hs' i)⟩
theorem NetA.grd {G : Nat} (hG : GrdN n G) (i : Nat) : G.testBit i = true ↔ Grd g A i := by
  have hA : ∀ i, G.testBit i = true → A i := fun i hi => (h.all i).1 (hG.sub i hi)
  constructor
  · intro hi S hS
    obtain ⟨s, h1, h2⟩ := h.bits (fun i => A i ∧ S i) fun i hi => hi.1
    have hbit : ∀ i, s.testBit i = true ↔ A i ∧ S i := fun i => by rw [show (A i ∧ S i) = (fun i => A i ∧ S i) i from rfl, ← h2]
    have hcls : ClsP n s := fun j hj hd => (hbit j).2 ⟨(h.all j).1 hj, hS j ((h.all j).1 hj) fun b hb hbj => by
      obtain ⟨m, hm, hmb⟩ := hd b ((h.at_ b j).2 ⟨hbj, hb, (h.all j).1 hj⟩)
      obtain ⟨q1, q2⟩ := (hbit m).1 hm
      exact ⟨m, q2, q1, ((h.at_ m b).1 hmb).1⟩⟩
    exact ((hbit i).1 (hG.least s hcls i hi)).2
  · intro hi
    refine hi (fun i => G.testBit i = true) fun j hj hd => hG.cls j ((h.all j).2 hj) fun k hk => ?_
    obtain ⟨q1, q2, q3⟩ := (h.at_ k j).1 hk
    obtain ⟨c, hc, hcA, hck⟩ := hd k q2 q1
    exact ⟨c, hc, (h.at_ c k).2 ⟨hck, hcA, q2⟩⟩
end

theorem New_net (h : GVal g) (hg : g.L.length ≤ 100000) : T (network_New_m g) fun t => ∃ n : Nt, t = n.t ∧ NetA g (· < g.N.toNat) g.N.toNat n := by
  obtain ⟨GN, L⟩ := g
  obtain ⟨N, rfl⟩ := Int.eq_ofNat_of_zero_le (show 0 ≤ GN from h.n0)
  have hv : ∀ p ∈ L, 0 ≤ p.From ∧ p.From < N ∧ 0 ≤ p.To ∧ p.To < N := h.v
  show T (network_New_m ⟨(N : Int), L⟩) fun t => ∃ n : Nt, t = n.t ∧ NetA ⟨(N : Int), L⟩ (· < N) N n
  refine (New_plain2 (N := N) (l := L) (by have : (N : Int) ≤ 40 := h.n1; omega) hv (by simp only at hg; omega)).mono ?_
  rintro _ ⟨n, rfl, h1, h2, h3⟩
  refine ⟨n, rfl, h1, h2, fun i j => ?_⟩
  rw [h3]
  constructor
  · rintro ⟨p, hp, q1, q2⟩
    have := hv p hp
    exact ⟨⟨p, hp, q1, q2⟩, by omega, by omega⟩
  · rintro ⟨⟨p, hp, q1, q2⟩, _⟩; exact ⟨p, hp, q1, q2⟩
end Go.Dc

/-! A part of a graph as a graph. -/
namespace Go.Dc
open Go.Proofs Go.Sort
variable {g : T_api_Graph}

/-- the nodes below N with a property -/
def ndsP (N : Nat) (p : Nat → Bool) : List Nat := (List.range N).filter p
theorem ndsP_succ {N : Nat} {p : Nat → Bool} : ndsP (N + 1) p = ndsP N p ++ (if p N then [N] else []) := by
  unfold ndsP
  rw [List.range_succ, List.filter_append]
  congr 1
  cases h : p N <;> simp [h]
theorem mem_nds {N i : Nat} {p : Nat → Bool} : i ∈ ndsP N p ↔ i < N ∧ p i = true := by unfold ndsP; rw [List.mem_filter, List.mem_range]
theorem nds_len {N : Nat} {p : Nat → Bool} : (ndsP N p).length ≤ N := by unfold ndsP; exact Nat.le_trans (List.length_filter_le _ _) (by simp)
theorem nds_asc {N : Nat} {p : Nat → Bool} : (ndsP N p).Pairwise (· < ·) := List.Pairwise.filter _ List.pairwise_lt_range
/-- one attack of the part, as one of the graph -/
def RelP (l : List Nat) (a p : T_api_Pair) : Prop := 0 ≤ p.From ∧ p.From < l.length ∧ 0 ≤ p.To ∧ p.To < l.length ∧ ((l.getD p.From.toNat 0 : Nat) : Int) = a.From ∧ ((l.getD p.To.toNat 0 : Nat) : Int) = a.To

end Go.Dc

/-! The least removals. -/
namespace Go.Dc
open Go.Proofs Go.Sort
variable {g : T_api_Graph}

/-! ### what is deleted -/
/-! ### all sets -/
theorem and1b {a : Nat} : iand .i64 (a : Int) 1 = ((a % 2 : Nat) : Int) := by
  unfold iand
  have h1 : (BitVec.ofInt 64 (a : Int) &&& BitVec.ofInt 64 1).toNat = a % 2 := by
    simp only [BitVec.toNat_and, BitVec.ofInt_natCast, BitVec.toNat_ofNat]
    rw [show (BitVec.ofInt 64 1).toNat = 1 from rfl, Nat.and_one_is_mod, Nat.mod_mod_of_dvd _ (by decide)]
  rw [show IntKind.bits .i64 = 64 from rfl, h1]
  exact wrap64 (by omega) (by omega)
theorem shr1 {m i : Nat} (hi : i ≤ 60) : ishr .i64 (m : Int) (i : Int) = ((m / 2 ^ i : Nat) : Int) := by
  rw [ishr_eq (by omega) (by omega)]
  rw [Int.toNat_natCast]; norm_cast
theorem shl1 {i : Nat} (hi : i ≤ 60) : ishl .i64 1 (i : Int) = ((2 ^ i : Nat) : Int) := by
  rw [ishl_eq (by omega), Int.toNat_natCast, Int.one_mul]
  have h : 2 ^ i ≤ 2 ^ 60 := Nat.pow_le_pow_right (by decide) hi
  have h2 : ((2 : Int) ^ i) = ((2 ^ i : Nat) : Int) := by norm_cast
  rw [h2]
  have h3 : (0 : Int) ≤ ((2 ^ i : Nat) : Int) := Int.natCast_nonneg _
  have h4 : ((2 ^ i : Nat) : Int) ≤ ((2 ^ 60 : Nat) : Int) := by exact_mod_cast h
  exact wrap64 (Int.le_trans (by decide) h3) (Int.le_trans h4 (by decide))

/-- the set of a number -/
def subM (L : List Nat) (m k : Nat) : List Nat := (ndsP k m.testBit).map fun i => L.getD i 0
section
variable {L : List Nat} (hL : L.length ≤ 10) (hN : L.Nodup) {B : Nat → Bool} {a0 : Int} {a1 a2 : List Int} {b0 c0 : Int} {d0 : Bool}
  (hB : ∀ m, m < 2 ^ L.length → explain_Removals_2_s1_m (il (subM L m L.length)) a0 a1 a2 b0 c0 d0 = some (B m))
/-- what was found among the first m sets -/
structure LstI (L : List Nat) (B : Nat → Bool) (m : Nat) (out : List (List Int)) : Prop where
  len : out.length ≤ m
  nd : out.Nodup
  el : ∀ x ∈ out, ∃ j, j < m ∧ x = il (subM L j L.length) ∧ B j = true
  no : out = [] → ∀ j, j < m → B j = false
include hL in
include hL hN hB in
include hL hN hB in
end
end Go.Dc

set_option maxRecDepth 100000
namespace Go.Dc
theorem awake : top_awake25_m = some true := top_awake25_f_le (k_ := 1000) true (by kernel_rfl)
end Go.Dc

/-! The law TopExplained in plain words. -/
namespace Go.Dc
open Go.Proofs Go.Sort
variable {g : T_api_Graph}

theorem nds_cut {p : Nat → Bool} {N : Nat} (hp : ∀ i, p i = true → i < N) : ∀ d, ndsP (N + d) p = ndsP N p
  | 0 => rfl
  | d + 1 => by
    rw [show N + (d + 1) = (N + d) + 1 from rfl, ndsP_succ, nds_cut hp d]
    have : p (N + d) = false := by
      cases h : p (N + d) with
      | false => rfl
      | true => have := hp _ h; omega
    rw [this]; simp
/-- the nodes that are not in a list -/
def Out (g : T_api_Graph) (x : List Int) (k : Nat) : Prop := k < g.N.toNat ∧ ¬ (k : Int) ∈ x
theorem In_plain {l : List Int} {x : Int} (hl : l.length ≤ 1000000) : keep_In_m l x = some (decide (x ∈ l)) := by
  unfold keep_In_m
  refine T.eq (T.bind (P := fun r => match r with | .inl b => b = decide (x ∈ l) | .inr _ => x ∉ l) (T.loopK l.length (fun k s => s = (k : Int) ∧ x ∉ l.take k) ⟨rfl, by simp⟩ fun k s hs => ?_) fun r hr => ?_)
  · obtain ⟨rfl, hn⟩ := hs
    unfold keep_In_l1
    refine T.cond (fun h => ?_) fun h => .ret ?_
    · simp only [decide_eq_true_eq] at h
      have hk : k < l.length := by omega
      rw [idxM_nat hk, iadd1 (by omega)]
      simp only [Option.bind_some]
      refine T.cond (fun h2 => .ret ?_) fun h2 => .ret ⟨hk, rfl, ?_⟩
      · show true = decide (x ∈ l)
        exact (decide_eq_true (by rw [← eq_of_beq h2]; exact List.getElem_mem hk)).symm
      · rw [← List.take_append_getElem hk, List.mem_append, List.mem_singleton]
        rintro (h3 | h3)
        · exact hn h3
        · subst h3; simp at h2
    · simp only [decide_eq_false_iff_not] at h
      rw [List.take_of_length_le (by omega)] at hn
      exact hn
  · match r, hr with
    | .inl b, hr => exact .ret hr
    | .inr u, hr => exact .ret (decide_eq_false hr).symm

end Go.Dc

/-! Budgets: a least set of attacks to be dropped. -/
namespace Go.Dc
open Go.Proofs Go.Sort
variable {g : T_api_Graph}

def pr0 : T_api_Pair := ⟨0, 0⟩
/-- the attacks whose index is kept -/
def keepK (p : Nat → Bool) (l : List T_api_Pair) (k : Nat) : List T_api_Pair := (ndsP k p).map fun i => l.getD i pr0
def keepR (p : Nat → Bool) (l : List T_api_Pair) : List T_api_Pair := keepK p l l.length
theorem keepK_succ {p : Nat → Bool} {l : List T_api_Pair} {k : Nat} : keepK p l (k + 1) = if p k = true then keepK p l k ++ [l.getD k pr0] else keepK p l k := by
  unfold keepK
  rw [ndsP_succ]
  by_cases h : p k = true
  · rw [if_pos h, if_pos h]; simp
  · rw [if_neg h, if_neg h]; simp
theorem keepK_len {p : Nat → Bool} {l : List T_api_Pair} {k : Nat} : (keepK p l k).length ≤ k := by
  unfold keepK
  rw [List.length_map]; exact nds_len
theorem mem_keepR {p : Nat → Bool} {l : List T_api_Pair} {x : T_api_Pair} : x ∈ keepR p l ↔ ∃ i, ∃ h : i < l.length, p i = true ∧ l[i] = x := by
  unfold keepR keepK
  rw [List.mem_map]
  constructor
  · rintro ⟨i, hi, rfl⟩
    obtain ⟨h1, h2⟩ := mem_nds.1 hi
    exact ⟨i, h1, h2, by simp [List.getD, h1]⟩
  · rintro ⟨i, h1, h2, rfl⟩
    exact ⟨i, mem_nds.2 ⟨h1, h2⟩, by simp [List.getD, h1]⟩
theorem keepR_sub {p : Nat → Bool} {l : List T_api_Pair} {x : T_api_Pair} (h : x ∈ keepR p l) : x ∈ l := by
  obtain ⟨i, h1, _, rfl⟩ := mem_keepR.1 h
  exact List.getElem_mem h1
theorem keepR_all {p : Nat → Bool} {l : List T_api_Pair} (h : ∀ i, i < l.length → p i = true) : ∀ x, x ∈ keepR p l ↔ x ∈ l := fun x => by
  rw [mem_keepR]
  exact ⟨fun ⟨i, h1, _, e⟩ => e ▸ List.getElem_mem h1, fun hx => by obtain ⟨i, h1, e⟩ := List.getElem_of_mem hx; exact ⟨i, h1, h i h1, e⟩⟩
/-- the graph with the attacks that are kept -/
abbrev keptG (g : T_api_Graph) (p : Nat → Bool) : T_api_Graph := ⟨g.N, keepR p g.L⟩
theorem gval_keep (h : GVal g) (p : Nat → Bool) : GVal (keptG g p) := by
  refine ⟨h.n0, h.n1, fun x hx => h.v x (keepR_sub hx), ?_⟩
  show (keepR p g.L).Pairwise plt
  unfold keepR keepK
  rw [List.pairwise_map]
  refine List.Pairwise.imp_of_mem (fun {a b} ha hb hab => ?_) (nds_asc (N := g.L.length) (p := p))
  have ha := (mem_nds.1 ha).1; have hb := (mem_nds.1 hb).1
  have := List.pairwise_iff_getElem.1 h.s a b ha hb hab
  simpa [List.getD, ha, hb] using this
theorem keep_len (p : Nat → Bool) : (keptG g p).L.length ≤ g.L.length := keepK_len

/-- a loop that keeps the attacks -/
theorem keepP_loop {l : List T_api_Pair} {p : Nat → Bool} {f : Int × List T_api_Pair → Option (Sum (List T_api_Pair) (Int × List T_api_Pair))} (hl : l.length ≤ 1000000)
    (hf : ∀ k, k < l.length → ∀ out : List T_api_Pair, out.length ≤ k → f ((k : Int), out) = some (.inr (((k + 1 : Nat) : Int), if p k = true then out ++ [l.getD k pr0] else out)))
    (he : ∀ out : List T_api_Pair, f ((l.length : Int), out) = some (.inl out)) : loopC f (0, []) = some (keepR p l) := by
  refine T.eq (T.loopK l.length (fun k s => k ≤ l.length ∧ s = ((k : Int), keepK p l k)) ⟨by omega, rfl⟩ ?_)
  rintro k _ ⟨hk, rfl⟩
  by_cases h : k < l.length
  · rw [hf k h _ keepK_len, ← keepK_succ]
    exact .ret ⟨h, by omega, rfl⟩
  · have e : k = l.length := by omega
    subst e
    rw [he]
    exact .ret rfl

def maskB (m : Nat) (i : Nat) : Bool := !m.testBit i
theorem bit_plain {m i : Nat} (hi : i ≤ 60) : ((iand .i64 (ishr .i64 (m : Int) (i : Int)) 1) == 1) = m.testBit i ∧ ((iand .i64 (ishr .i64 (m : Int) (i : Int)) 1) == 0) = !m.testBit i := by
  rw [shr1 hi, and1b, Nat.testBit_eq_decide_div_mod_eq]
  rcases Nat.mod_two_eq_zero_or_one (m / 2 ^ i) with h | h <;> rw [h] <;> exact ⟨rfl, rfl⟩
theorem ishrM_n {a i : Nat} : ishrM .i64 (a : Int) (i : Int) = some (ishr .i64 (a : Int) (i : Int)) := by
  unfold ishrM; rw [if_neg (by omega)]
theorem without_plain {m : Nat} (hl : g.L.length ≤ 60) : degree_without_m g (m : Int) = some (keptG g (maskB m)) := by
  unfold degree_without_m
  rw [keepP_loop (l := g.L) (p := maskB m) (by omega) (fun k hk out ho => ?_) (fun out => ?_)]
  · rfl
  · unfold degree_without_l1 degree_Budget_1_m
    simp only
    rw [decide_eq_true (by omega), cond_true, idxM_nat hk, some_bind, ishrM_n, some_bind, (bit_plain (by omega)).2, some_bind, iadd1 (by omega), show g.L.getD k pr0 = g.L[k] by simp [List.getD, hk]]
    unfold maskB
    cases m.testBit k with
    | true => simp
    | false => simp; rw [appM_eq (by simp; omega)]; rfl
  · unfold degree_without_l1
    simp only
    rw [decide_eq_false (by omega), cond_false]

/-! ### weights -/
def wsum (w : List Int) (l : List Nat) : Int := (l.map fun i => w.getD i 0).sum
theorem wsum_snoc {w : List Int} {l : List Nat} {b : Nat} : wsum w (l ++ [b]) = wsum w l + w.getD b 0 := by
  unfold wsum; simp
structure WtOk (L : Nat) (w : List Int) : Prop where
  l : w.length = L
  v : ∀ x ∈ w, 0 ≤ x ∧ x ≤ 1000
theorem WtOk.at {L : Nat} {w : List Int} (h : WtOk L w) (i : Nat) : 0 ≤ w.getD i 0 ∧ w.getD i 0 ≤ 1000 := by
  by_cases hi : i < w.length
  · rw [show w.getD i 0 = w[i] by simp [List.getD, hi]]; exact h.v _ (List.getElem_mem hi)
  · rw [show w.getD i 0 = 0 by simp [List.getD, hi]]; omega
theorem wsum_bound {L : Nat} {w : List Int} (h : WtOk L w) : ∀ l : List Nat, 0 ≤ wsum w l ∧ wsum w l ≤ 1000 * l.length
  | [] => by simp [wsum]
  | x :: l => by
    have := wsum_bound h l
    have h2 := h.at x
    have : wsum w (x :: l) = w.getD x 0 + wsum w l := by unfold wsum; simp
    rw [this]; simp only [List.length_cons]; omega
theorem bitsL_nds {L m : Nat} (hm : m < 2 ^ L) (hL : L ≤ 60) : bitsL m = ndsP L m.testBit := by
  have e : bitsL m = ndsP (L + (64 - L)) m.testBit := by rw [show L + (64 - L) = 64 by omega]; rfl
  rw [e]
  refine nds_cut (fun i hi => Classical.byContradiction fun hn => ?_) _
  have h1 : 2 ^ L ≤ 2 ^ i := Nat.pow_le_pow_right (by decide) (by omega)
  rw [Nat.testBit_lt_two_pow (by omega)] at hi; cases hi

def skipB (w : List Int) (best : Option (Int × List Int)) (m : Nat) : Bool :=
  match best with
  | none => false
  | some b => decide (wsum w (bitsL m) > b.1) || (decide (wsum w (bitsL m) = b.1) && decide (lexC (il (bitsL m)) b.2 ≥ 0))
def stepB (w : List Int) (fr : Nat → Bool) (best : Option (Int × List Int)) (m : Nat) : Option (Int × List Int) :=
  if skipB w best m = true then best else if fr m = true then some (wsum w (bitsL m), il (bitsL m)) else best
def bestK (w : List Int) (fr : Nat → Bool) (k : Nat) : Option (Int × List Int) := (List.range k).foldl (stepB w fr) none
theorem bestK_succ {w : List Int} {fr : Nat → Bool} {k : Nat} : bestK w fr (k + 1) = stepB w fr (bestK w fr k) k := by
  unfold bestK; rw [List.range_succ, List.foldl_append]; rfl
/-- what is found -/
theorem bestK_ok {w : List Int} {fr : Nat → Bool} : ∀ k, (∀ b, bestK w fr k = some b → ∃ m, m < k ∧ fr m = true ∧ b = (wsum w (bitsL m), il (bitsL m))) ∧ ∀ m, m < k → fr m = true → ∃ b, bestK w fr k = some b ∧ b.1 ≤ wsum w (bitsL m)
  | 0 => ⟨fun b hb => by simp [bestK] at hb, fun m hm => absurd hm (Nat.not_lt_zero m)⟩
  | k + 1 => by
    obtain ⟨h1, h2⟩ := bestK_ok (w := w) (fr := fr) k
    rw [bestK_succ]
    unfold stepB
    by_cases hs : skipB w (bestK w fr k) k = true
    · rw [if_pos hs]
      refine ⟨fun b hb => ?_, fun m hm hf => ?_⟩
      · obtain ⟨m, h3, h4, h5⟩ := h1 b hb
        exact ⟨m, by omega, h4, h5⟩
      · by_cases e : m = k
        · subst e
          cases hb : bestK w fr m with
          | none => rw [hb] at hs; cases hs
          | some b =>
            rw [hb] at hs
            unfold skipB at hs
            simp only [Bool.or_eq_true, Bool.and_eq_true, decide_eq_true_iff] at hs
            exact ⟨b, rfl, by omega⟩
        · exact h2 m (by omega) hf
    · rw [if_neg hs]
      by_cases hf : fr k = true
      · rw [if_pos hf]
        refine ⟨fun b hb => ⟨k, by omega, hf, by cases hb; rfl⟩, fun m hm hfm => ⟨_, rfl, ?_⟩⟩
        by_cases e : m = k
        · subst e; exact Int.le_refl _
        · obtain ⟨b, hb, hle⟩ := h2 m (by omega) hfm
          rw [hb] at hs
          unfold skipB at hs
          simp only [Bool.or_eq_true, Bool.and_eq_true, decide_eq_true_iff, not_or, not_and] at hs
          simp only
          omega
      · rw [if_neg hf]
        refine ⟨fun b hb => ?_, fun m hm hfm => ?_⟩
        · obtain ⟨m, h3, h4, h5⟩ := h1 b hb
          exact ⟨m, by omega, h4, h5⟩
        · by_cases e : m = k
          · subst e; exact absurd hfm hf
          · exact h2 m (by omega) hfm

open Classical in
/-- does the mask free the node? -/
noncomputable def freeB (g : T_api_Graph) (node m : Nat) : Bool := decide (Grd (keptG g (maskB m)) (· < g.N.toNat) node)
open Classical in
theorem freeB_iff {node m : Nat} : freeB g node m = true ↔ Grd (keptG g (maskB m)) (· < g.N.toNat) node := by unfold freeB; exact decide_eq_true_iff
theorem free_all {node : Nat} (hn : node < g.N.toNat) : freeB g node (2 ^ g.L.length - 1) = true := by
  rw [freeB_iff]
  intro S hS
  refine hS node hn fun b hb ⟨p, hp, _⟩ => ?_
  obtain ⟨i, h1, h2, _⟩ := mem_keepR.1 hp
  unfold maskB at h2
  rw [Nat.testBit_two_pow_sub_one, decide_eq_true h1] at h2
  cases h2

section
variable {w : List Int} {node : Nat} (hg : GVal g) (hl : g.L.length ≤ 12) (hw : WtOk g.L.length w) (hnode : node < g.N.toNat)
include hg hl hw hnode
theorem bud_l1 {m : Nat} {x : Option T_api_Budget} (hm : m < 2 ^ g.L.length) : loopC (degree_Budget_l1 w (x, (m : Int))) (0, 0, []) = some (wsum w (bitsL m), il (bitsL m)) := by
  have hL := hw.l
  rw [bitsL_nds hm (by omega)]
  refine T.eq (T.loopK w.length (fun k s => k ≤ w.length ∧ s = ((k : Int), wsum w (ndsP k m.testBit), il (ndsP k m.testBit))) ⟨by omega, rfl⟩ ?_)
  rintro k _ ⟨hk, rfl⟩
  dsimp only [degree_Budget_l1]
  have hsucc := ndsP_succ (N := k) (p := m.testBit)
  refine T.cond (fun g1 => ?_) fun g1 => ?_
  · have hk1 : k < w.length := by have := of_decide_eq_true g1; omega
    have hfl := nds_len (N := k) (p := m.testBit)
    have hb := wsum_bound hw (ndsP k m.testBit)
    have hwk := hw.v _ (List.getElem_mem hk1)
    rw [idxM_nat hk1, some_bind, ishrM_n, some_bind, (bit_plain (by omega)).1]
    refine T.cond (fun g2 => ?_) fun g2 => ?_
    · rw [if_pos g2] at hsucc
      rw [appM_eq (by simp; omega), some_bind, iadd1 (by omega), iadd64 (by omega) (by omega)]
      refine .ret ⟨hk1, by omega, ?_⟩
      rw [hsucc, wsum_snoc, show w.getD k 0 = w[k] by simp [List.getD, hk1]]; simp [il]
    · rw [if_neg (by rw [g2]; simp), List.append_nil] at hsucc
      rw [iadd1 (by omega)]
      exact .ret ⟨hk1, by omega, by rw [hsucc]⟩
  · have e : k = w.length := by have := of_decide_eq_false g1; omega
    subst e
    exact .ret (by rw [hL])

def toBud (b : Option (Int × List Int)) : Option T_api_Budget := b.map fun x => T_api_Budget.mk x.1 x.2

theorem compare_plain {a b : List Int} (ha : a.length ≤ 1000000) : slices_Compare_int_int_m a b = some (lexC a b) := by
  have := least2_plain (b := b) ha
  unfold explain_least_2_m at this
  obtain ⟨r, h1, h2⟩ := Option.bind_eq_some_iff.1 this
  rw [show slices_Compare_int_int_m = slices_Compare_int_int_s1_m from rfl, h1]; exact h2
theorem bud_l2 : loopC (degree_Budget_l2 g w (node : Int) ((2 ^ g.L.length : Nat) : Int)) (none, 0) = some (toBud (bestK w (freeB g node) (2 ^ g.L.length))) := by
  have hN := hg.n1
  have hp12 : 2 ^ g.L.length ≤ 4096 := Nat.pow_le_pow_right (by decide) hl
  refine T.eq (T.loopK (2 ^ g.L.length) (fun k s => k ≤ 2 ^ g.L.length ∧ s = (toBud (bestK w (freeB g node) k), (k : Int))) ⟨Nat.zero_le _, rfl⟩ ?_)
  rintro k _ ⟨hk, rfl⟩
  dsimp only [degree_Budget_l2]
  refine T.cond (fun g1 => ?_) fun g1 => ?_
  · have hk1 : k < 2 ^ g.L.length := by have := of_decide_eq_true g1; omega
    rw [bud_l1 hg hl hw hnode hk1, some_bind]
    simp only
    refine T.joinP (fun _ : Unit => skipB w (bestK w (freeB g node) k) k = false) (fun u hu => ?_) fun kk hkk => ?_
    · rw [without_plain (by omega), some_bind]
      have hlen := keep_len (g := g) (maskB k)
      refine T.bind (New_net (gval_keep hg (maskB k)) (by omega)) ?_
      rintro _ ⟨n, rfl, hn⟩
      obtain ⟨e1, e2⟩ := In_plain2 hn.ok
      rw [e1, some_bind, Has_plain (hn.ok.sub e2.sub) (by omega), some_bind, iadd1 (by omega)]
      have hfb : freeB g node k = (grd n).testBit node := by
        rw [Bool.eq_iff_iff, freeB_iff]; exact (hn.grd e2 node).symm
      refine T.cond (fun g2 => .ret ⟨hk1, by omega, ?_⟩) fun g2 => .ret ⟨hk1, by omega, ?_⟩
      · rw [bestK_succ]; unfold stepB; rw [if_neg (by rw [hu]; simp), if_pos (by rw [hfb]; exact g2)]; rfl
      · rw [bestK_succ]; unfold stepB; rw [if_neg (by rw [hu]; simp), if_neg (by rw [hfb, g2]; simp)]
    · have skip : skipB w (bestK w (freeB g node) k) k = true → T (some (Sum.inr (toBud (bestK w (freeB g node) k), iadd .i64 (k : Int) 1)) : Option (Sum (Option T_api_Budget) (Option T_api_Budget × Int))) (onO (fun x => x = toBud (bestK w (freeB g node) (2 ^ g.L.length))) fun s' => k < 2 ^ g.L.length ∧ k + 1 ≤ 2 ^ g.L.length ∧ s' = (toBud (bestK w (freeB g node) (k + 1)), ((k + 1 : Nat) : Int))) := fun hs => by
        rw [iadd1 (by omega)]
        refine .ret ⟨hk1, by omega, ?_⟩
        rw [bestK_succ]; unfold stepB; rw [if_pos hs]
      cases hb : bestK w (freeB g node) k with
      | none =>
        rw [hb] at hkk
        exact hkk () rfl
      | some b =>
        rw [hb] at hkk skip
        show T (bif true then _ else _) _
        rw [cond_true, show toBud (some b) = some (T_api_Budget.mk b.1 b.2) from rfl, some_bind]
        have hsk : skipB w (some b) k = (decide (wsum w (bitsL k) > b.1) || (decide (wsum w (bitsL k) = b.1) && decide (lexC (il (bitsL k)) b.2 ≥ 0))) := rfl
        refine T.cond (fun g2 => skip (by rw [hsk, show decide (wsum w (bitsL k) > b.1) = true from g2]; rfl)) fun g2 => ?_
        have h2 : decide (wsum w (bitsL k) > b.1) = false := g2
        rw [some_bind]
        refine T.cond (fun g3 => ?_) fun g3 => ?_
        · have h3 : wsum w (bitsL k) = b.1 := by simpa using g3
          rw [some_bind, compare_plain hg hl hw hnode (by have := bitsL_len (s := k); simp; omega), some_bind]
          refine T.cond (fun g4 => skip (by rw [hsk, h2, decide_eq_true h3, show decide (lexC (il (bitsL k)) b.2 ≥ 0) = true from g4]; rfl)) fun g4 => hkk () (by rw [hsk, h2, decide_eq_true h3, show decide (lexC (il (bitsL k)) b.2 ≥ 0) = false from g4]; rfl)
        · have h3 : ¬ wsum w (bitsL k) = b.1 := by simpa using g3
          exact hkk () (by rw [hsk, h2, decide_eq_false h3]; rfl)
  · have e : k = 2 ^ g.L.length := by have := of_decide_eq_false g1; omega
    subst e
    exact .ret rfl
end

def badW (x : Int) : Bool := decide (x < 0) || decide (x > 1000)
theorem badW_plain {x : Int} : degree_weighs_1_m x = some (badW x) := by
  unfold degree_weighs_1_m badW
  cases decide (x < 0) <;> cases decide (x > 1000) <;> rfl
theorem containsW_plain {w : List Int} (hl : w.length ≤ 1000000) : slices_ContainsFunc_int_int_m w = some (w.any badW) := by
  unfold slices_ContainsFunc_int_int_m slices_IndexFunc_int_int_m
  refine T.eq (T.bind (P := fun r : Int => decide (r ≥ 0) = w.any badW) ?_ fun r hr => .ret hr)
  refine T.bind (P := fun o : Sum Int Unit => match o with | .inl r => 0 ≤ r ∧ w.any badW = true | .inr _ => w.any badW = false) ?_ fun o ho => ?_
  · refine T.loopK w.length (fun k s => k ≤ w.length ∧ s = (k : Int) ∧ (w.take k).any badW = false) ⟨by omega, rfl, by simp⟩ ?_
    rintro k _ ⟨hk, rfl, hf⟩
    dsimp only [slices_IndexFunc_int_int_l1]
    refine T.cond (fun g1 => ?_) fun g1 => ?_
    · have hk1 : k < w.length := by have := of_decide_eq_true g1; omega
      have htk : w.take (k + 1) = w.take k ++ [w[k]] := by rw [List.take_add_one, List.getElem?_eq_getElem hk1]; rfl
      rw [idxM_nat hk1, some_bind, badW_plain, some_bind]
      refine T.cond (fun g2 => ?_) fun g2 => ?_
      · exact .ret ⟨by omega, List.any_eq_true.2 ⟨_, List.getElem_mem hk1, g2⟩⟩
      · rw [iadd1 (by omega)]
        exact .ret ⟨hk1, by omega, rfl, by rw [htk, List.any_append, hf]; simp [g2]⟩
    · have hk1 : k = w.length := by have := of_decide_eq_false g1; omega
      subst hk1
      rw [List.take_length] at hf
      exact .ret hf
  · cases o with
    | inl r => exact .ret (by rw [ho.2]; exact decide_eq_true ho.1)
    | inr u => exact .ret (by rw [ho]; rfl)
theorem weighs_plain {w : List Int} (hw : WtOk g.L.length w) (hl : w.length ≤ 1000000) : degree_weighs_m g w = some true := by
  unfold degree_weighs_m
  have h1 : w.any badW = false := List.any_eq_false.2 fun x hx => by
    have := hw.v x hx
    unfold badW; simp; omega
  rw [show ((w.length : Int) == (g.L.length : Int)) = true from beq_iff_eq.2 (by rw [hw.l]), cond_true, containsW_plain hl, some_bind, h1]; rfl

/-- Budget of what is valid -/
theorem Budget_val {w : List Int} {node : Nat} (hg : GVal g) (hl : g.L.length ≤ 12) (hw : WtOk g.L.length w) (hnode : node < g.N.toNat) :
    ∃ m, m < 2 ^ g.L.length ∧ freeB g node m = true ∧ (∀ m', m' < 2 ^ g.L.length → freeB g node m' = true → wsum w (bitsL m) ≤ wsum w (bitsL m')) ∧
      degree_Budget_m g w (node : Int) = some (⟨wsum w (bitsL m), il (bitsL m)⟩, 0) := by
  have hp : 0 < 2 ^ g.L.length := Nat.pow_pos (by decide)
  obtain ⟨h1, h2⟩ := bestK_ok (w := w) (fr := freeB g node) (2 ^ g.L.length)
  obtain ⟨b, hb, _⟩ := h2 (2 ^ g.L.length - 1) (by omega) (free_all hnode)
  obtain ⟨m, hm, hf, e⟩ := h1 b hb
  have hwl := hw.l
  have hp12 : 2 ^ g.L.length ≤ 4096 := Nat.pow_le_pow_right (by decide) hl
  refine ⟨m, hm, hf, fun m' hm' hf' => ?_, ?_⟩
  · obtain ⟨b', hb', hle⟩ := h2 m' hm' hf'
    rw [hb] at hb'
    cases hb'
    rw [e] at hle
    exact hle
  · have hn0 := hg.n0
    unfold degree_Budget_m ishlM
    rw [gValidate_plain hg (by omega), some_bind, show ((0 : Int) != 0) = false from rfl, cond_false, decide_eq_false (by omega), cond_false, weighs_plain hw (by omega), some_bind, show (!true) = false from rfl, cond_false, decide_eq_false (by omega), cond_false, decide_eq_false (by omega), cond_false]
    rw [if_neg (by omega), some_bind, shl1 (by omega), bud_l2 hg hl hw hnode, hb, some_bind, e]
    rfl
end Go.Dc

/-! The grounded game: rounds, replies, looking up. -/
namespace Go.Dc
open Go.Proofs Go.Sort

/-! ### rounds -/
/-- what is in ahead of round j -/
def prevR (rs : List Nat) (j : Nat) : Nat := if j = 0 then 0 else rs.getD (j - 1) 0
structure RndR (n : Nt) (rs : List Nat) (G : Nat) : Prop where
  st : ∀ j, j < rs.length → rs.getD j 0 = grow n (prevR rs j)
  len : rs.length ≤ G
  last : prevR rs rs.length = G
  sub : ∀ j, SubB (rs.getD j 0) n.all
theorem prevR_app {rs : List Nat} {x j : Nat} (hj : j ≤ rs.length) : prevR (rs ++ [x]) j = prevR rs j := by
  unfold prevR
  split
  · rfl
  · rw [List.getD_eq_getElem?_getD, List.getD_eq_getElem?_getD, List.getElem?_append_left (by omega)]
theorem getD_app {rs : List Nat} {x j : Nat} (hj : j < rs.length) : (rs ++ [x]).getD j 0 = rs.getD j 0 := by
  rw [List.getD_eq_getElem?_getD, List.getD_eq_getElem?_getD, List.getElem?_append_left hj]
theorem getD_last {rs : List Nat} {x : Nat} : (rs ++ [x]).getD rs.length 0 = x := by simp [List.getD]

section
variable {N : Nat} {n : Nt} (h : NtOk N n)
include h
theorem Rounds_plain : T (network_Net_Grounded_m n.t) fun r => ∃ (G : Nat) (rs : List Nat), r = il rs ∧ GrdN n G ∧ RndR n rs G := by
  unfold network_Net_Grounded_m
  refine T.bind (P := fun r => ∃ (G : Nat) (rs : List Nat), r = il rs ∧ GrdN n G ∧ RndR n rs G) ?_ fun r hr => .ret hr
  have hN := h.hN
  have hal : n.all < 2 ^ 40 := lt_of_bits fun j hj => by have := h.al j hj; omega
  refine T.loopM (fun s => ∃ (G : Nat) (rs : List Nat), s.1 = (G : Int) ∧ s.2 = il rs ∧ SubB G n.all ∧ AdmP n G ∧ (∀ S, ClsP n S → SubB G S) ∧ RndR n rs G) (fun s => 2 ^ 64 - s.1.toNat)
    ⟨0, [], rfl, rfl, SubB.zero, zero_adm h, fun _ _ => SubB.zero, fun j hj => by simp at hj, by simp, rfl, fun j => by simp [SubB.zero]⟩ ?_
  rintro ⟨_, _⟩ ⟨G, rs, rfl, rfl, hs, ha, hl, hr⟩
  dsimp only [network_Net_Grounded_l2] at *
  rw [Hit_plain h hs, some_bind, show n.t.All = (n.all : Int) from rfl, List_plain h.allLt, some_bind, grow_loop h hs, some_bind]
  refine T.cond (fun g => .ret ?_) fun g => ?_
  · have g' : grow n G = G := by have := eq_of_beq g; omega
    exact ⟨G, rs, rfl, ⟨hs, ha, fun i hi hd => by rw [← g']; exact (grow_bit h hs).2 (.inr ⟨hi, hd⟩), hl⟩, hr⟩
  · have g' : grow n G ≠ G := fun e => by rw [e] at g; simp at g
    have hle := (grow_up h hs).le
    have hlt := (grow_sub h hs).le
    have hr1 := hr.len
    rw [appM_eq (by simp; omega), some_bind]
    refine .ret ⟨⟨grow n G, rs ++ [grow n G], rfl, by simp [il], grow_sub h hs, grow_adm h hs ha, fun S hS j hj => ?_, ⟨fun j hj => ?_, ?_, ?_, fun j => ?_⟩⟩, ?_⟩
    · rcases (grow_bit h hs).1 hj with h1 | h1
      · exact hl S hS j h1
      · exact hS j h1.1 fun k hk => by obtain ⟨m, hm, hmk⟩ := h1.2 k hk; exact ⟨m, hl S hS m hm, hmk⟩
    · rw [List.length_append, List.length_singleton] at hj
      rw [prevR_app (by omega)]
      by_cases e : j = rs.length
      · subst e; rw [getD_last, hr.last]
      · rw [getD_app (by omega)]; exact hr.st j (by omega)
    · simp; omega
    · rw [List.length_append, List.length_singleton]
      unfold prevR
      rw [if_neg (by omega), Nat.add_sub_cancel, getD_last]
    · by_cases e : j < rs.length
      · rw [getD_app e]; exact hr.sub j
      · by_cases e2 : j = rs.length
        · subst e2; rw [getD_last]; exact grow_sub h hs
        · rw [List.getD_eq_getElem?_getD, List.getElem?_eq_none (by simp; omega)]; simp [SubB.zero]
    · simp only [Int.toNat_natCast]; omega

/-- the least round of a node -/
def Rk (rs : List Nat) (v j : Nat) : Prop := j < rs.length ∧ (rs.getD j 0).testBit v = true ∧ ∀ i, i < j → (rs.getD i 0).testBit v = false
omit h in
theorem rk_of {rs : List Nat} {v : Nat} : ∀ {j : Nat}, j < rs.length → (rs.getD j 0).testBit v = true → ∃ i, i ≤ j ∧ Rk rs v i
  | 0, h1, h2 => ⟨0, Nat.le_refl _, h1, h2, fun i hi => by omega⟩
  | j + 1, h1, h2 => by
    by_cases hc : ∃ i, i < j + 1 ∧ (rs.getD i 0).testBit v = true
    · obtain ⟨i, h3, h4⟩ := hc
      obtain ⟨k, h5, h6⟩ := rk_of (j := i) (by omega) h4
      exact ⟨k, by omega, h6⟩
    · exact ⟨j + 1, Nat.le_refl _, h1, h2, fun i hi => by
        cases hb : (rs.getD i 0).testBit v with
        | false => rfl
        | true => exact absurd ⟨i, hi, hb⟩ hc⟩
  termination_by j => j
/-- who attacks a node of round j is attacked by a node of an earlier round -/
theorem rk_def {rs : List Nat} {G v j x : Nat} (hr : RndR n rs G) (hk : Rk rs v j) (hx : n.a x v) : ∃ k m, k + 1 = j ∧ (rs.getD k 0).testBit m = true ∧ n.a m x := by
  obtain ⟨h1, h2, h3⟩ := hk
  have hsub : SubB (prevR rs j) n.all := by
    unfold prevR
    split
    · exact SubB.zero
    · exact hr.sub _
  rw [hr.st j h1] at h2
  rcases (grow_bit h hsub).1 h2 with h4 | ⟨h4, h5⟩
  · unfold prevR at h4
    split at h4
    · simp at h4
    · rename_i hj; rw [h3 (j - 1) (by omega)] at h4; cases h4
  · obtain ⟨m, hm, hmx⟩ := h5 x hx
    unfold prevR at hm
    split at hm
    · simp at hm
    · exact ⟨j - 1, m, by omega, hm, hmx⟩
theorem grd_rk {rs : List Nat} {G v : Nat} (hr : RndR n rs G) (hv : G.testBit v = true) : ∃ j, Rk rs v j := by
  have hl := hr.last
  unfold prevR at hl
  split at hl
  · rw [← hl] at hv; simp at hv
  · rename_i hne
    rw [← hl] at hv
    obtain ⟨j, _, hj⟩ := rk_of (by omega) hv
    exact ⟨j, hj⟩
end

/-! ### replies -/
theorem first_plain {s : Nat} (hs : s < 2 ^ 64) (h0 : s ≠ 0) : T (game_first_m (s : Int)) fun r => ∃ y : Nat, r = (y : Int) ∧ s.testBit y = true := by
  obtain ⟨k, hk, hl⟩ := low_exists h0
  unfold game_first_m
  rw [List_plain hs, some_bind, bitsL_cons hs hk hl]
  rw [show (0 : Int) = ((0 : Nat) : Int) from rfl, il_idx (by simp), some_bind]
  exact .ret ⟨k, rfl, hk⟩

section
variable {N : Nat} {n : Nt} (h : NtOk N n) {rs : List Nat} {G : Nat} (hr : RndR n rs G)
include h hr
/-- the reply to an attacker: a node of the first round that attacks it -/
def GoodP (n : Nt) (rs : List Nat) (x y : Nat) : Prop := n.a y x ∧ ∃ k, k < rs.length ∧ (rs.getD k 0).testBit y = true ∧ ∀ j m, j < k → (rs.getD j 0).testBit m = true → ¬ n.a m x
theorem pick_plain {x : Nat} (hx : x < N) (hG : G < 2 ^ 40) (hex : ∃ j m, j < rs.length ∧ (rs.getD j 0).testBit m = true ∧ n.a m x) :
    T (game_grounded_1_m (x : Int) (il rs) (n.all : Int) (il n.by_) (il n.out)) fun r => ∃ y : Nat, r = (y : Int) ∧ GoodP n rs x y := by
  have hlen := hr.len
  unfold game_grounded_1_m
  refine T.bind (P := fun o : Sum Int Unit => match o with | .inl r => ∃ y : Nat, r = (y : Int) ∧ GoodP n rs x y | .inr _ => False) ?_ fun o ho => ?_
  · refine T.loopK rs.length (fun k s => k ≤ rs.length ∧ s = (k : Int) ∧ ∀ j m, j < k → (rs.getD j 0).testBit m = true → ¬ n.a m x) ⟨by omega, rfl, fun j m hj => by omega⟩ ?_
    rintro k _ ⟨hk, rfl, hno⟩
    dsimp only [game_grounded_1_l1]
    rw [il_len]
    refine T.cond (fun c => ?_) fun c => ?_
    · have hk2 : k < rs.length := by simpa using c
      have hb := h.byLt x
      have hrl : rs.getD k 0 < 2 ^ 64 := h.sub (hr.sub k)
      rw [il_idx hk2, some_bind, il_idx (by rw [h.lb]; exact hx), some_bind, iand_u hb hrl, some_bind, iand_u hb hrl]
      have hbit : ∀ m, ((n.by_.getD x 0) &&& rs.getD k 0).testBit m = true ↔ n.a m x ∧ (rs.getD k 0).testBit m = true := fun m => by rw [Nat.testBit_and, Bool.and_eq_true, h.sy]
      refine T.cond (fun c2 => ?_) fun c2 => ?_
      · have h0 : n.by_.getD x 0 &&& rs.getD k 0 ≠ 0 := fun e => by rw [e] at c2; simp at c2
        refine T.bind (first_plain (and_lt hb) h0) fun r ⟨y, hy, hy2⟩ => .ret ⟨y, hy, ((hbit y).1 hy2).1, k, hk2, ((hbit y).1 hy2).2, hno⟩
      · have h0 : n.by_.getD x 0 &&& rs.getD k 0 = 0 := by simpa using c2
        rw [iadd1 (by omega)]
        refine .ret ⟨hk2, hk2, rfl, fun j m hj hm hmx => ?_⟩
        by_cases e : j = k
        · subst e
          have := (hbit m).2 ⟨hmx, hm⟩
          rw [h0] at this; simp at this
        · exact hno j m (by omega) hm hmx
    · have e : k = rs.length := by have : ¬ (k : Int) < rs.length := of_decide_eq_false c; omega
      subst e
      obtain ⟨j, m, h1, h2, h3⟩ := hex
      exact absurd h3 (hno j m h1 h2)
  · match o, ho with
    | .inl r, ho => exact .ret ho
end

/-! ### sorted lists are looked up -/
theorem sortL_pw {τ : Type} {m : τ → τ → Option Int} {l : List τ} (hc : CmpOn m l) : (sortL m l).Pairwise fun x y => ¬ cfo m y x < 0 := by
  rw [← sort_fin]
  rw [List.pairwise_map]
  have := List.pairwise_mergeSort (le := fun i j : Fin l.length => !(ltOf fun i j : Fin l.length => cfo m l[i] l[j]) j i) (fun a b c h1 h2 => by
      simp only [Bool.not_eq_true'] at *
      exact hc.swo.ntrans _ _ _ h2 h1) (fun a b => by
      cases h1 : (ltOf fun i j : Fin l.length => cfo m l[i] l[j]) b a with
      | false => rfl
      | true =>
        cases h2 : (ltOf fun i j : Fin l.length => cfo m l[i] l[j]) a b with
        | false => rfl
        | true => have := hc.swo.trans _ _ _ h1 h2; rw [hc.swo.irrefl] at this; cases this) (List.finRange l.length)
  refine this.imp fun {a b} h => ?_
  simp only [Bool.not_eq_true', ltOf, decide_eq_false_iff_not] at h
  exact h
def RepIn (N : Nat) (r : T_api_Reply) : Prop := 0 ≤ r.To ∧ r.To < N ∧ 0 ≤ r.Node ∧ r.Node < N
theorem sortR {N : Nat} (hN : N ≤ 40) {l : List T_api_Reply} (hl : l.length ≤ 100000) (hin : ∀ r ∈ l, RepIn N r) (hnd : (l.map (·.To)).Nodup) :
    ∃ r, sortNM game_answers_1_m l = some r ∧ r.Perm l ∧ r.Pairwise fun x y => x.To < y.To := by
  have ev : ∀ x ∈ l, ∀ y ∈ l, game_answers_1_m x y = some (x.To - y.To) := fun x hx y hy => by
    have := hin x hx; have := hin y hy
    unfold RepIn at *
    unfold game_answers_1_m
    rw [isub64 (by omega) (by omega)]
  have ec : ∀ x ∈ l, ∀ y ∈ l, cfo game_answers_1_m x y = x.To - y.To := fun x hx y hy => by unfold cfo; rw [ev x hx y hy]; rfl
  have hlt : ∀ i j : Fin l.length, (ltOf fun i j : Fin l.length => cfo game_answers_1_m l[i] l[j]) i j = decide (l[i].To < l[j].To) := fun i j => by
    unfold ltOf
    show decide (cfo game_answers_1_m l[i] l[j] < 0) = _
    rw [show cfo game_answers_1_m l[i] l[j] = l[i].To - l[j].To from ec _ (List.getElem_mem _) _ (List.getElem_mem _)]
    exact decide_eq_decide.2 (by omega)
  have hc : CmpOn game_answers_1_m l := ⟨fun x hx y hy => by rw [ev x hx y hy, ec x hx y hy], ⟨fun i => by rw [hlt]; simp, fun i j k h1 h2 => by rw [hlt, decide_eq_true_iff] at *; omega, fun i j k h1 h2 => by rw [hlt, decide_eq_false_iff_not] at *; omega⟩, fun i j h1 h2 => by
    rw [hlt, decide_eq_false_iff_not] at *
    have e : l[i].To = l[j].To := by omega
    have := (List.getElem_inj hnd (i := i.val) (j := j.val) (h₀ := by simp) (h₁ := by simp)).1 (by simpa using e)
    exact Fin.ext this⟩
  have hp : (sortL game_answers_1_m l).Perm l := List.mergeSort_perm _ _
  refine ⟨sortL game_answers_1_m l, by unfold sortNM; rw [if_pos ⟨by omega, hc⟩], hp, ?_⟩
  have h1 := sortL_pw hc
  have h2 : ((sortL game_answers_1_m l).map (·.To)).Nodup := (hp.map (·.To)).nodup_iff.2 hnd
  rw [List.Nodup, List.pairwise_map] at h2
  refine List.Pairwise.imp_of_mem (fun {a b} ha hb hab => ?_) (List.pairwise_and_iff.2 ⟨h1, h2⟩)
  obtain ⟨h3, h4⟩ := hab
  rw [ec _ (hp.subset hb) _ (hp.subset ha)] at h3
  omega
end Go.Dc

/-! The grounded game: a strategy of the proponent. -/
namespace Go.Dc
open Go.Proofs Go.Sort

structure AnsI (n : Nt) (rs : List Nat) (Se : Nat) (Rl : List Nat) (Ol : List T_api_Reply) : Prop where
  se : SubB Se n.all
  rnd : Rl.Nodup
  rk : ∀ v ∈ Rl, ∃ j, Rk rs v j
  ond : (Ol.map (·.To)).Nodup
  oel : ∀ r ∈ Ol, ∃ x y : Nat, r = ⟨(x : Int), (y : Int)⟩ ∧ Se.testBit x = true ∧ GoodP n rs x y ∧ y ∈ Rl
  ose : ∀ x, Se.testBit x = true → ∃ y : Nat, (⟨(x : Int), (y : Int)⟩ : T_api_Reply) ∈ Ol
theorem getD_app' {l E : List Nat} {i : Nat} (hi : i < l.length) : (l ++ E).getD i 0 = l.getD i 0 := by
  rw [List.getD_eq_getElem?_getD, List.getD_eq_getElem?_getD, List.getElem?_append_left hi]
theorem il_nodup {l : List Nat} (h : l.Nodup) : (il l).Nodup := by
  unfold il List.Nodup
  rw [List.pairwise_map]
  exact h.imp fun {a b} hab e => hab (by omega)
section
variable {N : Nat} {n : Nt} (h : NtOk N n) {rs : List Nat} {G : Nat} (hr : RndR n rs G) (hG : G < 2 ^ 40)
include h hr
theorem rk_lt {v j : Nat} (hk : Rk rs v j) : v < N := h.al v (hr.sub j v hk.2.1)
theorem AnsI.rlen {Se : Nat} {Rl : List Nat} {Ol : List T_api_Reply} (hA : AnsI n rs Se Rl Ol) : Rl.length ≤ N := by
  have := nodup_bound (N := N) (il_nodup hA.rnd) fun q hq => by
    obtain ⟨v, hv, rfl⟩ := il_mem.1 hq
    obtain ⟨j, hj⟩ := hA.rk v hv
    have := rk_lt h hr hj
    omega
  simpa using this
theorem AnsI.rin {Se : Nat} {Rl : List Nat} {Ol : List T_api_Reply} (hA : AnsI n rs Se Rl Ol) : ∀ r ∈ Ol, RepIn N r := fun r hr' => by
  obtain ⟨x, y, rfl, hx, _, hy⟩ := hA.oel r hr'
  obtain ⟨j, hj⟩ := hA.rk y hy
  have h1 := rk_lt h hr hj
  have h2 := h.al x (hA.se x hx)
  unfold RepIn; simp only; omega
theorem AnsI.olen {Se : Nat} {Rl : List Nat} {Ol : List T_api_Reply} (hA : AnsI n rs Se Rl Ol) : Ol.length ≤ N := by
  have := nodup_bound (N := N) hA.ond fun q hq => by
    obtain ⟨r, hr', rfl⟩ := List.mem_map.1 hq
    have := hA.rin h hr r hr'
    exact ⟨this.1, this.2.1⟩
  simpa using this
/-- an attacker that has no reply yet -/
theorem AnsI.add {Se x y : Nat} {Rl : List Nat} {Ol : List T_api_Reply} (hA : AnsI n rs Se Rl Ol) (hx : n.all.testBit x = true) (hs : Se.testBit x = false) (hg : GoodP n rs x y) :
    AnsI n rs (Se ||| 2 ^ x) (if y ∈ Rl then Rl else Rl ++ [y]) (Ol ++ [⟨(x : Int), (y : Int)⟩]) := by
  have hin : ∀ v, v ∈ Rl → v ∈ (if y ∈ Rl then Rl else Rl ++ [y]) := fun v hv => by
    split
    · exact hv
    · exact List.mem_append_left _ hv
  have hy : y ∈ (if y ∈ Rl then Rl else Rl ++ [y]) := by
    split
    · assumption
    · exact List.mem_append_right _ (by simp)
  have hbit : ∀ j, (Se ||| 2 ^ x).testBit j = true ↔ Se.testBit j = true ∨ j = x := fun j => by
    rw [Nat.testBit_or, Nat.testBit_two_pow, Bool.or_eq_true, decide_eq_true_iff]; exact or_congr Iff.rfl eq_comm
  have hky : ∃ j, Rk rs y j := by
    obtain ⟨_, k, h1, h2, _⟩ := hg
    obtain ⟨j, _, hj⟩ := rk_of h1 h2
    exact ⟨j, hj⟩
  refine ⟨fun j hj => ?_, ?_, fun v hv => ?_, ?_, fun r hr' => ?_, fun j hj => ?_⟩
  · rcases (hbit j).1 hj with h1 | rfl
    · exact hA.se j h1
    · exact hx
  · split
    · exact hA.rnd
    · rename_i hn
      refine List.nodup_append.2 ⟨hA.rnd, by simp, fun a ha b hb => ?_⟩
      rw [List.mem_singleton.1 hb]; exact fun e => hn (e ▸ ha)
  · split at hv
    · exact hA.rk v hv
    · rcases List.mem_append.1 hv with hv | hv
      · exact hA.rk v hv
      · rw [List.mem_singleton.1 hv]; exact hky
  · rw [List.map_append]
    refine List.nodup_append.2 ⟨hA.ond, by simp, fun a ha b hb => ?_⟩
    simp only [List.map_cons, List.map_nil, List.mem_singleton] at hb
    obtain ⟨r, hr', rfl⟩ := List.mem_map.1 ha
    obtain ⟨x', y', rfl, h1, _⟩ := hA.oel r hr'
    rw [hb]
    intro e
    have : x' = x := by simp only at e; omega
    rw [this, hs] at h1; cases h1
  · rcases List.mem_append.1 hr' with h1 | h1
    · obtain ⟨x', y', e, h2, h3, h4⟩ := hA.oel r h1
      exact ⟨x', y', e, (hbit x').2 (.inl h2), h3, hin _ h4⟩
    · exact ⟨x, y, List.mem_singleton.1 h1, (hbit x).2 (.inr rfl), hg, hy⟩
  · rcases (hbit j).1 hj with h1 | rfl
    · obtain ⟨y', h2⟩ := hA.ose j h1; exact ⟨y', List.mem_append_left _ h2⟩
    · exact ⟨y, List.mem_append_right _ (by simp)⟩

include hG in
theorem answers_plain {root : Nat} (hroot : ∃ j, Rk rs root j) :
    T (game_answers_m n.t (root : Int) (il rs) (n.all : Int) (il n.by_) (il n.out)) fun r => (r.Pairwise fun x y => x.To < y.To) ∧ r.length ≤ N ∧ (∀ q ∈ r, RepIn N q) ∧
      ∃ Rl : List Nat, root ∈ Rl ∧ (∀ v ∈ Rl, ∃ j, Rk rs v j) ∧ ∀ v ∈ Rl, ∀ x, n.a x v → ∃ y : Nat, (⟨(x : Int), (y : Int)⟩ : T_api_Reply) ∈ r ∧ GoodP n rs x y ∧ y ∈ Rl := by
  have hN := h.hN
  unfold game_answers_m
  refine T.bind (P := fun o : List T_api_Reply => ∃ Se Rl, AnsI n rs Se Rl o ∧ root ∈ Rl ∧ ∀ v ∈ Rl, ∀ x, n.a x v → Se.testBit x = true) ?_ ?_
  · refine T.loopM (fun s => ∃ (Se i : Nat) (Rl : List Nat), s.1 = (Se : Int) ∧ s.2.1 = (i : Int) ∧ s.2.2.1 = il Rl ∧ AnsI n rs Se Rl s.2.2.2 ∧ i ≤ Rl.length ∧ root ∈ Rl ∧ ∀ i', i' < i → ∀ x, n.a x (Rl.getD i' 0) → Se.testBit x = true)
      (fun s => N + 1 - s.2.1.toNat) ⟨0, 0, [root], rfl, rfl, rfl, ⟨SubB.zero, by simp, fun v hv => by rw [List.mem_singleton.1 hv]; exact hroot, by simp, by simp, fun x hx => by simp at hx⟩, by simp, by simp, fun i' hi => by omega⟩ ?_
    rintro ⟨_, _, _, out⟩ ⟨Se, i, Rl, rfl, rfl, rfl, hA, hi, hrt, hcl⟩
    dsimp only at hA
    dsimp only [game_answers_l2]
    rw [il_len]
    have hrl := hA.rlen h hr
    refine T.cond (fun c => ?_) fun c => ?_
    · have hi2 : i < Rl.length := by simpa using c
      have hvm : Rl.getD i 0 ∈ Rl := by
        have : Rl.getD i 0 = Rl[i] := by simp [List.getD, hi2]
        rw [this]; exact List.getElem_mem hi2
      obtain ⟨jv, hjv⟩ := hA.rk _ hvm
      generalize hv : Rl.getD i 0 = v at hvm hjv
      have hvN := rk_lt h hr hjv
      rw [il_idx hi2, some_bind, hv, show n.t.By = il n.by_ from rfl, il_idx (by rw [h.lb]; exact hvN), some_bind, List_plain (h.byLt v), some_bind]
      have hat : ∀ x, x ∈ bitsL (n.by_.getD v 0) ↔ n.a x v := fun x => by rw [mem_bitsL (h.byLt v), h.sy]
      have hbl := bitsL_len (s := n.by_.getD v 0)
      generalize bitsL (n.by_.getD v 0) = At at hat hbl
      refine T.bind (P := fun q : Int × List Int × List T_api_Reply => ∃ (Se' : Nat) (E : List Nat), q.1 = (Se' : Int) ∧ q.2.1 = il (Rl ++ E) ∧ AnsI n rs Se' (Rl ++ E) q.2.2 ∧ SubB Se Se' ∧ ∀ x ∈ At, Se'.testBit x = true) ?_ ?_
      · refine T.loopK At.length (fun k s => k ≤ At.length ∧ ∃ (Se' : Nat) (E : List Nat), s.1 = (Se' : Int) ∧ s.2.1 = (k : Int) ∧ s.2.2.1 = il (Rl ++ E) ∧ AnsI n rs Se' (Rl ++ E) s.2.2.2 ∧ SubB Se Se' ∧ ∀ x ∈ At.take k, Se'.testBit x = true)
          ⟨by omega, Se, [], rfl, rfl, by simp, by simpa using hA, SubB.refl _, by simp⟩ ?_
        rintro k ⟨_, _, _, o⟩ ⟨hk, Se', E, rfl, rfl, rfl, hA', hS, hT⟩
        dsimp only at hA'
        dsimp only [game_answers_l1]
        rw [il_len]
        have hS64 : Se' < 2 ^ 64 := h.sub hA'.se
        have hrl' := hA'.rlen h hr
        have hol' := hA'.olen h hr
        refine T.cond (fun c2 => ?_) fun c2 => ?_
        · have hk2 : k < At.length := by simpa using c2
          have tk : At.take (k + 1) = At.take k ++ [At[k]] := by rw [List.take_add_one, List.getElem?_eq_getElem hk2]; rfl
          have hx := (hat _).1 (List.getElem_mem hk2)
          have hxa := (h.ab _ _ hx).1
          have hxN := h.al _ hxa
          rw [il_idx hk2, some_bind, show At.getD k 0 = At[k] by simp [List.getD, hk2], iadd1 (by omega)]
          generalize At[k] = x at tk hx hxa hxN
          rw [Has_plain hS64 (by omega), some_bind]
          refine T.cond (fun c3 => .ret ⟨hk2, hk2, Se', E, rfl, rfl, rfl, hA', hS, fun z hz => ?_⟩) fun c3 => ?_
          · rw [tk] at hz
            rcases List.mem_append.1 hz with hz | hz
            · exact hT z hz
            · rw [List.mem_singleton.1 hz]; exact c3
          · rw [nWith_plain hS64 (by omega), some_bind]
            obtain ⟨k', m, e1, e2, e3⟩ := rk_def h hr hjv hx
            refine T.bind (pick_plain h hr (x := x) hxN hG ⟨k', m, by have := hjv.1; omega, e2, e3⟩) ?_
            rintro _ ⟨y, rfl, hg⟩
            have hA2 := hA'.add h hr hxa c3 hg
            have hin2 : ∀ z ∈ At.take (k + 1), (Se' ||| 2 ^ x).testBit z = true := fun z hz => by
              rw [tk] at hz
              rw [Nat.testBit_or, Bool.or_eq_true]
              rcases List.mem_append.1 hz with hz | hz
              · exact .inl (hT z hz)
              · rw [List.mem_singleton.1 hz, Nat.testBit_two_pow]; simp
            have hS2 : SubB Se (Se' ||| 2 ^ x) := fun j hj => by rw [Nat.testBit_or, hS j hj]; rfl
            rw [appM_eq (by simp; omega), some_bind, Contains_plain (by simp at hrl' ⊢; omega), some_bind]
            have hmem : ((y : Int) ∈ il (Rl ++ E)) ↔ y ∈ Rl ++ E := by
              rw [il_mem]
              exact ⟨fun ⟨z, hz, e⟩ => by rw [show y = z by omega]; exact hz, fun hz => ⟨y, hz, rfl⟩⟩
            refine T.cond (fun c4 => ?_) fun c4 => ?_
            · have hnm : ¬ y ∈ Rl ++ E := fun hh => by rw [decide_eq_true (hmem.2 hh)] at c4; cases c4
              rw [if_neg hnm, List.append_assoc] at hA2
              rw [appM_eq (by simp at hrl' ⊢; omega), some_bind]
              exact .ret ⟨hk2, hk2, _, E ++ [y], rfl, rfl, by simp [il], hA2, hS2, hin2⟩
            · have hnm : y ∈ Rl ++ E := Classical.byContradiction fun hh => by rw [decide_eq_false fun q => hh (hmem.1 q)] at c4; cases c4
              rw [if_pos hnm] at hA2
              exact .ret ⟨hk2, hk2, _, E, rfl, rfl, rfl, hA2, hS2, hin2⟩
        · have e : k = At.length := by have : ¬ (k : Int) < At.length := of_decide_eq_false c2; omega
          subst e
          rw [List.take_length] at hT
          exact .ret ⟨Se', E, rfl, rfl, hA', hS, hT⟩
      · rintro ⟨_, _, o⟩ ⟨Se', E, rfl, rfl, hA', hS, hT⟩
        dsimp only at hA' ⊢
        have hrl' := hA'.rlen h hr
        rw [iadd1 (by omega)]
        refine .ret ⟨⟨Se', i + 1, Rl ++ E, rfl, rfl, rfl, hA', by simp; omega, List.mem_append_left _ hrt, fun i' hi' x hx => ?_⟩, ?_⟩
        · rw [getD_app' (by omega)] at hx
          by_cases e : i' = i
          · subst e
            rw [hv] at hx
            exact hT x ((hat x).2 hx)
          · exact hS x (hcl i' (by omega) x hx)
        · simp only [Int.toNat_natCast]; omega
    · have e : i = Rl.length := by have : ¬ (i : Int) < Rl.length := of_decide_eq_false c; omega
      subst e
      refine .ret ⟨Se, Rl, hA, hrt, fun v hv x hx => ?_⟩
      obtain ⟨a, ha, e⟩ := List.getElem_of_mem hv
      exact hcl a ha x (by rw [show Rl.getD a 0 = v by simp [List.getD, ha, e]]; exact hx)
  · rintro o ⟨Se, Rl, hA, hrt, hcl⟩
    have hol := hA.olen h hr
    obtain ⟨r, h1, h2, h3⟩ := sortR (by omega) (by omega) (hA.rin h hr) hA.ond
    rw [h1, some_bind]
    refine .ret ⟨h3, by rw [h2.length_eq]; exact hol, fun q hq => hA.rin h hr q (h2.subset hq), Rl, hrt, hA.rk, fun v hv x hx => ?_⟩
    obtain ⟨y, hy⟩ := hA.ose x (hcl v hv x hx)
    obtain ⟨x', y', e, _, h5, h6⟩ := hA.oel _ hy
    have e1 : x = x' := by have := congrArg T_api_Reply.To e; simp only at this; omega
    have e2 : y = y' := by have := congrArg T_api_Reply.Node e; simp only at this; omega
    subst e1; subst e2
    exact ⟨y, h2.symm.subset hy, h5, h6⟩
end
end Go.Dc

/-! The grounded game: the strategy is checked. -/
namespace Go.Dc
open Go.Proofs Go.Sort

theorem mid_plain {i j : Nat} (hi : i ≤ 100000) (hj : j ≤ 100000) : IntKind.wrap .i64 (ishr .u64 (IntKind.wrap .u64 (iadd .i64 (i : Int) (j : Int))) 1) = (((i + j) / 2 : Nat) : Int) := by
  rw [iadd64 (by omega) (by omega), show (i : Int) + (j : Int) = ((i + j : Nat) : Int) by omega, wrapU (by omega), show (1 : Int) = ((1 : Nat) : Int) from rfl, ishr_u (by omega), Nat.shiftRight_eq_div_pow, Nat.pow_one, wrap64 (by omega) (by omega)]
theorem bs_plain {r : List T_api_Reply} {x : Int} {N : Nat} (hN : N ≤ 40) (hl : r.length ≤ 1000) (hin : ∀ q ∈ r, RepIn N q) (hs : r.Pairwise fun a b => a.To < b.To) (hx0 : 0 ≤ x) (hx1 : x ≤ 100) {k : Nat} (hk : k < r.length) (hkx : r[k].To = x) :
    slices_BinarySearchFunc_api_Reply_api_Reply_int_m r x = some ((k : Int), true) := by
  have hpw := List.pairwise_iff_getElem.1 hs
  have ev : ∀ q ∈ r, game_reply_1_m q x = some (q.To - x) := fun q hq => by
    have := hin q hq
    unfold RepIn at this
    unfold game_reply_1_m
    rw [isub64 (by omega) (by omega)]
  refine T.eq ?_
  unfold slices_BinarySearchFunc_api_Reply_api_Reply_int_m
  refine T.bind (P := fun q => q = (k : Int)) ?_ fun q hq => ?_
  · refine T.loopM (fun s => ∃ i j : Nat, s = ((i : Int), (j : Int)) ∧ i ≤ k ∧ k ≤ j ∧ j ≤ r.length) (fun s => (s.2 - s.1).toNat) ⟨0, r.length, rfl, by omega, by omega, by omega⟩ ?_
    rintro _ ⟨i, j, rfl, hi, hj, hjl⟩
    dsimp only [slices_BinarySearchFunc_api_Reply_api_Reply_int_l1]
    refine T.cond (fun c => ?_) fun c => .ret (by have := of_decide_eq_false c; omega)
    have hij : i < j := by have := of_decide_eq_true c; omega
    rw [mid_plain (by omega) (by omega)]
    have hm : (i + j) / 2 < r.length := by omega
    rw [idxM_nat hm, some_bind, ev _ (List.getElem_mem hm), some_bind]
    refine T.cond (fun c2 => ?_) fun c2 => ?_
    · have h1 : r[(i + j) / 2].To < x := by have := of_decide_eq_true c2; omega
      have h2 : (i + j) / 2 < k := by
        refine Classical.byContradiction fun hn => ?_
        by_cases e : (i + j) / 2 = k
        · simp only [e] at h1; omega
        · have := hpw k ((i + j) / 2) hk hm (by omega); omega
      rw [iadd1 (by omega)]
      exact .ret ⟨⟨_, j, rfl, by omega, hj, hjl⟩, by simp only; omega⟩
    · have h1 : ¬ r[(i + j) / 2].To < x := by have := of_decide_eq_false c2; omega
      have h2 : k ≤ (i + j) / 2 := by
        refine Classical.byContradiction fun hn => ?_
        have := hpw ((i + j) / 2) k hm hk (by omega); omega
      exact .ret ⟨⟨i, _, rfl, hi, h2, by omega⟩, by simp only; omega⟩
  · subst hq
    rw [show decide ((k : Int) < (r.length : Int)) = true from decide_eq_true (by omega), cond_true, idxM_nat hk, some_bind, ev _ (List.getElem_mem hk), some_bind, hkx, Int.sub_self]
    exact .ret rfl
theorem reply_plain {r : List T_api_Reply} {x y : Nat} {N : Nat} {gm rt b : Int} (hN : N ≤ 40) (hl : r.length ≤ 1000) (hin : ∀ q ∈ r, RepIn N q) (hs : r.Pairwise fun a b => a.To < b.To) (hm : (⟨(x : Int), (y : Int)⟩ : T_api_Reply) ∈ r) :
    game_reply_m ⟨gm, rt, b, r⟩ (x : Int) = some ((y : Int), true) := by
  obtain ⟨k, hk, e⟩ := List.getElem_of_mem hm
  have h1 := hin _ hm
  unfold RepIn at h1
  simp only at h1
  unfold game_reply_m
  rw [bs_plain hN hl hin hs (by omega) (by omega) hk (by rw [e]), some_bind, show (!true) = false from rfl]
  simp only [cond_false]
  rw [idxM_nat hk, some_bind, e]

/-- a strategy of the proponent -/
structure Strat (N : Nat) (n : Nt) (rs : List Nat) (r : List T_api_Reply) (Rl : List Nat) : Prop where
  s : r.Pairwise fun a b => a.To < b.To
  len : r.length ≤ N
  inN : ∀ q ∈ r, RepIn N q
  rk : ∀ v ∈ Rl, ∃ j, Rk rs v j
  cl : ∀ v ∈ Rl, ∀ x, n.a x v → ∃ y : Nat, (⟨(x : Int), (y : Int)⟩ : T_api_Reply) ∈ r ∧ GoodP n rs x y ∧ y ∈ Rl
def VisR (N : Nat) (n : Nt) (r : List T_api_Reply) (root : Int) (P : Nat → Prop) (q : Bool × (List Int) × Int × (List Int) × (List Int) × Int × Int × Int × (List T_api_Reply) × Int) : Prop :=
  ∃ (st : List Int) (R : Nat), q = (true, st, (n.all : Int), il n.by_, il n.out, 1, root, 1, r, (R : Int)) ∧ st.length = N ∧ R < 2 ^ 64 ∧ ∀ u, st.getD u 0 = 1 → P u
section
variable {N : Nat} {n : Nt} (h : NtOk N n) {rs : List Nat} {G : Nat} (hr : RndR n rs G) {r : List T_api_Reply} {Rl : List Nat} (hS : Strat N n rs r Rl) {root : Int}
include h hr hS
theorem visit_T : ∀ (f v j : Nat) (st : List Int) (R : Nat), j < f → Rk rs v j → v ∈ Rl → st.length = N → R < 2 ^ 64 → (∀ u i, i < j → (rs.getD i 0).testBit u = true → st.getD u 0 ≠ 1) →
    T (game_checker_visit_n f (n.all : Int) (il n.by_) (il n.out) 1 root 1 r (R : Int) st (v : Int)) (VisR N n r root fun u => st.getD u 0 = 1)
  | 0, _, j, _, _, hj, _, _, _, _, _ => absurd hj (Nat.not_lt_zero j)
  | f + 1, v, j, st, R, hjf, hk, hv, hst, hR, hD => by
    have hN := h.hN
    have hvN := rk_lt h hr hk
    have hrl := hS.len
    show T (game_checker_visit_b (game_checker_visit_n f) (n.all : Int) (il n.by_) (il n.out) 1 root 1 r (R : Int) st (v : Int)) _
    unfold game_checker_visit_b
    rw [nWith_plain hR (by omega), some_bind, idxM_getD (z := 0) (by omega), some_bind, il_idx (by rw [h.lb]; exact hvN), some_bind, List_plain (h.byLt v), some_bind, Int.toNat_natCast]
    have hat : ∀ x, x ∈ bitsL (n.by_.getD v 0) → n.a x v := fun x hx => by rw [mem_bitsL (h.byLt v), h.sy] at hx; exact hx
    have hbl := bitsL_len (s := n.by_.getD v 0)
    generalize bitsL (n.by_.getD v 0) = At at hat hbl
    refine T.bind (P := fun q : Sum (Bool × (List Int) × Int × (List Int) × (List Int) × Int × Int × Int × (List T_api_Reply) × Int) (Int × (List Int) × (List Int) × Int × Int × Int × (List T_api_Reply) × Int × (List Int)) =>
      ∃ (st' : List Int) (R' : Nat), q = .inr ((n.all : Int), il n.by_, il n.out, 1, root, 1, r, (R' : Int), st') ∧ st'.length = N ∧ R' < 2 ^ 64 ∧ ∀ u, st'.getD u 0 = 1 → u = v ∨ st.getD u 0 = 1) ?_ ?_
    · refine T.loopK At.length (fun k s => k ≤ At.length ∧ ∃ (st' : List Int) (R' : Nat), s = ((k : Int), (n.all : Int), il n.by_, il n.out, 1, root, 1, r, (R' : Int), st') ∧ st'.length = N ∧ R' < 2 ^ 64 ∧ ∀ u, st'.getD u 0 = 1 → u = v ∨ st.getD u 0 = 1)
        ⟨by omega, st.set v 1, _, rfl, by simpa using hst, or_lt hR (Nat.pow_lt_pow_right (by decide) (by omega)), fun u hu => by
          rw [getD_set (by omega)] at hu
          by_cases e : v = u
          · exact .inl e.symm
          · rw [if_neg e] at hu; exact .inr hu⟩ ?_
      rintro k _ ⟨hkl, st', R', rfl, h1, h2, h3⟩
      dsimp only [game_checker_visit_l1]
      rw [il_len]
      refine T.cond (fun c => ?_) fun c => ?_
      · have hk2 : k < At.length := by simpa using c
        have hx := hat _ (List.getElem_mem hk2)
        rw [il_idx hk2, some_bind, show At.getD k 0 = At[k] by simp [List.getD, hk2], iadd1 (by omega)]
        generalize At[k] = x at hx
        have hxN := h.al _ (h.ab _ _ hx).1
        obtain ⟨y, y1, ⟨y2, kk, y3, y4, y5⟩, y6⟩ := hS.cl v hv x hx
        obtain ⟨jy, hjy, hky⟩ := rk_of y3 y4
        obtain ⟨k0, m0, z1, z2, z3⟩ := rk_def h hr hk hx
        have hkk : kk ≤ k0 := Classical.byContradiction fun hn => y5 k0 m0 (by omega) z2 z3
        have hyN := rk_lt h hr hky
        have hyv : y ≠ v := fun e => by
          subst e
          have := hk.2.2 kk (by omega)
          rw [y4] at this; cases this
        have hy1 : st'.getD y 0 ≠ 1 := fun e => by
          rcases h3 y e with e2 | e2
          · exact hyv e2
          · exact hD y kk (by omega) y4 e2
        rw [reply_plain (by omega) (by omega) hS.inN hS.s y1, some_bind, show (!true) = false from rfl]
        simp only [cond_false]
        rw [il_idx (by rw [h.lb]; exact hxN), some_bind, Has_plain (h.byLt x) (by omega), some_bind, (h.sy y x).2 y2, show (!true) = false from rfl]
        simp only [cond_false]
        rw [idxM_getD (z := 0) (by omega), some_bind, show (st'.getD y 0 == 1) = false from beq_false_of_ne hy1, cond_false, some_bind]
        refine T.cond (fun c2 => ?_) fun c2 => .ret ⟨hk2, hk2, st', R', rfl, h1, h2, h3⟩
        refine T.bind (visit_T f y jy st' R' (by omega) hky y6 h1 h2 fun u i hi hu e => ?_) ?_
        · rcases h3 u e with rfl | e2
          · have := hk.2.2 i (by omega); rw [hu] at this; cases this
          · exact hD u i (by omega) hu e2
        · rintro _ ⟨st2, R2, rfl, q1, q2, q3⟩
          dsimp only
          rw [show (!true) = false from rfl, cond_false]
          exact .ret ⟨hk2, hk2, st2, R2, rfl, q1, q2, fun u hu => h3 u (q3 u hu)⟩
      · exact .ret ⟨st', R', rfl, h1, h2, h3⟩
    · rintro _ ⟨st', R', rfl, h1, h2, h3⟩
      rw [sumK_inr]
      dsimp only
      rw [idxM_getD (z := 0) (by omega), some_bind]
      refine .ret ⟨st'.set v 2, R', rfl, by simpa using h1, h2, fun u hu => ?_⟩
      rw [getD_set (by omega)] at hu
      by_cases e : v = u
      · rw [if_pos e] at hu; cases hu
      · rw [if_neg e] at hu
        exact (h3 u hu).resolve_left fun e2 => e e2.symm
theorem wins_plain {v j : Nat} (hv : root = (v : Int)) (hk : Rk rs v j) (hm : v ∈ Rl) : T (game_checker_wins_m (n.all : Int) (il n.by_) (il n.out) 1 root 1 r 0 (List.replicate N 0)) fun q => q.1 = true := by
  unfold game_checker_wins_m
  rw [show ((1 : Int) == 1) = true from rfl, cond_true]
  obtain ⟨q, e, st, R, rfl, _⟩ := visit_T h hr hS (root := root) (j + 1) v j (List.replicate N 0) 0 (by omega) hk hm (by simp) (by decide) (fun u i _ _ e => by rw [getD_rep] at e; cases e)
  have e2 := game_checker_visit_m_at e
  rw [show root = (v : Int) from hv] at e2 ⊢
  rw [show ((0 : Nat) : Int) = 0 from rfl] at e2
  rw [e2, some_bind]
  exact .ret rfl
end

theorem chk_in {g : T_api_Graph} {x : Int} (h0 : 0 ≤ x) (h1 : x < g.N) : game_Check_1_m x g.N g.L = some true := by
  unfold game_Check_1_m
  rw [show decide (x ≥ 0) = true from decide_eq_true h0, cond_true, decide_eq_true h1]
/-- the winner of the grounded game has a strategy that is accepted -/
theorem game_plain {g : T_api_Graph} (hg : GVal g) (hgl : g.L.length ≤ 100000) {root : Nat} (hroot : root < g.N.toNat) (hgrd : Grd g (· < g.N.toNat) root) :
    T (game_Solve_m g 1 (root : Int)) fun q => q.2 = 0 ∧ q.1.By = 1 ∧ T (game_Check_m g q.1) fun x => x = 0 := by
  have h0 := hg.n0; have h40 := hg.n1
  obtain ⟨_, eN, n, rfl, hn⟩ := New_net hg hgl
  have hok := hn.ok
  have hal : n.all < 2 ^ 40 := lt_of_bits fun j hj => by have := hok.al j hj; omega
  unfold game_Solve_m game_exists_m
  rw [gValidate_plain hg (by omega), some_bind, show ((0 : Int) != 0) = false from rfl, cond_false]
  refine T.join ?_
  rw [show ((1 : Int) == 1) = true from rfl, cond_true, some_bind, show (!true) = false from rfl, cond_false]
  refine T.join ?_
  rw [show decide ((root : Int) < 0) = false from decide_eq_false (by omega), cond_false, show decide ((root : Int) ≥ g.N) = false from decide_eq_false (by omega)]
  dsimp only
  rw [cond_false, show ((1 : Int) == 2) = false from rfl, cond_false, eN, some_bind, cond_true]
  unfold game_grounded_m
  refine T.bind (P := fun q : Int × List T_api_Reply => q.1 = 1 ∧ ∃ rs Rl, (∃ G, RndR n rs G) ∧ Strat g.N.toNat n rs q.2 Rl ∧ root ∈ Rl) ?_ ?_
  · refine T.bind (Rounds_plain hok) ?_
    rintro _ ⟨G, rs, rfl, hG, hr⟩
    have hGr : G.testBit root = true := (hn.grd hG root).2 hgrd
    have hGl := hG.sub.le
    have hrl := hr.len
    have hlast := hr.last
    refine T.join ?_
    unfold prevR at hlast
    rw [il_len]
    by_cases e : rs.length = 0
    · rw [if_pos e] at hlast; rw [← hlast] at hGr; simp at hGr
    · rw [if_neg e] at hlast
      rw [show decide ((rs.length : Int) > 0) = true from decide_eq_true (by omega), cond_true, isub1 (by omega), show (rs.length : Int) - 1 = ((rs.length - 1 : Nat) : Int) by omega, il_idx (by omega), some_bind, hlast]
      dsimp only
      rw [Has_plain (hok.sub hG.sub) (by omega), some_bind, hGr, cond_true, show n.t.All = (n.all : Int) from rfl, show n.t.By = il n.by_ from rfl, show n.t.Out = il n.out from rfl]
      refine T.bind (answers_plain hok hr (by omega) (grd_rk hok hr hGr)) fun r ⟨a1, a2, a3, Rl, a4, a5, a6⟩ => .ret ⟨rfl, rs, Rl, ⟨G, hr⟩, ⟨a1, a2, a3, a5, a6⟩, a4⟩
  · rintro ⟨_, r⟩ ⟨rfl, rs, Rl, ⟨G, hr⟩, hS, hrt⟩
    dsimp only
    refine .ret ⟨rfl, rfl, ?_⟩
    dsimp only
    have hS : Strat g.N.toNat n rs r Rl := hS
    have hsl := hS.len
    have hin : ∀ k (hk : k < r.length), 0 ≤ r[k].To ∧ r[k].To < g.N ∧ 0 ≤ r[k].Node ∧ r[k].Node < g.N := fun k hk => by
      have := hS.inN _ (List.getElem_mem hk)
      unfold RepIn at this
      omega
    unfold game_Check_m game_exists_m
    rw [gValidate_plain hg (by omega), some_bind, show ((0 : Int) != 0) = false from rfl, cond_false]
    refine T.join ?_
    rw [show ((1 : Int) == 1) = true from rfl, cond_true, some_bind, show (!true) = false from rfl, cond_false, show ((1 : Int) != 1) = false from rfl, cond_false]
    dsimp only
    rw [chk_in (by omega) (by omega), some_bind, show (!true) = false from rfl, cond_false]
    refine T.bind (P := fun q => q = .inr ()) ?_ fun q hq => ?_
    · refine T.loopK r.length (fun k s => k ≤ r.length ∧ s = (k : Int)) ⟨by omega, rfl⟩ ?_
      rintro k _ ⟨hk, rfl⟩
      dsimp only [game_Check_l1]
      refine T.cond (fun c => ?_) fun c => .ret rfl
      have hk2 : k < r.length := by simpa using c
      obtain ⟨q1, q2, q3, q4⟩ := hin k hk2
      rw [idxM_nat hk2, some_bind, chk_in q1 q2, some_bind, show (!true) = false from rfl, cond_false, chk_in q3 q4, some_bind, show (!true) = false from rfl, cond_false, iadd1 (by omega)]
      exact .ret ⟨hk2, hk2, rfl⟩
    · subst hq
      rw [sumK_inr]
      refine T.bind (P := fun q => q = .inr ()) ?_ fun q hq => ?_
      · refine T.loopK r.length (fun k s => s = ((k + 1 : Nat) : Int)) rfl ?_
        rintro k _ rfl
        dsimp only [game_Check_l2]
        refine T.cond (fun c => ?_) fun c => .ret rfl
        have hk2 : k + 1 < r.length := by have := of_decide_eq_true c; omega
        rw [idxM_nat hk2, some_bind, isub1 (by omega), show ((k + 1 : Nat) : Int) - 1 = (k : Int) by omega, idxM_nat (show k < r.length by omega), some_bind]
        have := List.pairwise_iff_getElem.1 hS.s k (k + 1) (by omega) hk2 (by omega)
        rw [decide_eq_false (by omega), cond_false, iadd1 (by omega)]
        exact .ret ⟨by omega, rfl⟩
      · subst hq
        rw [sumK_inr]
        have hmk : mkM 8 (0 : Int) g.N = some (List.replicate g.N.toNat 0) := by
          have : g.N = (g.N.toNat : Int) := by omega
          rw [this]
          exact mkM_T (by omega)
        simp only [joinM_eq, eN, hmk, some_bind, meetO_self]
        obtain ⟨j, hj⟩ := hS.rk root hrt
        refine T.bind (wins_plain hok hr hS rfl hj hrt) fun q hq => ?_
        rw [hq, show (!true) = false from rfl, cond_false]
        exact .ret rfl
end Go.Dc

/-! The law TopPrices in plain words. -/
namespace Go.Dc
open Go.Proofs Go.Sort

theorem grd_congr {g h : T_api_Graph} {A : Nat → Prop} (he : ∀ a b : Nat, att h a b ↔ att g a b) {i : Nat} : Grd h A i ↔ Grd g A i := by
  have : ∀ S, Clsd h A S ↔ Clsd g A S := fun S => by
    unfold Clsd
    simp only [he]
  unfold Grd
  simp only [this]
theorem wsum_ones {L m : Nat} (hm : m < 2 ^ L) (hL : L ≤ 60) : wsum (List.replicate L 1) (bitsL m) = ((bitsL m).length : Int) := by
  rw [bitsL_nds hm hL]
  have hlt : ∀ x ∈ ndsP L m.testBit, x < L := fun x hx => (mem_nds.1 hx).1
  generalize ndsP L m.testBit = l at hlt
  induction l with
  | nil => rfl
  | cons x l ih =>
    have h1 := ih fun y hy => hlt y (List.mem_cons_of_mem _ hy)
    have h2 : (List.replicate L (1 : Int)).getD x 0 = 1 := by
      have := hlt x (by simp)
      simp [List.getD, this]
    have h3 : wsum (List.replicate L 1) (x :: l) = (List.replicate L (1 : Int)).getD x 0 + wsum (List.replicate L 1) l := by unfold wsum; simp
    rw [h3, h1, h2]; simp only [List.length_cons]; omega
theorem zero_free {g : T_api_Graph} {i : Nat} : freeB g i 0 = true ↔ Grd g (· < g.N.toNat) i := by
  rw [freeB_iff]
  refine grd_congr fun a b => ?_
  have hall := keepR_all (p := maskB 0) (l := g.L) fun i _ => by unfold maskB; simp
  unfold att
  constructor
  · rintro ⟨p, hp, e⟩; exact ⟨p, (hall p).1 hp, e⟩
  · rintro ⟨p, hp, e⟩; exact ⟨p, (hall p).2 hp, e⟩
theorem Dec4 {g : T_api_Graph} (h : GVal g) (hg : g.L.length ≤ 100000) {n : Nat} (hn : n < g.N.toNat) (hgr : Grd g (· < g.N.toNat) n) :
    T (verdict_Decide_m g 4 (n : Int)) fun r => r.2 = 0 ∧ r.1.Holds = true ∧ T (verdict_Check_m g 4 (n : Int) r.1) fun x => x = 0 := by
  refine (Decide4_plain h hg hn).mono fun r hr => ?_
  obtain ⟨h0, L, R, e, hacc⟩ := hr
  have hLl := hacc.1.len; have h40 := h.n1
  refine ⟨h0, ?_, (VCheck4_plain h hg hn (by rw [e]; simp only; omega)).mono fun x hx => hx.2 (by rw [e]; exact ⟨rfl, hacc, rfl⟩)⟩
  rw [e, (grd_iff h hacc hn).2 hgr]; rfl

theorem Label_plain {g : T_api_Graph} (h : GVal g) (hg : g.L.length ≤ 100000) : T (grounded_Label_m g) fun L => ∃ R, AccG g L R := by
  have hn0 := h.n0
  obtain ⟨⟨L, R⟩, e, hb⟩ := build_plain h hg (N := g.N.toNat) (by omega)
  unfold grounded_Label_m
  rw [e, some_bind]
  exact .ret ⟨R, hb⟩
/-- the law for one node -/
theorem price {t2 : T_api_Graph × T_deliberationkeep_Src} {j5 : List T_api_Pair} {labels R : List Int} (hg : GVal ⟨t2.1.N, j5⟩) (hl : j5.length ≤ 12) (hacc : AccG ⟨t2.1.N, j5⟩ labels R) {i : Nat} (hi : i < t2.1.N.toNat) :
    T (top_TopPrices_l3 t2 j5 (List.replicate j5.length 1) labels (i : Int)) fun r => r = .inr ((i + 1 : Nat) : Int) := by
  have h0 : 0 ≤ t2.1.N := hg.n0
  have h40 : t2.1.N ≤ 40 := hg.n1
  generalize hgg : (⟨t2.1.N, j5⟩ : T_api_Graph) = g at *
  have hgN : g.N = t2.1.N := by rw [← hgg]
  have hgL : g.L = j5 := by rw [← hgg]
  have hll := hacc.1.len
  unfold top_TopPrices_l3
  rw [show decide ((i : Int) < t2.1.N) = true from decide_eq_true (by omega), cond_true, hgg]
  obtain ⟨m, hm, hf, hmin, e⟩ := Budget_val (g := g) (w := List.replicate j5.length 1) (node := i) hg (by rw [hgL]; exact hl) ⟨by rw [hgL]; simp, fun x hx => by rw [List.eq_of_mem_replicate hx]; omega⟩ (by rw [hgN]; exact hi)
  rw [hgL] at hm
  have hw : wsum (List.replicate j5.length 1) (bitsL m) = ((bitsL m).length : Int) := wsum_ones hm (by omega)
  rw [e, some_bind, show ((0 : Int) != 0) = false from rfl, cond_false, hw]
  have hbl := bitsL_len (s := m)
  have hm64 : m < 2 ^ 64 := Nat.lt_of_lt_of_le hm (Nat.pow_le_pow_right (by decide) (by omega))
  have hlab : (((bitsL m).length : Int) == 0) = (sf labels i == 1) := by
    rw [Bool.eq_iff_iff, beq_iff_eq, beq_iff_eq, grd_iff hg hacc (by rw [hgN]; exact hi), ← zero_free]
    constructor
    · intro hz
      have hnil : bitsL m = [] := List.eq_nil_of_length_eq_zero (by omega)
      have : m = 0 := by
        refine Classical.byContradiction fun hne => ?_
        obtain ⟨k, hk, _⟩ := low_exists hne
        have := (mem_bitsL hm64).2 hk
        rw [hnil] at this; cases this
      rw [this] at hf; exact hf
    · intro hz
      have := hmin 0 (Nat.pow_pos (by decide)) hz
      rw [hw, bitsL_zero] at this
      have h9 : wsum (List.replicate j5.length 1) [] = 0 := rfl
      rw [h9] at this
      omega
  rw [idx_sf (by rw [hll, hgN]; exact hi), some_bind]
  dsimp only
  rw [hlab]
  rw [show ((sf labels i == 1) == (sf labels i == 1)) = true by simp, show (!true) = false from rfl, cond_false, il_len, show ((((bitsL m).length : Int)) != (((bitsL m).length : Int))) = false by simp, cond_false]
  -- the attacks that stay
  have hmem : ∀ k : Nat, decide ((k : Int) ∈ il (bitsL m)) = m.testBit k := fun k => by
    rw [Bool.eq_iff_iff, decide_eq_true_iff, il_mem, ← mem_bitsL hm64]
    exact ⟨fun ⟨z, hz, e⟩ => by rw [show k = z by omega]; exact hz, fun hz => ⟨k, hz, rfl⟩⟩
  have hl2 : loopC (top_TopPrices_l2 j5 ((⟨((bitsL m).length : Int), il (bitsL m)⟩ : T_api_Budget), 0)) (0, []) = some (keepR (maskB m) j5) := by
    refine keepP_loop (l := j5) (p := maskB m) (by omega) (fun k hk out ho => ?_) (fun out => ?_)
    · unfold top_TopPrices_l2
      simp only
      rw [decide_eq_true (by omega), cond_true, In_plain (by simp; omega), some_bind, hmem, iadd1 (by omega), show j5.getD k pr0 = j5[k] by simp [List.getD, hk]]
      unfold maskB
      cases m.testBit k with
      | true => simp
      | false => simp; rw [idxM_nat hk, some_bind, appM_eq (by simp; omega)]; rfl
    · unfold top_TopPrices_l2
      simp only
      rw [decide_eq_false (by omega), cond_false]
  rw [hl2, some_bind]
  have hk : (⟨t2.1.N, keepR (maskB m) j5⟩ : T_api_Graph) = keptG g (maskB m) := by rw [← hgg]
  rw [hk]
  have hgk := gval_keep hg (maskB m)
  have hgkl : (keptG g (maskB m)).L.length ≤ 100000 := by have := keep_len (g := g) (maskB m); rw [hgL] at this; omega
  have hfr := freeB_iff.1 hf
  have hin : i < (keptG g (maskB m)).N.toNat := by rw [show (keptG g (maskB m)).N = g.N from rfl, hgN]; exact hi
  refine T.bind (game_plain hgk hgkl hin hfr) fun q ⟨q1, q2, q3⟩ => T.bind (Dec4 hgk hgkl hin hfr) fun v ⟨v1, v2, v3⟩ => ?_
  rw [q1, show ((0 : Int) != 0) = false from rfl, cond_false, q2, show ((1 : Int) != 1) = false from rfl, cond_false]
  refine T.bind q3 fun x hx => ?_
  subst hx
  rw [show ((0 : Int) != 0) = false from rfl, cond_false, v1, show ((0 : Int) != 0) = false from rfl, cond_false, v2, show (!true) = false from rfl, cond_false]
  refine T.bind v3 fun x hx => ?_
  subst hx
  rw [show ((0 : Int) != 0) = false from rfl, cond_false, iadd1 (by omega)]
  exact .ret rfl

theorem top_TopPrices_plain (l : List Int) {p0 : Prop} (_ : p0) : top_TopPrices_m l = some true := by
  refine T.eq ?_
  unfold top_TopPrices_m
  refine T.bind New_plain fun s hs => T.bind (Graph_plain hs (by omega) (by omega)) fun t ⟨h, h6, hg, hsr⟩ => ?_
  have h0 := h.n0
  refine T.joinP (fun j5 => GVal ⟨t.1.N, j5⟩ ∧ j5.length ≤ 12) (fun j5 ⟨hj, hl⟩ => ?_) fun k hk => ?_
  · refine T.bind (P := fun q => q = List.replicate j5.length 1) ?_ fun q hq => ?_
    · refine T.loopK j5.length (fun k s => k ≤ j5.length ∧ s = ((k : Int), List.replicate k 1)) ⟨by omega, rfl⟩ ?_
      rintro k _ ⟨hk, rfl⟩
      dsimp only [top_TopPrices_l1]
      refine T.cond (fun c => ?_) fun c => ?_
      · have hk2 : k < j5.length := by simpa using c
        rw [appM_eq (by simp; omega), some_bind, iadd1 (by omega)]
        exact .ret ⟨hk2, hk2, by rw [List.replicate_succ']⟩
      · have e : k = j5.length := by have : ¬ (k : Int) < j5.length := of_decide_eq_false c; omega
        subst e; exact .ret rfl
    · subst hq
      refine T.bind (Label_plain hj (by simp only; omega)) fun labels ⟨R, hacc⟩ => ?_
      have hll := hacc.1.len
      simp only at hll
      rw [show ((labels.length : Int) != t.1.N) = false by simp; omega, cond_false]
      refine T.bind (P := fun q => q = .inr ()) ?_ fun q hq => ?_
      · refine T.loopK t.1.N.toNat (fun k s => k ≤ t.1.N.toNat ∧ s = (k : Int)) ⟨by omega, rfl⟩ ?_
        rintro i _ ⟨hi, rfl⟩
        by_cases hi2 : i < t.1.N.toNat
        · refine (price hj hl hacc hi2).mono fun r hr => ?_
          subst hr
          exact ⟨hi2, hi2, rfl⟩
        · unfold top_TopPrices_l3
          rw [show decide ((i : Int) < t.1.N) = false from decide_eq_false (by omega), cond_false]
          exact .ret rfl
      · subst hq
        rw [sumK_inr, awake, some_bind]
        exact .ret rfl
  · refine T.cond (fun c => ?_) fun c => ?_
    · have hc := of_decide_eq_true c
      rw [slM_eq (by omega) (by omega) (by omega), some_bind]
      refine hk _ ⟨⟨h.n0, h.n1, fun p hp => h.v p (List.mem_of_mem_take (List.mem_of_mem_drop hp)), ?_⟩, by simp; omega⟩
      exact List.Pairwise.sublist ((List.drop_sublist _ _).trans (List.take_sublist _ _)) h.s
    · have hc := of_decide_eq_false c
      exact hk _ ⟨⟨h.n0, h.n1, h.v, h.s⟩, by omega⟩
end Go.Dc
