/- Part P38Z.Lab2 of a proof: lemmas. -/
import Derived.Test.YtcpkdjlfgfikcaaGreatDoorP38ZLab
set_option linter.unusedVariables false
set_option linter.unusedSimpArgs false
set_option linter.unusedSectionVars false
/-! The program's grounded labelling: its rounds. -/
namespace Go.Dc
open Classical
variable {g : T_Gra} {N : Nat}

structure Md (g : T_Gra) (N : Nat) (l1 l r o nx : List Int) : Prop where
  sd : Sd g N l o
  rl : r.length = N
  nxt : Nx g N l o nx
  op : ∀ j, j < N → sf o j = (opn g (sf l) j : Int)
  zero : ∀ j, j < N → sf l j = 3 → sf o j = 0 → (j : Int) ∈ nx
  sub : ∀ j, j < N → sf l j = 3 → sf l1 j = 3
  one : ∀ j, j < N → (sf l j = 1 ↔ sf l1 j = 1)

theorem l6_plain (h : GVal g) (hl : g.L.length ≤ 10000) (hN : g.N = N) {s9 : Int × List Int × List Int × List Int × List Int} {i : Nat} (gi : Gr (att g) i) {T1 : List Int} (hT : ∀ j : Int, j ∈ T1 ↔ att g i j) (hTl : T1.length ≤ 64)
    {l1 l r o nx : List Int} (md : Md g N l1 l r o nx) :
    T (loopC (grounded_build_l6 g s9 T1) (0, l, r, o, nx)) fun q => Md g N l1 q.1 q.2.1 q.2.2.1 q.2.2.2 ∧ (∀ x, x < N → sf q.1 x = 3 → sf l x = 3) ∧ ∀ k : Nat, att g i k → sf q.1 k ≠ 3 := by
  have h40 := h.n1
  refine T.loopK T1.length (fun p s => p ≤ T1.length ∧ s.1 = (p : Int) ∧ Md g N l1 s.2.1 s.2.2.1 s.2.2.2.1 s.2.2.2.2 ∧ (∀ x, x < N → sf s.2.1 x = 3 → sf l x = 3) ∧ ∀ k : Nat, (k : Int) ∈ T1.take p → sf s.2.1 k ≠ 3) ⟨by omega, rfl, md, fun _ _ h => h, by simp⟩ ?_
  rintro p ⟨_, l', r', o', nx'⟩ ⟨hp, rfl, md', mono, hd⟩
  dsimp only [grounded_build_l6] at md' mono hd ⊢
  refine T.cond (fun c => ?_) fun c => ?_
  · have hp2 : p < T1.length := by have := of_decide_eq_true c; omega
    have hat := (hT _).1 (List.getElem_mem hp2)
    obtain ⟨k, hk⟩ : ∃ k : Nat, T1[p] = (k : Int) := by
      obtain ⟨q, hq, _, q2⟩ := hat
      have := h.v q hq
      exact ⟨T1[p].toNat, by omega⟩
    rw [hk] at hat
    have hkN : k < N := by have := (att_lt h hat).2; omega
    have hll := md'.sd.ll
    have htk : ∀ x : Int, x ∈ T1.take (p + 1) ↔ x ∈ T1.take p ∨ x = (k : Int) := fun x => by
      rw [List.take_add_one, List.getElem?_eq_getElem hp2, hk]; simp only [Option.toList_some, List.mem_append, List.mem_singleton]
    rw [idxM_nat hp2, some_bind, hk, idx_sf (by omega), some_bind, iadd1 (by omega)]
    refine T.cond (fun c2 => .ret ⟨hp2, hp2, rfl, md', mono, fun x hx => ?_⟩) fun c2 => ?_
    · rcases (htk x).1 hx with hx | hx
      · exact hd x hx
      · have : x = k := by omega
        subst this
        simpa using c2
    · have h3 : sf l' k = 3 := by simpa using c2
      obtain ⟨T2, e1, e2, e3, e4⟩ := Attacked_plain h hl (i := k) (by omega)
      have hrl := md'.rl
      rw [some_bind, idx_sf (l := r') (by omega), some_bind, e1, some_bind]
      refine T.bind (l7_plain h hN (st := ((p : Int), l', r', o', nx')) hkN h3 e2 e3 e4 md'.sd ⟨i, hat, gi⟩ md'.op md'.nxt md'.zero) ?_
      rintro ⟨o2, nx2⟩ ⟨q1, q2, q3, q4⟩
      dsimp only at q1 q2 q3 q4 ⊢
      rw [Int.toNat_natCast]
      have hs : ∀ x, sf (l'.set k 2) x = if k = x then 2 else sf l' x := fun x => sf_set (by omega)
      refine .ret ⟨hp2, hp2, rfl, ⟨q1, by simp [md'.rl], q2, q3, q4, fun x hx h5 => ?_, fun x hx => ?_⟩, fun x hx h5 => ?_, fun x hx => ?_⟩
      · rw [hs] at h5; split at h5
        · omega
        · exact md'.sub x hx h5
      · rw [hs]; split
        · rename_i e; subst e
          have := md'.sub k hkN h3
          omega
        · exact md'.one x hx
      · simp only at h5
        rw [hs] at h5; split at h5
        · omega
        · exact mono x hx h5
      · simp only
        rw [hs]; split
        · omega
        · rename_i e
          rcases (htk x).1 hx with hx | hx
          · exact hd x hx
          · exact absurd (by omega) e
  · have e : p = T1.length := by have := of_decide_eq_false c; omega
    subst e
    rw [List.take_length] at hd
    exact .ret ⟨md', mono, fun k hk => hd k ((hT _).2 hk)⟩

theorem l4_plain {s9 : Int × List Int × List Int × List Int × List Int} (hQ : ∀ q ∈ s9.2.2.2.2, ∃ i : Nat, q = i ∧ i < N) (hQl : s9.2.2.2.2.length ≤ 1000) (hll : s9.2.1.length = N) (hrl : s9.2.2.1.length = N) :
    T (loopC (grounded_build_l4 s9) (0, s9.2.1, s9.2.2.1)) fun q => q.1.length = N ∧ q.2.length = N ∧ ∀ x : Nat, x < N → sf q.1 x = if (x : Int) ∈ s9.2.2.2.2 then 1 else sf s9.2.1 x := by
  obtain ⟨rd, l, r, o, Q⟩ := s9
  dsimp only at hQ hQl hll hrl ⊢
  refine T.loopK Q.length (fun p s => p ≤ Q.length ∧ s.1 = (p : Int) ∧ s.2.1.length = N ∧ s.2.2.length = N ∧ ∀ x : Nat, x < N → sf s.2.1 x = if (x : Int) ∈ Q.take p then 1 else sf l x) ⟨by omega, rfl, hll, hrl, by simp⟩ ?_
  rintro p ⟨_, l', r'⟩ ⟨hp, rfl, hl', hr', hx⟩
  dsimp only [grounded_build_l4] at hl' hr' hx ⊢
  refine T.cond (fun c => ?_) fun c => ?_
  · have hp2 : p < Q.length := by have := of_decide_eq_true c; omega
    obtain ⟨i, hi, hiN⟩ := hQ _ (List.getElem_mem hp2)
    rw [idxM_nat hp2, some_bind, hi, idx_sf (by omega), some_bind, idx_sf (by omega), some_bind, iadd1 (by omega), Int.toNat_natCast]
    refine .ret ⟨hp2, hp2, rfl, by simp [hl'], by simp [hr'], fun x hx2 => ?_⟩
    simp only
    rw [sf_set (by omega)]
    have htk : (x : Int) ∈ Q.take (p + 1) ↔ (x : Int) ∈ Q.take p ∨ (x : Int) = (i : Int) := by
      rw [List.take_add_one, List.getElem?_eq_getElem hp2, hi]; simp only [Option.toList_some, List.mem_append, List.mem_singleton]
    by_cases e : i = x
    · rw [if_pos e, if_pos (htk.2 (.inr (by omega)))]
    · rw [if_neg e, hx x hx2]
      have : ((x : Int) ∈ Q.take (p + 1)) ↔ ((x : Int) ∈ Q.take p) := htk.trans ⟨fun h => h.elim id fun e2 => absurd (by omega) e, .inl⟩
      simp only [this]
  · have e : p = Q.length := by have := of_decide_eq_false c; omega
    subst e
    rw [List.take_length] at hx
    exact .ret ⟨hl', hr', hx⟩

theorem l5_plain (h : GVal g) (hl : g.L.length ≤ 10000) (hN : g.N = N) {s9 : Int × List Int × List Int × List Int × List Int} (hQ : ∀ q ∈ s9.2.2.2.2, ∃ i : Nat, q = i ∧ i < N ∧ Gr (att g) i) (hQl : s9.2.2.2.2.length ≤ 1000)
    {l1 r1 o1 : List Int} (md : Md g N l1 l1 r1 o1 []) (hd : ∀ x : Nat, x < N → sf l1 x = 1 → (x : Int) ∉ s9.2.2.2.2 → ∀ k : Nat, att g x k → sf l1 k ≠ 3) :
    T (loopC (grounded_build_l5 g s9) (0, l1, r1, o1, [])) fun q => Md g N l1 q.1 q.2.1 q.2.2.1 q.2.2.2 ∧ ∀ x : Nat, x < N → sf q.1 x = 1 → ∀ k : Nat, att g x k → sf q.1 k ≠ 3 := by
  have h40 := h.n1
  refine T.loopK s9.2.2.2.2.length (fun p s => p ≤ s9.2.2.2.2.length ∧ s.1 = (p : Int) ∧ Md g N l1 s.2.1 s.2.2.1 s.2.2.2.1 s.2.2.2.2 ∧ ∀ x : Nat, x < N → sf l1 x = 1 → (x : Int) ∉ s9.2.2.2.2.drop p → ∀ k : Nat, att g x k → sf s.2.1 k ≠ 3) ⟨by omega, rfl, md, fun x hx h1 hn => hd x hx h1 (by simpa using hn)⟩ ?_
  rintro p ⟨_, l', r', o', nx'⟩ ⟨hp, rfl, md', hd'⟩
  dsimp only [grounded_build_l5] at md' hd' ⊢
  refine T.cond (fun c => ?_) fun c => ?_
  · have hp2 : p < s9.2.2.2.2.length := by have := of_decide_eq_true c; omega
    obtain ⟨i, hi, hiN, gi⟩ := hQ _ (List.getElem_mem hp2)
    obtain ⟨T1, e1, e2, e3, e4⟩ := Attacked_plain h hl (i := i) (by omega)
    rw [idxM_nat hp2, some_bind, hi, e1, some_bind, iadd1 (by omega)]
    refine T.bind (l6_plain h hl hN (s9 := s9) gi e2 e4 md') ?_
    rintro ⟨l2, r2, o2, nx2⟩ ⟨q1, q2, q3⟩
    dsimp only at q1 q2 q3 ⊢
    refine .ret ⟨hp2, hp2, rfl, q1, fun x hx h1 hn k hk h5 => ?_⟩
    simp only at h5
    have hkN : k < N := by have := (att_lt h hk).2; omega
    by_cases e : x = i
    · subst e; exact q3 k hk h5
    · refine hd' x hx h1 (fun hm => hn ?_) k hk (q2 k hkN h5)
      rw [List.drop_eq_getElem_cons hp2, hi] at hm
      rcases List.mem_cons.1 hm with hm | hm
      · exact absurd (by omega) e
      · exact hm
  · have e : p = s9.2.2.2.2.length := by have := of_decide_eq_false c; omega
    subst e
    rw [List.drop_length] at hd'
    exact .ret ⟨md', fun x hx h1 => hd' x hx ((md'.one x hx).1 h1) (by simp)⟩

theorem round_plain (h : GVal g) (hl : g.L.length ≤ 10000) (hN : g.N = N) {rd : Int} {l r o Q : List Int} (H : Hd g N l o Q) (hr : r.length = N) (hQ0 : Q ≠ []) :
    T (grounded_build_l3 g (rd, l, r, o, Q)) fun s => ∃ l' r' o' Q', s = .inr (iadd .i64 rd 1, l', r', o', Q') ∧ Hd g N l' o' Q' ∧ r'.length = N ∧ (List.range N).countP (fun i => decide (sf l' i = 3)) < (List.range N).countP (fun i => decide (sf l i = 3)) := by
  have h40 := h.n1
  have hql := H.nx.len
  have hQok : ∀ q ∈ Q, ∃ i : Nat, q = i ∧ i < N ∧ Gr (att g) i ∧ sf l i = 3 := fun q hq => by
    obtain ⟨i, e, hi, q1, q2, q3⟩ := H.nx.ok q hq
    refine ⟨i, e, hi, q1, ?_⟩
    rcases H.sd.v i hi with e | e | e
    · exact absurd e q2
    · obtain ⟨a, a1, a2⟩ := H.sd.s2 i hi e
      exact (gr_free h hl a1 a2 q1).elim
    · exact e
  unfold grounded_build_l3
  dsimp only
  have hpos : (Q.length : Int) > 0 := by have := List.length_pos_iff.2 hQ0; omega
  rw [decide_eq_true hpos, cond_true]
  refine T.bind (l4_plain (N := N) (s9 := (rd, l, r, o, Q)) (fun q hq => by obtain ⟨i, e, hi, _⟩ := hQok q hq; exact ⟨i, e, hi⟩) (by dsimp only; omega) H.sd.ll hr) ?_
  rintro ⟨l1, r1⟩ ⟨a1, a2, a3⟩
  dsimp only at a1 a2 a3 ⊢
  have hin : ∀ x : Nat, x < N → (x : Int) ∈ Q → sf l x = 3 ∧ Gr (att g) x := fun x hx hm => by
    obtain ⟨i, e, hi, q1, q2⟩ := hQok _ hm
    have : i = x := by omega
    subst this; exact ⟨q2, q1⟩
  have md : Md g N l1 l1 r1 o [] := by
    refine ⟨⟨a1, H.sd.lo, fun i hi => ?_, fun i hi h1 => ?_, fun i hi h2 => ?_⟩, a2, ⟨fun q hq => (by cases hq), by simp⟩, fun j hj => ?_, fun j hj h3 h0 => ?_, fun _ _ h => h, fun _ _ => .rfl⟩
    · rw [a3 i hi]; split
      · exact .inl rfl
      · exact H.sd.v i hi
    · rw [a3 i hi] at h1; split at h1
      · rename_i hm; exact (hin i hi hm).2
      · exact H.sd.s1 i hi h1
    · rw [a3 i hi] at h2; split at h2
      · omega
      · exact H.sd.s2 i hi h2
    · rw [H.op j hj]
      congr 1
      unfold opn
      refine List.countP_congr fun a ha => ?_
      have haN : a < N := by have := List.mem_range.1 ha; omega
      rw [decide_eq_true_iff, decide_eq_true_iff, a3 a haN]
      by_cases hm : (a : Int) ∈ Q
      · rw [if_pos hm]
        have := (hin a haN hm).1
        exact ⟨fun h => ⟨h.1, by omega⟩, fun h => ⟨h.1, by omega⟩⟩
      · rw [if_neg hm]
    · rw [a3 j hj] at h3; split at h3
      · omega
      · rename_i hm; exact absurd (H.zero j hj h3 h0) hm
  refine T.bind (l5_plain h hl hN (s9 := (rd, l, r, o, Q)) (fun q hq => by obtain ⟨i, e, hi, q1, _⟩ := hQok q hq; exact ⟨i, e, hi, q1⟩) (by dsimp only; omega) md fun x hx h1 hn k hk h3 => ?_) ?_
  · dsimp only at hn
    rw [a3 x hx, if_neg hn] at h1
    have hkN : k < N := by have := (att_lt h hk).2; omega
    rw [a3 k hkN] at h3
    split at h3
    · omega
    · exact H.done x hx h1 k hk h3
  · rintro ⟨l2, r2, o2, nx2⟩ ⟨m2, d2⟩
    dsimp only at m2 d2 ⊢
    rw [letM_eq]
    refine .ret ⟨l2, r2, o2, nx2, rfl, ⟨m2.sd, m2.nxt, m2.op, m2.zero, fun x hx h1 => d2 x hx h1⟩, m2.rl, ?_⟩
    obtain ⟨q, hq⟩ := List.exists_mem_of_ne_nil Q hQ0
    obtain ⟨i, rfl, hi, _, hi3⟩ := hQok q hq
    refine countP_lt (fun x hx hp => ?_) ⟨i, List.mem_range.2 hi, decide_eq_true hi3, decide_eq_false fun e => ?_⟩
    · have hxN := List.mem_range.1 hx
      have h1 := m2.sub x hxN (of_decide_eq_true hp)
      rw [a3 x hxN] at h1
      split at h1
      · omega
      · exact decide_eq_true h1
    · have h1 := m2.sub i hi e
      rw [a3 i hi, if_pos hq] at h1
      omega

theorem Label_plain (h : GVal g) (hl : g.L.length ≤ 10000) (hN : g.N = N) : T (grounded_Label_m g) fun L => L.length = N ∧ ∀ i : Nat, i < N → (sf L i = 1 ↔ Gr (att g) i) := by
  have h40 := h.n1
  unfold grounded_Label_m grounded_build_m
  rw [hN, Repeat_plain N (by omega), some_bind, mkM_T (by omega), some_bind]
  refine T.bind (P := fun q => q.1.length = N ∧ ∀ i : Nat, i < N → (sf q.1 i = 1 ↔ Gr (att g) i)) ?_ fun q hq => .ret hq
  refine T.bind (P := fun o => o.length = 40 ∧ ∀ j : Nat, j < 40 → sf o j = ((g.L.countP fun p => decide (p.To = (j : Int))) : Nat)) ?_ ?_
  · refine T.loopK g.L.length (fun k s => k ≤ g.L.length ∧ s.1 = (k : Int) ∧ s.2.length = 40 ∧ ∀ j : Nat, j < 40 → sf s.2 j = (((g.L.take k).countP fun p => decide (p.To = (j : Int))) : Nat)) ⟨by omega, rfl, by simp, fun j hj => by
      have : sf (List.replicate 40 0) j = 0 := by
        unfold sf
        rw [List.getD_eq_getElem?_getD, List.getElem?_replicate]; split <;> rfl
      rw [this]; simp⟩ ?_
    rintro k ⟨_, o⟩ ⟨hk, rfl, ho, hj⟩
    dsimp only [grounded_build_l1] at ho hj ⊢
    refine T.cond (fun c => ?_) fun c => ?_
    · have hk2 : k < g.L.length := by have := of_decide_eq_true c; omega
      have hv := h.v _ (List.getElem_mem hk2)
      obtain ⟨t, ht⟩ : ∃ t : Nat, g.L[k].To = (t : Int) := ⟨g.L[k].To.toNat, by omega⟩
      have htk : ∀ j : Nat, (g.L.take (k + 1)).countP (fun p => decide (p.To = (j : Int))) = (g.L.take k).countP (fun p => decide (p.To = (j : Int))) + if t = j then 1 else 0 := fun j => by
        rw [List.take_add_one, List.getElem?_eq_getElem hk2, List.countP_append]
        congr 1
        simp only [Option.toList_some, List.countP_singleton, ht]
        by_cases e : t = j
        · rw [if_pos e, if_pos (decide_eq_true (by omega))]
        · rw [if_neg e, if_neg (by simpa using (fun h : (t : Int) = j => e (by omega)))]
      have hle : (g.L.take k).countP (fun p => decide (p.To = (t : Int))) ≤ g.L.length := Nat.le_trans List.countP_le_length (by rw [List.length_take]; omega)
      rw [idxM_nat hk2, some_bind, ht, vidx_sf ho (by omega), some_bind, some_bind, iadd1 (by omega), Int.toNat_natCast, hj t (by omega), iadd1 (by omega)]
      refine .ret ⟨hk2, hk2, rfl, by simpa using ho, fun j hj2 => ?_⟩
      simp only
      rw [sf_set (by omega), htk]
      by_cases e : t = j
      · subst e; rw [if_pos rfl, if_pos rfl]
      · rw [if_neg e, if_neg e, hj j hj2]; rfl
    · have e : k = g.L.length := by have := of_decide_eq_false c; omega
      subst e
      rw [List.take_length] at hj
      exact .ret ⟨ho, hj⟩
  rintro o ⟨ho, hoj⟩
  refine T.bind (P := fun Q => Q.Nodup ∧ ∀ x : Int, x ∈ Q ↔ ∃ i : Nat, x = i ∧ i < N ∧ sf o i = 0) ?_ ?_
  · refine T.loopK N (fun k s => k ≤ N ∧ s.1 = (k : Int) ∧ s.2.Nodup ∧ s.2.length ≤ k ∧ ∀ x : Int, x ∈ s.2 ↔ ∃ i : Nat, x = i ∧ i < k ∧ sf o i = 0) ⟨by omega, rfl, by simp, by simp, by simp⟩ ?_
    rintro k ⟨_, Q⟩ ⟨hk, rfl, hnd, hQl, hQ⟩
    dsimp only [grounded_build_l2] at hnd hQl hQ ⊢
    rw [hN]
    refine T.cond (fun c => ?_) fun c => ?_
    · have hk2 : k < N := by have := of_decide_eq_true c; omega
      rw [vidx_sf ho (by omega), some_bind, iadd1 (by omega)]
      refine T.cond (fun c2 => ?_) fun c2 => .ret ⟨hk2, hk2, rfl, hnd, by simp only; omega, fun x => ?_⟩
      · have hz : sf o k = 0 := eq_of_beq c2
        rw [appM_eq (by simp; omega), some_bind]
        refine .ret ⟨hk2, hk2, rfl, List.nodup_append.2 ⟨hnd, by simp, fun a ha b hb e => ?_⟩, by simp; omega, fun x => ?_⟩
        · rw [List.mem_singleton.1 hb] at e
          subst e
          obtain ⟨i, e, hi, _⟩ := (hQ _).1 ha
          omega
        · simp only [List.mem_append, List.mem_singleton, hQ]
          constructor
          · rintro (⟨i, e, hi, q⟩ | rfl)
            · exact ⟨i, e, by omega, q⟩
            · exact ⟨k, rfl, by omega, hz⟩
          · rintro ⟨i, e, hi, q⟩
            by_cases e2 : i = k
            · exact .inr (by omega)
            · exact .inl ⟨i, e, by omega, q⟩
      · simp only
        rw [hQ]
        constructor
        · rintro ⟨i, e, hi, q⟩; exact ⟨i, e, by omega, q⟩
        · rintro ⟨i, e, hi, q⟩
          refine ⟨i, e, ?_, q⟩
          by_cases e2 : i = k
          · subst e2; rw [q] at c2; cases c2
          · omega
    · have e : k = N := by have := of_decide_eq_false c; omega
      subst e
      exact .ret ⟨hnd, hQ⟩
  rintro Q ⟨hnd, hQ⟩
  have h3 : ∀ j, j < N → sf (List.replicate N 3) j = 3 := fun j hj => by simp [sf, hj]
  have sd0 : Sd g N (List.replicate N 3) o := ⟨by simp, ho, fun i hi => .inr (.inr (h3 i hi)), fun i hi h1 => by rw [h3 i hi] at h1; omega, fun i hi h1 => by rw [h3 i hi] at h1; omega⟩
  have op0 : ∀ j, j < N → sf o j = (opn g (sf (List.replicate N 3)) j : Int) := fun j hj => by
    rw [hoj j (by omega), pairs_count h]
    congr 1
    unfold opn
    rw [hN, Int.toNat_natCast]
    refine List.countP_congr fun a ha => ?_
    rw [decide_eq_true_iff, decide_eq_true_iff, h3 a (List.mem_range.1 ha)]
    exact ⟨fun h => ⟨h, by omega⟩, fun h => h.1⟩
  have H0 : Hd g N (List.replicate N 3) o Q := by
    refine ⟨sd0, ⟨fun q hq => ?_, hnd⟩, op0, fun j hj _ hz => (hQ _).2 ⟨j, rfl, hj, hz⟩, fun i hi h1 => by rw [h3 i hi] at h1; omega⟩
    obtain ⟨i, rfl, hi, hz⟩ := (hQ q).1 hq
    refine ⟨i, rfl, hi, gr_of_zero h hN sd0 ?_, by rw [h3 i hi]; omega, hz⟩
    have := op0 i hi
    rw [hz] at this; omega
  refine T.bind (P := fun q => q.1.length = N ∧ ∀ i : Nat, i < N → (sf q.1 i = 1 ↔ Gr (att g) i)) ?_ fun q hq => .ret hq
  refine T.loopM (fun s => Hd g N s.2.1 s.2.2.2.1 s.2.2.2.2 ∧ s.2.2.1.length = N) (fun s => (List.range N).countP fun i => decide (sf s.2.1 i = 3)) ⟨H0, by simp⟩ ?_
  rintro ⟨rd, l, r, o, Q⟩ ⟨H, hr⟩
  dsimp only at H hr
  by_cases hQ0 : Q = []
  · subst hQ0
    unfold grounded_build_l3
    dsimp only
    rw [decide_eq_false (by simp), cond_false]
    exact .ret ⟨H.sd.ll, H.fin h hl hN⟩
  · refine (round_plain h hl hN (rd := rd) H hr hQ0).mono ?_
    rintro s ⟨l', r', o', Q', rfl, H', hr', hlt⟩
    exact ⟨⟨H', hr'⟩, hlt⟩
end Go.Dc
