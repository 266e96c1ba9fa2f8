/- Part P38Z.Lab of a proof: lemmas. -/
import Derived.Test.YtcpkdjlfgfikcaaGreatDoorP38ZBld
set_option linter.unusedVariables false
set_option linter.unusedSimpArgs false
set_option linter.unusedSectionVars false
/-! The program's grounded labelling: its loops. -/
namespace Go.Dc
open Classical
variable {g : T_Gra} {N : Nat}

theorem nodup_bound {Q : List Int} (h : Q.Nodup) (hb : ∀ q ∈ Q, 0 ≤ q ∧ q < (N : Int)) : Q.length ≤ N := by
  have h1 : (Q.map Int.toNat).Nodup := by
    unfold List.Nodup
    rw [List.pairwise_map]
    refine List.Pairwise.imp_of_mem ?_ h
    intro a b ha hb' hab e
    have := hb a ha; have := hb b hb'
    exact hab (by omega)
  have h2 : (Q.map Int.toNat) ⊆ List.range N := fun x hx => by
    obtain ⟨q, hq, rfl⟩ := List.mem_map.1 hx
    have := hb q hq
    exact List.mem_range.2 (by omega)
  have h3 : (Q.map Int.toNat).Perm ((List.range N).filter fun x => decide (x ∈ Q.map Int.toNat)) :=
    (List.perm_ext_iff_of_nodup h1 (List.Pairwise.filter _ List.nodup_range)).2 fun x => by
      rw [List.mem_filter, decide_eq_true_iff]
      exact ⟨fun hx => ⟨h2 hx, hx⟩, fun hx => hx.2⟩
  have h4 := h3.length_eq
  have h5 := List.length_filter_le (fun x => decide (x ∈ Q.map Int.toNat)) (List.range N)
  rw [List.length_map] at h4
  rw [List.length_range] at h5
  omega
theorem Nx.len {l o Q : List Int} (h : Nx g N l o Q) : Q.length ≤ N := nodup_bound h.nd fun q hq => by
  obtain ⟨i, rfl, hi, _⟩ := h.ok q hq; omega

theorem vidx_sf {d : List Int} {i : Nat} (hd : d.length = 40) (hi : i < 40) : vidxM 40 d (i : Int) = some (sf d i) := by
  unfold vidxM
  rw [if_pos hd, idx_sf (by omega)]

theorem Repeat_plain : ∀ n : Nat, n ≤ 40 → slices_Repeat_int_int_m [3] (n : Int) = some (List.replicate n 3) := by
  intro n hn
  have : ∀ n : Nat, n < 41 → slices_Repeat_int_int_f 20 [3] (n : Int) = some (List.replicate n 3) := by decide +kernel
  exact slices_Repeat_int_int_f_le (k_ := 20) _ (this n (by omega))

/-- an attacked node gets out: the open attackers of those that it attacks -/
theorem l7_plain (h : GVal g) (hN : g.N = N) {st : Int × List Int × List Int × List Int × List Int} {k : Nat} (hk : k < N) (h3 : sf st.2.1 k = 3) {T2 : List Int} (hT : ∀ j : Int, j ∈ T2 ↔ att g k j) (hnd : T2.Nodup) (hTl : T2.length ≤ 64)
    (sd : Sd g N st.2.1 st.2.2.2.1) (gk : ∃ a : Nat, att g a k ∧ Gr (att g) a) (hop : ∀ j, j < N → sf st.2.2.2.1 j = (opn g (sf st.2.1) j : Int)) (nx : Nx g N st.2.1 st.2.2.2.1 st.2.2.2.2)
    (hz : ∀ j, j < N → sf st.2.1 j = 3 → sf st.2.2.2.1 j = 0 → (j : Int) ∈ st.2.2.2.2) :
    T (loopC (grounded_build_l7 st (k : Int) T2) (0, st.2.2.2.1, st.2.2.2.2)) fun q => Sd g N (st.2.1.set k 2) q.1 ∧ Nx g N (st.2.1.set k 2) q.1 q.2 ∧ (∀ j, j < N → sf q.1 j = (opn g (sf (st.2.1.set k 2)) j : Int)) ∧ (∀ j, j < N → sf (st.2.1.set k 2) j = 3 → sf q.1 j = 0 → (j : Int) ∈ q.2) := by
  obtain ⟨rd, l, rk, o, nq⟩ := st
  dsimp only at h3 sd hop nx hz ⊢
  have h40 := h.n1
  have hll := sd.ll
  have Sd2 : ∀ o' : List Int, o'.length = 40 → Sd g N (l.set k 2) o' := fun o' ho' => by
    refine ⟨by simp [hll], ho', fun i hi => ?_, fun i hi h1 => ?_, fun i hi h2 => ?_⟩
    · rw [sf_set (by omega)]; split
      · exact .inr (.inl rfl)
      · exact sd.v i hi
    · rw [sf_set (by omega)] at h1
      split at h1
      · cases h1
      · exact sd.s1 i hi h1
    · rw [sf_set (by omega)] at h2
      split at h2
      · rename_i e; subst e; exact gk
      · exact sd.s2 i hi h2
  refine T.loopK T2.length (fun q s => q ≤ T2.length ∧ s.1 = (q : Int) ∧ s.2.1.length = 40 ∧ Nx g N (l.set k 2) s.2.1 s.2.2 ∧ (∀ j, j < N → sf s.2.1 j = (opn g (sf (l.set k 2)) j : Int) + (if (j : Int) ∈ T2.drop q then 1 else 0)) ∧ (∀ j, j < N → sf (l.set k 2) j = 3 → sf s.2.1 j = 0 → (j : Int) ∈ s.2.2)) ⟨by omega, rfl, sd.lo, ⟨fun q hq => ?_, nx.nd⟩, fun j hj => ?_, fun j hj h1 h2 => ?_⟩ ?_
  · obtain ⟨i, e, hi, q1, q2, q3⟩ := nx.ok q hq
    refine ⟨i, e, hi, q1, ?_, q3⟩
    rw [sf_set (by omega)]; split
    · omega
    · exact q2
  · rw [hop j hj, opn_set h hN hll hk h3 j, List.drop_zero]
    by_cases c : att g k j
    · rw [if_pos c, if_pos ((hT j).2 c)]; rfl
    · rw [if_neg c, if_neg (fun e => c ((hT j).1 e))]; rfl
  · rw [sf_set (by omega)] at h1
    split at h1
    · cases h1
    · exact hz j hj h1 h2
  · rintro q ⟨_, o', nq'⟩ ⟨hq, rfl, ho', nx', hop', hz'⟩
    dsimp only [grounded_build_l7] at ho' nx' hop' hz' ⊢
    refine T.cond (fun c => ?_) fun c => ?_
    · have hq2 : q < T2.length := by have := of_decide_eq_true c; omega
      have hat := (hT _).1 (List.getElem_mem hq2)
      obtain ⟨p, hp, p1, p2⟩ := hat
      have hv := h.v p hp
      obtain ⟨j, hj⟩ : ∃ j : Nat, T2[q] = (j : Int) := ⟨T2[q].toNat, by omega⟩
      have hjN : j < N := by omega
      have hdr : T2.drop q = (j : Int) :: T2.drop (q + 1) := by rw [List.drop_eq_getElem_cons hq2, hj]
      have hjn : (j : Int) ∉ T2.drop (q + 1) := by
        have : (T2.drop q).Nodup := List.Pairwise.sublist (List.drop_sublist _ _) hnd
        rw [hdr] at this
        exact (List.nodup_cons.1 this).1
      have hoj := hop' j hjN
      rw [hdr, if_pos (by simp)] at hoj
      have hoc : (opn g (sf (l.set k 2)) j : Int) ≤ 40 := by
        have : opn g (sf (l.set k 2)) j ≤ g.N.toNat := by unfold opn; exact Nat.le_trans List.countP_le_length (by simp)
        omega
      have nl := nx'.len
      rw [idxM_nat hq2, some_bind, hj, vidx_sf ho' (by omega), some_bind, some_bind, iadd1 (by omega), Int.toNat_natCast, isub64 (by omega) (by omega), vidx_sf (by simpa using ho') (by omega)]
      have hsj : ∀ x, sf (o'.set j (sf o' j - 1)) x = if j = x then sf o' j - 1 else sf o' x := fun x => sf_set (by omega)
      have hop2 : ∀ x, x < N → sf (o'.set j (sf o' j - 1)) x = (opn g (sf (l.set k 2)) x : Int) + (if (x : Int) ∈ T2.drop (q + 1) then 1 else 0) := fun x hx => by
        rw [hsj]
        by_cases e : j = x
        · subst e; rw [if_pos rfl, if_neg hjn, hoj]; omega
        · rw [if_neg e, hop' x hx, hdr]
          have : ((x : Int) ∈ (j : Int) :: T2.drop (q + 1)) ↔ ((x : Int) ∈ T2.drop (q + 1)) := by
            rw [List.mem_cons]; exact ⟨fun h => h.elim (fun e2 => absurd (by omega) e) id, .inr⟩
          simp only [this]
      have nx2 : Nx g N (l.set k 2) (o'.set j (sf o' j - 1)) nq' := ⟨fun y hy => by
        obtain ⟨i, e, hi, q1, q2, q3⟩ := nx'.ok y hy
        refine ⟨i, e, hi, q1, q2, ?_⟩
        rw [hsj]
        by_cases e2 : j = i
        · subst e2; rw [hoj] at q3; omega
        · rw [if_neg e2]; exact q3, nx'.nd⟩
      refine T.joinP (fun b => b = true ↔ sf (o'.set j (sf o' j - 1)) j = 0 ∧ sf (l.set k 2) j = 3) (fun b hb => ?_) fun kk hkk => ?_
      · refine T.cond (fun c2 => ?_) fun c2 => ?_
        · obtain ⟨b1, b2⟩ := hb.1 c2
          have hz0 : opn g (sf (l.set k 2)) j = 0 := by
            have := hop2 j hjN
            rw [b1, if_neg hjn] at this; omega
          have hgr := gr_of_zero h hN (Sd2 _ (show (o'.set j (sf o' j - 1)).length = 40 by simpa using ho')) hz0
          rw [appM_eq (by simp; omega), some_bind]
          refine .ret ⟨hq2, hq2, rfl, by simpa using ho', ⟨fun y hy => ?_, ?_⟩, hop2, fun x hx h1 h2 => ?_⟩
          · rcases List.mem_append.1 hy with hy | hy
            · exact nx2.ok y hy
            · rw [List.mem_singleton.1 hy]
              exact ⟨j, rfl, hjN, hgr, by omega, b1⟩
          · refine List.nodup_append.2 ⟨nx'.nd, by simp, fun y hy z hz2 e => ?_⟩
            rw [List.mem_singleton.1 hz2] at e
            subst e
            obtain ⟨i, e, hi, q1, q2, q3⟩ := nx'.ok _ hy
            have : i = j := by omega
            subst this
            rw [hoj] at q3; omega
          · simp only at h1 h2 ⊢
            rw [List.mem_append, List.mem_singleton]
            by_cases e : j = x
            · exact .inr (by omega)
            · rw [hsj, if_neg e] at h2
              exact .inl (hz' x hx h1 h2)
        · refine .ret ⟨hq2, hq2, rfl, by simpa using ho', nx2, hop2, fun x hx h1 h2 => ?_⟩
          simp only at h1 h2 ⊢
          by_cases e : j = x
          · subst e
            have := hb.2 ⟨h2, h1⟩
            rw [this] at c2; cases c2
          · rw [hsj, if_neg e] at h2
            exact hz' x hx h1 h2
      · rw [some_bind]
        refine T.cond (fun c2 => ?_) fun c2 => hkk _ ?_
        · rw [Int.toNat_natCast, idx_sf (by simp; omega), some_bind]
          refine hkk _ ?_
          rw [beq_iff_eq]
          exact ⟨fun h => ⟨eq_of_beq c2, h⟩, fun h => h.2⟩
        · refine ⟨fun h => (by cases h), fun h => ?_⟩
          rw [h.1] at c2; cases c2
    · have e : q = T2.length := by have := of_decide_eq_false c; omega
      subst e
      rw [List.drop_length] at hop'
      exact .ret ⟨Sd2 _ ho', nx', fun j hj => by rw [hop' j hj]; simp, hz'⟩
end Go.Dc
