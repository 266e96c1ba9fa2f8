/- Part P23P.Whole of a proof: lemmas. -/
import Derived.Test.YtkcaadcoagimdaaDoorP23PArgs
import Derived.Test.YtkcaadcoagimdaaDoorP23PAwake
set_option linter.unusedVariables false
set_option linter.unusedSimpArgs false
set_option linter.unusedSectionVars false
/-! The law ChanceWhole, in plain words. -/
namespace Go.Dc

theorem Members_plain {k : Nat} (hk : k < 2 ^ 64) : net_Members_m (k : Int) = some (il (bitsL k)) := by
  unfold net_Members_m
  have : loopC (net_Members_l1 (k : Int)) (0, []) = some (il (bitsL k)) := by
    refine T.eq (T.loopK 64 (fun i s => i ≤ 64 ∧ s.1 = (i : Int) ∧ s.2 = il ((List.range i).filter k.testBit)) ⟨by omega, rfl, rfl⟩ ?_)
    rintro i ⟨_, _⟩ ⟨hi, rfl, rfl⟩
    dsimp only [net_Members_l1] at *
    refine T.cond (fun g1 => ?_) fun g1 => ?_
    · simp at g1
      have hi64 : i < 64 := by omega
      have hlen : ((List.range i).filter k.testBit).length ≤ i := Nat.le_trans (List.length_filter_le _ _) (by simp)
      have hh := Has_plain hk hi64
      unfold network_Set_Has_m at hh
      rw [wrapU (by omega)] at hh ⊢
      cases hs : ishrM .u64 (k : Int) (i : Int) with
      | none => rw [hs] at hh; cases hh
      | some t =>
        rw [hs, some_bind, letM_eq] at hh
        rw [some_bind, iadd1 (by omega), Option.some.inj hh, List.range_succ, List.filter_append]
        cases hb : k.testBit i with
        | true =>
          rw [cond_true, appM_eq (by simp; omega), some_bind]
          refine .letM (.ret ⟨hi64, by omega, rfl, ?_⟩)
          rw [List.filter_cons_of_pos hb]; simp [il]
        | false =>
          rw [cond_false]
          refine .letM (.ret ⟨hi64, by omega, rfl, ?_⟩)
          rw [List.filter_cons_of_neg (by simp [hb])]; simp
    · simp at g1
      have e : i = 64 := by omega
      subst e
      exact .ret rfl
  rw [this, some_bind]

theorem asc_bits {N k : Nat} (hk : k < 2 ^ N) (hN : N ≤ 40) : Asc N (il (bitsL k)) := by
  have hk64 := lt64 hk (by omega)
  refine ⟨?_, fun x hx => ?_⟩
  · have h1 : (bitsL k).Pairwise (· < ·) := List.Pairwise.filter _ List.pairwise_lt_range
    exact List.pairwise_map.2 (h1.imp fun h => by omega)
  · obtain ⟨n, hn, rfl⟩ := il_mem.1 hx
    have := bits_lt hk ((mem_bitsL hk64).1 hn)
    omega
theorem nl_il2 {l : List Nat} : nl (il l) = l := by
  show (l.map _).map Int.toNat = l
  rw [List.map_map]
  conv => rhs; rw [← List.map_id l]
  exact List.map_congr_left fun x _ => by simp
theorem setOf_bits {k : Nat} (hk : k < 2 ^ 64) : setOf (bitsL k) = k := eq_of_bits fun i => by
  rw [Bool.eq_iff_iff, setOf_bit, mem_bitsL hk]

section
variable {N : Nat} {g : T_api_Graph} {o : T_api_Odds} (h : OOk N g o)
include h
/-- the grounded sets below k -/
noncomputable def belC (g : T_api_Graph) (k : Nat) (has : List Bool) : Bool := decide (grd (wn g has) < k)
noncomputable def belB (g : T_api_Graph) (node k : Nat) (has : List Bool) : Bool := decide (grd (wn g has) < k) && (grd (wn g has)).testBit node

theorem bel_step {k : Nat} : J (frs o) (belC g k) + J (frs o) (ec g k) = J (frs o) (belC g (k + 1)) := by
  rw [J_add fun has _ => ?_]
  · refine J_congr fun has _ => ?_
    unfold belC ec
    rw [Bool.eq_iff_iff]
    simp only [Bool.or_eq_true, decide_eq_true_eq]; omega
  · unfold belC ec
    simp only [decide_eq_true_eq]; omega
theorem belB_step {node k : Nat} (hb : k.testBit node = true) : J (frs o) (belB g node k) + J (frs o) (ec g k) = J (frs o) (belB g node (k + 1)) := by
  rw [J_add fun has _ => ?_]
  · refine J_congr fun has _ => ?_
    unfold belB ec
    rw [Bool.eq_iff_iff]
    simp only [Bool.or_eq_true, Bool.and_eq_true, decide_eq_true_eq]
    constructor
    · rintro (⟨h1, h2⟩ | h1)
      · exact ⟨by omega, h2⟩
      · exact ⟨by omega, by rw [h1]; exact hb⟩
    · rintro ⟨h1, h2⟩
      by_cases e : grd (wn g has) = k
      · exact .inr e
      · exact .inl ⟨by omega, h2⟩
  · unfold belB ec
    simp only [Bool.and_eq_true, decide_eq_true_eq]; omega
theorem belB_same {node k : Nat} (hb : k.testBit node = false) : J (frs o) (belB g node (k + 1)) = J (frs o) (belB g node k) := J_congr fun has _ => by
  unfold belB
  rw [Bool.eq_iff_iff]
  simp only [Bool.and_eq_true, decide_eq_true_eq]
  constructor
  · rintro ⟨h1, h2⟩
    have : grd (wn g has) ≠ k := fun e => by rw [e, hb] at h2; cases h2
    exact ⟨by omega, h2⟩
  · rintro ⟨h1, h2⟩; exact ⟨by omega, h2⟩
theorem wn_ok {has : List Bool} (hl : has.length = (frs o).length) : WOk N g.L has (wn g has) := (wn_spec h.gg (by rw [hl, h.len])).2
theorem bel_end : J (frs o) (belC g (2 ^ N)) = dn (frs o) := J_congr fun has hl => by
  have hw := wn_ok h hl
  have hG := (In_plain2 hw.ok).2
  unfold belC
  exact decide_eq_true (lt_of_bits fun j hj => hw.ok.al j (hG.sub j hj))
theorem belB_end {node : Nat} : J (frs o) (belB g node (2 ^ N)) = J (frs o) (jc g (setOf [node]) 4) := J_congr fun has hl => by
  have hw := wn_ok h hl
  have hG := (In_plain2 hw.ok).2
  have hlt : grd (wn g has) < 2 ^ N := lt_of_bits fun j hj => hw.ok.al j (hG.sub j hj)
  unfold belB jc
  rw [Bool.eq_iff_iff]
  simp only [Bool.and_eq_true, decide_eq_true_eq]
  constructor
  · rintro ⟨_, h2⟩
    refine ⟨fun i hi => ?_, fun x hx => ?_⟩
    · have : i = node := by simpa using setOf_bit.1 hi
      subst this; exact hG.sub _ h2
    · have : x = node := by simpa using setOf_bit.1 hx
      subst this; exact h2
  · rintro ⟨_, h2⟩
    exact ⟨hlt, h2 node (setOf_bit.2 (by simp))⟩
end

theorem law23_ChanceWhole_plain (l : List Int) (_ : l.length ≤ maxLen ∧ ∀ x ∈ l, (Lit.int .i64 x).wf = true) : law23_ChanceWhole_m l = some true := by
  refine T.eq ?_
  unfold law23_ChanceWhole_m
  refine T.bind New_plain fun s1 hs1 => ?_
  refine T.bind (Graph_plain hs1 (by omega) (by omega)) ?_
  rintro ⟨g, s2⟩ ⟨hg, hn1, hn5, hgl, hs2⟩
  simp only at *
  obtain ⟨N, hN⟩ : ∃ N : Nat, g.N = (N : Int) := ⟨g.N.toNat, by omega⟩
  refine T.bind (Odds_plain (m := 4) hs2 hg hN (by omega) (by omega) (by omega)) ?_
  rintro ⟨o, s3⟩ ⟨h, hs3, hD⟩
  simp only at *
  rw [hN]
  refine T.bind (N_plain hs3 (by omega)) ?_
  rintro ⟨nd, s4⟩ ⟨hs4, hnd⟩
  simp only at *
  have hnd := hnd (by omega)
  obtain ⟨node, rfl⟩ := Int.eq_ofNat_of_zero_le hnd.1
  have hD0 : 0 < dn (frs o) := dn_pos h.fr
  have hD5 : dn (frs o) ≤ 625 := hD
  clear hD
  have hN4 : N ≤ 4 := by omega
  have hpw : 2 ^ N ≤ 16 := Nat.le_trans (Nat.pow_le_pow_right (by decide) hN4) (by decide)
  have hloop : loopC (law23_ChanceWhole_l1 (g, s2) (o, s3) ((node : Int), s4)) (0, ⟨0, 1⟩, ⟨0, 1⟩) = some (.inr (rd (J (frs o) (belC g (2 ^ N))) (dn (frs o)), rd (J (frs o) (belB g node (2 ^ N))) (dn (frs o)))) := by
    refine T.eq (T.loopK (2 ^ N) (fun k s => k ≤ 2 ^ N ∧ s = ((k : Int), rd (J (frs o) (belC g k)) (dn (frs o)), rd (J (frs o) (belB g node k)) (dn (frs o)))) ⟨Nat.zero_le _, ?_⟩ ?_)
    · rw [J_none (c := belC g 0) fun has _ => by simp [belC], J_none (c := belB g node 0) fun has _ => by simp [belB], rd_zero hD0]; rfl
    · rintro k _ ⟨hk, rfl⟩
      dsimp only [law23_ChanceWhole_l1] at *
      rw [hN, wrapU (by omega)]
      unfold ishlM
      rw [if_neg (by omega), some_bind, ishl_u (by omega)]
      refine T.cond (fun g1 => ?_) fun g1 => ?_
      · have hlt : k < 2 ^ N := by
          have := of_decide_eq_true g1
          exact_mod_cast this
        have hk64 : k < 2 ^ 64 := by omega
        have ha := asc_bits hlt (by omega)
        have hE := Extension_plain h ha
        rw [nl_il2, setOf_bits hk64] at hE
        rw [Members_plain hk64, some_bind, hE, some_bind]
        simp only
        have j1 : J (frs o) (belC g k) ≤ dn (frs o) := J_le
        have j2 : J (frs o) (belB g node k) ≤ dn (frs o) := J_le
        have j3 : J (frs o) (ec g k) ≤ dn (frs o) := J_le
        have hlen := ha.len
        refine T.cond (fun g2 => by cases g2) fun _ => ?_
        rw [plus_plain hD0 (by omega) j1 j3, some_bind, In_plain (by omega), some_bind, bel_step h]
        have hin : decide ((node : Int) ∈ il (bitsL k)) = k.testBit node := by
          rw [Bool.eq_iff_iff, decide_eq_true_eq, il_mem, ← mem_bitsL hk64]
          exact ⟨fun ⟨n, hn, e⟩ => by have : node = n := by omega
                                      rw [this]; exact hn, fun hn => ⟨node, hn, rfl⟩⟩
        have hadd : iadd .u64 (k : Int) 1 = ((k + 1 : Nat) : Int) := wrapU (n := k + 1) (by omega)
        rw [hin, hadd]
        cases hb : k.testBit node with
        | true =>
          rw [cond_true, plus_plain hD0 (by omega) j2 j3, some_bind, belB_step h hb]
          exact .letM (.ret ⟨hlt, by omega, rfl⟩)
        | false =>
          rw [cond_false, ← belB_same h hb]
          exact .letM (.ret ⟨hlt, by omega, rfl⟩)
      · have hge : 2 ^ N ≤ k := by
          have := of_decide_eq_false g1
          have h2 : ¬ k < 2 ^ N := fun hh => this (by exact_mod_cast hh)
          omega
        have e : k = 2 ^ N := by omega
        subst e
        exact .ret rfl
  rw [hloop, some_bind, sumK_inr, bel_end h, belB_end h, rd_one hD0]
  have hone : Asc N [(node : Int)] := ⟨List.pairwise_singleton _ _, fun x hx => by rw [List.mem_singleton.1 hx]; omega⟩
  rw [Joint_plain h hone (by omega) (by omega), some_bind]
  have e2 : nl [(node : Int)] = [node] := nl_il2 (l := [node])
  rw [e2]
  simp only [beq_self_eq_true, cond_true, decide_true]
  rw [awake_plain, some_bind]
  exact .ret rfl
end Go.Dc
