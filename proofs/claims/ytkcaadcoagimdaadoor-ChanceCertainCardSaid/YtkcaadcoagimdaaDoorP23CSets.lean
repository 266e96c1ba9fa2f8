/- Part P23C.Sets of a proof: lemmas. -/
import Derived.Test.YtkcaadcoagimdaaDoorP23CArgs
set_option linter.unusedVariables false
set_option linter.unusedSimpArgs false
set_option linter.unusedSectionVars false
/-! Sets as lists. -/
namespace Go.Dc

theorem Members_plain {k : Nat} (hk : k < 2 ^ 64) : net_Members_m (k : Int) = some (il (bitsL k)) := by
  unfold net_Members_m
  have : loopC (net_Members_l1 (k : Int)) (0, []) = some (il (bitsL k)) := by
    refine T.eq (T.loopK 64 (fun i s => i ≤ 64 ∧ s.1 = (i : Int) ∧ s.2 = il ((List.range i).filter k.testBit)) ⟨by omega, rfl, rfl⟩ ?_)
    rintro i ⟨_, _⟩ ⟨hi, rfl, rfl⟩
    dsimp only [net_Members_l1] at *
    refine T.cond (fun g1 => ?_) fun g1 => ?_
    · simp at g1
      have hi64 : i < 64 := by omega
      have hlen : ((List.range i).filter k.testBit).length ≤ i := Nat.le_trans (List.length_filter_le _ _) (by simp)
      have hh := Has_plain hk hi64
      unfold network_Set_Has_m at hh
      rw [wrapU (by omega)] at hh ⊢
      cases hs : ishrM .u64 (k : Int) (i : Int) with
      | none => rw [hs] at hh; cases hh
      | some t =>
        rw [hs, some_bind, letM_eq] at hh
        rw [some_bind, iadd1 (by omega), Option.some.inj hh, List.range_succ, List.filter_append]
        cases hb : k.testBit i with
        | true =>
          rw [cond_true, appM_eq (by simp; omega), some_bind]
          refine .letM (.ret ⟨hi64, by omega, rfl, ?_⟩)
          rw [List.filter_cons_of_pos hb]; simp [il]
        | false =>
          rw [cond_false]
          refine .letM (.ret ⟨hi64, by omega, rfl, ?_⟩)
          rw [List.filter_cons_of_neg (by simp [hb])]; simp
    · simp at g1
      have e : i = 64 := by omega
      subst e
      exact .ret rfl
  rw [this, some_bind]

theorem asc_bits {N k : Nat} (hk : k < 2 ^ N) (hN : N ≤ 40) : Asc N (il (bitsL k)) := by
  have hk64 := lt64 hk (by omega)
  refine ⟨?_, fun x hx => ?_⟩
  · have h1 : (bitsL k).Pairwise (· < ·) := List.Pairwise.filter _ List.pairwise_lt_range
    exact List.pairwise_map.2 (h1.imp fun h => by omega)
  · obtain ⟨n, hn, rfl⟩ := il_mem.1 hx
    have := bits_lt hk ((mem_bitsL hk64).1 hn)
    omega
theorem nl_il2 {l : List Nat} : nl (il l) = l := by
  show (l.map _).map Int.toNat = l
  rw [List.map_map]
  conv => rhs; rw [← List.map_id l]
  exact List.map_congr_left fun x _ => by simp
theorem setOf_bits {k : Nat} (hk : k < 2 ^ 64) : setOf (bitsL k) = k := eq_of_bits fun i => by
  rw [Bool.eq_iff_iff, setOf_bit, mem_bitsL hk]

section
variable {N : Nat} {g : T_api_Graph} {o : T_api_Odds} (h : OOk N g o)
include h
theorem wn_ok {has : List Bool} (hl : has.length = (frs o).length) : WOk N g.L has (wn g has) := (wn_spec h.gg (by rw [hl, h.len])).2
end
end Go.Dc
