/- Part P18.LawM of a proof: lemmas. -/
import Derived.Test.YtcopohboenimpaaGreatDoorLAW18F
import Derived.Test.YtcopohboenimpaaGreatDoorMFuelM
namespace Go.Dc
theorem awake18 : law18_awake_m = some true := law18_awake_f_le (k_ := 60) _ (by decide +kernel)
end Go.Dc

set_option linter.unusedVariables false
set_option linter.unusedSimpArgs false
set_option linter.unusedSectionVars false
/-! The law VerdictModels in plain words. -/
namespace Go.Dc
open Go.Proofs Go.Sort

theorem mod_l1 {t : T_api_Graph × T_deliberationkeep_Src} {N : Nat} (hN : t.1.N = N) (hN2 : N ≤ 40) {y : List Int} (hy : LOk N y) : T (loopC (law18_VerdictModels_l1 t y) (0, List.replicate (2 * N) false)) fun m => MOk N y m := by
  have hl := hy.len
  refine T.loopK N (fun k s => k ≤ N ∧ s.1 = (k : Int) ∧ s.2.length = 2 * N ∧ ∀ j, j < N → s.2.getD j false = (if j < k then (sf y j == 1) else false) ∧ s.2.getD (N + j) false = (if j < k then (sf y j == 2) else false)) ⟨by omega, rfl, by simp, fun j hj => by
    have z : ∀ i, (List.replicate (2 * N) false).getD i false = false := fun i => getD_rep
    exact ⟨by rw [z]; simp, by rw [z]; simp⟩⟩ ?_
  rintro k ⟨_, m⟩ ⟨hk, rfl, hml, hmd⟩
  dsimp only at hml hmd
  dsimp only [law18_VerdictModels_l1]
  refine T.cond (fun c => ?_) fun c => ?_
  · have hk2 : k < N := by have := of_decide_eq_true c; omega
    rw [idx_sf (l := y) (i := k) (by omega), some_bind, some_bind, idxM_nat (d := m) (n := k) (by omega), some_bind, hN, iadd64 (x := (N : Int)) (y := (k : Int)) (by omega) (by omega), iadd1 (by omega), show (N : Int) + (k : Int) = ((N + k : Nat) : Int) by omega, idxM_nat (by simp; omega), some_bind, Int.toNat_natCast, Int.toNat_natCast]
    refine .ret ⟨hk2, hk2, rfl, by simp; omega, fun j hj => ?_⟩
    have hd := hmd j hj
    simp only
    constructor
    · rw [getD_set (by simp; omega), getD_set (by omega), if_neg (show ¬ N + k = j by omega)]
      by_cases e : k = j
      · rw [if_pos e, if_pos (show j < k + 1 by omega), e]
      · rw [if_neg e, hd.1]
        by_cases e2 : j < k
        · rw [if_pos e2, if_pos (show j < k + 1 by omega)]
        · rw [if_neg e2, if_neg (show ¬ j < k + 1 by omega)]
    · rw [getD_set (by simp; omega), getD_set (by omega)]
      by_cases e : k = j
      · rw [if_pos (show N + k = N + j by omega), if_pos (show j < k + 1 by omega), e]
      · rw [if_neg (show ¬ N + k = N + j by omega), if_neg (show ¬ k = N + j by omega), hd.2]
        by_cases e2 : j < k
        · rw [if_pos e2, if_pos (show j < k + 1 by omega)]
        · rw [if_neg e2, if_neg (show ¬ j < k + 1 by omega)]
  · have e : k = N := by have := of_decide_eq_false c; omega
    subst e
    exact .ret ⟨hml, fun j hj => by rw [(hmd j hj).1, if_pos hj], fun j hj => by rw [(hmd j hj).2, if_pos hj]⟩

theorem mod_l2 {t : Int × Int × List (List Int)} {n : Int} (hv : VOk n t.2.2) {m : List Bool} (hm : (m.length : Int) = n) : loopC (law18_VerdictModels_l2 t m) (true, 0) = some (satB m t.2.2) := by
  have h1 := hv.n1
  have hlen := hv.len
  refine T.eq (T.loopK t.2.2.length (fun k s => k ≤ t.2.2.length ∧ s = ((t.2.2.take k).all (fun c => c.any (litT m)), (k : Int))) ⟨by omega, by simp⟩ ?_)
  rintro k _ ⟨hk, rfl⟩
  dsimp only [law18_VerdictModels_l2]
  refine T.cond (fun c => ?_) fun c => ?_
  · have hk2 : k < t.2.2.length := by have : (k : Int) < t.2.2.length := of_decide_eq_true c; omega
    have hc := hv.cl _ (List.getElem_mem hk2)
    have tk : t.2.2.take (k + 1) = t.2.2.take k ++ [t.2.2[k]] := by rw [List.take_add_one, List.getElem?_eq_getElem hk2]; rfl
    refine T.cond (fun c2 => ?_) fun c2 => .ret ?_
    · rw [idxM_nat hk2, some_bind, Satisfied_plain (by have := hc.len; omega) (fun x hx => by have := hc.rng x hx; omega) (by omega), some_bind, iadd1 (by omega)]
      refine .ret ⟨hk2, hk2, ?_⟩
      rw [tk, List.all_append, c2]; simp
    · rw [c2]
      unfold satB
      obtain ⟨z, hz, hz2⟩ := List.all_eq_false.1 c2
      exact (List.all_eq_false.2 ⟨z, List.mem_of_mem_take hz, hz2⟩).symm
  · have e : k = t.2.2.length := by have : ¬ (k : Int) < t.2.2.length := of_decide_eq_false c; omega
    subst e
    refine .ret ?_
    simp [satB]

theorem law18_VerdictModels_plain (l : List Int) {p0 : Prop} (_ : p0) : law18_VerdictModels_m l = some true := by
  refine T.eq ?_
  unfold law18_VerdictModels_m
  refine T.bind New_plain fun s hs => T.bind (Graph_plain hs (by omega) (by omega)) fun t ⟨h, hN5, hg, _⟩ => ?_
  have hn0 := h.n0
  obtain ⟨N, hN⟩ : ∃ N : Nat, t.1.N = (N : Int) := ⟨t.1.N.toNat, by omega⟩
  have hNt : t.1.N.toNat = N := by omega
  refine T.bind (P := fun q => q = .inr ()) ?_ fun q hq => ?_
  · refine T.loopK N (fun k s => k ≤ N ∧ s = (k : Int)) ⟨by omega, rfl⟩ ?_
    rintro n _ ⟨hn, rfl⟩
    dsimp only [law18_VerdictModels_l5]
    refine T.cond (fun c => ?_) fun c => .ret rfl
    have hn2 : n < N := by have := of_decide_eq_true c; omega
    refine T.bind (P := fun q => q = .inr ()) ?_ fun q hq => ?_
    · refine T.loopK 3 (fun k s => k ≤ 3 ∧ s = (k : Int) + 1) ⟨by omega, rfl⟩ ?_
      rintro k _ ⟨hk, rfl⟩
      dsimp only [law18_VerdictModels_l4]
      refine T.cond (fun c2 => ?_) fun c2 => .ret rfl
      have hk2 : k < 3 := by have := of_decide_eq_true c2; omega
      refine T.bind (Encode_plain (by omega)) fun r hr => ?_
      have er : r = (2 * t.1.N, 0, encP t.1 ((k : Int) + 1) (n : Int)) := by
        rcases hr with ⟨_, _, _, _, _, hr⟩ | ⟨_, _, _, hc, _⟩ | ⟨hc, _⟩
        · exact hr
        · exact absurd ⟨by omega, by omega⟩ hc
        · exact absurd ⟨h, by omega, by omega⟩ hc
      subst er
      have hv := enc_ok h (q := (k : Int) + 1) (n := n) (by omega)
      dsimp only
      rw [bne_self_eq_false, cond_false, imul64 (by omega) (by omega), bne_self_eq_false, cond_false, rValidate_plain, some_bind, ValidP_ok.2 hv, bne_self_eq_false, cond_false, hN]
      refine T.bind (labs_plain (by omega)) fun ls ⟨hll, hly⟩ => ?_
      refine T.bind (P := fun q => q = .inr ()) ?_ fun q hq => ?_
      · refine T.loopK ls.length (fun j s => j ≤ ls.length ∧ s = (j : Int)) ⟨by omega, rfl⟩ ?_
        rintro j _ ⟨hj, rfl⟩
        dsimp only [law18_VerdictModels_l3]
        refine T.cond (fun c3 => ?_) fun c3 => .ret rfl
        have hj2 : j < ls.length := by simpa using c3
        have hy := hly _ (List.getElem_mem hj2)
        have hy' : LOk t.1.N.toNat ls[j] := by rw [hNt]; exact hy
        rw [idxM_nat hj2, some_bind, show (2 * (N : Int)) = ((2 * N : Nat) : Int) by omega, mkM_T (by omega), some_bind]
        refine T.bind (mod_l1 hN (by omega) hy) fun m hm => ?_
        have hm' : MOk t.1.N.toNat ls[j] m := by rw [hNt]; exact hm
        have hml := hm.len
        rw [mod_l2 (n := 2 * t.1.N) (by rw [hN] at hv ⊢; exact hv) (by omega), some_bind]
        have e1 := enc_sat h hy' hm' (q := (k : Int) + 1) (n := n) (by omega)
        dsimp only
        rw [e1, For_plain h (by omega) hy' (by omega), some_bind, iadd1 (by omega)]
        rw [show (!(forP t.1 ((k : Int) + 1) n ls[j] == forP t.1 ((k : Int) + 1) n ls[j])) = false by simp, cond_false]
        exact .ret ⟨hj2, hj2, rfl⟩
      · subst hq
        rw [sumK_inr, iadd64 (by omega) (by omega)]
        exact .ret ⟨hk2, hk2, by omega⟩
    · subst hq
      rw [sumK_inr, iadd1 (by omega)]
      exact .ret ⟨hn2, hn2, rfl⟩
  · subst hq
    rw [sumK_inr, awake18, some_bind]
    exact .ret rfl
end Go.Dc
