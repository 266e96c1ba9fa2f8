/- Part P18.LawE of a proof: lemmas. -/
import Derived.Test.YtcopohboenimpaaGreatDoorLAW18F
import Derived.Test.YtcopohboenimpaaGreatDoorMFuelM
namespace Go.Dc
theorem awake18 : law18_awake_m = some true := law18_awake_f_le (k_ := 60) _ (by decide +kernel)
end Go.Dc

set_option linter.unusedVariables false
set_option linter.unusedSimpArgs false
set_option linter.unusedSectionVars false
/-! The law VerdictEncodes in plain words. -/
namespace Go.Dc
open Go.Proofs Go.Sort

theorem encs_l1 {g : T_api_Graph} (hg : g.L.length ≤ 2000) {n q : Int} {t : Int × T_deliberationkeep_Src} : loopC (law18_VerdictEncodes_l1 n g q t) 0 = some (.inr ()) := by
  refine T.eq (T.loopK 3 (fun k s => k ≤ 3 ∧ s = (k : Int)) ⟨by omega, rfl⟩ ?_)
  rintro k _ ⟨hk, rfl⟩
  dsimp only [law18_VerdictEncodes_l1]
  refine T.cond (fun c => ?_) fun c => .ret rfl
  have hk2 : k < [n, t.1, (-1)].length := by have := of_decide_eq_true c; exact Int.ofNat_lt.1 this
  rw [idxM_nat hk2, some_bind]
  obtain ⟨r, e1, h1⟩ := Encode_plain (g := g) (by omega) (q := q) (n := [n, t.1, (-1)][k])
  obtain ⟨r', e2, h2⟩ := rEncode_plain (g := g) (by omega) (q := q) (n := [n, t.1, (-1)][k])
  obtain rfl := h1.uniq h2
  have hl := h1.len
  rw [e1, some_bind, e2, some_bind, bne_self_eq_false, cond_false, bne_self_eq_false, cond_false, Lists_refl (by omega) fun c hc => by have := hl.2 c hc; omega, some_bind]
  rw [show (!true) = false from rfl, cond_false, iadd1 (by omega)]
  exact .ret ⟨hk2, hk2, rfl⟩

theorem encs_l2 {g : T_api_Graph} (hg : g.L.length ≤ 2000) {n q : Int} {t s : Int × T_deliberationkeep_Src} (hs : RdOk s.2) : T (loopC (law18_VerdictEncodes_l2 q n t g) (0, s.2.L, s.2.At)) fun r => ∃ o, r = .inr o ∧ RdOk ⟨o.1, o.2⟩ := by
  refine T.loopK 3 (fun k s => k ≤ 3 ∧ s.1 = (k : Int) ∧ RdOk ⟨s.2.1, s.2.2⟩) ⟨by omega, rfl, hs⟩ ?_
  rintro k ⟨_, sl, sa⟩ ⟨hk, rfl, hr⟩
  dsimp only at hr
  dsimp only [law18_VerdictEncodes_l2]
  refine T.cond (fun c => ?_) fun c => .ret ⟨_, rfl, hr⟩
  have hk2 : k < [q, iadd .i64 1 t.1, 0].length := by have := of_decide_eq_true c; exact Int.ofNat_lt.1 this
  rw [idxM_nat hk2, some_bind]
  refine T.bind (N_plain hr (by omega)) fun u ⟨hu, _⟩ => ?_
  rw [encs_l1 hg, some_bind, sumK_inr, iadd1 (by omega)]
  exact .ret ⟨hk2, hk2, rfl, hu⟩

theorem law18_VerdictEncodes_plain (raw : T_api_Graph) (question n : Int) (l : List Int) {p0 p1 p2 p3 : Prop} (_ : p0) (_ : p1) (_ : p2) (_ : p3) : law18_VerdictEncodes_m raw question n l = some true := by
  refine T.eq ?_
  unfold law18_VerdictEncodes_m
  refine T.cond (fun c => .ret rfl) fun c => ?_
  have hraw : raw.L.length ≤ 60 := by have := of_decide_eq_false c; omega
  refine T.bind New_plain fun s hs => T.bind (Graph_plain hs (by omega) (by omega)) fun t2 ⟨_, _, h2, hs2⟩ => T.bind (Spoilt_plain hs2 h2) fun t5 ⟨h5, hs5⟩ => T.bind (Graph_plain hs5 (by omega) (by omega)) fun t6 ⟨_, _, h6, hs6⟩ => ?_
  refine T.bind (P := fun q => q = .inr ()) ?_ fun q hq => ?_
  · refine T.loopK 4 (fun k s => k ≤ 4 ∧ s.1 = (k : Int) ∧ RdOk ⟨s.2.1, s.2.2⟩) ⟨by omega, rfl, hs6⟩ ?_
    rintro k ⟨_, sl, sa⟩ ⟨hk, rfl, hr⟩
    dsimp only at hr
    dsimp only [law18_VerdictEncodes_l3]
    refine T.cond (fun c => ?_) fun c => .ret rfl
    have hk2 : k < [raw, t2.1, t5.1, t6.1].length := by have := of_decide_eq_true c; exact Int.ofNat_lt.1 this
    have hall : ∀ g ∈ [raw, t2.1, t5.1, t6.1], g.L.length ≤ 2000 := fun g hg => by
      simp only [List.mem_cons, List.not_mem_nil, or_false] at hg
      rcases hg with rfl | rfl | rfl | rfl <;> omega
    rw [idxM_nat hk2, some_bind]
    refine T.bind (N_plain hr (by omega)) fun u ⟨hu, _⟩ => ?_
    refine T.bind (encs_l2 (s := u) (hall _ (List.getElem_mem hk2)) hu) fun r ⟨o, ho, hro⟩ => ?_
    subst ho
    rw [sumK_inr, iadd1 (by omega)]
    exact .ret ⟨hk2, hk2, rfl, hro⟩
  · subst hq
    rw [sumK_inr, awake18, some_bind]
    exact .ret rfl
end Go.Dc
