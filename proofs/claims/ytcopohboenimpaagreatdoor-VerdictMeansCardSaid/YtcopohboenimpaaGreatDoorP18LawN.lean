/- Part P18.LawN of a proof: lemmas. -/
import Derived.Test.YtcopohboenimpaaGreatDoorP18Fnd2
import Derived.Test.YtcopohboenimpaaGreatDoorLAW18F
set_option linter.unusedVariables false
set_option linter.unusedSimpArgs false
set_option linter.unusedSectionVars false
/-! The program's search for complete labellings: all of them are found. -/
namespace Go.Dc
open Go.Proofs Go.Sort
variable {g : T_api_Graph}

theorem bt_sb {v x : Int} (hv : Dm v) (hx : L3 x) (h : dB v x = true) : Sb (bt x) v := fun y hy e => by rw [dB_one hx hy e]; exact h
theorem cmp_set {d z : List Int} (hd : DOk g.N.toNat d) (hz : Cpl g z) {o : Nat} (ho : o < g.N.toNat) (h40 : g.N.toNat ≤ 40) {x : Int} (hx : L3 x) (hb : dB (sf d o) x = true) : Cmp g.N.toNat z (d.set o (bt x)) ↔ Cmp g.N.toNat z d ∧ sf z o = x := by
 have hl : o < d.length := by rw [hd.len]; omega
 constructor
 ·intro hc
  have h1 := hc o ho
  rw [sf_set hl, if_pos rfl] at h1
  have e := dB_one hx (hz.1.at ho) h1
  refine ⟨fun i hi => ?_, e⟩
  have h2 := hc i hi
  rw [sf_set hl] at h2
  split at h2
  ·rename_i e1; subst e1; rw [e]; exact hb
  ·exact h2
 ·rintro ⟨hc, e⟩ i hi
  rw [sf_set hl]
  split
  ·rename_i e1; subst e1; rw [e, bt_dB hx hx]; simp
  ·exact hc i hi

def FindE (g : T_api_Graph) (A : List (List Int)) (rc : Int → List (List Int) → List Int → List (List Int) → Bool → Option (Int × List Int × Bool × List (List Int))) (m : Nat) : Prop :=
 ∀ d F, DOk g.N.toNat d → wt d ≤ m → F.Nodup → (∀ z ∈ F, Cpl g z) → (∀ z ∈ F, ¬ Cmp g.N.toNat z d) →
  T (rc g.N A d F false) fun r => r.1 = g.N ∧ r.2.2.1 = false ∧ r.2.2.2.Nodup ∧ ∀ z, z ∈ r.2.2.2 ↔ z ∈ F ∨ (Cpl g z ∧ Cmp g.N.toNat z d)

theorem find_loop1 (h : GVal g) {A : List (List Int)} {m o : Nat} {rc : Int → List (List Int) → List Int → List (List Int) → Bool → Option (Int × List Int × Bool × List (List Int))} (hrc : FindE g A rc m)
  {d : List Int} (hd : DOk g.N.toNat d) (hwt : wt d ≤ m + 1) (ho : o < g.N.toNat) (hne : ∀ x, L3 x → sf d o ≠ bt x) {F : List (List Int)} (hF : F.Nodup) (hFc : ∀ z ∈ F, Cpl g z) (hFp : ∀ z ∈ F, ¬ Cmp g.N.toNat z d)
  {t2 : Bool × Int × List Int × Bool} (ht2 : t2.2.2.1 = d) {t3 : Int × List Int} (ht3 : t3.1 = (o : Int)) :
  T (loopC (search_finder_find_l1 A t2 t3 rc) (0, g.N, false, F)) fun r => r.1 = g.N ∧ r.2.1 = false ∧ r.2.2.Nodup ∧ ∀ z, z ∈ r.2.2 ↔ z ∈ F ∨ (Cpl g z ∧ Cmp g.N.toNat z d) := by
 have h40 := h.n1
 have hol : o < d.length := by rw [hd.len]; omega
 refine T.loopK 3 (fun k s => k ≤ 3 ∧ s.1 = (k : Int) ∧ s.2.1 = g.N ∧ s.2.2.1 = false ∧ s.2.2.2.Nodup ∧ ∀ z, z ∈ s.2.2.2 ↔ z ∈ F ∨ (Cpl g z ∧ Cmp g.N.toNat z d ∧ sf z o ≤ (k : Int))) ⟨by omega, rfl, rfl, rfl, hF, fun z => ⟨.inl, fun hz => hz.elim id fun ⟨hz, _, h1⟩ => by rcases hz.1.at ho with e | e | e <;> omega⟩⟩ ?_
 rintro k ⟨_, _, _, B⟩ ⟨hk, rfl, rfl, rfl, hB, hBm⟩
 dsimp only at hB hBm
 dsimp only [search_finder_find_l1]
 refine T.cond (fun c => ?_) fun c => ?_
 ·have hk3 : k < 3 := by have : (k : Int) < 3 := of_decide_eq_true c; omega
  have hx : L3 ((k : Int) + 1) := by unfold L3; omega
  have e1 : idxM [2, 4, 8] (k : Int) = some (bt ((k : Int) + 1)) := by
   rcases (by omega : k = 0 ∨ k = 1 ∨ k = 2) with rfl | rfl | rfl <;> rfl
  rw [e1, some_bind, ht2, ht3, vidx_sf hd.len (by omega), some_bind, iadd1 (by omega), and_bt (hd.dm o ho) hx, Int.toNat_natCast, some_bind]
  have upd : ∀ C : List (List Int), (∀ z, z ∈ C ↔ z ∈ B ∨ (Cpl g z ∧ Cmp g.N.toNat z d ∧ sf z o = (k : Int) + 1)) → ∀ z, z ∈ C ↔ z ∈ F ∨ (Cpl g z ∧ Cmp g.N.toNat z d ∧ sf z o ≤ ((k + 1 : Nat) : Int)) := fun C hC z => by
   rw [hC, hBm]
   constructor
   ·rintro ((h1 | ⟨h1, h2, h3⟩) | ⟨h1, h2, h3⟩)
    ·exact .inl h1
    ·exact .inr ⟨h1, h2, by omega⟩
    ·exact .inr ⟨h1, h2, by omega⟩
   ·rintro (h1 | ⟨h1, h2, h3⟩)
    ·exact .inl (.inl h1)
    ·by_cases e : sf z o = (k : Int) + 1
     ·exact .inr ⟨h1, h2, e⟩
     ·exact .inl (.inr ⟨h1, h2, by omega⟩)
  refine T.cond (fun c2 => ?_) fun c2 => .ret ⟨hk3, hk3, rfl, rfl, rfl, hB, upd B fun z => ⟨.inl, fun hz => hz.elim id fun ⟨hz, hc, e⟩ => ?_⟩⟩
  ·have hd2 := hd.set (i := o) (by omega) (bt_dm ((k : Int) + 1))
   have hsb := bt_sb (hd.dm o ho) hx c2
   have hlt : bt ((k : Int) + 1) < sf d o := by have := sb_le (bt_dm _) (hd.dm o ho) hsb; have := hne _ hx; omega
   have hle : ∀ i, sf (d.set o (bt ((k : Int) + 1))) i ≤ sf d i := fun i => by
    rw [sf_set hol]
    split
    ·rename_i e; subst e; omega
    ·exact Int.le_refl _
   have hw2 : wt (d.set o (bt ((k : Int) + 1))) < wt d := wt_lt (by simp) hle ⟨o, by simpa using hol, by rw [sf_set hol, if_pos rfl]; exact (bt_dm _).1, by rw [sf_set hol, if_pos rfl]; exact hlt⟩
   have hcs := fun z (hz : Cpl g z) => cmp_set hd hz ho (by omega) hx c2
   refine T.bind (hrc _ B hd2 (by omega) hB (fun z hz => ?_) fun z hz hc => ?_) fun r ⟨r1, r2, r3, r4⟩ => .ret ⟨hk3, hk3, rfl, r1, r2, r3, upd _ fun z => ?_⟩
   ·rcases (hBm z).1 hz with h1 | ⟨h1, _⟩
    ·exact hFc z h1
    ·exact h1
   ·rcases (hBm z).1 hz with h1 | ⟨h1, h2, h3⟩
    ·exact hFp z h1 ((hcs z (hFc z h1)).1 hc).1
    ·have := ((hcs z h1).1 hc).2; omega
   ·rw [r4]
    constructor
    ·rintro (h1 | ⟨h1, h2⟩)
     ·exact .inl h1
     ·exact .inr ⟨h1, (hcs z h1).1 h2⟩
    ·rintro (h1 | ⟨h1, h2⟩)
     ·exact .inl h1
     ·exact .inr ⟨h1, (hcs z h1).2 h2⟩
  ·have h1 := hc o ho
   rw [e, c2] at h1; cases h1
 ·have e : k = 3 := by have : ¬ (k : Int) < 3 := of_decide_eq_false c; omega
  subst e
  refine .ret ⟨rfl, rfl, hB, fun z => ?_⟩
  dsimp only
  rw [hBm]
  constructor
  ·rintro (h1 | ⟨h1, h2, _⟩)
   ·exact .inl h1
   ·exact .inr ⟨h1, h2⟩
  ·rintro (h1 | ⟨h1, h2⟩)
   ·exact .inl h1
   ·exact .inr ⟨h1, h2, by rcases h1.1.at ho with e | e | e <;> omega⟩

theorem find_plain (h : GVal g) (h7 : ∀ p ∈ g.L, p.To < 7) {A : List (List Int)} (hA : ∀ i : Nat, i < g.N.toNat → idxM A (i : Int) = some (attsP g (i : Int))) : ∀ m, FindE g A (search_finder_find_n (m + 1)) m
 | m, d, F, hd, hw, hF, hFc, hFp => by
  have h40 := h.n1; have hn0 := h.n0
  have hfew := cpl_few h h7 hF hFc
  show T (search_finder_find_b (search_finder_find_n m) g.N A d F false) _
  unfold search_finder_find_b
  rw [cond_false]
  refine T.bind (settle_plain h hA hd) fun t2 ⟨e1, e2, ht⟩ => ?_
  rcases ht with ⟨e3, hno⟩ | ⟨e3, hr, hfx, hnz⟩
  ·rw [e3, show (!false) = true from rfl, cond_true]
   exact .ret ⟨e1, e2, hF, fun z => ⟨.inl, fun hz => hz.elim id fun ⟨h1, h2⟩ => absurd h2 (hno z h1)⟩⟩
  rw [e3, show (!true) = false from rfl, cond_false, e1, e2]
  have hcmp : ∀ z, Cpl g z → (Cmp g.N.toNat z d ↔ Cmp g.N.toNat z t2.2.2.1) := fun z hz => ⟨hr.kp z hz, fun hc => hc.up hz hr⟩
  refine T.bind (labels_plain_f h hr.ok) fun t3 ht3 => ?_
  rcases ht3 with ⟨e4, hl, hi⟩ | ⟨o, ho, e4, hne⟩
  ·rw [e4, show decide ((-1 : Int) < 0) = true from rfl, cond_true, appM_eq (by simp; omega), some_bind]
   have hlok : LOk g.N.toNat t3.2 := ⟨hl, fun x hx => by
    obtain ⟨i, hil, rfl⟩ := List.getElem_of_mem hx
    have e : sf t3.2 i = t3.2[i] := by unfold sf; simp [List.getD, hil]
    have := (hi i (by omega)).1
    rw [e] at this; unfold L3 at this; omega⟩
   have hcl : Cpl g t3.2 := ⟨hlok, range_all.2 fun i hi' => pos_legal h (fun j hj => (hi j hj).2) hlok hi' (hfx i hi' _ (hi i hi').1 (by rw [(hi i hi').2, bt_dB (hi i hi').1 (hi i hi').1]; simp))⟩
   have hcc : Cmp g.N.toNat t3.2 t2.2.2.1 := fun i hi' => by rw [(hi i hi').2, bt_dB (hi i hi').1 (hi i hi').1]; simp
   refine .ret ⟨rfl, beq_eq_false_iff_ne.2 (by omega), List.nodup_append.2 ⟨hF, by simp, fun a ha b hb e => ?_⟩, fun z => ?_⟩
   ·rw [List.mem_singleton.1 hb] at e
    subst e
    exact hFp _ ha ((hcmp _ hcl).2 hcc)
   ·dsimp only
    rw [List.mem_append, List.mem_singleton]
    constructor
    ·rintro (h1 | rfl)
     ·exact .inl h1
     ·exact .inr ⟨hcl, (hcmp _ hcl).2 hcc⟩
    ·rintro (h1 | ⟨h1, h2⟩)
     ·exact .inl h1
     ·refine .inr (sf_ext h1.1.len hl fun i hi' => ?_)
      have h3 := (hcmp z h1).1 h2 i hi'
      rw [(hi i hi').2] at h3
      exact dB_one (hi i hi').1 (h1.1.at hi') h3
  ·rw [e4, decide_eq_false (by omega : ¬ (o : Int) < 0), cond_false]
   have hwr : wt t2.2.2.1 ≤ wt d := wt_le (hr.ok.len.trans hd.len.symm) (hr.le hd)
   have hpos : 0 < wt t2.2.2.1 := by
    refine Nat.lt_of_le_of_lt (Nat.zero_le _) (wt_lt (a := t2.2.2.1.set o 0) (by simp) (fun i => ?_) ⟨o, by rw [List.length_set, hr.ok.len]; omega, ?_, ?_⟩)
    ·rw [sf_set (by rw [hr.ok.len]; omega)]
     split
     ·rename_i e; subst e; exact (hr.ok.dm o ho).1
     ·exact Int.le_refl _
    ·rw [sf_set (by rw [hr.ok.len]; omega), if_pos rfl]; exact Int.le_refl _
    ·rw [sf_set (by rw [hr.ok.len]; omega), if_pos rfl]; have := (hr.ok.dm o ho).1; have := hnz o ho; omega
   obtain ⟨m', rfl⟩ : ∃ m', m = m' + 1 := ⟨m - 1, by omega⟩
   refine T.bind (find_loop1 h (find_plain h h7 hA m') hr.ok (by omega) ho hne hF hFc (fun z hz hc => hFp z hz ((hcmp z (hFc z hz)).2 hc)) rfl e4) fun r ⟨r1, r2, r3, r4⟩ => .ret ⟨r1, r2, r3, fun z => ?_⟩
   dsimp only
   rw [r4]
   constructor
   ·rintro (h1 | ⟨h1, h2⟩)
    ·exact .inl h1
    ·exact .inr ⟨h1, (hcmp z h1).2 h2⟩
   ·rintro (h1 | ⟨h1, h2⟩)
    ·exact .inl h1
    ·exact .inr ⟨h1, (hcmp z h1).1 h2⟩
 termination_by m => m

theorem SComplete_plain (h : GVal g) (hg : g.L.length ≤ 100000) (h7 : ∀ p ∈ g.L, p.To < 7) : T (search_Complete_m g) fun r => r.1 = 0 ∧ r.2.Nodup ∧ ∀ z, z ∈ r.2 ↔ Cpl g z := by
 have h40 := h.n1; have hn0 := h.n0
 unfold search_Complete_m
 refine T.bind (gValidate_all (by omega)) fun e he => ?_
 have e0 := he.2 h
 subst e0
 rw [show ((0 : Int) != 0) = false from rfl, cond_false]
 refine T.bind (P := fun q => q.1.length = 40 ∧ (∀ i, sf q.1 i = if i < g.N.toNat then 14 else 0) ∧ q.2.1 = (List.range g.N.toNat).map (fun i : Nat => attsP g (i : Int)) ∧ q.2.2 = []) ?_ fun q ⟨hq1, hq2, hq3, hq4⟩ => ?_
 ·refine T.loopK g.N.toNat (fun k s => k ≤ g.N.toNat ∧ s.1 = (k : Int) ∧ s.2.1.length = 40 ∧ (∀ i, sf s.2.1 i = if i < k then 14 else 0) ∧ s.2.2.1 = (List.range k).map (fun i : Nat => attsP g (i : Int)) ∧ s.2.2.2 = []) ⟨by omega, rfl, by simp, fun i => by rw [if_neg (by omega)]; exact getD_rep, rfl, rfl⟩ ?_
  rintro k ⟨_, d, A, F⟩ ⟨hk, rfl, hd, hdi, rfl, rfl⟩
  dsimp only at hd hdi
  dsimp only [search_Complete_l1]
  refine T.cond (fun c => ?_) fun c => ?_
  ·have hkN : k < g.N.toNat := by have := of_decide_eq_true c; omega
   rw [gAttackers_plain h hg (by omega), some_bind, appM_eq (by simp; omega), some_bind, vidx_sf hd (by omega), some_bind, iadd1 (by omega), Int.toNat_natCast]
   refine .ret ⟨hkN, hkN, rfl, by simpa using hd, fun i => ?_, by rw [List.range_succ, List.map_append]; rfl, rfl⟩
   dsimp only
   rw [sf_set (by omega), hdi]
   by_cases e : k = i
   ·subst e; rw [if_pos rfl, if_pos (by omega)]
   ·rw [if_neg e]
    by_cases e2 : i < k
    ·rw [if_pos e2, if_pos (by omega)]
    ·rw [if_neg e2, if_neg (by omega)]
  ·have e : k = g.N.toNat := by have := of_decide_eq_false c; omega
   subst e
   exact .ret ⟨hd, hdi, rfl, rfl⟩
 ·obtain ⟨d, A, F⟩ := q
  dsimp only at hq1 hq2 hq3 hq4
  subst hq3; subst hq4
  have hA : ∀ i : Nat, i < g.N.toNat → idxM ((List.range g.N.toNat).map fun i : Nat => attsP g (i : Int)) (i : Int) = some (attsP g (i : Int)) := fun i hi => by
   rw [idxM_nat (by simpa using hi)]; simp
  have hd : DOk g.N.toNat d := ⟨hq1, fun i hi => by rw [hq2, if_pos hi]; decide⟩
  dsimp only
  obtain ⟨r, er, hr⟩ := find_plain h h7 hA (wt d) d [] hd (Nat.le_refl _) (by simp) (by simp) (by simp)
  obtain ⟨r1, r2, r3, r4⟩ := hr
  rw [search_finder_find_m_at er, some_bind, r2, cond_false]
  refine .ret ⟨rfl, r3, fun z => ?_⟩
  dsimp only
  rw [r4]
  constructor
  ·rintro (h1 | ⟨h1, _⟩)
   ·simp at h1
   ·exact h1
  ·intro h1
   refine .inr ⟨h1, fun i hi => ?_⟩
   rw [hq2, if_pos hi]
   rcases h1.1.at hi with e | e | e <;> rw [e] <;> rfl
end Go.Dc

namespace Go.Dc
theorem awake18 : law18_awake_m = some true := law18_awake_f_le (k_ := 60) _ (by decide +kernel)
end Go.Dc

set_option linter.unusedVariables false
set_option linter.unusedSimpArgs false
set_option linter.unusedSectionVars false
/-! The law VerdictMeans in plain words. -/
namespace Go.Dc
open Go.Proofs Go.Sort
variable {g : T_api_Graph}

/-- the places of a label -/
def withP (y : List Int) (x : Int) : List Int := ((List.range y.length).filter fun i => sf y i == x).map fun i : Nat => (i : Int)
theorem withP_len {y : List Int} {x : Int} : (withP y x).length ≤ y.length := by
 unfold withP; rw [List.length_map]; exact Nat.le_trans (List.length_filter_le _ _) (by simp)
theorem mem_withP {y : List Int} {x : Int} {j : Int} : j ∈ withP y x ↔ ∃ i : Nat, j = i ∧ i < y.length ∧ sf y i = x := by
 unfold withP
 simp only [List.mem_map, List.mem_filter, List.mem_range, beq_iff_eq]
 exact ⟨fun ⟨i, ⟨h1, h2⟩, h3⟩ => ⟨i, h3.symm, h1, h2⟩, fun ⟨i, h3, h1, h2⟩ => ⟨i, ⟨h1, h2⟩, h3.symm⟩⟩
theorem With_full {y : List Int} {x : Int} (hl : y.length ≤ 1000000) : labelling_With_m y x = some (withP y x) := by
 refine T.eq ?_
 unfold labelling_With_m
 refine T.bind (P := fun r => r = withP y x) ?_ fun r hr => .ret hr
 refine T.loopK y.length (fun k s => k ≤ y.length ∧ s = ((k : Int), ((List.range k).filter fun i => sf y i == x).map fun i : Nat => (i : Int))) ⟨by omega, rfl⟩ ?_
 rintro k _ ⟨hk, rfl⟩
 dsimp only [labelling_With_l1]
 refine T.cond (fun c => ?_) fun c => ?_
 ·have hk2 : k < y.length := by simpa using c
  rw [idx_sf hk2, some_bind, iadd1 (by omega), List.range_succ, List.filter_append, List.map_append]
  refine T.cond (fun c2 => ?_) fun c2 => .ret ⟨hk2, hk2, ?_⟩
  ·rw [appM_eq (by have := List.length_filter_le (fun i => sf y i == x) (List.range k); simp at this ⊢; omega), some_bind]
   refine .ret ⟨hk2, hk2, ?_⟩
   rw [List.filter_cons, if_pos c2]; rfl
  ·rw [List.filter_cons, if_neg (by rw [c2]; simp)]; simp
 ·have e : k = y.length := by have : ¬ (k : Int) < y.length := of_decide_eq_false c; omega
  subst e
  exact .ret rfl
theorem places_plain {y : List Int} {x : Int} (hl : y.length ≤ 1000000) : extension_places_m y [x] = some (withP y x) := by
 have hw := withP_len (y := y) (x := x)
 refine T.eq ?_
 unfold extension_places_m
 refine T.bind (P := fun r => r = withP y x) ?_ fun r hr => .ret hr
 refine T.loopK 1 (fun k s => k ≤ 1 ∧ s = ((k : Int), if k = 0 then [] else withP y x)) ⟨by omega, rfl⟩ ?_
 rintro k _ ⟨hk, rfl⟩
 dsimp only [extension_places_l1]
 refine T.cond (fun c => ?_) fun c => ?_
 ·have hk2 : k < 1 := by have : (k : Int) < 1 := of_decide_eq_true c; omega
  obtain rfl : k = 0 := by omega
  rw [show idxM [x] ((0 : Nat) : Int) = some x from rfl, some_bind, With_full hl, some_bind, if_pos rfl, appM_eq (by simp; omega), some_bind]
  exact .ret ⟨by omega, by omega, rfl⟩
 ·have e : k = 1 := by have : ¬ (k : Int) < 1 := of_decide_eq_false c; omega
  subst e
  exact .ret rfl
theorem cont_s2 {s : List Int} {v : Int} (hl : s.length ≤ 1000000) : slices_Contains_int_int_s2_m s v = some (s.any fun y => v == y) := by
 unfold slices_Contains_int_int_s2_m
 have h : T (slices_Index_int_int_s2_m s v) fun r => 0 ≤ r ↔ (s.any fun y => v == y) = true := by
  unfold slices_Index_int_int_s2_m
  refine indexf_loop (l := s) (fun i hi => ?_) ?_
  ·unfold slices_Index_int_int_s2_l1
   rw [show decide ((i : Int) < (s.length : Int)) = true by simp [hi], cond_true, idxM_nat hi, iadd64 (by omega) (by omega)]
   simp only [Option.bind_some]
   cases v == s[i] <;> rfl
  ·unfold slices_Index_int_int_s2_l1; simp
 obtain ⟨r, h1, h2⟩ := h
 rw [h1]; exact cont_of h2
theorem contf_s4 {s p : List Int} (hl : s.length ≤ 1000000) (hp : p.length ≤ 1000000) : slices_ContainsFunc_int_int_s4_m s p = some (s.any fun x => !(p.any fun y => x == y)) := by
 unfold slices_ContainsFunc_int_int_s4_m
 have h : T (slices_IndexFunc_int_int_s4_m s p) fun r => 0 ≤ r ↔ (s.any fun x => !(p.any fun y => x == y)) = true := by
  unfold slices_IndexFunc_int_int_s4_m
  refine indexf_loop (l := s) (fun i hi => ?_) ?_
  ·unfold slices_IndexFunc_int_int_s4_l1 extension_within_1_m
   rw [show decide ((i : Int) < (s.length : Int)) = true by simp [hi], cond_true, idxM_nat hi, iadd64 (by omega) (by omega)]
   simp only [Option.bind_some]
   rw [cont_s2 hp, some_bind, some_bind]
   cases !(p.any fun y => s[i] == y) <;> rfl
  ·unfold slices_IndexFunc_int_int_s4_l1; simp
 obtain ⟨r, h1, h2⟩ := h
 rw [h1]; exact cont_of h2
/-- one list within another one that has more -/
def witB (a b : List Int) : Bool := decide (a.length < b.length) && !(a.any fun x => !(b.any fun y => x == y))
theorem withxin_plain {a b : List Int} (ha : a.length ≤ 1000000) (hb : b.length ≤ 1000000) : extension_within_m a b = some (witB a b) := by
 unfold extension_within_m witB
 have e : decide ((a.length : Int) < (b.length : Int)) = decide (a.length < b.length) := by rw [decide_eq_decide]; omega
 rw [e]
 cases decide (a.length < b.length) with
 | false => rfl
 | true => rw [cond_true, contf_s4 ha hb, some_bind, Bool.true_and]
/-- y is preferred to x -/
def prf (y x : List Int) : Bool := witB (withP x 1) (withP y 1)
theorem pref_plain {x y : List Int} (hx : x.length ≤ 1000000) (hy : y.length ≤ 1000000) : extension_best_1_m y x = some (prf y x) := by
 have h1 := withP_len (y := y) (x := 1); have h2 := withP_len (y := x) (x := 1)
 unfold extension_best_1_m extension_Preferred_1_m
 rw [places_plain hx, some_bind, places_plain hy, some_bind, withxin_plain (by omega) (by omega), some_bind, some_bind]; rfl
theorem stab_plain {x y : List Int} (hx : x.length ≤ 1000000) : extension_best_1_s1_m y x = some (x.any fun z => z == 3) := by
 unfold extension_best_1_s1_m extension_Stable_1_m
 rw [places_plain hx, some_bind, some_bind]
 congr 1
 rw [Bool.eq_iff_iff, decide_eq_true_eq, List.any_eq_true]
 constructor
 ·intro h
  obtain ⟨j, hj⟩ := List.exists_mem_of_length_pos (show 0 < (withP x 3).length by omega)
  obtain ⟨i, _, hi, h3⟩ := mem_withP.1 hj
  have e : sf x i = x[i] := by unfold sf; simp [List.getD, hi]
  exact ⟨x[i], List.getElem_mem hi, by rw [← e, h3]; rfl⟩
 ·rintro ⟨z, hz, h3⟩
  obtain ⟨i, hi, rfl⟩ := List.getElem_of_mem hz
  have e : sf x i = x[i] := by unfold sf; simp [List.getD, hi]
  have : (i : Int) ∈ withP x 3 := mem_withP.2 ⟨i, rfl, hi, by rw [e]; exact eq_of_beq h3⟩
  have := List.length_pos_of_mem this
  omega
theorem contf_pref {s : List (List Int)} {x : List Int} (hl : s.length ≤ 1000000) (hs : ∀ y ∈ s, y.length ≤ 1000000) (hx : x.length ≤ 1000000) : slices_ContainsFunc_int_int_s2__m s x = some (s.any fun y => prf y x) := by
 unfold slices_ContainsFunc_int_int_s2__m
 have h : T (slices_IndexFunc_int_int_s2__m s x) fun r => 0 ≤ r ↔ (s.any fun y => prf y x) = true := by
  unfold slices_IndexFunc_int_int_s2__m
  refine indexf_loop (l := s) (fun i hi => ?_) ?_
  ·unfold slices_IndexFunc_int_int_s2__l1
   rw [show decide ((i : Int) < (s.length : Int)) = true by simp [hi], cond_true, idxM_nat hi, iadd64 (by omega) (by omega)]
   simp only [Option.bind_some]
   rw [pref_plain hx (hs _ (List.getElem_mem hi)), some_bind]
   cases prf s[i] x <;> rfl
  ·unfold slices_IndexFunc_int_int_s2__l1; simp
 obtain ⟨r, h1, h2⟩ := h
 rw [h1]; exact cont_of h2
theorem contf_stab {s : List (List Int)} {x : List Int} (hl : s.length ≤ 1000000) (hx : x.length ≤ 1000000) : slices_ContainsFunc_int_int_s3__m s x = some (s.any fun _ => x.any fun z => z == 3) := by
 unfold slices_ContainsFunc_int_int_s3__m
 have h : T (slices_IndexFunc_int_int_s3__m s x) fun r => 0 ≤ r ↔ (s.any fun _ => x.any fun z => z == 3) = true := by
  unfold slices_IndexFunc_int_int_s3__m
  refine indexf_loop (l := s) (fun i hi => ?_) ?_
  ·unfold slices_IndexFunc_int_int_s3__l1
   rw [show decide ((i : Int) < (s.length : Int)) = true by simp [hi], cond_true, idxM_nat hi, iadd64 (by omega) (by omega)]
   simp only [Option.bind_some]
   rw [stab_plain hx, some_bind]
   cases x.any (fun z => z == 3) <;> rfl
  ·unfold slices_IndexFunc_int_int_s3__l1; simp
 obtain ⟨r, h1, h2⟩ := h
 rw [h1]; exact cont_of h2

/-- a loop that keeps some elements -/
theorem keep_loop {s : List (List Int)} {p : List Int → Bool} (hl : s.length ≤ 1000000) {f : Int × List (List Int) → Option (Sum (List (List Int)) (Int × List (List Int)))}
  (hf : ∀ q : Int × List (List Int), f q = bif decide (q.1 < ((s.length : Int))) then Option.bind (idxM s q.1) fun t15 => Option.bind (some (p t15)) fun t16 => bif !t16 then Option.bind (appM 24 q.2 [t15]) fun out17 => some (Sum.inr ((iadd .i64 q.1 1, out17)))
   else some (Sum.inr ((iadd .i64 q.1 1, q.2))) else some (Sum.inl q.2)) : loopC f (0, []) = some (s.filter fun x => !p x) := by
 refine T.eq (T.loopK s.length (fun k q => k ≤ s.length ∧ q = ((k : Int), (s.take k).filter fun x => !p x)) ⟨by omega, by simp⟩ ?_)
 rintro k _ ⟨hk, rfl⟩
 rw [hf]
 dsimp only
 refine T.cond (fun c => ?_) fun c => ?_
 ·have hk2 : k < s.length := by simpa using c
  have tk : s.take (k + 1) = s.take k ++ [s[k]] := by rw [List.take_add_one, List.getElem?_eq_getElem hk2]; rfl
  rw [idxM_nat hk2, some_bind, some_bind, iadd1 (by omega), tk, List.filter_append]
  refine T.cond (fun c2 => ?_) fun c2 => .ret ⟨hk2, hk2, ?_⟩
  ·rw [appM_eq (by have := List.length_filter_le (fun x => !p x) (s.take k); simp at this ⊢; omega), some_bind]
   refine .ret ⟨hk2, hk2, ?_⟩
   rw [List.filter_cons, if_pos c2]; rfl
  ·rw [List.filter_cons, if_neg (by rw [c2]; simp)]; simp
 ·have e : k = s.length := by have : ¬ (k : Int) < s.length := of_decide_eq_false c; omega
  subst e
  exact .ret (by simp)

theorem xin_plain {z : List Int} {n : Nat} (hn : n < z.length) : extension_in_m z (n : Int) = some (sf z n == 1) := by
 unfold extension_in_m
 rw [show decide ((n : Int) ≥ 0) = true by simp, cond_true, show decide ((n : Int) < (z.length : Int)) = true by simp [hn], cond_true, idx_sf hn, some_bind]
theorem some_plain {s : List (List Int)} {n : Nat} (hl : s.length ≤ 1000000) (hs : ∀ z ∈ s, n < z.length) : extension_Some_m s (n : Int) = some (s.any fun z => sf z n == 1) := by
 unfold extension_Some_m slices_ContainsFunc_int_int_s4__m
 have h : T (slices_IndexFunc_int_int_s4__m s (n : Int)) fun r => 0 ≤ r ↔ (s.any fun z => sf z n == 1) = true := by
  unfold slices_IndexFunc_int_int_s4__m
  refine indexf_loop (l := s) (fun i hi => ?_) ?_
  ·unfold slices_IndexFunc_int_int_s4__l1 extension_Some_1_m
   rw [show decide ((i : Int) < (s.length : Int)) = true by simp [hi], cond_true, idxM_nat hi, iadd64 (by omega) (by omega)]
   simp only [Option.bind_some]
   rw [xin_plain (hs _ (List.getElem_mem hi)), some_bind, some_bind]
   cases sf s[i] n == 1 <;> rfl
  ·unfold slices_IndexFunc_int_int_s4__l1; simp
 obtain ⟨r, h1, h2⟩ := h
 rw [h1, cont_of h2, some_bind]
theorem all_plain {s : List (List Int)} {n : Nat} (hl : s.length ≤ 1000000) (hs : ∀ z ∈ s, n < z.length) : extension_All_m s (n : Int) = some (s.all fun z => sf z n == 1) := by
 unfold extension_All_m slices_ContainsFunc_int_int_s5_m
 have h : T (slices_IndexFunc_int_int_s5_m s (n : Int)) fun r => 0 ≤ r ↔ (s.any fun z => !(sf z n == 1)) = true := by
  unfold slices_IndexFunc_int_int_s5_m
  refine indexf_loop (l := s) (fun i hi => ?_) ?_
  ·unfold slices_IndexFunc_int_int_s5_l1 extension_All_1_m
   rw [show decide ((i : Int) < (s.length : Int)) = true by simp [hi], cond_true, idxM_nat hi, iadd64 (by omega) (by omega)]
   simp only [Option.bind_some]
   rw [xin_plain (hs _ (List.getElem_mem hi)), some_bind, some_bind]
   cases !(sf s[i] n == 1) <;> rfl
  ·unfold slices_IndexFunc_int_int_s5_l1; simp
 obtain ⟨r, h1, h2⟩ := h
 rw [h1, cont_of h2, some_bind]
 congr 1
 rw [List.all_eq_not_any_not]

/-- a greatest element -/
theorem max_of {α : Type} {l : List α} (f : α → Nat) (h : l ≠ []) : ∃ y ∈ l, ∀ w ∈ l, f w ≤ f y := by
 induction l with
 | nil => exact absurd rfl h
 | cons a l ih =>
  by_cases hl : l = []
  ·subst hl; exact ⟨a, by simp, by simp⟩
  ·obtain ⟨y, hy, hm⟩ := ih hl
   by_cases hc : f y ≤ f a
   ·exact ⟨a, by simp, fun w hw => by rcases List.mem_cons.1 hw with rfl | hw; exact Nat.le_refl _; exact Nat.le_trans (hm w hw) hc⟩
   ·exact ⟨y, by simp [hy], fun w hw => by rcases List.mem_cons.1 hw with rfl | hw; omega; exact hm w hw⟩
theorem witB_iff {a b : List Int} : witB a b = true ↔ a.length < b.length ∧ ∀ x ∈ a, x ∈ b := by
 unfold witB
 rw [Bool.and_eq_true, decide_eq_true_eq, Bool.not_eq_true', List.any_eq_false]
 refine and_congr_right fun _ => ⟨fun h x hx => ?_, fun h x hx => ?_⟩
 ·have := h x hx
  simp only [Bool.not_eq_true', Bool.not_eq_false, List.any_eq_true, beq_iff_eq] at this
  obtain ⟨y, hy, e⟩ := this
  rw [e]; exact hy
 ·simp only [Bool.not_eq_true', Bool.not_eq_false, List.any_eq_true, beq_iff_eq]
  exact ⟨x, h x hx, rfl⟩
theorem prefs_some {all : List (List Int)} {N n : Nat} (hall : ∀ z ∈ all, z.length = N) (hn : n < N) : ((all.filter fun x => !(all.any fun y => prf y x)).any fun z => sf z n == 1) = all.any fun z => sf z n == 1 := by
 rw [Bool.eq_iff_iff, List.any_eq_true, List.any_eq_true]
 constructor
 ·rintro ⟨z, hz, h1⟩; exact ⟨z, (List.mem_filter.1 hz).1, h1⟩
 ·rintro ⟨z, hz, h1⟩
  obtain ⟨y, hy, hm⟩ := max_of (l := all.filter fun y => (withP z 1).all fun i => (withP y 1).any fun j => j == i) (fun y => (withP y 1).length) (fun e => by
   have : z ∈ all.filter fun y => (withP z 1).all fun i => (withP y 1).any fun j => j == i := List.mem_filter.2 ⟨hz, List.all_eq_true.2 fun i hi => List.any_eq_true.2 ⟨i, hi, by simp⟩⟩
   rw [e] at this; simp at this)
  obtain ⟨hy1, hy2⟩ := List.mem_filter.1 hy
  have sub : ∀ i ∈ withP z 1, i ∈ withP y 1 := fun i hi => by
   obtain ⟨j, hj, e⟩ := List.any_eq_true.1 (List.all_eq_true.1 hy2 i hi)
   rw [← eq_of_beq e]; exact hj
  refine ⟨y, List.mem_filter.2 ⟨hy1, ?_⟩, ?_⟩
  ·rw [Bool.not_eq_true', List.any_eq_false]
   intro w hw hp
   obtain ⟨h2, h3⟩ := witB_iff.1 hp
   have : w ∈ all.filter fun y => (withP z 1).all fun i => (withP y 1).any fun j => j == i := List.mem_filter.2 ⟨hw, List.all_eq_true.2 fun i hi => List.any_eq_true.2 ⟨i, h3 i (sub i hi), by simp⟩⟩
   have := hm w this
   omega
  ·obtain ⟨i, e, _, h4⟩ := mem_withP.1 (sub (n : Int) (mem_withP.2 ⟨n, rfl, by rw [hall z hz]; exact hn, eq_of_beq h1⟩))
   obtain rfl : n = i := by omega
   rw [h4]; rfl

/-- the labellings that a question looks at -/
def useN (q : Int) (z : List Int) : Bool := q == 1 || !(z.any fun x => x == 3)
theorem nvs12 {L : List (List Int)} {n : Int} (hn : n ≤ 12) : nvs L n ≤ 12 := by
 unfold nvs
 rw [← List.countP_eq_length_filter]
 refine Nat.le_trans (List.countP_mono_left (q := fun v : Nat => decide (v ≤ 12)) fun v _ hv => ?_) (by decide +kernel)
 simp only [Bool.and_eq_true, decide_eq_true_eq] at hv ⊢
 omega
theorem holds_of (h : GVal g) {q : Int} {n : Nat} (hn : n < g.N.toNat) {v : T_api_Verdict} (hd : DecR g q n v) {all : List (List Int)} (hall : ∀ z, z ∈ all ↔ Cpl g z) :
  v.Holds = if q = 3 then all.all (fun z => !useN q z || sf z n == 1) else all.any fun z => useN q z && sf z n == 1 := by
 have forU : ∀ z, Cpl g z → useN q z = true → forP g q n z = ((sf z n == 1) == (q != 3)) := fun z hz hu => by
  unfold forP useN at *
  rw [hz.2, hu]; simp
 rcases hd with ⟨y, rfl, hy, hf⟩ | ⟨st, rfl, _, hs⟩
 ·have hc : Cpl g y := ⟨hy, by unfold forP at hf; simp only [Bool.and_eq_true] at hf; exact hf.1.1⟩
  have hu : useN q y = true := by
   unfold forP at hf; simp only [Bool.and_eq_true] at hf
   exact hf.1.2
  have hy1 : (sf y n == 1) = (q != 3) := by
   unfold forP at hf; simp only [Bool.and_eq_true] at hf
   exact eq_of_beq hf.2
  have hm := (hall y).2 hc
  simp only
  by_cases h3 : q = 3
  ·subst h3
   rw [if_pos rfl]
   refine (List.all_eq_false.2 ⟨y, hm, ?_⟩).symm
   rw [hu, hy1]; decide
  ·rw [if_neg h3, show (q != 3) = true by simp [h3]]
   refine (List.any_eq_true.2 ⟨y, hm, ?_⟩).symm
   rw [hu, hy1, show (q != 3) = true by simp [h3]]; rfl
 ·have no : ∀ z, Cpl g z → useN q z = true → ((sf z n == 1) == (q != 3)) = false := fun z hz hu => by
   rw [← forU z hz hu]; exact no_both h hn hs hz.1
  simp only
  by_cases h3 : q = 3
  ·subst h3
   rw [if_pos rfl]
   refine (List.all_eq_true.2 fun z hz => ?_).symm
   cases hu : useN 3 z with
   | false => rfl
   | true =>
    have := no z ((hall z).1 hz) hu
    cases hs : sf z n == 1 with
    | true => rfl
    | false => rw [hs] at this; cases this
  ·rw [if_neg h3, show (q == 3) = false by simp [h3]]
   symm
   rw [List.any_eq_false]
   intro z hz hh
   simp only [Bool.and_eq_true] at hh
   have := no z ((hall z).1 hz) hh.1
   rw [hh.2, show (q != 3) = true by simp [h3]] at this; cases this

theorem law18_VerdictMeans_plain (l : List Int) {p0 : Prop} (_ : p0) : law18_VerdictMeans_m l = some true := by
 refine T.eq ?_
 unfold law18_VerdictMeans_m
 refine T.bind New_plain fun s hs => T.bind (Graph_plain hs (by omega) (by omega)) fun t ⟨h, hN6, hg, _⟩ => ?_
 have hn0 := h.n0; have h40 := h.n1
 have h7 : ∀ p ∈ t.1.L, p.To < 7 := fun p hp => by have := h.v p hp; omega
 obtain ⟨r, er, e0, hnd, hall⟩ := SComplete_plain h (by omega) h7
 have hfew := cpl_few h h7 hnd fun z hz => (hall z).1 hz
 have hlen : ∀ z ∈ r.2, z.length = t.1.N.toNat := fun z hz => ((hall z).1 hz).1.len
 have hle : ∀ z ∈ r.2, z.length ≤ 1000000 := fun z hz => by rw [hlen z hz]; omega
 have eP : extension_Preferred_m t.1 = some (0, r.2.filter fun x => !(r.2.any fun y => prf y x)) := by
  unfold extension_Preferred_m extension_best_m
  rw [er, some_bind, e0, show ((0 : Int) != 0) = false from rfl, cond_false]
  have : loopC (extension_best_l1 r) (0, []) = some (r.2.filter fun x => !(r.2.any fun y => prf y x)) := by
   rw [← keep_loop (s := r.2) (p := fun x => r.2.any fun y => prf y x) (by omega) (f := fun q => bif decide (q.1 < ((r.2.length : Int))) then Option.bind (idxM r.2 q.1) fun t15 => Option.bind (some (r.2.any fun y => prf y t15)) fun t16 => bif !t16 then Option.bind (appM 24 q.2 [t15]) fun out17 => some (Sum.inr ((iadd .i64 q.1 1, out17)))
    else some (Sum.inr ((iadd .i64 q.1 1, q.2))) else some (Sum.inl q.2)) fun q => rfl]
   congr 1
   funext q
   unfold extension_best_l1
   cases decide (q.1 < ((r.2.length : Int))) with
   | false => rfl
   | true =>
    simp only [cond_true]
    cases ei : idxM r.2 q.1 with
    | none => rfl
    | some x =>
     have hx : x ∈ r.2 := by unfold idxM at ei; split at ei; exact List.mem_of_getElem? ei; cases ei
     simp only [Option.bind_some]
     rw [contf_pref (by omega) hle (hle x hx)]; rfl
  rw [this]; rfl
 have eS : extension_Stable_m t.1 = some (0, r.2.filter fun x => !(r.2.any fun _ => x.any fun z => z == 3)) := by
  unfold extension_Stable_m extension_best_s1_m
  rw [er, some_bind, e0, show ((0 : Int) != 0) = false from rfl, cond_false]
  have : loopC (extension_best_s1_l1 r) (0, []) = some (r.2.filter fun x => !(r.2.any fun _ => x.any fun z => z == 3)) := by
   rw [← keep_loop (s := r.2) (p := fun x => r.2.any fun _ => x.any fun z => z == 3) (by omega) (f := fun q => bif decide (q.1 < ((r.2.length : Int))) then Option.bind (idxM r.2 q.1) fun t15 => Option.bind (some (r.2.any fun _ => t15.any fun z => z == 3)) fun t16 => bif !t16 then Option.bind (appM 24 q.2 [t15]) fun out17 => some (Sum.inr ((iadd .i64 q.1 1, out17)))
    else some (Sum.inr ((iadd .i64 q.1 1, q.2))) else some (Sum.inl q.2)) fun q => rfl]
   congr 1
   funext q
   unfold extension_best_s1_l1
   cases decide (q.1 < ((r.2.length : Int))) with
   | false => rfl
   | true =>
    simp only [cond_true]
    cases ei : idxM r.2 q.1 with
    | none => rfl
    | some x =>
     have hx : x ∈ r.2 := by unfold idxM at ei; split at ei; exact List.mem_of_getElem? ei; cases ei
     simp only [Option.bind_some]
     rw [contf_stab (by omega) (hle x hx)]; rfl
  rw [this]; rfl
 rw [eP, some_bind, eS, some_bind, show ((0 : Int) != 0) = false from rfl, cond_false, cond_false]
 refine T.bind (P := fun q => q = .inr ()) ?_ fun q hq => ?_
 ·refine T.loopK t.1.N.toNat (fun k s => k ≤ t.1.N.toNat ∧ s = (k : Int)) ⟨by omega, rfl⟩ ?_
  rintro n _ ⟨hn, rfl⟩
  dsimp only [law18_VerdictMeans_l1]
  refine T.cond (fun c => ?_) fun c => .ret rfl
  have hn2 : n < t.1.N.toNat := by have := of_decide_eq_true c; omega
  have dec : ∀ q : Int, 1 ≤ q → q ≤ 3 → T (verdict_Decide_m t.1 q (n : Int)) fun v => v.2 = 0 ∧ DecR t.1 q n v.1 := fun q h1 h3 => by
   refine (Decide_plain h (by omega) h1 h3 hn2).mono fun v hv => hv.resolve_right fun ⟨_, hb⟩ => ?_
   have := nvs12 (L := encP t.1 q (n : Int)) (n := 2 * t.1.N) (by omega)
   omega
  refine T.bind (dec 1 (by omega) (by omega)) fun v1 ⟨z1, r1⟩ => T.bind (dec 2 (by omega) (by omega)) fun v2 ⟨z2, r2⟩ => T.bind (dec 3 (by omega) (by omega)) fun v3 ⟨z3, r3⟩ => T.bind (Decide4_plain h (by omega) hn2) fun v4 ⟨z4, L, R, e4, ha⟩ => ?_
  have hLl := ha.1.len
  have pl : ∀ z ∈ r.2.filter (fun x => !(r.2.any fun y => prf y x)), n < z.length := fun z hz => by rw [hlen z (List.mem_filter.1 hz).1]; exact hn2
  have sl : ∀ z ∈ r.2.filter (fun x => !(r.2.any fun _ => x.any fun z => z == 3)), n < z.length := fun z hz => by rw [hlen z (List.mem_filter.1 hz).1]; exact hn2
  have fl : ∀ p : List Int → Bool, (r.2.filter p).length ≤ 1000000 := fun p => Nat.le_trans (List.length_filter_le _ _) (by omega)
  have h1 : v1.1.Holds = ((r.2.filter fun x => !(r.2.any fun y => prf y x)).any fun z => sf z n == 1) := by
   rw [prefs_some hlen hn2, holds_of h hn2 r1 hall, if_neg (by omega)]
   exact any_cg fun z _ => by show (true && _) = _; rw [Bool.true_and]
  have st : ∀ z ∈ r.2, useN 2 z = !(r.2.any fun _ => z.any fun z => z == 3) := fun z hz => by
   unfold useN
   rw [show ((2 : Int) == 1) = false from rfl, Bool.false_or]
   cases hb : z.any fun z => z == 3 with
   | false => rw [show (r.2.any fun _ => false) = false from List.any_eq_false.2 fun _ _ h => by cases h]
   | true => rw [show (r.2.any fun _ => true) = true from List.any_eq_true.2 ⟨z, hz, rfl⟩]
  have st3 : ∀ z, useN 3 z = useN 2 z := fun z => rfl
  have h2 : v2.1.Holds = ((r.2.filter fun x => !(r.2.any fun _ => x.any fun z => z == 3)).any fun z => sf z n == 1) := by
   rw [holds_of h hn2 r2 hall, if_neg (by omega), List.any_filter]
   exact any_cg fun z hz => by rw [st z hz]
  have h3 : v3.1.Holds = ((r.2.filter fun x => !(r.2.any fun _ => x.any fun z => z == 3)).all fun z => sf z n == 1) := by
   rw [holds_of h hn2 r3 hall, if_pos rfl, List.all_filter]
   exact all_cg fun z hz => by
    rw [st3, st z hz]
  have e4h : v4.1.Holds = (sf L n == 1) := by rw [e4]
  have e4l : v4.1.Labels = L := by rw [e4]
  have hLC : T (labelling_IsComplete_m t.1 L) fun b => b = true := (LComplete_plain h (by omega) (by omega)).mono fun b hb => hb.2 ⟨ha.1, ha.2.2.1⟩
  have hLN : (((L.length : Int) : Int) != t.1.N) = false := by rw [bne_eq_false_iff_eq]; omega
  rw [z1, z2, z3, z4, show ((0 : Int) != 0) = false from rfl, cond_false, cond_false, cond_false, cond_false, some_plain (fl _) pl, some_bind, h1, show ∀ b : Bool, (!(b == b)) = false from fun b => by cases b <;> rfl, cond_false, some_plain (fl _) sl, some_bind, h2, show ∀ b : Bool, (!(b == b)) = false from fun b => by cases b <;> rfl, cond_false,
   all_plain (fl _) sl, some_bind, h3, show ∀ b : Bool, (!(b == b)) = false from fun b => by cases b <;> rfl, cond_false, e4h, e4l, hLN, cond_false]
  have tail : T (Option.bind (labelling_IsComplete_m t.1 L) fun t51 => bif !t51 then (some (Sum.inl (Sum.inl false)) : Option (Sum (Sum Bool Unit) Int)) else Option.bind (idxM L (n : Int)) fun t52 => bif !((sf L n == 1) == ((t52 : Int) == 1)) then some (Sum.inl (Sum.inl false)) else some (Sum.inr (iadd .i64 (n : Int) 1)))
    (onO (fun q => q = .inr ()) fun s => n < t.1.N.toNat ∧ n + 1 ≤ t.1.N.toNat ∧ s = ((n + 1 : Nat) : Int)) := by
   refine T.bind hLC fun b hb => ?_
   subst hb
   rw [show (!true) = false from rfl, cond_false, idx_sf (by omega), some_bind, show ∀ b : Bool, (!(b == b)) = false from fun b => by cases b <;> rfl, cond_false, iadd1 (by omega)]
   exact .ret ⟨hn2, hn2, rfl⟩
  refine T.cond (fun c4 => ?_) fun c4 => ?_
  ·have ea : ((r.2.filter fun x => !(r.2.any fun y => prf y x)).all fun z => sf z n == 1) = true := List.all_eq_true.2 fun z hz => by
    have hz' := (hall z).1 (List.mem_filter.1 hz).1
    rw [acc_sub h ha hz'.1 hz'.2 n hn2 (eq_of_beq c4)]; rfl
   rw [all_plain (fl _) pl, some_bind, ea, show (!true) = false from rfl, cond_false]
   rw [c4] at tail ⊢
   exact tail
  ·rw [c4] at tail ⊢
   exact tail
 ·subst hq
  rw [sumK_inr, awake18, some_bind]
  exact .ret rfl
end Go.Dc
