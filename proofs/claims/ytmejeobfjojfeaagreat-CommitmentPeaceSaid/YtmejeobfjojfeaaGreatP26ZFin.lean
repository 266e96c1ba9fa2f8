/- Part P26Z.Fin of a proof: lemmas. -/
import Derived.Test.YtmejeobfjojfeaaGreatLAW26ZF
import Derived.Test.YtmejeobfjojfeaaGreatMFuelM
import Derived.Test.YtmejeobfjojfeaaGreatDcLend
namespace Go.Dc
theorem awake26 : law26_awake_m = some true := law26_awake_f_le (k_ := 60) _ (by decide +kernel)
end Go.Dc

set_option linter.unusedVariables false
set_option linter.unusedSimpArgs false
set_option linter.unusedSectionVars false
namespace Go.Dc

variable {L : List Sl}
theorem awake_T : T law26_awake_m fun r => r = true := ⟨true, awake26, rfl⟩
theorem peace_l1 (hO : OkA L) {m2 : Int × T_deliberationkeep_Src} {s3 : T_deliberationkeep_Src} (hl : (L.length : Int) = m2.1) {d : List Li} {i : Nat} (hi : i < d.length) (h1 : ∃ l ∈ L, hasC l d[i] = true) (h2 : ∃ l ∈ L, hasC l (cmpl d[i]) = true) :
  T (loopC (law26_CommitmentPeace_l1 m2 (⟨L⟩, s3) d (i : Int)) (-1, -1, 0)) fun q => ∃ a b : Nat, q = ((a : Int), (b : Int)) ∧ ∃ ha : a < L.length, ∃ hb : b < L.length, hasC L[a] d[i] = true ∧ hasC L[b] (cmpl d[i]) = true := by
 have hn := hO.n
 refine T.loopK L.length (fun k s => s.2.2 = (k : Int) ∧ k ≤ L.length ∧ ((s.1 = -1 ∧ ∀ j, j < k → (hj : j < L.length) → hasC L[j] d[i] = false) ∨ (∃ a : Nat, ∃ ha : a < L.length, s.1 = (a : Int) ∧ hasC L[a] d[i] = true)) ∧ ((s.2.1 = -1 ∧ ∀ j, j < k → (hj : j < L.length) → hasC L[j] (cmpl d[i]) = false) ∨ (∃ b : Nat, ∃ hb : b < L.length, s.2.1 = (b : Int) ∧ hasC L[b] (cmpl d[i]) = true))) ⟨rfl, by omega, .inl ⟨rfl, by omega⟩, .inl ⟨rfl, by omega⟩⟩ ?_
 rintro k ⟨p, q, _⟩ ⟨rfl, hk, hp, hq⟩
 dsimp only at hp hq
 unfold law26_CommitmentPeace_l1
 dsimp only
 refine T.cond (fun g => ?_) fun g => ?_
 ·have hk2 : k < L.length := by have := of_decide_eq_true g; omega
  have step : ∀ {y : Li} {j : Nat}, True := fun {y j} => trivial
  refine T.joinP (fun j => ((j = -1 ∧ ∀ m, m < k + 1 → (hm : m < L.length) → hasC L[m] d[i] = false) ∨ (∃ a : Nat, ∃ ha : a < L.length, j = (a : Int) ∧ hasC L[a] d[i] = true))) (fun j hj => ?_) fun kk hkk => ?_
  rotate_left
  ·rw [idxM_nat hi, some_bind, has_nat hO hk2, some_bind]
   refine T.cond (fun e => hkk _ (.inr ⟨k, hk2, rfl, e⟩)) fun e => hkk _ ?_
   rcases hp with ⟨h3, h4⟩ | h3
   ·refine .inl ⟨h3, fun m hm hml => ?_⟩
    rcases Nat.lt_or_ge m k with w | w
    ·exact h4 m w hml
    ·have : m = k := by omega
     subst this; exact e
   ·exact .inr h3
  ·rw [idxM_nat hi, some_bind, some_bind]
   have e : ref26_Has_m ⟨L⟩ (k : Int) (T_api_Literal.mk (!d[i].Neg) d[i].Name) = some (hasC L[k] (cmpl d[i])) := has_nat hO hk2 (cmpl d[i])
   rw [e, some_bind, iaddS (by omega)]
   refine T.cond (fun e => .ret ⟨hk2, rfl, hk2, hj, .inr ⟨k, hk2, rfl, e⟩⟩) fun e => .ret ⟨hk2, rfl, hk2, hj, ?_⟩
   rcases hq with ⟨h3, h4⟩ | h3
   ·refine .inl ⟨h3, fun m hm hml => ?_⟩
    rcases Nat.lt_or_ge m k with w | w
    ·exact h4 m w hml
    ·have : m = k := by omega
     subst this; exact e
   ·exact .inr h3
 ·have hk2 : L.length ≤ k := by have := of_decide_eq_false g; omega
  obtain ⟨l1, hl1, e1⟩ := h1
  obtain ⟨j1, hj1, rfl⟩ := List.getElem_of_mem hl1
  obtain ⟨l2, hl2, e2⟩ := h2
  obtain ⟨j2, hj2, rfl⟩ := List.getElem_of_mem hl2
  rcases hp with ⟨_, h4⟩ | ⟨a, ha, rfl, ea⟩
  ·rw [h4 j1 (by omega) hj1] at e1; cases e1
  ·rcases hq with ⟨_, h4⟩ | ⟨b, hb, rfl, eb⟩
   ·rw [h4 j2 (by omega) hj2] at e2; cases e2
   ·exact .ret ⟨a, b, rfl, ha, hb, ea, eb⟩
theorem lit_name {a b : Li} (h : a.Name = b.Name) : a = b ∨ a = cmpl b := by
 cases a; cases b
 rename_i n1 m1 n2 m2
 dsimp only at h
 subst h
 cases n1 <;> cases n2 <;> simp [cmpl]
theorem peace_T (l : List Int) : T (law26_CommitmentPeace_m l) fun r => r = true := by
 unfold law26_CommitmentPeace_m
 refine T.bind New_plain fun s1 h1 => ?_
 refine T.bind (Range_plain h1 (by omega) (by omega) (by omega)) fun m2 ⟨h2, n1, n2⟩ => ?_
 refine T.bind (made_plain h2 (by omega) (by omega)) fun t3 ⟨h3, hM⟩ => ?_
 obtain ⟨⟨L⟩, s3⟩ := t3
 dsimp only at hM h3 ⊢
 have hO := hM.ok
 have hlen := hM.len
 have hn := hO.n
 refine T.bind (common_p hO.bd) fun c hc => ?_
 refine T.bind (disp_p hO.bd) fun d hd => ?_
 have hc : ComP L c := by
  rcases hc with ⟨q, _⟩ | ⟨_, q⟩
  ·exact absurd (vcode_zero.2 hO) q
  ·exact q
 have hd : DisP L d := by
  rcases hd with ⟨q, _⟩ | ⟨_, q⟩
  ·exact absurd (vcode_zero.2 hO) q
  ·exact q
 have hcl := hc.len
 have hdl := hd.len
 have hboth : ∀ k, (hk : k < L.length) → ∀ y, hasC L[k] y = true → hasC L[k] (cmpl y) = true → False := fun k hk y e1 e2 => by
  have := no_cmpl (hO.ok _ (List.getElem_mem hk)) e1
  rw [e2] at this; cases this
 refine T.bind (P := fun o : Sum Bool Unit => match o with | .inl r => r = true | .inr _ => True) ?_ fun o ho => ?_
 ·refine T.loopK d.length (fun k s => s = (k : Int) ∧ k ≤ d.length) ⟨rfl, by omega⟩ ?_
  rintro k _ ⟨rfl, hk⟩
  unfold law26_CommitmentPeace_l3
  refine T.cond (fun g => ?_) fun g => .ret trivial
  have hk2 : k < d.length := by have := of_decide_eq_true g; omega
  obtain ⟨m1, m3⟩ := (hd.mem _).1 (List.getElem_mem hk2)
  refine T.joinP (fun _ => True) (fun j _ => ?_) fun kk hkk => ?_
  rotate_left
  ·refine T.cond (fun g2 => ?_) fun g2 => hkk _ trivial
   have hk0 : 0 < k := by have := of_decide_eq_true g2; omega
   rw [isubS (by omega), show (k : Int) - 1 = ((k - 1 : Nat) : Int) by omega, idxM_nat (by omega), some_bind, idxM_nat hk2, some_bind, rcmp_eq, some_bind]
   have := List.pairwise_iff_getElem.1 hd.asc (k - 1) k (by omega) hk2 (by omega)
   rw [decide_eq_false (by have := cmpR_lt.2 this; omega), cond_false]
   exact hkk _ trivial
  ·refine T.bind (peace_l1 hO hlen hk2 m1 m3) fun q hq => ?_
   obtain ⟨a, b, rfl, ha, hb, ea, eb⟩ := hq
   have hab : a ≠ b := fun e => by subst e; exact hboth a ha _ ea eb
   dsimp only
   rw [decide_eq_false (by omega), cond_false, decide_eq_false (by omega), cond_false, show (((a : Nat) : Int) == ((b : Nat) : Int)) = false from beq_eq_false_iff_ne.2 (by omega), cond_false]
   have hl2 : loopC (law26_CommitmentPeace_l2 c d (k : Int)) 0 = some (.inr ()) := by
    refine all_loop (n := c.length) (fun i hi => ?_) ?_
    ·unfold law26_CommitmentPeace_l2
     rw [decide_eq_true (by omega), cond_true, idxM_nat hi, some_bind, idxM_nat hk2, some_bind, iaddS (by omega)]
     have : (c[i].Name.toList == d[k].Name.toList) = false := by
      refine beq_eq_false_iff_ne.2 fun e => ?_
      have hall := ((hc.mem _).1 (List.getElem_mem hi)).2
      rcases lit_name (ba_inj.1 e) with q | q
      ·have := hall _ (List.getElem_mem hb)
       rw [q] at this
       exact hboth b hb _ this eb
      ·have := hall _ (List.getElem_mem ha)
       rw [q] at this
       exact hboth a ha _ ea this
     rw [this, cond_false]
    ·unfold law26_CommitmentPeace_l2
     rw [decide_eq_false (by omega), cond_false]
   rw [hl2, some_bind, sumK_inr, iaddS (by omega)]
   exact .ret ⟨hk2, rfl, hk2⟩
 ·rcases o with r | u
  ·exact .ret ho
  ·exact T.bind awake_T fun t ht => .ret ht
theorem peace_plain (l : List Int) : law26_CommitmentPeace_m l = some true := (peace_T l).eq
end Go.Dc

namespace Go.Dc
theorem law26_CommitmentPeace_plain (l : List Int) {p0 : Prop} (_ : p0) : law26_CommitmentPeace_m l = some true := peace_plain l
end Go.Dc
