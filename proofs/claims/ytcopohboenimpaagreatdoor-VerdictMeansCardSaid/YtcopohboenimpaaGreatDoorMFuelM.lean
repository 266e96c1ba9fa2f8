/- Part M.FuelM of a proof: lemmas. -/
import Derived.Test.YtcopohboenimpaaGreatDoorP18Look
import Derived.Test.YtcopohboenimpaaGreatDoorMAsk
import Derived.Test.YtcopohboenimpaaGreatDoorMBridgeM
set_option linter.unusedVariables false
set_option linter.unusedSimpArgs false
set_option linter.unusedSectionVars false
/-! What a search has learned. -/
namespace Go.Dc

def occ (L : List (List Int)) (v : Nat) : Bool := L.any fun c => c.contains (v : Int) || c.contains (-(v : Int))
theorem occ_of {L : List (List Int)} {c : List Int} {x : Int} (hc : c ∈ L) (hx : x ∈ c) : occ L x.natAbs = true := by
 unfold occ
 refine List.any_eq_true.2 ⟨c, hc, ?_⟩
 simp only [Bool.or_eq_true, List.contains_iff_mem]
 by_cases h : 0 ≤ x
 ·left; rw [show ((x.natAbs : Nat) : Int) = x by omega]; exact hx
 ·right; rw [show -((x.natAbs : Nat) : Int) = x by omega]; exact hx
/-- how many variables there are -/
def nvs (L : List (List Int)) (n : Int) : Nat := ((List.range' 1 200).filter fun v : Nat => decide ((v : Int) ≤ n) && occ L v).length
/-- how many of them are open -/
def opn (L : List (List Int)) (V : List Int) : Nat := ((List.range' 1 200).filter fun v => decide (V.getD (v - 1) 1 = 0) && occ L v).length

theorem filter_le {α : Type} {p q : α → Bool} : ∀ {l : List α}, (∀ a ∈ l, p a = true → q a = true) → (l.filter p).length ≤ (l.filter q).length
 | [], _ => by simp
 | a :: l, h => by
  have ih := filter_le (p := p) (q := q) (l := l) fun b hb => h b (by simp [hb])
  have ha := h a (by simp)
  cases hp : p a <;> cases hq : q a
  ·rw [List.filter_cons_of_neg (by simp [hp]), List.filter_cons_of_neg (by simp [hq])]; exact ih
  ·rw [List.filter_cons_of_neg (by simp [hp]), List.filter_cons_of_pos (by simp [hq]), List.length_cons]; omega
  ·rw [ha hp] at hq; cases hq
  ·rw [List.filter_cons_of_pos (by simp [hp]), List.filter_cons_of_pos (by simp [hq]), List.length_cons, List.length_cons]; omega
theorem filter_lt {α : Type} {p q : α → Bool} : ∀ {l : List α}, (∀ a ∈ l, p a = true → q a = true) → (∃ a ∈ l, q a = true ∧ p a = false) → (l.filter p).length < (l.filter q).length
 | [], _, ⟨a, h, _⟩ => by simp at h
 | a :: l, h, ⟨b, hb, h1, h2⟩ => by
  have hr : ∀ c ∈ l, p c = true → q c = true := fun c hc => h c (by simp [hc])
  have ih := filter_le hr
  have ha := h a (by simp)
  rcases List.mem_cons.1 hb with e | hb
  ·subst e
   rw [List.filter_cons_of_neg (by simp [h2]), List.filter_cons_of_pos (by simp [h1]), List.length_cons]; omega
  ·have ih2 := filter_lt hr ⟨b, hb, h1, h2⟩
   cases hp : p a <;> cases hq : q a
   ·rw [List.filter_cons_of_neg (by simp [hp]), List.filter_cons_of_neg (by simp [hq])]; exact ih2
   ·rw [List.filter_cons_of_neg (by simp [hp]), List.filter_cons_of_pos (by simp [hq]), List.length_cons]; omega
   ·rw [ha hp] at hq; cases hq
   ·rw [List.filter_cons_of_pos (by simp [hp]), List.filter_cons_of_pos (by simp [hq]), List.length_cons, List.length_cons]; omega

theorem opn_le {L : List (List Int)} {V : List Int} {n : Int} (h : (V.length : Int) = n) : opn L V ≤ nvs L n := by
 unfold opn nvs
 refine filter_le fun v hv h1 => ?_
 simp only [Bool.and_eq_true, decide_eq_true_eq] at h1 ⊢
 refine ⟨?_, h1.2⟩
 by_cases hl : v - 1 < V.length
 ·omega
 ·have : V.getD (v - 1) 1 = 1 := by simp [List.getD, List.getElem?_eq_none (show V.length ≤ v - 1 by omega)]
  rw [this] at h1
  exact absurd h1.1 (by decide)
theorem opn_lt {L : List (List Int)} {V : List Int} {n x : Int} (hl : (V.length : Int) = n) (hn : n ≤ 200) (h0 : x ≠ 0) (h1 : -n ≤ x) (h2 : x ≤ n) (ho : occ L x.natAbs = true) (hv : valP V x = 0) : opn L (setP V x 1) < opn L V := by
 unfold opn
 have hi : x.natAbs - 1 < V.length := by omega
 have hg : ∀ z : Int, V.getD (x.natAbs - 1) z = 0 := fun z => by
  unfold valP at hv
  have : V.getD (x.natAbs - 1) 0 = 0 := by split at hv <;> omega
  simpa [List.getD, hi] using this
 refine filter_lt (fun v _ h => ?_) ⟨x.natAbs, List.mem_range'_1.2 ⟨by omega, by omega⟩, ?_, ?_⟩
 ·simp only [Bool.and_eq_true, decide_eq_true_eq] at h ⊢
  refine ⟨?_, h.2⟩
  have h3 := h.1
  unfold setP at h3
  rw [getD_set hi] at h3
  split at h3
  ·rename_i e; rw [← e]; exact hg 1
  ·exact h3
 ·simp only [Bool.and_eq_true, decide_eq_true_eq]; exact ⟨hg 1, ho⟩
 ·unfold setP
  rw [getD_set hi, if_pos rfl]
  have : (if x < 0 then -(1 : Int) else 1) ≠ 0 := by split <;> omega
  simp [this]

/-! ### steps -/
def StepOk (m : Nat) (C : List (List Int)) (j : Nat) (s : T_api_Step) : Prop :=
 0 ≤ s.Left ∧ s.Left < ((m + j : Nat) : Int) ∧ 0 ≤ s.Right ∧ s.Right < ((m + j : Nat) : Int) ∧ ResolveP (C.getD s.Left.toNat []) (C.getD s.Right.toNat []) s.Pivot = (true, C.getD (m + j) [])
structure CInv (n : Int) (L C : List (List Int)) (K : List (ByteArray × Int)) (S : List T_api_Step) : Prop where
 n0 : 0 ≤ n
 n1 : n ≤ 200
 lenL : L.length ≤ 4000
 lenC : C.length = L.length + S.length
 lenS : S.length ≤ 20000
 pre : ∀ i, i < L.length → C.getD i [] = L.getD i []
 ok : ∀ c ∈ C, COk n c
 oc : ∀ c ∈ C, ∀ x ∈ c, occ L x.natAbs = true
 stp : ∀ j (hj : j < S.length), StepOk L.length C j S[j]
 kn : ∀ p ∈ K, 0 ≤ p.2 ∧ p.2 < C.length ∧ keyM (C.getD p.2.toNat []) = some p.1

theorem getD_app {α : Type} {C : List α} {c z : α} {i : Nat} (h : i < C.length) : (C ++ [c]).getD i z = C.getD i z := by
 simp [List.getD, List.getElem?_append_left h]
theorem getD_last {α : Type} {C : List α} {c z : α} : (C ++ [c]).getD C.length z = c := by simp [List.getD]
theorem getD_mem {α : Type} {C : List α} {z : α} {i : Nat} (h : i < C.length) : C.getD i z ∈ C := by
 simp only [List.getD, List.getElem?_eq_getElem h, Option.getD_some]; exact List.getElem_mem h

theorem COk.abs {n : Int} {c : List Int} (h : COk n c) (hn : n ≤ 200) {x : Int} (hx : x ∈ c) : x.natAbs ≤ 200 := by have := h.rng x hx; omega

theorem CInv.add {n : Int} {L C : List (List Int)} {K : List (ByteArray × Int)} {S : List T_api_Step} (h : CInv n L C K S) (hs : S.length < 20000) {i k p : Int} {c : List Int} {t : ByteArray}
  (hi0 : 0 ≤ i) (hi : i < C.length) (hk0 : 0 ≤ k) (hk : k < C.length) (hr : ResolveP (C.getD i.toNat []) (C.getD k.toNat []) p = (true, c)) (ht : keyM c = some t) :
  CInv n L (C ++ [c]) (mapPut K t (C.length : Int)) (S ++ [⟨i, k, p⟩]) := by
 obtain ⟨r1, r2, r3, r4, r5, r6, r7⟩ := ResolveP_true hr
 have hic : C.getD i.toNat [] ∈ C := getD_mem (by omega)
 have hkc : C.getD k.toNat [] ∈ C := getD_mem (by omega)
 have hcm : ∀ x ∈ c, x ∈ C.getD i.toNat [] ∨ x ∈ C.getD k.toNat [] := fun x hx => (mem_lits.1 ((r7 x).1 hx)).1
 have hcok : COk n c := ⟨r6.len, fun x hx => by
  rcases hcm x hx with h1 | h1
  ·exact (h.ok _ hic).rng x h1
  ·exact (h.ok _ hkc).rng x h1, r6.asc⟩
 have hlC := h.lenC
 refine ⟨h.n0, h.n1, h.lenL, by simp; omega, by simp; omega, fun j hj => by rw [getD_app (by omega)]; exact h.pre j hj, fun d hd => ?_, fun d hd x hx => ?_, fun j hj => ?_, fun q hq => ?_⟩
 ·rcases List.mem_append.1 hd with h1 | h1
  ·exact h.ok d h1
  ·rw [List.mem_singleton.1 h1]; exact hcok
 ·rcases List.mem_append.1 hd with h1 | h1
  ·exact h.oc d h1 x hx
  ·rw [List.mem_singleton.1 h1] at hx
   rcases hcm x hx with h2 | h2
   ·exact h.oc _ hic x h2
   ·exact h.oc _ hkc x h2
 ·by_cases e : j < S.length
  ·rw [List.getElem_append_left e]
   obtain ⟨q1, q2, q3, q4, q5⟩ := h.stp j e
   refine ⟨q1, q2, q3, q4, ?_⟩
   rw [getD_app (by omega), getD_app (by omega), getD_app (by omega)]; exact q5
  ·have e2 : j = S.length := by simp at hj; omega
   subst e2
   rw [List.getElem_append_right (Nat.le_refl _)]
   simp only [Nat.sub_self, List.getElem_cons_zero]
   refine ⟨hi0, by dsimp only; omega, hk0, by dsimp only; omega, ?_⟩
   dsimp only
   rw [getD_app (by omega), getD_app (by omega), ← hlC, getD_last]; exact hr
 ·rcases mapPut_mem hq with h1 | h1
  ·obtain ⟨q1, q2, q3⟩ := h.kn q h1
   refine ⟨q1, by simp; omega, ?_⟩
   rw [getD_app (by omega)]; exact q3
  ·subst h1
   refine ⟨by dsimp only; omega, by dsimp only; simp only [List.length_append, List.length_cons, List.length_nil]; omega, ?_⟩
   dsimp only
   rw [Int.toNat_natCast, getD_last]; exact ht

theorem outR_nvs {n : Int} {L : List (List Int)} {X : List Int} (h : ∀ x ∈ X, (x.natAbs : Int) ≤ n ∧ occ L x.natAbs = true) : (outR X).length ≤ nvs L n := by
 unfold outR nvs
 suffices hh : ∀ l : List Nat, (l.filterMap (pickV X)).length ≤ (l.filter fun v : Nat => decide ((v : Int) ≤ n) && occ L v).length from hh _
 intro l
 induction l with
 | nil => simp
 | cons v l ih =>
  cases hp : pickV X v with
  | none =>
   rw [List.filterMap_cons_none hp]
   refine Nat.le_trans ih ?_
   cases hq : (decide ((v : Int) ≤ n) && occ L v) with
   | true => rw [List.filter_cons_of_pos (by simpa using hq), List.length_cons]; omega
   | false => rw [List.filter_cons_of_neg (by simpa using hq)]; exact Nat.le_refl _
  | some x =>
   obtain ⟨h1, h2⟩ := pickV_abs hp
   have h3 := h x h2
   rw [h1] at h3
   rw [List.filterMap_cons_some hp, List.filter_cons_of_pos (by simp [h3]), List.length_cons, List.length_cons]
   omega

/-- what learn returns -/
structure LPost (n : Int) (L : List (List Int)) (V : List Int) (C : List (List Int)) (S : List T_api_Step) (nd : Int) (r : Int × List (ByteArray × Int) × Int × Bool × List (List Int) × List T_api_Step) : Prop where
 inv : CInv n L r.2.2.2.2.1 r.2.1 r.2.2.2.2.2
 nd : r.2.2.1 = nd
 lenC : C.length ≤ r.2.2.2.2.1.length
 lenS : r.2.2.2.2.2.length ≤ S.length + 1
 ext : ∀ i, i < C.length → r.2.2.2.2.1.getD i [] = C.getD i []
 sure : S.length < 20000 → nvs L n ≤ 50 → r.2.2.2.1 = false
 res : r.2.2.2.1 = false → 0 ≤ r.1 ∧ r.1 < r.2.2.2.2.1.length ∧ FalC V (r.2.2.2.2.1.getD r.1.toNat []) ∧ ∀ i, i < r.2.2.2.2.1.length → r.2.2.2.2.1.getD i [] = [] → (i : Int) = r.1 ∧ i + 1 = r.2.2.2.2.1.length

theorem learn_plain {n : Int} {L : List (List Int)} {V : List Int} {C : List (List Int)} {K : List (ByteArray × Int)} {S : List T_api_Step} {nd : Int} (hI : CInv n L C K S) (hV : VV n V) (hne : ∀ c ∈ C, c ≠ [])
  {i k x : Int} (h0 : x ≠ 0) (hi0 : 0 ≤ i) (hi : i < C.length) (hk0 : 0 ≤ k) (hk : k < C.length) (hix : x ∈ C.getD i.toNat []) (hkx : -x ∈ C.getD k.toNat [])
  (hiF : ∀ y ∈ C.getD i.toNat [], y = x ∨ valP V y = -1) (hkF : ∀ y ∈ C.getD k.toNat [], y = -x ∨ valP V y = -1) :
  T (proof_search_learn_m V C K S nd false i k x) (LPost n L V C S nd) := by
 have hn0 := hI.n0
 have hn1 := hI.n1
 have hlC := hI.lenC
 have hlL := hI.lenL
 have hlS := hI.lenS
 have hxr := (hI.ok _ (getD_mem (z := []) (show i.toNat < C.length by omega))).rng x hix
 unfold proof_search_learn_m
 -- the two ways
 refine T.joinP (P := fun j => 0 ≤ j.1 ∧ j.1 < C.length ∧ 0 ≤ j.2.1 ∧ j.2.1 < C.length ∧ 0 < j.2.2 ∧ j.2.2 ∈ C.getD j.1.toNat [] ∧ -j.2.2 ∈ C.getD j.2.1.toNat [] ∧ (∀ y ∈ C.getD j.1.toNat [], y = j.2.2 ∨ valP V y = -1) ∧ (∀ y ∈ C.getD j.2.1.toNat [], y = -j.2.2 ∨ valP V y = -1)) ?_ ?_
 rotate_left
 ·intro kk hkk
  refine T.cond (fun h => hkk _ ?_) fun h => hkk _ ?_
  ·have h := of_decide_eq_true h
   rw [ineg64 (by omega) (by omega)]
   refine ⟨hk0, hk, hi0, hi, by dsimp only; omega, hkx, by dsimp only; rw [Int.neg_neg]; exact hix, hkF, fun y hy => ?_⟩
   dsimp only; rw [Int.neg_neg]; exact hiF y hy
  ·have h := of_decide_eq_false h
   exact ⟨hi0, hi, hk0, hk, by dsimp only; omega, hix, hkx, hiF, hkF⟩
 rintro ⟨a, b, p⟩ ⟨a0, a1, b0, b1, p0, pa, pb, fa, fb⟩
 dsimp only at a0 a1 b0 b1 p0 pa pb fa fb ⊢
 have hac : C.getD a.toNat [] ∈ C := getD_mem (by omega)
 have hbc : C.getD b.toNat [] ∈ C := getD_mem (by omega)
 rw [idxM_getD' [] a0 a1, some_bind, idxM_getD' [] b0 b1, some_bind, Resolve_plain, some_bind]
 generalize hA : C.getD a.toNat [] = A at *
 generalize hB : C.getD b.toNat [] = B at *
 have c200 : ∀ c ∈ C, COk 200 c := fun c hc => ⟨(hI.ok c hc).len, fun x hx => by have := (hI.ok c hc).rng x hx; omega, (hI.ok c hc).asc⟩
 have hlit : ∀ y ∈ litsR A B p, valP V y = -1 ∧ y ≠ 0 ∧ (y.natAbs : Int) ≤ n ∧ occ L y.natAbs = true := fun y hy => by
  obtain ⟨h1, h2⟩ := mem_lits.1 hy
  rcases h1 with h1 | h1
  ·have h3 := (hI.ok _ hac).rng y h1
   refine ⟨(fa y h1).resolve_left (by omega), by omega, by omega, hI.oc _ hac y h1⟩
  ·have h3 := (hI.ok _ hbc).rng y h1
   refine ⟨(fb y h1).resolve_left (by omega), by omega, by omega, hI.oc _ hbc y h1⟩
 have htaut : ∀ y ∈ litsR A B p, -y ∉ litsR A B p := fun y hy hy2 => by
  have h1 := hlit y hy
  have h2 := (hlit _ hy2).1
  rw [valP_neg h1.2.1] at h2
  omega
 have hshort : (outR (litsR A B p)).length ≤ nvs L n := outR_nvs fun y hy => (hlit y hy).2.2
 refine T.joinP (P := fun j => (j = true → S.length = 20000 ∨ 50 < nvs L n) ∧ (j = false → S.length < 20000 ∧ ResolveP A B p = (true, (ResolveP A B p).2))) ?_ ?_
 rotate_left
 ·intro kk hkk
  refine T.cond (fun h => hkk _ ⟨fun _ => .inr ?_, fun h => by cases h⟩) fun h => hkk _ ⟨fun h1 => .inl ?_, fun h1 => ⟨?_, ?_⟩⟩
  ·refine Nat.lt_of_not_le fun hle => ?_
   rw [ResolveP_some (by omega) (c200 _ hac) (c200 _ hbc) pa pb htaut (by omega)] at h
   cases h
  ·have := eq_of_beq h1; omega
  ·have : ¬ (S.length : Int) = 20000 := fun e => by rw [e] at h1; cases h1
   omega
  ·have h2 : (ResolveP A B p).1 = true := by cases hh : (ResolveP A B p).1 <;> rw [hh] at h <;> first | rfl | cases h
   rw [← h2]
 rintro j ⟨j1, j2⟩
 refine T.cond (fun h => .ret ?_) fun h => ?_
 ·refine ⟨hI, rfl, Nat.le_refl _, by dsimp only; omega, fun i hi => rfl, fun h1 h2 => ?_, fun h => by cases h⟩
  rcases j1 h with h3 | h3
  ·omega
  ·omega
 obtain ⟨hS, hR⟩ := j2 h
 generalize (ResolveP A B p).2 = c at hR ⊢
 rw [← hA, ← hB] at hR
 have hR' := ResolveP_true hR
 rw [hA, hB] at hR'
 obtain ⟨r1, r2, r3, r4, r5, r6, r7⟩ := hR'
 have hcF : FalC V c := fun y hy => (hlit y ((r7 y).1 hy)).1
 have hcabs : ∀ y ∈ c, y.natAbs ≤ 200 := fun y hy => by have := (hlit y ((r7 y).1 hy)).2.2.1; omega
 obtain ⟨t, ht⟩ : ∃ t, keyM c = some t := ⟨_, keyM_some r6.len hcabs⟩
 rw [ht, some_bind]
 refine T.joinP (P := fun _ => True) ?_ ?_
 ·intro _ _
  rw [appM_eq (by simp; omega), some_bind, appM_eq (by simp; omega), some_bind]
  have hlen : isub .i64 (((C ++ [c]).length : Nat) : Int) 1 = (C.length : Int) := by
   have e : (((C ++ [c]).length : Nat) : Int) = C.length + 1 := by simp
   rw [e, isub64 (by omega) (by omega)]; omega
  rw [hlen]
  refine .ret ⟨hI.add hS a0 a1 b0 b1 hR ht, rfl, by simp, by simp, fun i hi => getD_app hi, fun _ _ => rfl, fun _ => ⟨by dsimp only; omega, by dsimp only; simp only [List.length_append, List.length_cons, List.length_nil]; omega, ?_, fun i hi he => ?_⟩⟩
  ·dsimp only; rw [Int.toNat_natCast, getD_last]; exact hcF
  ·dsimp only at hi he ⊢
   by_cases e : i < C.length
   ·rw [getD_app e] at he
    exact absurd he (hne _ (getD_mem e))
   ·have : i = C.length := by simp at hi; omega
    subst this
    exact ⟨rfl, by simp⟩
 ·intro kk hkk
  refine T.cond (fun h1 => T.cond (fun h2 => .ret ?_) fun _ => hkk _ trivial) fun _ => hkk _ trivial
  obtain ⟨q1, q2, q3⟩ := hI.kn _ (mapGet_mem (z := 0) h1)
  dsimp only at q1 q2 q3
  have hqc : C.getD (mapGet K t 0).toNat [] ∈ C := getD_mem (by omega)
  have he : C.getD (mapGet K t 0).toNat [] = c := keyM_inj (hI.ok _ hqc).len r6.len (fun y hy => (hI.ok _ hqc).abs hn1 hy) hcabs q3 ht
  refine ⟨hI, rfl, Nat.le_refl _, by dsimp only; omega, fun i hi => rfl, fun _ _ => rfl, fun _ => ⟨q1, q2, ?_, fun i hi he2 => absurd he2 (hne _ (getD_mem hi))⟩⟩
  dsimp only; rw [he]; exact hcF
end Go.Dc

set_option linter.unusedVariables false
/-! Models with a bound on the rounds of their loops, which can be computed. -/
namespace Go.Dc
variable {α β σ ρ S A B R : Type}

def Le (m m' : Option α) : Prop := ∀ r, m = some r → m' = some r
def loopF (k : Nat) (f : σ → Option (Sum ρ σ)) (s : σ) : Option ρ := loopN f k s

theorem Le.refl (m : Option α) : Le m m := fun _ h => h
theorem Le.bind {m m' : Option α} {f f' : α → Option β} (h : Le m m') (hf : ∀ a, Le (f a) (f' a)) : Le (m.bind f) (m'.bind f') := by
 intro r hr
 cases hm : m with
 | none => rw [hm] at hr; cases hr
 | some a => rw [hm] at hr; rw [h a hm]; exact hf a r hr
theorem Le.cond {b : Bool} {x y x' y' : Option α} (h1 : Le x x') (h2 : Le y y') : Le (bif b then x else y) (bif b then x' else y') := by
 cases b
 ·exact h2
 ·exact h1
theorem Le.letM {x : S} {k k' : S → Option α} (h : ∀ a, Le (k a) (k' a)) : Le (letM x k) (letM x k') := h x
theorem Le.join {f f' : S → Option R} {g g' : (S → Option R) → Option R} (h1 : ∀ x, Le (f x) (f' x)) (h2 : ∀ k k' : S → Option R, (∀ x, Le (k x) (k' x)) → Le (g k) (g' k')) :
  Le (joinM f g) (joinM f' g') := h2 f f' h1
theorem Le.sumK {kr : A → Option R} {kb kb' : B → Option R} (h : ∀ b, Le (kb b) (kb' b)) : ∀ a, Le (sumK kr kb a) (sumK kr kb' a)
 | .inl a => .refl _
 | .inr b => h b
theorem Le.loop {k : Nat} {f f' : σ → Option (Sum ρ σ)} {s : σ} (h : ∀ s, Le (f s) (f' s)) : Le (loopF k f s) (loopC f' s) := by
 intro r hr
 refine loopC_iff.2 ⟨k, ?_⟩
 unfold loopF at hr
 induction k generalizing s with
 | zero => simp [loopN] at hr
 | succ k ih =>
  simp only [loopN] at hr ⊢
  cases hf : f s with
  | none => rw [hf] at hr; cases hr
  | some o =>
   rw [hf] at hr
   rw [h s o hf]
   cases o with
   | inl q => exact hr
   | inr s' => exact ih hr
end Go.Dc

/-! More of models that can be computed. -/
namespace Go.Dc
variable {α β σ ρ S A B C R : Type}
def meetF [DecidableEq A] (x y : Option A) : Option A := match x, y with
 | some a, some b => if a = b then some a else none
 | _, _ => none
theorem Le.meetO {m1 m2 m1' m2' : Option A} (h1 : Le m1 m1') (h2 : Le m2 m2') : Le (meetO m1 m2) (meetO m1' m2') := fun r h => by
 obtain ⟨a, b⟩ := meetO_some h
 rw [h1 r a, h2 r b, meetO_self]
theorem Le.meet [DecidableEq A] {m1 m2 m1' m2' : Option A} (h1 : Le m1 m1') (h2 : Le m2 m2') : Le (meetF m1 m2) (Go.Dc.meetO m1' m2') := fun r h => by
 cases m1 with
 | none => simp [meetF] at h
 | some a =>
  cases m2 with
  | none => simp [meetF] at h
  | some b =>
   unfold meetF at h
   simp only at h
   by_cases e : a = b
   ·rw [if_pos e] at h
    subst e; cases h
    rw [h1 _ rfl, h2 _ rfl, meetO_self]
   ·rw [if_neg e] at h; cases h
theorem Le.sumKK {k1 k1' : A → Option R} {k2 k2' : B → Option R} (h1 : ∀ a, Le (k1 a) (k1' a)) (h2 : ∀ b, Le (k2 b) (k2' b)) : ∀ a, Le (Go.Dc.sumK k1 k2 a) (Go.Dc.sumK k1' k2' a)
 | .inl a => h1 a
 | .inr b => h2 b
theorem Le.loopC {f f' : σ → Option (Sum ρ σ)} {s : σ} (h : ∀ s, Le (f s) (f' s)) : Le (Go.Dc.loopC f s) (Go.Dc.loopC f' s) := by
 intro r hr
 obtain ⟨n, hn⟩ := loopC_iff.1 hr
 exact Le.loop (k := n) h r hn
/-- orders that are the same: one is enough -/
def meet1 {A : Type} (x _ : Option A) : Option A := x
theorem Le.meet1 {A : Type} {m1 m2 m1' m2' : Option A} (h1 : Le m1 m1') (h2 : m1' = m2') : Le (Go.Dc.meet1 m1 m2) (Go.Dc.meetO m1' m2') := fun r h => by
 rw [← h2, meetO_self]; exact h1 r h
end Go.Dc
