/- Part P18.Fnd2 of a proof: lemmas. -/
import Derived.Test.YtcopohboenimpaaGreatDoorMFuelM
import Derived.Test.YtcopohboenimpaaGreatDoorLAW18F
import Derived.Test.YtcopohboenimpaaGreatDoorP18Look
import Derived.Test.YtcopohboenimpaaGreatDoorLAW18W
set_option linter.unusedVariables false
set_option maxHeartbeats 4000000
set_option linter.unusedSimpArgs false
set_option linter.unusedSectionVars false
/-! The search. -/
namespace Go.Dc

abbrev FdR := Int × List Int × List (ByteArray × Int) × Int × Bool × List (List Int) × List T_api_Step
/-- an answer of the search: a model, or a clause that is false under F -/
structure Post (n : Int) (L : List (List Int)) (V F : List Int) (u : Nat) (C : List (List Int)) (S : List T_api_Step) (nd : Int) (r : FdR) : Prop where
 inv : CInv n L r.2.2.2.2.2.1 r.2.2.1 r.2.2.2.2.2.2
 vlen : (r.2.1.length : Int) = n
 nd0 : nd ≤ r.2.2.2.1
 nd1 : r.2.2.2.1 + 1 ≤ nd + ((2 ^ (u + 1) : Nat) : Int)
 lenC : C.length ≤ r.2.2.2.2.2.1.length
 ext : ∀ i, i < C.length → r.2.2.2.2.2.1.getD i [] = C.getD i []
 lenS : (r.2.2.2.2.2.2.length : Int) - S.length ≤ r.2.2.2.1 - nd
 sure : nd + ((2 ^ (u + 1) : Nat) : Int) ≤ 8192 → (S.length : Int) ≤ nd → nvs L n ≤ 12 → r.2.2.2.2.1 = false
 big : r.2.2.2.2.1 = false → r.2.2.2.1 ≤ 9000
 res : r.2.2.2.2.1 = false → (r.1 = -1 ∧ VV n r.2.1 ∧ ∀ c ∈ r.2.2.2.2.2.1, ∃ y ∈ c, valP r.2.1 y = 1) ∨
  (0 ≤ r.1 ∧ r.1 < r.2.2.2.2.2.1.length ∧ r.2.1 = V ∧ FalC F (r.2.2.2.2.2.1.getD r.1.toNat []) ∧ ∀ i, i < r.2.2.2.2.2.1.length → r.2.2.2.2.2.1.getD i [] = [] → (i : Int) = r.1 ∧ i + 1 = r.2.2.2.2.2.1.length)

abbrev FindT := List Int → List (List Int) → List (ByteArray × Int) → List T_api_Step → Int → Bool → Option FdR

/-- what is expected of the search behind a call -/
def Good (n : Int) (L : List (List Int)) (r : FindT) (u : Nat) : Prop :=
 ∀ V C K S nd, CInv n L C K S → VV n V → (∀ c ∈ C, c ≠ []) → 0 ≤ nd → nd ≤ 9000 → opn L V < u → T (r V C K S nd false) (Post n L V V (opn L V) C S nd)

theorem pow_mono {a b : Nat} (h : a ≤ b) : ((2 ^ a : Nat) : Int) ≤ ((2 ^ b : Nat) : Int) := by exact_mod_cast Nat.pow_le_pow_right (by decide) h
theorem pow_pos' {a : Nat} : 1 ≤ ((2 ^ a : Nat) : Int) := by exact_mod_cast Nat.one_le_two_pow
theorem pow_two {a : Nat} : ((2 ^ (a + 1) : Nat) : Int) = 2 * ((2 ^ a : Nat) : Int) := by rw [Nat.pow_succ]; omega

section
variable {n : Int} {L : List (List Int)} {r : FindT}

theorem Post.chg {V F V3 : List Int} {u : Nat} {C : List (List Int)} {S : List T_api_Step} {nd : Int} {n2 : Int} {V2 : List Int} {K2 : List (ByteArray × Int)} {nd2 : Int} {st2 : Bool} {C2 : List (List Int)} {S2 : List T_api_Step}
  (hq : Post n L F F u C S nd (n2, V2, K2, nd2, st2, C2, S2)) (h3 : (V3.length : Int) = n) (h4 : st2 = false → n2 = -1 → VV n V3 ∧ ∀ c ∈ C2, ∃ y ∈ c, valP V3 y = 1) (h5 : st2 = false → 0 ≤ n2 → V3 = V) :
  Post n L V F u C S nd (n2, V3, K2, nd2, st2, C2, S2) :=
 ⟨hq.inv, h3, hq.nd0, hq.nd1, hq.lenC, hq.ext, hq.lenS, hq.sure, hq.big, fun hs => by
  rcases hq.res hs with ⟨a1, a2, a3⟩ | ⟨a1, a2, a3, a4, a5⟩
  ·exact .inl ⟨a1, h4 hs a1⟩
  ·exact .inr ⟨a1, a2, h5 hs a1, a4, a5⟩⟩

theorem under_T {V : List Int} {C : List (List Int)} {K : List (ByteArray × Int)} {S : List T_api_Step} {nd : Int} {u : Nat} (hr : Good n L r u) (hI : CInv n L C K S) (hV : VV n V) (hne : ∀ c ∈ C, c ≠ []) (hd0 : 0 ≤ nd) (hd : nd ≤ 9000)
  (hu : opn L V ≤ u) {x : Int} (h0 : x ≠ 0) (h1 : -n ≤ x) (h2 : x ≤ n) (ho : occ L x.natAbs = true) (hv : valP V x = 0) :
  T (proof_search_under_m r V C K S nd false x) (Post n L V (setP V x 1) (opn L (setP V x 1)) C S nd) := by
 have hn1 := hI.n1
 have hlt := opn_lt hV.len hn1 h0 h1 h2 ho hv
 unfold proof_search_under_m
 rw [set_plain hV.len hn1 h0 h1 h2 (.inr rfl), some_bind]
 refine T.bind (hr (setP V x 1) C K S nd hI (setP_VV hV (.inr rfl)) hne hd0 hd (by omega)) fun q hq => ?_
 obtain ⟨n2, V2, K2, nd2, st2, C2, S2⟩ := q
 have hset : proof_search_set_m V2 C2 K2 S2 nd2 st2 x 0 = some (setP V2 x 0) := set_plain hq.vlen hn1 h0 h1 h2 (.inl rfl)
 have hl3 : ((setP V2 x 0).length : Int) = n := by rw [setP_len]; exact hq.vlen
 dsimp only
 refine T.cond (fun h => ?_) fun h => T.cond (fun h3 => ?_) fun h3 => .ret ?_
 ·rw [hset, some_bind]
  have h := of_decide_eq_true h
  refine .ret (hq.chg hl3 (fun _ e => by omega) fun hs _ => ?_)
  rcases hq.res hs with ⟨a1, _⟩ | ⟨a1, a2, a3, a4, a5⟩
  ·have a1 : n2 = -1 := a1; omega
  ·have a3 : V2 = setP V x 1 := a3
   rw [a3]; exact setP_back hV.len h0 h1 h2 hv
 ·rw [hset, some_bind]
  exact .ret (hq.chg hl3 (fun hs _ => by rw [h3] at hs; cases hs) fun hs _ => by rw [h3] at hs; cases hs)
 ·have h := of_decide_eq_false h
  refine hq.chg hq.vlen (fun hs e => ?_) fun hs e => by omega
  rcases hq.res hs with ⟨a1, a2, a3⟩ | ⟨a1, _⟩
  ·exact ⟨a2, a3⟩
  ·have a1 : 0 ≤ n2 := a1; omega

/-- a clause that is false with x made true is false, or has x's complement beside what is false -/
theorem fal_under {V : List Int} {c : List Int} {x : Int} (hl : (V.length : Int) = n) (h0 : x ≠ 0) (h1 : -n ≤ x) (h2 : x ≤ n) (hc : ∀ y ∈ c, y ≠ 0) (hF : FalC (setP V x 1) c) : ∀ y ∈ c, y = -x ∨ valP V y = -1 := fun y hy => by
 have h3 := hF y hy
 rw [setP_val hl h0 h1 h2 (hc y hy)] at h3
 split at h3
 ·omega
 ·split at h3
  ·left; assumption
  ·right; exact h3

theorem Contains_of {c : List Int} {x : Int} (hc : c.length ≤ 50) : slices_Contains_int_int_m c x = some (decide (x ∈ c)) := Contains_plain (by omega)

theorem core_T {V : List Int} {C : List (List Int)} {K : List (ByteArray × Int)} {S : List T_api_Step} {nd : Int} (hr : Good n L r (opn L V)) (hI : CInv n L C K S) (hV : VV n V) (hne : ∀ c ∈ C, c ≠ []) (hd0 : 0 ≤ nd) (hd : nd + 1 ≤ 9000)
  {unit x : Int} (h0 : x ≠ 0) (hxc : ∃ c ∈ C, x ∈ c) (hv : valP V x = 0) (hun : unit = -1 ∨ 0 ≤ unit ∧ unit < C.length ∧ UniC V (C.getD unit.toNat []) x) :
  T (Option.bind (proof_search_under_m r V C K S (nd + 1) false x) fun first9 =>
 bif decide (first9.1 < 0) then
 some ((first9.1, first9.2.1, first9.2.2.1, first9.2.2.2.1, first9.2.2.2.2.1, first9.2.2.2.2.2.1, first9.2.2.2.2.2.2))
 else
 bif first9.2.2.2.2.1 then
 some ((first9.1, first9.2.1, first9.2.2.1, first9.2.2.2.1, first9.2.2.2.2.1, first9.2.2.2.2.2.1, first9.2.2.2.2.2.2))
 else
 Option.bind (idxM first9.2.2.2.2.2.1 first9.1) fun t12 =>
 Option.bind (slices_Contains_int_int_m t12 (ineg .i64 x)) fun t13 =>
 bif !t13 then
 some ((first9.1, first9.2.1, first9.2.2.1, first9.2.2.2.1, first9.2.2.2.2.1, first9.2.2.2.2.2.1, first9.2.2.2.2.2.2))
 else
 bif decide (unit < 0) then
 Option.bind (proof_search_under_m r first9.2.1 first9.2.2.2.2.2.1 first9.2.2.1 first9.2.2.2.2.2.2 first9.2.2.2.1 first9.2.2.2.2.1 (ineg .i64 x)) fun unit14 =>
 bif decide (unit14.1 < 0) then
 some ((unit14.1, unit14.2.1, unit14.2.2.1, unit14.2.2.2.1, unit14.2.2.2.2.1, unit14.2.2.2.2.2.1, unit14.2.2.2.2.2.2))
 else
 bif unit14.2.2.2.2.1 then
 some ((unit14.1, unit14.2.1, unit14.2.2.1, unit14.2.2.2.1, unit14.2.2.2.2.1, unit14.2.2.2.2.2.1, unit14.2.2.2.2.2.2))
 else
 Option.bind (idxM unit14.2.2.2.2.2.1 unit14.1) fun t15 =>
 Option.bind (slices_Contains_int_int_m t15 x) fun t16 =>
 bif !t16 then
 some ((unit14.1, unit14.2.1, unit14.2.2.1, unit14.2.2.2.1, unit14.2.2.2.2.1, unit14.2.2.2.2.2.1, unit14.2.2.2.2.2.2))
 else
 Option.bind (proof_search_learn_m unit14.2.1 unit14.2.2.2.2.2.1 unit14.2.2.1 unit14.2.2.2.2.2.2 unit14.2.2.2.1 unit14.2.2.2.2.1 unit14.1 first9.1 x) fun t17 =>
 some ((t17.1, unit14.2.1, t17.2.1, t17.2.2.1, t17.2.2.2.1, t17.2.2.2.2.1, t17.2.2.2.2.2))
 else
 Option.bind (proof_search_learn_m first9.2.1 first9.2.2.2.2.2.1 first9.2.2.1 first9.2.2.2.2.2.2 first9.2.2.2.1 first9.2.2.2.2.1 unit first9.1 x) fun t18 =>
 some ((t18.1, first9.2.1, t18.2.1, t18.2.2.1, t18.2.2.2.1, t18.2.2.2.2.1, t18.2.2.2.2.2))) (Post n L V V (opn L V) C S nd) := by
 have hn1 := hI.n1
 obtain ⟨cx, hcx, hxm⟩ := hxc
 have hxr := (hI.ok _ hcx).rng x hxm
 have hxo := hI.oc _ hcx x hxm
 obtain ⟨_, h1, h2⟩ := hxr
 have hlt := opn_lt hV.len hn1 h0 h1 h2 hxo hv
 have hp := pow_mono (show opn L (setP V x 1) + 1 ≤ opn L V by omega)
 have hq2 := pow_two (a := opn L V)
 have hp1 := pow_pos' (a := opn L V)
 refine T.bind (under_T hr hI hV hne (by omega) hd (Nat.le_refl _) h0 h1 h2 hxo hv) fun q hq => ?_
 obtain ⟨f, V1, K1, nd1, st1, C1, S1⟩ := q
 dsimp only
 have g1 : nd1 + 1 ≤ nd + 1 + ((2 ^ (opn L (setP V x 1) + 1) : Nat) : Int) := hq.nd1
 have g0 : nd + 1 ≤ nd1 := hq.nd0
 have gS : (S1.length : Int) - S.length ≤ nd1 - (nd + 1) := hq.lenS
 have gC : C.length ≤ C1.length := hq.lenC
 have gext : ∀ i, i < C.length → C1.getD i [] = C.getD i [] := hq.ext
 have qsure : nd + 1 + ((2 ^ (opn L (setP V x 1) + 1) : Nat) : Int) ≤ 8192 → (S.length : Int) ≤ nd + 1 → nvs L n ≤ 12 → st1 = false := hq.sure
 have gsure : nd + ((2 ^ (opn L V + 1) : Nat) : Int) ≤ 8192 → (S.length : Int) ≤ nd → nvs L n ≤ 12 → st1 = false := fun a b c => qsure (by omega) (by omega) c
 -- an answer that goes up
 have up : ∀ (hres : st1 = false → (f = -1 ∧ VV n V1 ∧ ∀ c ∈ C1, ∃ y ∈ c, valP V1 y = 1) ∨ (0 ≤ f ∧ f < C1.length ∧ V1 = V ∧ FalC V (C1.getD f.toNat []) ∧ ∀ i, i < C1.length → C1.getD i [] = [] → (i : Int) = f ∧ i + 1 = C1.length)),
   Post n L V V (opn L V) C S nd (f, V1, K1, nd1, st1, C1, S1) := fun hres =>
  ⟨hq.inv, hq.vlen, by dsimp only; omega, by dsimp only; omega, gC, hq.ext, by dsimp only; omega, gsure, hq.big, hres⟩
 refine T.cond (fun h => .ret (up fun hs => ?_)) fun h => T.cond (fun h3 => .ret (up fun hs => by rw [h3] at hs; cases hs)) fun h3 => ?_
 ·have h := of_decide_eq_true h
  rcases hq.res hs with a | ⟨a1, _⟩
  ·exact .inl a
  ·have a1 : 0 ≤ f := a1; omega
 have h := of_decide_eq_false h
 obtain ⟨a1, a2, a3, a4, a5⟩ : 0 ≤ f ∧ f < C1.length ∧ V1 = V ∧ FalC (setP V x 1) (C1.getD f.toNat []) ∧ ∀ i, i < C1.length → C1.getD i [] = [] → (i : Int) = f ∧ i + 1 = C1.length := by
  rcases hq.res h3 with ⟨a1, _⟩ | a
  ·have a1 : f = -1 := a1; omega
  ·exact a
 subst a3
 have hfm : C1.getD f.toNat [] ∈ C1 := getD_mem (by omega)
 have hfok := hq.inv.ok _ hfm
 rw [idxM_getD' [] a1 a2, some_bind, ineg64 (by omega) (by omega), Contains_of hfok.len, some_bind]
 have hfal := fal_under hV.len h0 h1 h2 (fun y hy => (hfok.rng y hy).1) a4
 refine T.cond (fun h4 => .ret (up fun _ => .inr ⟨a1, a2, rfl, fun y hy => ?_, a5⟩)) fun h4 => ?_
 ·have h4 : ¬ (-x ∈ C1.getD f.toNat []) := by simpa using h4
  rcases hfal y hy with e | e
  ·subst e; exact absurd hy h4
  ·exact e
 have h4 : -x ∈ C1.getD f.toNat [] := by simpa using h4
 have hne1 : ∀ c ∈ C1, c ≠ [] := fun c hc e => by
  subst e
  obtain ⟨i, hi, ei⟩ := List.getElem_of_mem hc
  have hgi : C1.getD i [] = [] := by simp [List.getD, hi, ei]
  have h5 := (a5 i hi hgi).1
  have h6 : f.toNat = i := by omega
  rw [h6, hgi] at h4; simp at h4
 have hd1 : nd1 ≤ 9000 := hq.big h3
 have h3' : st1 = false := h3
 subst h3'
 refine T.cond (fun h5 => ?_) fun h5 => ?_
 · -- both ways are tried
  have hvn : valP V1 (-x) = 0 := by rw [valP_neg h0, hv]; rfl
  have hlt2 := opn_lt hV.len hn1 (show -x ≠ 0 by omega) (by omega) (by omega) (by rw [Int.natAbs_neg]; exact hxo) hvn
  have hp2 := pow_mono (show opn L (setP V1 (-x) 1) + 1 ≤ opn L V1 by omega)
  refine T.bind (under_T hr hq.inv hV hne1 (by omega) hd1 (Nat.le_refl _) (show -x ≠ 0 by omega) (by omega) (by omega) (by rw [Int.natAbs_neg]; exact hxo) hvn) fun q2 hu => ?_
  obtain ⟨un, V2, K2, nd2, st2, C2, S2⟩ := q2
  dsimp only
  have k1 : nd2 + 1 ≤ nd1 + ((2 ^ (opn L (setP V1 (-x) 1) + 1) : Nat) : Int) := hu.nd1
  have k0 : nd1 ≤ nd2 := hu.nd0
  have kS : (S2.length : Int) - S1.length ≤ nd2 - nd1 := hu.lenS
  have kC : C1.length ≤ C2.length := hu.lenC
  have uext : ∀ i, i < C1.length → C2.getD i [] = C1.getD i [] := hu.ext
  have usure : nd1 + ((2 ^ (opn L (setP V1 (-x) 1) + 1) : Nat) : Int) ≤ 8192 → (S1.length : Int) ≤ nd1 → nvs L n ≤ 12 → st2 = false := hu.sure
  have kext : ∀ i, i < C.length → C2.getD i [] = C.getD i [] := fun i hi => (uext i (by omega)).trans (gext i hi)
  have ksure : nd + ((2 ^ (opn L V1 + 1) : Nat) : Int) ≤ 8192 → (S.length : Int) ≤ nd → nvs L n ≤ 12 → st2 = false := fun a b c => usure (by omega) (by omega) c
  have up2 : ∀ (hres : st2 = false → (un = -1 ∧ VV n V2 ∧ ∀ c ∈ C2, ∃ y ∈ c, valP V2 y = 1) ∨ (0 ≤ un ∧ un < C2.length ∧ V2 = V1 ∧ FalC V1 (C2.getD un.toNat []) ∧ ∀ i, i < C2.length → C2.getD i [] = [] → (i : Int) = un ∧ i + 1 = C2.length)),
    Post n L V1 V1 (opn L V1) C S nd (un, V2, K2, nd2, st2, C2, S2) := fun hres =>
   ⟨hu.inv, hu.vlen, by dsimp only; omega, by dsimp only; omega, by dsimp only; omega, kext, by dsimp only; omega, ksure, hu.big, hres⟩
  refine T.cond (fun h6 => .ret (up2 fun hs => ?_)) fun h6 => T.cond (fun h7 => .ret (up2 fun hs => by rw [h7] at hs; cases hs)) fun h7 => ?_
  ·have h6 := of_decide_eq_true h6
   rcases hu.res hs with a | ⟨b1, _⟩
   ·exact .inl a
   ·have b1 : 0 ≤ un := b1; omega
  have h6 := of_decide_eq_false h6
  obtain ⟨b1, b2, b3, b4, b5⟩ : 0 ≤ un ∧ un < C2.length ∧ V2 = V1 ∧ FalC (setP V1 (-x) 1) (C2.getD un.toNat []) ∧ ∀ i, i < C2.length → C2.getD i [] = [] → (i : Int) = un ∧ i + 1 = C2.length := by
   rcases hu.res h7 with ⟨b1, _⟩ | b
   ·have b1 : un = -1 := b1; omega
   ·exact b
  subst b3
  have hum : C2.getD un.toNat [] ∈ C2 := getD_mem (by omega)
  have huok := hu.inv.ok _ hum
  rw [idxM_getD' [] b1 b2, some_bind, Contains_of huok.len, some_bind]
  have hual := fal_under hV.len (show -x ≠ 0 by omega) (by omega) (by omega) (fun y hy => (huok.rng y hy).1) b4
  rw [Int.neg_neg] at hual
  refine T.cond (fun h8 => .ret (up2 fun _ => .inr ⟨b1, b2, rfl, fun y hy => ?_, b5⟩)) fun h8 => ?_
  ·have h8 : ¬ (x ∈ C2.getD un.toNat []) := by simpa using h8
   rcases hual y hy with e | e
   ·subst e; exact absurd hy h8
   ·exact e
  have h8 : x ∈ C2.getD un.toNat [] := by simpa using h8
  have hne2 : ∀ c ∈ C2, c ≠ [] := fun c hc e => by
   subst e
   obtain ⟨i, hi, ei⟩ := List.getElem_of_mem hc
   have hgi : C2.getD i [] = [] := by simp [List.getD, hi, ei]
   have h9 := (b5 i hi hgi).1
   have h10 : un.toNat = i := by omega
   rw [h10, hgi] at h8; simp at h8
  have h7' : st2 = false := h7
  subst h7'
  have hfe : C2.getD f.toNat [] = C1.getD f.toNat [] := uext f.toNat (by omega)
  refine T.bind (learn_plain hu.inv hV hne2 h0 b1 b2 a1 (show f < ((C2.length : Nat) : Int) by omega) h8 (by rw [hfe]; exact h4) hual (by rw [hfe]; exact hfal)) fun l hl0 => .ret ?_
  have hl : LPost n L V2 C2 S2 nd2 l := hl0
  have l1 := hl.nd
  have l2 := hl.lenS
  have l3 := hl.lenC
  have hd2 : nd2 ≤ 9000 := hu.big rfl
  refine ⟨hl.inv, hV.len, by dsimp only; omega, by dsimp only; omega, by dsimp only; omega, fun i hi => (hl.ext i (by omega)).trans (kext i hi), by dsimp only; omega, fun c1 c2 c3 => hl.sure (by omega) (by omega), fun _ => by dsimp only; omega, fun hs => .inr ?_⟩
  obtain ⟨m1, m2, m3, m4⟩ := hl.res hs
  exact ⟨m1, m2, rfl, m3, m4⟩
 ·have h5 := of_decide_eq_false h5
  obtain ⟨u1, u2, u3, u4, u5⟩ := hun.resolve_left (by omega)
  have hue : C1.getD unit.toNat [] = C.getD unit.toNat [] := gext unit.toNat (by omega)
  refine T.bind (learn_plain hq.inv hV hne1 h0 u1 (show unit < ((C1.length : Nat) : Int) by omega) a1 a2 (by rw [hue]; exact u3) h4 (by rw [hue]; exact u5) hfal) fun l hl0 => .ret ?_
  have hl : LPost n L V1 C1 S1 nd1 l := hl0
  have l1 := hl.nd
  have l2 := hl.lenS
  have l3 := hl.lenC
  refine ⟨hl.inv, hV.len, by dsimp only; omega, by dsimp only; omega, by dsimp only; omega, fun i hi => (hl.ext i (by omega)).trans (gext i hi), by dsimp only; omega, fun c1 c2 c3 => hl.sure (by omega) (by omega), fun _ => by dsimp only; omega, fun hs => .inr ?_⟩
  obtain ⟨m1, m2, m3, m4⟩ := hl.res hs
  exact ⟨m1, m2, rfl, m3, m4⟩
end
end Go.Dc

set_option linter.unusedVariables false
set_option maxHeartbeats 4000000
set_option linter.unusedSimpArgs false
set_option linter.unusedSectionVars false
/-! The search, whole. -/
namespace Go.Dc
section
variable {n : Int} {L : List (List Int)} {r : FindT}

theorem find_b_T {V : List Int} {C : List (List Int)} {K : List (ByteArray × Int)} {S : List T_api_Step} {nd : Int} (hr : Good n L r (opn L V)) (hI : CInv n L C K S) (hV : VV n V) (hne : ∀ c ∈ C, c ≠ []) (hd0 : 0 ≤ nd) (hd : nd ≤ 9000) :
  T (proof_search_find_b r V C K S nd false) (Post n L V V (opn L V) C S nd) := by
 have hn1 := hI.n1
 have hlen : C.length ≤ 100000 := by have := hI.lenC; have := hI.lenL; have := hI.lenS; omega
 have hq2 := pow_two (a := opn L V)
 have hp1 := pow_pos' (a := opn L V)
 have e1 : iadd .i64 nd 1 = nd + 1 := iadd64 (by omega) (by omega)
 unfold proof_search_find_b
 rw [e1]
 refine T.joinP (P := fun j => j.1 = nd + 1 ∧ (j.2 = true ∧ 9000 < nd + 1 ∨ j.2 = false ∧ nd + 1 ≤ 9000)) ?_ ?_
 rotate_left
 ·intro k hk
  refine T.cond (fun h => hk _ ⟨rfl, .inl ⟨rfl, by simpa using h⟩⟩) fun h => hk _ ⟨rfl, .inr ⟨rfl, by simpa using h⟩⟩
 rintro ⟨nd', st'⟩ ⟨e, hs⟩
 dsimp only at e hs
 subst e
 rcases hs with ⟨rfl, h9⟩ | ⟨rfl, h9⟩
 ·rw [cond_true]
  exact .ret ⟨hI, hV.len, by dsimp only; omega, by dsimp only; omega, Nat.le_refl _, fun i hi => rfl, by dsimp only; omega, fun c1 _ _ => by omega, fun h => (by cases h), fun h => (by cases h)⟩
 rw [cond_false]
 refine T.bind (look_plain hV hn1 hI.ok hlen) fun t ht => ?_
 obtain ⟨unit, x⟩ := t
 -- an answer that is clear now
 have now : ∀ res : Int, ((res = -1 ∧ VV n V ∧ ∀ c ∈ C, ∃ y ∈ c, valP V y = 1) ∨ (0 ≤ res ∧ res < C.length ∧ FalC V (C.getD res.toNat []))) → Post n L V V (opn L V) C S nd (res, V, K, nd + 1, false, C, S) := fun res h =>
  ⟨hI, hV.len, by dsimp only; omega, by dsimp only; omega, Nat.le_refl _, fun i hi => rfl, by dsimp only; omega, fun _ _ _ => rfl, fun _ => by dsimp only; omega, fun _ => by
   rcases h with h | ⟨a1, a2, a3⟩
   ·exact .inl h
   ·exact .inr ⟨a1, a2, rfl, a3, fun i hi he => absurd he (hne _ (getD_mem hi))⟩⟩
 dsimp only
 refine T.joinP (P := fun _ => unit = -1 ∧ x = 0 ∧ (∀ c ∈ C, OpnC V c) ∨ 0 ≤ unit ∧ unit < C.length ∧ x ≠ 0 ∧ UniC V (C.getD unit.toNat []) x) ?_ ?_
 rotate_left
 ·intro k hk
  rcases ht with ⟨h1, h2, h3⟩ | ⟨h1, h2, h3⟩
  ·dsimp only at h1 h2
   subst h1
   rw [show decide ((-1 : Int) ≥ 0) = false from rfl, cond_false]
   exact hk _ (.inl ⟨rfl, h2, h3⟩)
  ·dsimp only at h1 h2 h3
   rw [show decide (unit ≥ 0) = true from decide_eq_true h1, cond_true]
   refine T.cond (fun h4 => .ret (now unit (.inr ⟨h1, h2, ?_⟩))) fun h4 => hk _ (.inr ⟨h1, h2, ?_⟩)
   ·have h4 := eq_of_beq h4
    rcases h3 with ⟨_, h5⟩ | ⟨h5, _⟩
    ·exact h5
    ·exact absurd h4 h5
   ·rcases h3 with ⟨h5, _⟩ | h5
    ·rw [h5] at h4; cases h4
    ·exact h5
 intro _ hux
 refine T.joinP (P := fun j => j ≠ 0 ∧ (∃ c ∈ C, j ∈ c) ∧ valP V j = 0 ∧ (unit = -1 ∨ 0 ≤ unit ∧ unit < C.length ∧ UniC V (C.getD unit.toNat []) j)) ?_ ?_
 ·rintro j ⟨j0, j1, j2, j3⟩
  exact core_T hr hI hV hne hd0 h9 j0 j1 j2 j3
 ·intro k hk
  rcases hux with ⟨rfl, rfl, h3⟩ | ⟨h1, h2, h3, h4⟩
  ·rw [show decide ((-1 : Int) < 0) = true from rfl, cond_true]
   refine T.bind (branch_plain hV hn1 hI.ok hlen h3) fun y hy => ?_
   rcases hy with ⟨rfl, h5⟩ | ⟨h5, h6, h7⟩
   ·exact .ret (now (-1) (.inl ⟨rfl, hV, h5⟩))
   ·rw [show (y == 0) = false from beq_false_of_ne h5, cond_false]
    exact hk _ ⟨h5, h7, h6, .inl rfl⟩
  ·rw [show decide (unit < 0) = false from decide_eq_false (by omega), cond_false]
   exact hk _ ⟨h3, ⟨_, getD_mem (by omega), h4.1⟩, h4.2.1, .inr ⟨h1, h2, h4⟩⟩
end

theorem find_n_T {n : Int} {L : List (List Int)} : ∀ u, Good n L (proof_search_find_n u) u
 | 0 => fun V C K S nd _ _ _ _ _ h => absurd h (by omega)
 | u + 1 => fun V C K S nd hI hV hne hd0 hd hu => find_b_T (r := proof_search_find_n u) (fun V' C' K' S' nd' a b c d e f => find_n_T u V' C' K' S' nd' a b c d e (by omega)) hI hV hne hd0 hd

theorem find_m_T {n : Int} {L : List (List Int)} {V : List Int} {C : List (List Int)} {K : List (ByteArray × Int)} {S : List T_api_Step} {nd : Int} (hI : CInv n L C K S) (hV : VV n V) (hne : ∀ c ∈ C, c ≠ []) (hd0 : 0 ≤ nd) (hd : nd ≤ 9000) :
  T (proof_search_find_m V C K S nd false) (Post n L V V (opn L V) C S nd) := by
 obtain ⟨q, h1, h2⟩ := find_n_T (n := n) (L := L) (opn L V + 1) V C K S nd hI hV hne hd0 hd (by omega)
 exact ⟨q, proof_search_find_m_at h1, h2⟩
end Go.Dc

set_option linter.unusedVariables false
set_option maxHeartbeats 1000000
set_option linter.unusedSimpArgs false
set_option linter.unusedSectionVars false
/-! What Solve answers. -/
namespace Go.Dc

/-- a model, a refutation, or what is too much -/
def SolR (n : Int) (l : List (List Int)) (r : T_api_Answer × Int) : Prop :=
 r = (⟨false, [], []⟩, 2) ∧ 12 < nvs l n ∨
 r.2 = 0 ∧ r.1.Sat = true ∧ r.1.Steps = [] ∧ (r.1.Model.length : Int) = n ∧ satP l r.1.Model = true ∨
 r.2 = 0 ∧ r.1.Sat = false ∧ r.1.Model = [] ∧ r.1.Steps.length ≤ 20000 ∧ refP l r.1.Steps = true

theorem model_plain {V : List Int} {C : List (List Int)} {K : List (ByteArray × Int)} {S : List T_api_Step} {nd : Int} {st : Bool} (hl : V.length ≤ 200) : proof_search_model_m V C K S nd st = some (V.map fun v => decide (v > 0)) := by
 unfold proof_search_model_m
 have h : T (loopC (proof_search_model_l1 V) (0, [])) (· = V.map fun v => decide (v > 0)) := by
  refine T.loopK V.length (fun k s => s.1 = (k : Int) ∧ k ≤ V.length ∧ s.2 = (V.take k).map fun v => decide (v > 0)) ⟨rfl, by omega, rfl⟩ ?_
  rintro k ⟨i, o⟩ ⟨e, hk, ho⟩
  dsimp only at e ho
  subst e
  unfold proof_search_model_l1
  dsimp only
  refine T.cond (fun h => ?_) fun h => .ret ?_
  ·have hk2 : k < V.length := by simpa using h
   have hol : o.length ≤ 200 := by rw [ho]; simp; omega
   rw [idxM_nat hk2, some_bind, appM_eq (by simp; omega), some_bind, iadd1 (by omega)]
   refine .ret ⟨hk2, rfl, hk2, ?_⟩
   rw [← List.take_append_getElem hk2, List.map_append, ho]; rfl
  ·have : k = V.length := by simp at h; omega
   subst this
   rw [ho, List.take_length]
 rw [h.eq]; rfl

theorem litT_val {V : List Int} {x : Int} (h0 : x ≠ 0) (hx : (x.natAbs : Int) ≤ V.length) (h : valP V x = 1) : litT (V.map fun v => decide (v > 0)) x = true := by
 have hi : x.natAbs - 1 < V.length := by omega
 unfold litT
 rw [show (V.map fun v => decide (v > 0)).getD (x.natAbs - 1) false = decide (V.getD (x.natAbs - 1) 0 > 0) by simp [List.getD, hi]]
 unfold valP at h
 split at h
 ·rename_i hp
  rw [h]; simp [hp]
 ·rename_i hp
  have : V.getD (x.natAbs - 1) 0 = -1 := by omega
  rw [this]; simp; omega

/-- steps that were learned are a refutation -/
theorem inv_run {n : Int} {L C : List (List Int)} {K : List (ByteArray × Int)} {S : List T_api_Step} (h : CInv n L C K S) : runP L S = some C := by
 have hl := h.lenC
 suffices hh : ∀ j, j ≤ S.length → runP L (S.take j) = some (C.take (L.length + j)) by
  have := hh S.length (Nat.le_refl _)
  rw [List.take_length, List.take_of_length_le (by omega)] at this
  exact this
 intro j
 induction j with
 | zero =>
  intro _
  simp only [List.take_zero, runP, Nat.add_zero]
  congr 1
  apply List.ext_getElem
  ·simp; omega
  ·intro i h1 h2
   have := h.pre i h1
   simp only [List.getD, List.getElem?_eq_getElem h1, List.getElem?_eq_getElem (show i < C.length by omega), Option.getD_some] at this
   rw [List.getElem_take]; exact this.symm
 | succ j ih =>
  intro hj
  rw [runP_snoc hj (ih (by omega))]
  obtain ⟨q1, q2, q3, q4, q5⟩ := h.stp j hj
  have hlt : (C.take (L.length + j)).length = L.length + j := by simp; omega
  rw [stepP_of q1 (by rw [hlt]; exact q2) q3 (by rw [hlt]; exact q4)]
  have hg : ∀ i, i < L.length + j → (C.take (L.length + j)).getD i [] = C.getD i [] := fun i hi => by
   simp [List.getD, List.getElem?_take, hi]
  rw [hg _ (by omega), hg _ (by omega), q5, if_pos rfl]
  congr 1
  have hlt2 : L.length + j < C.length := by omega
  have : C.getD (L.length + j) [] = C[L.length + j] := by simp [List.getD, hlt2]
  rw [this, show L.length + (j + 1) = L.length + j + 1 by omega, List.take_append_getElem hlt2]

theorem Solve_plain {n : Int} {l : List (List Int)} : T (proof_Solve_s1_m n l) fun r => if ValidP n l = 0 then SolR n l r else r = (⟨false, [], []⟩, ValidP n l) := by
 unfold proof_Solve_s1_m
 rw [Validate_plain, some_bind]
 by_cases hv : ValidP n l = 0
 rotate_left
 ·rw [show (ValidP n l != 0) = true by simp [hv], cond_true]
  exact .ret (by rw [if_neg hv])
 rw [hv, bne_self_eq_false, cond_false]
 obtain ⟨n0, n1, hlen, hcl⟩ := ValidP_ok.1 hv
 simp only [if_true]
 rw [find_bind (l := l) (fun c => if c.isEmpty = true then some ((⟨false, [], []⟩, 0) : T_api_Answer × Int) else none) (fun i hi => by
  unfold proof_Solve_s1_l1
  rw [show decide ((i : Int) < (l.length : Int)) = true by simp [hi], cond_true, idxM_nat hi, iadd64 (by omega) (by omega)]
  simp only [Option.bind_some]
  cases hq : l[i] with
  | nil => simp
  | cons y ys => simp; rw [show ((ys.length : Int) + 1 == 0) = false from beq_false_of_ne (by omega)]; rfl) (by unfold proof_Solve_s1_l1; simp)]
 cases hf : l.findSome? (fun c => if c.isEmpty = true then some ((⟨false, [], []⟩, 0) : T_api_Answer × Int) else none) with
 | some r =>
  obtain ⟨c, hc, hy⟩ := List.exists_of_findSome?_eq_some hf
  split at hy
  ·rename_i he
   cases hy
   refine .ret (.inr (.inr ⟨rfl, rfl, rfl, by simp, ?_⟩))
   unfold refP
   simp only [runP, if_true]
   exact List.any_eq_true.2 ⟨c, hc, he⟩
  ·cases hy
 | none =>
  rw [List.findSome?_eq_none_iff] at hf
  have hne : ∀ c ∈ l, c ≠ [] := fun c hc e => by have := hf c hc; rw [e] at this; simp at this
  obtain ⟨N, rfl⟩ := Int.eq_ofNat_of_zero_le n0
  have hmk : mkM 8 0 (N : Int) = some (List.replicate N (0 : Int)) := mkM_T (by omega)
  have hcn : slices_Clone_int_int_m l = some l := by unfold slices_Clone_int_int_m; rw [appM_eq (by simp; omega)]; rfl
  simp only [hmk, hcn, Option.bind_some, meetO_self, joinM_eq]
  have hV : VV (N : Int) (List.replicate N 0) := ⟨by simp, fun i => .inr (.inr getD_rep)⟩
  have hI : CInv (N : Int) l l [] [] := ⟨n0, n1, hlen, by simp, by simp, fun i _ => rfl, hcl, fun c hc x hx => occ_of hc hx, fun j hj => by simp at hj, fun p hp => by simp at hp⟩
  refine T.bind (find_m_T hI hV hne (by omega) (by omega)) fun q hq => ?_
  obtain ⟨f, V1, K1, nd1, st1, C1, S1⟩ := q
  dsimp only
  have hop : opn l (List.replicate N 0) ≤ nvs l (N : Int) := opn_le (by simp)
  have hsure : (0 : Int) + ((2 ^ (opn l (List.replicate N 0) + 1) : Nat) : Int) ≤ 8192 → (([] : List T_api_Step).length : Int) ≤ 0 → nvs l (N : Int) ≤ 12 → st1 = false := hq.sure
  refine T.cond (fun h => .ret (.inl ⟨rfl, ?_⟩)) fun h => ?_
  ·refine Nat.lt_of_not_le fun hle => ?_
   have hp := pow_mono (show opn l (List.replicate N 0) + 1 ≤ 13 by omega)
   have h13 : ((2 ^ 13 : Nat) : Int) = 8192 := by decide
   rw [h13] at hp
   have := hsure (by omega) (by simp) hle
   rw [this] at h; cases h
  have hpre : ∀ c ∈ l, c ∈ C1 := fun c hc => by
   obtain ⟨i, hi, rfl⟩ := List.getElem_of_mem hc
   have h1 : C1.getD i [] = l.getD i [] := hq.inv.pre i hi
   have h2 : l.getD i [] = l[i] := by simp [List.getD, hi]
   have h3 : l.length ≤ C1.length := hq.lenC
   rw [← h2, ← h1]; exact getD_mem (by omega)
  refine T.cond (fun h2 => ?_) fun h2 => .ret ?_
  ·have h2 := of_decide_eq_true h2
   rcases hq.res h with ⟨a1, a2, a3⟩ | ⟨a1, _⟩
   rotate_left
   ·have a1 : 0 ≤ f := a1; omega
   have a2 : VV (N : Int) V1 := a2
   have hvl := a2.len
   rw [model_plain (by omega), some_bind]
   refine .ret (.inr (.inl ⟨rfl, rfl, rfl, by simpa using hvl, ?_⟩))
   refine List.all_eq_true.2 fun c hc => ?_
   obtain ⟨y, hy, hyv⟩ := a3 c (hpre c hc)
   have hr := (hcl c hc).rng y hy
   exact List.any_eq_true.2 ⟨y, hy, litT_val hr.1 (by omega) hyv⟩
  ·have h2 := of_decide_eq_false h2
   rcases hq.res h with ⟨a1, _⟩ | ⟨a1, a2, a3, a4, a5⟩
   ·have a1 : f = -1 := a1; omega
   have a1 : 0 ≤ f := a1
   have a2 : f < C1.length := a2
   have hinv : CInv (N : Int) l C1 K1 S1 := hq.inv
   have hfm : C1.getD f.toNat [] ∈ C1 := getD_mem (by omega)
   have hemp : C1.getD f.toNat [] = [] := by
    cases hc : C1.getD f.toNat [] with
    | nil => rfl
    | cons y ys =>
     have a4 : FalC (List.replicate N 0) (C1.getD f.toNat []) := a4
     have := a4 y (by rw [hc]; simp)
     unfold valP at this
     rw [getD_rep] at this
     split at this <;> omega
   have hlast : ((f.toNat : Nat) : Int) = f ∧ f.toNat + 1 = C1.length := a5 f.toNat (by show f.toNat < C1.length; omega) hemp
   have hS : S1 ≠ [] := fun e => by
    subst e
    have h5 := hinv.lenC
    simp at h5
    have h6 := hinv.pre f.toNat (by omega)
    rw [hemp] at h6
    exact hne _ (getD_mem (z := []) (show f.toNat < l.length by omega)) h6.symm
   refine .inr (.inr ⟨rfl, rfl, rfl, hinv.lenS, ?_⟩)
   dsimp only
   unfold refP
   rw [inv_run hinv]
   simp only [if_neg hS]
   rw [show C1.length - 1 = f.toNat by omega]
   have : C1.getD f.toNat [1] = C1.getD f.toNat [] := by simp [List.getD, show f.toNat < C1.length by omega]
   rw [this, hemp]; rfl

end Go.Dc

set_option linter.unusedVariables false
set_option linter.unusedSimpArgs false
set_option linter.unusedSectionVars false
/-! Decide and Check, for the questions that clauses answer. -/
namespace Go.Dc
open Go.Proofs Go.Sort

theorem satB_satP {l : List (List Int)} {m : List Bool} : satB m l = satP l m := rfl
theorem lit_neg {m : List Bool} {a : Nat} : litT m (-((a : Int) + 1)) = !m.getD a false := by
 unfold litT
 rw [show (-((a : Int) + 1)).natAbs - 1 = a by omega, show decide (-((a : Int) + 1) > 0) = false from decide_eq_false (by omega)]; simp

/-- the labelling of a model -/
theorem labels_plain {N : Nat} (hN : N ≤ 40) {m : List Bool} (hm : m.length = 2 * N) (hno : ∀ j, j < N → (m.getD j false && m.getD (N + j) false) = false) : T (verdict_labels_m (N : Int) m) fun y => LOk N y ∧ MOk N y m := by
 unfold verdict_labels_m
 refine T.bind (P := fun y => LOk N y ∧ MOk N y m) ?_ fun y hy => .ret hy
 refine T.loopK N (fun k s => k ≤ N ∧ s.1 = (k : Int) ∧ LOk k s.2 ∧ ∀ j, j < k → m.getD j false = (sf s.2 j == 1) ∧ m.getD (N + j) false = (sf s.2 j == 2)) ⟨by omega, rfl, ⟨rfl, by simp⟩, by simp⟩ ?_
 rintro k ⟨_, y⟩ ⟨hk, rfl, hy, hj⟩
 dsimp only at hy hj
 have hyl := hy.len
 dsimp only [verdict_labels_l1]
 refine T.cond (fun c => ?_) fun c => ?_
 ·have hk2 : k < N := by have := of_decide_eq_true c; omega
  have snoc : ∀ x : Int, 1 ≤ x → x ≤ 3 → LOk (k + 1) (y ++ [x]) := fun x h1 h2 => ⟨by simp; omega, fun z hz => by
   rcases List.mem_append.1 hz with hz | hz
   ·exact hy.rng z hz
   ·rw [List.mem_singleton.1 hz]; exact ⟨h1, h2⟩⟩
  have s1 : ∀ (x : Int) j, j < k → sf (y ++ [x]) j = sf y j := fun x j hj => by unfold sf; simp [List.getD, List.getElem?_append_left (show j < y.length by omega)]
  have s2 : ∀ x : Int, sf (y ++ [x]) k = x := fun x => by unfold sf; rw [← hyl]; simp [List.getD]
  have step : ∀ x : Int, 1 ≤ x → x ≤ 3 → m.getD k false = (x == 1) → m.getD (N + k) false = (x == 2) → LOk (k + 1) (y ++ [x]) ∧ ∀ j, j < k + 1 → m.getD j false = (sf (y ++ [x]) j == 1) ∧ m.getD (N + j) false = (sf (y ++ [x]) j == 2) := fun x h1 h2 e1 e2 => ⟨snoc x h1 h2, fun j hjk => by
   by_cases e : j = k
   ·subst e; rw [s2]; exact ⟨e1, e2⟩
   ·rw [s1 x j (by omega)]; exact hj j (by omega)⟩
  have hn := hno k hk2
  rw [idxM_getD (z := false) (by omega), some_bind, iadd1 (by omega), iadd64 (by omega) (by omega), show (N : Int) + (k : Int) = ((N + k : Nat) : Int) by omega]
  refine T.cond (fun c1 => ?_) fun c1 => ?_
  ·rw [appM_eq (by simp; omega), some_bind]
   have h2 : m.getD (N + k) false = false := by rw [c1] at hn; simpa using hn
   obtain ⟨q1, q2⟩ := step 1 (by omega) (by omega) c1 h2
   exact .ret ⟨hk2, hk2, rfl, q1, q2⟩
  ·rw [idxM_getD (z := false) (by omega), some_bind]
   refine T.cond (fun c2 => ?_) fun c2 => ?_
   ·rw [appM_eq (by simp; omega), some_bind]
    obtain ⟨q1, q2⟩ := step 2 (by omega) (by omega) c1 c2
    exact .ret ⟨hk2, hk2, rfl, q1, q2⟩
   ·rw [appM_eq (by simp; omega), some_bind]
    obtain ⟨q1, q2⟩ := step 3 (by omega) (by omega) c1 c2
    exact .ret ⟨hk2, hk2, rfl, q1, q2⟩
 ·have e : k = N := by have := of_decide_eq_false c; omega
  subst e
  exact .ret ⟨hy, hm, fun j hj' => (hj j hj').1, fun j hj' => (hj j hj').2⟩

/-- a model of a labelling -/
def modelOf (N : Nat) (y : List Int) : List Bool := (List.range N).map (fun j => sf y j == 1) ++ (List.range N).map (fun j => sf y j == 2)
theorem modelOf_ok {N : Nat} {y : List Int} : MOk N y (modelOf N y) := by
 refine ⟨by simp [modelOf]; omega, fun j hj => ?_, fun j hj => ?_⟩
 ·unfold modelOf
  simp only [List.getD_eq_getElem?_getD]
  rw [List.getElem?_append_left (by simpa using hj)]; simp [hj]
 ·unfold modelOf
  simp only [List.getD_eq_getElem?_getD]
  rw [List.getElem?_append_right (by simp)]; simp [hj]
theorem no_both {g : T_api_Graph} (h : GVal g) {q : Int} {n : Nat} (hn : n < g.N.toNat) {st : List T_api_Step} (hr : refP (encP g q (n : Int)) st = true) {y : List Int} (hy : LOk g.N.toNat y) : forP g q n y = false := by
 rw [← enc_sat h hy (modelOf_ok (N := g.N.toNat) (y := y)) hn, satB_satP]
 exact refP_sound hr

theorem enc_no_both {g : T_api_Graph} (h : GVal g) {q : Int} {n : Nat} {m : List Bool} (hs : satP (encP g q (n : Int)) m = true) : ∀ j, j < g.N.toNat → (m.getD j false && m.getD (g.N.toNat + j) false) = false := fun j hj => by
 have hn0 := h.n0
 have hc : [-((j : Int) + 1), -(g.N + (j : Int) + 1)] ∈ encP g q (n : Int) := by
  unfold encP nodesC
  refine List.mem_append_left _ (List.mem_flatMap.2 ⟨j, List.mem_range.2 hj, ?_⟩)
  unfold nodeC; simp
 have := List.all_eq_true.1 hs _ hc
 rw [show -(g.N + (j : Int) + 1) = -(((g.N.toNat + j : Nat) : Int) + 1) by omega] at this
 simp only [List.any_cons, List.any_nil, Bool.or_false, lit_neg] at this
 revert this
 cases m.getD j false <;> cases m.getD (g.N.toNat + j) false <;> simp

/-- what Decide answers -/
def DecR (g : T_api_Graph) (q : Int) (n : Nat) (v : T_api_Verdict) : Prop :=
 (∃ y, v = ⟨q != 3, y, [], []⟩ ∧ LOk g.N.toNat y ∧ forP g q n y = true) ∨ (∃ st, v = ⟨q == 3, [], [], st⟩ ∧ st.length ≤ 20000 ∧ refP (encP g q (n : Int)) st = true)
theorem Decide_plain {g : T_api_Graph} (h : GVal g) (hg : g.L.length ≤ 100000) {q : Int} (hq1 : 1 ≤ q) (hq3 : q ≤ 3) {n : Nat} (hn : n < g.N.toNat) :
  T (verdict_Decide_m g q (n : Int)) fun r => (r.2 = 0 ∧ DecR g q n r.1) ∨ (r = (⟨false, [], [], []⟩, 2) ∧ 12 < nvs (encP g q (n : Int)) (2 * g.N)) := by
 have hn0 := h.n0; have hn1 := h.n1
 unfold verdict_Decide_m
 refine T.bind (asked_plain hg) fun r hr => ?_
 rcases hr with ⟨rfl, _, _, _⟩ | ⟨_, hb⟩
 case inr => exact absurd ⟨h, by omega, by omega⟩ hb
 rw [show ((0 : Int) != 0) = false from rfl, cond_false, show (q == 4) = false by simp; omega, cond_false]
 refine T.bind (Encode_plain hg) fun r hr => ?_
 have er : r = (2 * g.N, 0, encP g q (n : Int)) := by
  rcases hr with ⟨_, _, _, _, _, hr⟩ | ⟨_, _, _, hc, _⟩ | ⟨hc, _⟩
  ·exact hr
  ·exact absurd ⟨hq1, hq3⟩ hc
  ·exact absurd ⟨h, by omega, by omega⟩ hc
 subst er
 dsimp only
 rw [show ((0 : Int) != 0) = false from rfl, cond_false]
 have hv := enc_ok h (q := q) (n := n) hn
 refine T.bind Solve_plain fun s hs => ?_
 rw [if_pos (ValidP_ok.2 hv)] at hs
 rcases hs with ⟨rfl, hs⟩ | ⟨h0, h1, h2, h3, h4⟩ | ⟨h0, h1, h2, h3, h4⟩
 ·exact .ret (.inr ⟨rfl, hs⟩)
 ·rw [h0, show ((0 : Int) != 0) = false from rfl, cond_false, h1, cond_true]
  have hNN : g.N = (g.N.toNat : Int) := by omega
  rw [hNN]
  refine T.bind (labels_plain (N := g.N.toNat) (m := s.1.Model) (by omega) (by omega) (enc_no_both h h4)) fun y ⟨hy, hm⟩ => .ret (.inl ⟨rfl, .inl ⟨y, rfl, hy, ?_⟩⟩)
  rw [← enc_sat h hy hm hn]; exact h4
 ·rw [h0, show ((0 : Int) != 0) = false from rfl, cond_false, h1, cond_false]
  exact .ret (.inl ⟨rfl, .inr ⟨s.1.Steps, rfl, h3, h4⟩⟩)

/-- what Check accepts -/
def AccR (g : T_api_Graph) (q : Int) (n : Nat) (v : T_api_Verdict) : Prop :=
 v.Ranks = [] ∧ (v.Holds = (q != 3) ∧ v.Steps = [] ∧ LOk g.N.toNat v.Labels ∧ forP g q n v.Labels = true ∨ v.Holds ≠ (q != 3) ∧ v.Labels = [] ∧ v.Steps.length ≤ 20000 ∧ refP (encP g q (n : Int)) v.Steps = true)
end Go.Dc

set_option linter.unusedVariables false
set_option linter.unusedSimpArgs false
set_option linter.unusedSectionVars false
/-! The grounded labelling and its ranks: what holds on the way. -/
namespace Go.Dc
open Go.Proofs Go.Sort
open Classical

theorem countP_one {N k : Nat} (hk : k < N) {p q : Nat → Bool} (h : ∀ a, a ≠ k → p a = q a) (hq : q k = false) : (List.range N).countP p = (List.range N).countP q + (if p k = true then 1 else 0) := by
 induction N with
 | zero => omega
 | succ N ih =>
  rw [List.range_succ, List.countP_append, List.countP_append, List.countP_singleton, List.countP_singleton]
  by_cases e : k = N
  ·subst e
   have : (List.range k).countP p = (List.range k).countP q := List.countP_congr fun a ha => by rw [h a (by have := List.mem_range.1 ha; omega)]
   rw [this, hq]; simp
  ·rw [ih (by omega), h N (by omega)]; omega
theorem countP_zero {N : Nat} {p : Nat → Bool} : (List.range N).countP p = 0 ↔ ∀ a, a < N → p a = false := by
 rw [List.countP_eq_zero]
 constructor
 ·intro h a ha; simpa using h a (List.mem_range.2 ha)
 ·intro h a ha; simpa using h a (List.mem_range.1 ha)

/-- the attackers that are not out -/
noncomputable def opa (g : T_api_Graph) (l : Nat → Int) (j : Nat) : Nat := (List.range g.N.toNat).countP fun a : Nat => decide (att g a j ∧ l a ≠ 2)
variable {g : T_api_Graph} {N : Nat}

theorem pairs_count (h : GVal g) (j : Nat) : g.L.countP (fun p => decide (p.To = (j : Int))) = (List.range g.N.toNat).countP fun a : Nat => decide (att g a j) := by
 rw [List.countP_eq_length_filter, List.countP_eq_length_filter]
 have e : (g.L.filter fun p => decide (p.To = (j : Int))).length = ((g.L.filter fun p => decide (p.To = (j : Int))).map fun p => p.From.toNat).length := by simp
 rw [e]
 refine List.Perm.length_eq ((List.perm_ext_iff_of_nodup ?_ ?_).2 fun a => ?_)
 ·unfold List.Nodup
  rw [List.pairwise_map]
  refine List.Pairwise.imp_of_mem ?_ (List.Pairwise.filter _ h.s)
  intro p q hp hq hpq hf
  have h1 := List.mem_filter.1 hp; have h2 := List.mem_filter.1 hq
  have t1 := of_decide_eq_true h1.2; have t2 := of_decide_eq_true h2.2
  have v1 := h.v p h1.1; have v2 := h.v q h2.1
  unfold plt at hpq
  omega
 ·exact List.Pairwise.filter _ List.nodup_range
 ·rw [List.mem_map, List.mem_filter, List.mem_range, decide_eq_true_iff]
  constructor
  ·rintro ⟨p, hp, rfl⟩
   obtain ⟨h1, h2⟩ := List.mem_filter.1 hp
   have v := h.v p h1
   exact ⟨by omega, p, h1, by omega, of_decide_eq_true h2⟩
  ·rintro ⟨ha, p, hp, h1, h2⟩
   exact ⟨p, List.mem_filter.2 ⟨hp, decide_eq_true h2⟩, by omega⟩

theorem att_lt (h : GVal g) {a b : Nat} (hab : att g a b) : (a : Int) < g.N ∧ (b : Int) < g.N := by
 obtain ⟨p, hp, h1, h2⟩ := hab
 have := h.v p hp
 omega
theorem opa_zero (h : GVal g) {l : Nat → Int} {j : Nat} (hz : opa g l j = 0) : ∀ a : Nat, att g a j → l a = 2 := by
 intro a ha
 have hlt := (att_lt h ha).1
 have := countP_zero.1 hz a (by omega)
 simp only [decide_eq_false_iff_not, not_and, ne_eq, Classical.not_not] at this
 exact this ha
theorem zero_opa {l : Nat → Int} {j : Nat} (hz : ∀ a : Nat, att g a j → l a = 2) : opa g l j = 0 := by
 refine countP_zero.2 fun a _ => ?_
 simp only [decide_eq_false_iff_not, not_and, ne_eq, Classical.not_not]
 exact hz a
theorem opa_set (h : GVal g) {N : Nat} (hN : g.N = N) {l : List Int} (hl : l.length = N) {k : Nat} (hk : k < N) (h3 : sf l k = 3) (j : Nat) : opa g (sf l) j = opa g (sf (l.set k 2)) j + (if att g k j then 1 else 0) := by
 unfold opa
 rw [hN, Int.toNat_natCast, countP_one (k := k) hk (q := fun a : Nat => decide (att g a j ∧ sf (l.set k 2) a ≠ 2))]
 ·congr 1
  by_cases c : att g k j
  ·rw [if_pos c, if_pos (decide_eq_true ⟨c, by omega⟩)]
  ·rw [if_neg c, if_neg (by simp [c])]
 ·intro a ha
  rw [sf_set (by omega), if_neg (fun e => ha e.symm)]
 ·rw [sf_set (by omega), if_pos rfl]; simp

theorem nodup_bound {Q : List Int} (h : Q.Nodup) (hb : ∀ q ∈ Q, 0 ≤ q ∧ q < (N : Int)) : Q.length ≤ N := by
 have h1 : (Q.map Int.toNat).Nodup := by
  unfold List.Nodup
  rw [List.pairwise_map]
  refine List.Pairwise.imp_of_mem ?_ h
  intro a b ha hb' hab e
  have := hb a ha; have := hb b hb'
  exact hab (by omega)
 have h2 : (Q.map Int.toNat) ⊆ List.range N := fun x hx => by
  obtain ⟨q, hq, rfl⟩ := List.mem_map.1 hx
  have := hb q hq
  exact List.mem_range.2 (by omega)
 have h3 : (Q.map Int.toNat).Perm ((List.range N).filter fun x => decide (x ∈ Q.map Int.toNat)) :=
  (List.perm_ext_iff_of_nodup h1 (List.Pairwise.filter _ List.nodup_range)).2 fun x => by
   rw [List.mem_filter, decide_eq_true_iff]
   exact ⟨fun hx => ⟨h2 hx, hx⟩, fun hx => hx.2⟩
 have h4 := h3.length_eq
 have h5 := List.length_filter_le (fun x => decide (x ∈ Q.map Int.toNat)) (List.range N)
 rw [List.length_map] at h4
 rw [List.length_range] at h5
 omega
theorem vidx_sf {d : List Int} {i : Nat} (hd : d.length = 40) (hi : i < 40) : vidxM 40 d (i : Int) = some (sf d i) := by
 unfold vidxM
 rw [if_pos hd, idx_sf (by omega)]


/-- nodes that become In -/
structure Nx (N : Nat) (l o Q : List Int) : Prop where
 ok : ∀ q ∈ Q, ∃ i : Nat, q = i ∧ i < N ∧ sf l i = 3 ∧ sf o i = 0
 nd : Q.Nodup
theorem Nx.len {l o Q : List Int} (h : Nx N l o Q) : Q.length ≤ N := nodup_bound h.nd fun q hq => by
 obtain ⟨i, rfl, hi, _⟩ := h.ok q hq; omega
/-- the ranks tell why -/
def RI (g : T_api_Graph) (N : Nat) (rd : Int) (l r : List Int) : Prop := ∀ i : Nat, i < N →
 (sf l i = 1 → 1 ≤ sf r i ∧ sf r i ≤ rd ∧ ∀ a : Nat, att g a i → sf l a = 2 ∧ sf r a < sf r i) ∧
 (sf l i = 2 → sf r i ≤ rd ∧ ∃ a : Nat, a < N ∧ att g a i ∧ sf l a = 1 ∧ 1 ≤ sf r a ∧ sf r a ≤ sf r i)
structure Md (g : T_api_Graph) (N : Nat) (rd : Int) (l r o nx : List Int) : Prop where
 ll : l.length = N
 rl : r.length = N
 lo : o.length = 40
 v : ∀ i, i < N → sf l i = 1 ∨ sf l i = 2 ∨ sf l i = 3
 nxt : Nx N l o nx
 op : ∀ j, j < N → sf o j = (opa g (sf l) j : Int)
 zero : ∀ j, j < N → sf l j = 3 → sf o j = 0 → (j : Int) ∈ nx
 ri : RI g N rd l r

/-- an attacked node gets out: the open attackers of those that it attacks -/
theorem l4_plain (h : GVal g) (hN : g.N = N) {rd : Int} {st : Int × List Int × List Int × List Int × List Int} {k i : Nat} (hk : k < N) (h3 : sf st.2.1 k = 3) (hiN : i < N) (hik : att g i k) (hi1 : sf st.2.1 i = 1) (hir : sf st.2.2.1 i = rd)
  {T2 : List Int} (hT : ∀ j : Int, j ∈ T2 ↔ att g k j) (hnd : T2.Nodup) (hTl : T2.length ≤ 64) (md : Md g N rd st.2.1 st.2.2.1 st.2.2.2.1 st.2.2.2.2) :
  T (loopC (grounded_build_l4 st (k : Int) T2) (0, st.2.2.2.1, st.2.2.2.2)) fun q => Md g N rd (st.2.1.set k 2) (st.2.2.1.set k rd) q.1 q.2 := by
 obtain ⟨p, l, r, o, nq⟩ := st
 dsimp only at h3 hi1 hir md ⊢
 have h40 := h.n1
 have hll := md.ll; have hrl := md.rl; have hlo := md.lo
 have sl : ∀ x, sf (l.set k 2) x = if k = x then 2 else sf l x := fun x => sf_set (by omega)
 have sr : ∀ x, sf (r.set k rd) x = if k = x then rd else sf r x := fun x => sf_set (by omega)
 have hok : sf o k ≠ 0 := fun e => by
  have := md.op k hk
  rw [e] at this
  have := opa_zero h (l := sf l) (j := k) (by omega) i hik
  omega
 have hri : RI g N rd (l.set k 2) (r.set k rd) := fun x hx => by
  obtain ⟨q1, q2⟩ := md.ri x hx
  rw [sl, sr]
  by_cases e : k = x
  ·subst e
   rw [if_pos rfl, if_pos rfl]
   refine ⟨fun h => by omega, fun _ => ⟨by omega, i, hiN, hik, ?_, ?_⟩⟩
   ·rw [sl, if_neg (fun e => by subst e; omega)]; exact hi1
   ·have hne : ¬ k = i := fun e => by subst e; omega
    have := (md.ri i hiN).1 hi1
    rw [sr, if_neg hne]; omega
  ·rw [if_neg e, if_neg e]
   refine ⟨fun hx1 => ?_, fun hx2 => ?_⟩
   ·obtain ⟨a1, a2, a3⟩ := q1 hx1
    refine ⟨a1, a2, fun a ha => ?_⟩
    obtain ⟨b1, b2⟩ := a3 a ha
    have hne : ¬ k = a := fun e => by subst e; omega
    rw [sl, sr, if_neg hne, if_neg hne]; exact ⟨b1, b2⟩
   ·obtain ⟨a1, a, a2, a3, a4, a5, a6⟩ := q2 hx2
    have hne : ¬ k = a := fun e => by subst e; omega
    refine ⟨a1, a, a2, a3, ?_⟩
    rw [sl, sr, if_neg hne, if_neg hne]; exact ⟨a4, a5, a6⟩
 have fin : ∀ o' nq' : List Int, o'.length = 40 → Nx N (l.set k 2) o' nq' → (∀ j, j < N → sf o' j = (opa g (sf (l.set k 2)) j : Int)) → (∀ j, j < N → sf (l.set k 2) j = 3 → sf o' j = 0 → (j : Int) ∈ nq') → Md g N rd (l.set k 2) (r.set k rd) o' nq' :=
  fun o' nq' a1 a2 a3 a4 => ⟨by simp [hll], by simp [hrl], a1, fun x hx => by rw [sl]; split; exact .inr (.inl rfl); exact md.v x hx, a2, a3, a4, hri⟩
 refine T.loopK T2.length (fun q s => q ≤ T2.length ∧ s.1 = (q : Int) ∧ s.2.1.length = 40 ∧ Nx N (l.set k 2) s.2.1 s.2.2 ∧ (∀ j, j < N → sf s.2.1 j = (opa g (sf (l.set k 2)) j : Int) + (if (j : Int) ∈ T2.drop q then 1 else 0)) ∧ (∀ j, j < N → sf (l.set k 2) j = 3 → sf s.2.1 j = 0 → (j : Int) ∈ s.2.2)) ⟨by omega, rfl, hlo, ⟨fun q hq => ?_, md.nxt.nd⟩, fun j hj => ?_, fun j hj h1 h2 => ?_⟩ ?_
 ·obtain ⟨x, e, hx, q1, q2⟩ := md.nxt.ok q hq
  have hne : ¬ k = x := fun e => by subst e; exact hok q2
  refine ⟨x, e, hx, ?_, q2⟩
  rw [sl, if_neg hne]; exact q1
 ·rw [md.op j hj, opa_set h hN hll hk h3 j, List.drop_zero]
  by_cases c : att g k j
  ·rw [if_pos c, if_pos ((hT j).2 c)]; rfl
  ·rw [if_neg c, if_neg (fun e => c ((hT j).1 e))]; rfl
 ·rw [sl] at h1
  split at h1
  ·cases h1
  ·exact md.zero j hj h1 h2
 ·rintro q ⟨_, o', nq'⟩ ⟨hq, rfl, ho', nx', hop', hz'⟩
  dsimp only at ho' nx' hop' hz'
  dsimp only [grounded_build_l4]
  refine T.cond (fun c => ?_) fun c => ?_
  ·have hq2 : q < T2.length := by have := of_decide_eq_true c; omega
   have hat := (hT _).1 (List.getElem_mem hq2)
   obtain ⟨pp, hp, p1, p2⟩ := hat
   have hv := h.v pp hp
   obtain ⟨j, hj⟩ : ∃ j : Nat, T2[q] = (j : Int) := ⟨T2[q].toNat, by omega⟩
   have hjN : j < N := by omega
   have hdr : T2.drop q = (j : Int) :: T2.drop (q + 1) := by rw [List.drop_eq_getElem_cons hq2, hj]
   have hjn : (j : Int) ∉ T2.drop (q + 1) := by
    have : (T2.drop q).Nodup := List.Pairwise.sublist (List.drop_sublist _ _) hnd
    rw [hdr] at this
    exact (List.nodup_cons.1 this).1
   have hoj := hop' j hjN
   rw [hdr, if_pos (by simp)] at hoj
   have hoc : (opa g (sf (l.set k 2)) j : Int) ≤ 40 := by
    have : opa g (sf (l.set k 2)) j ≤ g.N.toNat := by unfold opa; exact Nat.le_trans List.countP_le_length (by simp)
    omega
   have nl := nx'.len
   rw [idxM_nat hq2, some_bind, hj, vidx_sf ho' (by omega), some_bind, some_bind, iadd1 (by omega), Int.toNat_natCast, Int.toNat_natCast, isub64 (by omega) (by omega), vidx_sf (by simpa using ho') (by omega), some_bind]
   have hsj : ∀ x, sf (o'.set j (sf o' j - 1)) x = if j = x then sf o' j - 1 else sf o' x := fun x => sf_set (by omega)
   have hop2 : ∀ x, x < N → sf (o'.set j (sf o' j - 1)) x = (opa g (sf (l.set k 2)) x : Int) + (if (x : Int) ∈ T2.drop (q + 1) then 1 else 0) := fun x hx => by
    rw [hsj]
    by_cases e : j = x
    ·subst e; rw [if_pos rfl, if_neg hjn, hoj]; omega
    ·rw [if_neg e, hop' x hx, hdr]
     have : ((x : Int) ∈ (j : Int) :: T2.drop (q + 1)) ↔ ((x : Int) ∈ T2.drop (q + 1)) := by
      rw [List.mem_cons]; exact ⟨fun h => h.elim (fun e2 => absurd (by omega) e) id, .inr⟩
     simp only [this]
   have nx2 : Nx N (l.set k 2) (o'.set j (sf o' j - 1)) nq' := ⟨fun y hy => by
    obtain ⟨x, e, hx, q1, q3⟩ := nx'.ok y hy
    refine ⟨x, e, hx, q1, ?_⟩
    rw [hsj]
    by_cases e2 : j = x
    ·subst e2; rw [hoj] at q3; omega
    ·rw [if_neg e2]; exact q3, nx'.nd⟩
   have stay : ¬ (sf (o'.set j (sf o' j - 1)) j = 0 ∧ sf (l.set k 2) j = 3) → ∀ x, x < N → sf (l.set k 2) x = 3 → sf (o'.set j (sf o' j - 1)) x = 0 → (x : Int) ∈ nq' := fun hno x hx h1 h2 => by
    by_cases e : j = x
    ·subst e; exact absurd ⟨h2, h1⟩ hno
    ·rw [hsj, if_neg e] at h2
     exact hz' x hx h1 h2
   refine T.cond (fun c2 => ?_) fun c2 => .ret ⟨hq2, hq2, rfl, by simpa using ho', nx2, hop2, stay fun hh => by rw [hh.1] at c2; cases c2⟩
   have b1 : sf (o'.set j (sf o' j - 1)) j = 0 := eq_of_beq c2
   rw [idx_sf (l := l.set k 2) (by simp; omega), some_bind]
   refine T.cond (fun c3 => ?_) fun c3 => .ret ⟨hq2, hq2, rfl, by simpa using ho', nx2, hop2, stay fun hh => by rw [hh.2] at c3; cases c3⟩
   have b2 : sf (l.set k 2) j = 3 := eq_of_beq c3
   rw [appM_eq (by simp; omega), some_bind]
   refine .ret ⟨hq2, hq2, rfl, by simpa using ho', ⟨fun y hy => ?_, ?_⟩, hop2, fun x hx h1 h2 => ?_⟩
   ·rcases List.mem_append.1 hy with hy | hy
    ·exact nx2.ok y hy
    ·rw [List.mem_singleton.1 hy]
     exact ⟨j, rfl, hjN, b2, b1⟩
   ·refine List.nodup_append.2 ⟨nx'.nd, by simp, fun y hy z hz2 e => ?_⟩
    rw [List.mem_singleton.1 hz2] at e
    subst e
    obtain ⟨x, e, hx, q1, q3⟩ := nx'.ok _ hy
    have : x = j := by omega
    subst this
    rw [hoj] at q3; omega
   ·simp only at h1 h2 ⊢
    rw [List.mem_append, List.mem_singleton]
    by_cases e : j = x
    ·exact .inr (by omega)
    ·rw [hsj, if_neg e] at h2
     exact .inl (hz' x hx h1 h2)
  ·have e : q = T2.length := by have := of_decide_eq_false c; omega
   subst e
   rw [List.drop_length] at hop'
   exact .ret (fin _ _ ho' nx' (fun j hj => by rw [hop' j hj]; simp) hz')
end Go.Dc

set_option linter.unusedVariables false
set_option linter.unusedSimpArgs false
set_option linter.unusedSectionVars false
/-! The grounded labelling and its ranks: rounds. -/
namespace Go.Dc
open Go.Proofs Go.Sort
open Classical
variable {g : T_api_Graph} {N : Nat}

theorem l5_plain (h : GVal g) (hg : g.L.length ≤ 100000) (hN : g.N = N) {s9 : Int × List Int × List Int × List Int × List Int} {i : Nat} (hiN : i < N) {T1 : List Int} (hT : ∀ j : Int, j ∈ T1 ↔ att g i j) (hTl : T1.length ≤ 64)
  {l r o nx : List Int} (md : Md g N s9.1 l r o nx) (hi1 : sf l i = 1) (hir : sf r i = s9.1) :
  T (loopC (grounded_build_l5 g s9 T1) (0, l, r, o, nx)) fun q => Md g N s9.1 q.1 q.2.1 q.2.2.1 q.2.2.2 ∧ (∀ x, x < N → sf q.1 x = 3 → sf l x = 3) ∧ (∀ x, x < N → (sf q.1 x = 1 ↔ sf l x = 1)) ∧ (∀ x, x < N → sf l x = 1 → sf q.2.1 x = sf r x) ∧ ∀ k : Nat, att g i k → sf q.1 k ≠ 3 := by
 have h40 := h.n1
 refine T.loopK T1.length (fun p s => p ≤ T1.length ∧ s.1 = (p : Int) ∧ Md g N s9.1 s.2.1 s.2.2.1 s.2.2.2.1 s.2.2.2.2 ∧ (∀ x, x < N → sf s.2.1 x = 3 → sf l x = 3) ∧ (∀ x, x < N → (sf s.2.1 x = 1 ↔ sf l x = 1)) ∧ (∀ x, x < N → sf l x = 1 → sf s.2.2.1 x = sf r x) ∧ ∀ k : Nat, (k : Int) ∈ T1.take p → sf s.2.1 k ≠ 3)
  ⟨by omega, rfl, md, fun _ _ h => h, fun _ _ => .rfl, fun _ _ _ => rfl, by simp⟩ ?_
 rintro p ⟨_, l', r', o', nx'⟩ ⟨hp, rfl, md', mono, one, rk, hd⟩
 dsimp only at md' mono one rk hd
 dsimp only [grounded_build_l5]
 refine T.cond (fun c => ?_) fun c => ?_
 ·have hp2 : p < T1.length := by have := of_decide_eq_true c; omega
  have hat := (hT _).1 (List.getElem_mem hp2)
  obtain ⟨k, hk⟩ : ∃ k : Nat, T1[p] = (k : Int) := by
   obtain ⟨q, hq, _, q2⟩ := hat
   have := h.v q hq
   exact ⟨T1[p].toNat, by omega⟩
  rw [hk] at hat
  have hkN : k < N := by have := (att_lt h hat).2; omega
  have hll := md'.ll; have hrl := md'.rl
  have htk : ∀ x : Int, x ∈ T1.take (p + 1) ↔ x ∈ T1.take p ∨ x = (k : Int) := fun x => by
   rw [List.take_add_one, List.getElem?_eq_getElem hp2, hk]; simp only [Option.toList_some, List.mem_append, List.mem_singleton]
  rw [idxM_nat hp2, some_bind, hk, idx_sf (by omega), some_bind, iadd1 (by omega)]
  refine T.cond (fun c2 => .ret ⟨hp2, hp2, rfl, md', mono, one, rk, fun x hx => ?_⟩) fun c2 => ?_
  ·rcases (htk x).1 hx with hx | hx
   ·exact hd x hx
   ·have : x = k := by omega
    subst this
    simpa using c2
  ·have h3 : sf l' k = 3 := by simpa using c2
   obtain ⟨T2, e1, e2, e3, e4⟩ := Attacked_plain h hg (i := k) (by omega)
   have hnd : T2.Nodup := e3.imp fun {a b} hab => by omega
   rw [some_bind, idx_sf (l := r') (by omega), some_bind, e1, some_bind]
   have hil : sf l' i = 1 := (one i hiN).2 hi1
   refine T.bind (l4_plain h hN (rd := s9.1) (st := ((p : Int), l', r', o', nx')) hkN h3 hiN hat hil (by rw [← hir]; exact rk i hiN hi1) e2 hnd e4 md') ?_
   rintro ⟨o2, nx2⟩ q1
   dsimp only at q1 ⊢
   rw [Int.toNat_natCast]
   have hs : ∀ x, sf (l'.set k 2) x = if k = x then 2 else sf l' x := fun x => sf_set (by omega)
   have hr : ∀ x, sf (r'.set k s9.1) x = if k = x then s9.1 else sf r' x := fun x => sf_set (by omega)
   refine .ret ⟨hp2, hp2, rfl, q1, fun x hx h5 => ?_, fun x hx => ?_, fun x hx h5 => ?_, fun x hx => ?_⟩
   ·simp only at h5
    rw [hs] at h5; split at h5
    ·omega
    ·exact mono x hx h5
   ·simp only
    rw [hs]; split
    ·rename_i e; subst e
     have := mono k hkN h3
     omega
    ·exact one x hx
   ·simp only
    have hne : ¬ k = x := fun e => by subst e; have := mono k hkN h3; omega
    rw [hr, if_neg hne]; exact rk x hx h5
   ·simp only
    rw [hs]; split
    ·omega
    ·rename_i e
     rcases (htk x).1 hx with hx | hx
     ·exact hd x hx
     ·exact absurd (by omega) e
 ·have e : p = T1.length := by have := of_decide_eq_false c; omega
  subst e
  rw [List.take_length] at hd
  exact .ret ⟨md', mono, one, rk, fun k hk => hd k ((hT _).2 hk)⟩

theorem l3_plain {s9 : Int × List Int × List Int × List Int × List Int} (hQ : ∀ q ∈ s9.2.2.2.2, ∃ i : Nat, q = i ∧ i < N) (hQl : s9.2.2.2.2.length ≤ 1000) (hll : s9.2.1.length = N) (hrl : s9.2.2.1.length = N) :
  T (loopC (grounded_build_l3 s9) (0, s9.2.1, s9.2.2.1)) fun q => q.1.length = N ∧ q.2.length = N ∧ (∀ x : Nat, x < N → sf q.1 x = if (x : Int) ∈ s9.2.2.2.2 then 1 else sf s9.2.1 x) ∧ ∀ x : Nat, x < N → sf q.2 x = if (x : Int) ∈ s9.2.2.2.2 then s9.1 else sf s9.2.2.1 x := by
 obtain ⟨rd, l, r, o, Q⟩ := s9
 dsimp only at hQ hQl hll hrl ⊢
 refine T.loopK Q.length (fun p s => p ≤ Q.length ∧ s.1 = (p : Int) ∧ s.2.1.length = N ∧ s.2.2.length = N ∧ (∀ x : Nat, x < N → sf s.2.1 x = if (x : Int) ∈ Q.take p then 1 else sf l x) ∧ ∀ x : Nat, x < N → sf s.2.2 x = if (x : Int) ∈ Q.take p then rd else sf r x) ⟨by omega, rfl, hll, hrl, by simp, by simp⟩ ?_
 rintro p ⟨_, l', r'⟩ ⟨hp, rfl, hl', hr', hx, hxr⟩
 dsimp only at hl' hr' hx hxr
 dsimp only [grounded_build_l3]
 refine T.cond (fun c => ?_) fun c => ?_
 ·have hp2 : p < Q.length := by have := of_decide_eq_true c; omega
  obtain ⟨i, hi, hiN⟩ := hQ _ (List.getElem_mem hp2)
  rw [idxM_nat hp2, some_bind, hi, idx_sf (by omega), some_bind, idx_sf (by omega), some_bind, iadd1 (by omega), Int.toNat_natCast]
  have htk : ∀ x : Nat, ((x : Int) ∈ Q.take (p + 1) ↔ (x : Int) ∈ Q.take p ∨ (x : Int) = (i : Int)) := fun x => by
   rw [List.take_add_one, List.getElem?_eq_getElem hp2, hi]; simp only [Option.toList_some, List.mem_append, List.mem_singleton]
  refine .ret ⟨hp2, hp2, rfl, by simp [hl'], by simp [hr'], fun x hx2 => ?_, fun x hx2 => ?_⟩
  ·simp only
   rw [sf_set (by omega)]
   by_cases e : i = x
   ·rw [if_pos e, if_pos ((htk x).2 (.inr (by omega)))]
   ·rw [if_neg e, hx x hx2]
    have : ((x : Int) ∈ Q.take (p + 1)) ↔ ((x : Int) ∈ Q.take p) := (htk x).trans ⟨fun h => h.elim id fun e2 => absurd (by omega) e, .inl⟩
    simp only [this]
  ·simp only
   rw [sf_set (by omega)]
   by_cases e : i = x
   ·rw [if_pos e, if_pos ((htk x).2 (.inr (by omega)))]
   ·rw [if_neg e, hxr x hx2]
    have : ((x : Int) ∈ Q.take (p + 1)) ↔ ((x : Int) ∈ Q.take p) := (htk x).trans ⟨fun h => h.elim id fun e2 => absurd (by omega) e, .inl⟩
    simp only [this]
 ·have e : p = Q.length := by have := of_decide_eq_false c; omega
  subst e
  rw [List.take_length] at hx hxr
  exact .ret ⟨hl', hr', hx, hxr⟩

theorem l6_plain (h : GVal g) (hg : g.L.length ≤ 100000) (hN : g.N = N) {s9 : Int × List Int × List Int × List Int × List Int} (hQl : s9.2.2.2.2.length ≤ 1000)
  {l1 r1 o1 : List Int} (hQ : ∀ q ∈ s9.2.2.2.2, ∃ i : Nat, q = i ∧ i < N ∧ sf l1 i = 1 ∧ sf r1 i = s9.1) (md : Md g N s9.1 l1 r1 o1 []) (hd : ∀ x : Nat, x < N → sf l1 x = 1 → (x : Int) ∉ s9.2.2.2.2 → ∀ k : Nat, att g x k → sf l1 k ≠ 3) :
  T (loopC (grounded_build_l6 g s9) (0, l1, r1, o1, [])) fun q => Md g N s9.1 q.1 q.2.1 q.2.2.1 q.2.2.2 ∧ (∀ x, x < N → sf q.1 x = 3 → sf l1 x = 3) ∧ ∀ x : Nat, x < N → sf q.1 x = 1 → ∀ k : Nat, att g x k → sf q.1 k ≠ 3 := by
 have h40 := h.n1
 refine T.loopK s9.2.2.2.2.length (fun p s => p ≤ s9.2.2.2.2.length ∧ s.1 = (p : Int) ∧ Md g N s9.1 s.2.1 s.2.2.1 s.2.2.2.1 s.2.2.2.2 ∧ (∀ x, x < N → sf s.2.1 x = 3 → sf l1 x = 3) ∧ (∀ x, x < N → (sf s.2.1 x = 1 ↔ sf l1 x = 1)) ∧ (∀ x, x < N → sf l1 x = 1 → sf s.2.2.1 x = sf r1 x) ∧ ∀ x : Nat, x < N → sf l1 x = 1 → (x : Int) ∉ s9.2.2.2.2.drop p → ∀ k : Nat, att g x k → sf s.2.1 k ≠ 3)
  ⟨by omega, rfl, md, fun _ _ h => h, fun _ _ => .rfl, fun _ _ _ => rfl, fun x hx h1 hn => hd x hx h1 (by simpa using hn)⟩ ?_
 rintro p ⟨_, l', r', o', nx'⟩ ⟨hp, rfl, md', mono, one, rk, hd'⟩
 dsimp only at md' mono one rk hd'
 dsimp only [grounded_build_l6]
 refine T.cond (fun c => ?_) fun c => ?_
 ·have hp2 : p < s9.2.2.2.2.length := by have := of_decide_eq_true c; omega
  obtain ⟨i, hi, hiN, hi1, hir⟩ := hQ _ (List.getElem_mem hp2)
  obtain ⟨T1, e1, e2, e3, e4⟩ := Attacked_plain h hg (i := i) (by omega)
  rw [idxM_nat hp2, some_bind, hi, e1, some_bind, iadd1 (by omega)]
  refine T.bind (l5_plain h hg hN (s9 := s9) hiN e2 e4 md' ((one i hiN).2 hi1) (by rw [rk i hiN hi1]; exact hir)) ?_
  rintro ⟨l2, r2, o2, nx2⟩ ⟨q1, q2, q3, q4, q5⟩
  dsimp only at q1 q2 q3 q4 q5 ⊢
  refine .ret ⟨hp2, hp2, rfl, q1, fun x hx h5 => mono x hx (q2 x hx h5), fun x hx => (q3 x hx).trans (one x hx), fun x hx h5 => (q4 x hx ((one x hx).2 h5)).trans (rk x hx h5), fun x hx h1 hn k hk h5 => ?_⟩
  simp only at h5
  have hkN : k < N := by have := (att_lt h hk).2; omega
  by_cases e : x = i
  ·subst e; exact q5 k hk h5
  ·refine hd' x hx h1 (fun hm => hn ?_) k hk (q2 k hkN h5)
   rw [List.drop_eq_getElem_cons hp2, hi] at hm
   rcases List.mem_cons.1 hm with hm | hm
   ·exact absurd (by omega) e
   ·exact hm
 ·have e : p = s9.2.2.2.2.length := by have := of_decide_eq_false c; omega
  subst e
  rw [List.drop_length] at hd'
  exact .ret ⟨md', mono, fun x hx h1 => hd' x hx ((one x hx).1 h1) (by simp)⟩

structure Hdd (g : T_api_Graph) (N : Nat) (rd : Int) (l r o Q : List Int) : Prop extends Md g N rd l r o Q where
 done : ∀ i, i < N → sf l i = 1 → ∀ k : Nat, att g i k → sf l k ≠ 3
theorem countP_lt {α : Type} {p q : α → Bool} : ∀ {l : List α}, (∀ x ∈ l, p x = true → q x = true) → (∃ x ∈ l, q x = true ∧ p x = false) → l.countP p < l.countP q
 | [], _, h => by obtain ⟨x, hx, _⟩ := h; simp at hx
 | y :: l, h, hx => by
  have h1 : l.countP p ≤ l.countP q := by
   refine List.countP_mono_left fun x hx hp => h x (List.mem_cons_of_mem _ hx) hp
  rw [List.countP_cons, List.countP_cons]
  obtain ⟨x, hx, hq, hp⟩ := hx
  rcases List.mem_cons.1 hx with rfl | hx
  ·rw [hq, hp]; simp; omega
  ·have := countP_lt (fun x hx => h x (List.mem_cons_of_mem _ hx)) ⟨x, hx, hq, hp⟩
   cases hpy : p y with
   | false => simp; split <;> omega
   | true => rw [h y (by simp) hpy]; simp; exact this
def c3 (N : Nat) (l : List Int) : Nat := (List.range N).countP fun i => decide (sf l i = 3)

theorem round_plain (h : GVal g) (hg : g.L.length ≤ 100000) (hN : g.N = N) {rd : Nat} (hrd : rd ≤ 1000) {l r o Q : List Int} (H : Hdd g N (rd : Int) l r o Q) (hQ0 : Q ≠ []) :
  T (grounded_build_l7 g (((rd + 1 : Nat) : Int), l, r, o, Q)) fun s => ∃ l' r' o' Q', s = .inr (((rd + 2 : Nat) : Int), l', r', o', Q') ∧ Hdd g N ((rd + 1 : Nat) : Int) l' r' o' Q' ∧ c3 N l' < c3 N l := by
 have h40 := h.n1
 have hql := H.nxt.len
 unfold grounded_build_l7
 dsimp only
 have hpos : (Q.length : Int) > 0 := by have := List.length_pos_iff.2 hQ0; omega
 rw [decide_eq_true hpos, cond_true]
 refine T.bind (l3_plain (N := N) (s9 := (((rd + 1 : Nat) : Int), l, r, o, Q)) (fun q hq => by obtain ⟨i, e, hi, _⟩ := H.nxt.ok q hq; exact ⟨i, e, hi⟩) (by dsimp only; omega) H.ll H.rl) ?_
 rintro ⟨l1, r1⟩ ⟨a1, a2, a3, a4⟩
 dsimp only at a1 a2 a3 a4 ⊢
 have hin : ∀ x : Nat, x < N → (x : Int) ∈ Q → sf l x = 3 ∧ sf o x = 0 := fun x hx hm => by
  obtain ⟨i, e, hi, q1, q2⟩ := H.nxt.ok _ hm
  have : i = x := by omega
  subst this; exact ⟨q1, q2⟩
 have nin : ∀ x : Nat, x < N → sf l x ≠ 3 → sf l1 x = sf l x ∧ sf r1 x = sf r x := fun x hx hne => by
  have hm : (x : Int) ∉ Q := fun hm => hne (hin x hx hm).1
  rw [a3 x hx, a4 x hx, if_neg hm, if_neg hm]; exact ⟨rfl, rfl⟩
 have op1 : ∀ j, opa g (sf l1) j = opa g (sf l) j := fun j => by
  unfold opa
  refine List.countP_congr fun a ha => ?_
  have haN : a < N := by have := List.mem_range.1 ha; omega
  rw [decide_eq_true_iff, decide_eq_true_iff, a3 a haN]
  by_cases hm : (a : Int) ∈ Q
  ·rw [if_pos hm]
   have := (hin a haN hm).1
   exact ⟨fun h => ⟨h.1, by omega⟩, fun h => ⟨h.1, by omega⟩⟩
  ·rw [if_neg hm]
 have md : Md g N ((rd + 1 : Nat) : Int) l1 r1 o [] := by
  refine ⟨a1, a2, H.lo, fun i hi => ?_, ⟨fun q hq => (by cases hq), by simp⟩, fun j hj => ?_, fun j hj h3 h0 => ?_, fun i hi => ⟨fun h1 => ?_, fun h2 => ?_⟩⟩
  ·rw [a3 i hi]; split
   ·exact .inl rfl
   ·exact H.v i hi
  ·rw [H.op j hj, op1]
  ·rw [a3 j hj] at h3; split at h3
   ·omega
   ·rename_i hm; exact absurd (H.zero j hj h3 h0) hm
  ·by_cases hm : (i : Int) ∈ Q
   ·obtain ⟨q1, q2⟩ := hin i hi hm
    rw [a4 i hi, if_pos hm]
    refine ⟨by omega, by omega, fun a ha => ?_⟩
    have haN : a < N := by have := (att_lt h ha).1; omega
    have hz := H.op i hi
    rw [q2] at hz
    have ha2 := opa_zero h (l := sf l) (j := i) (by omega) a ha
    obtain ⟨e1, e2⟩ := nin a haN (by omega)
    have := ((H.ri a haN).2 ha2).1
    rw [e1, e2]; exact ⟨ha2, by omega⟩
   ·rw [a3 i hi, if_neg hm] at h1
    obtain ⟨b1, b2, b3⟩ := (H.ri i hi).1 h1
    rw [a4 i hi, if_neg hm]
    refine ⟨b1, by omega, fun a ha => ?_⟩
    have haN : a < N := by have := (att_lt h ha).1; omega
    obtain ⟨c1, c2⟩ := b3 a ha
    obtain ⟨e1, e2⟩ := nin a haN (by omega)
    rw [e1, e2]; exact ⟨c1, c2⟩
  ·have hm : (i : Int) ∉ Q := fun hm => by rw [a3 i hi, if_pos hm] at h2; omega
   rw [a3 i hi, if_neg hm] at h2
   obtain ⟨b1, a, b2, b3, b4, b5, b6⟩ := (H.ri i hi).2 h2
   rw [a4 i hi, if_neg hm]
   obtain ⟨e1, e2⟩ := nin a b2 (by omega)
   exact ⟨by omega, a, b2, b3, by rw [e1]; exact b4, by rw [e2]; exact b5, by rw [e2]; exact b6⟩
 refine T.bind (l6_plain h hg hN (s9 := (((rd + 1 : Nat) : Int), l, r, o, Q)) (by dsimp only; omega) (fun q hq => ?_) md fun x hx h1 hn k hk h3 => ?_) ?_
 ·obtain ⟨i, e, hi, _⟩ := H.nxt.ok q hq
  have hm : (i : Int) ∈ Q := e ▸ hq
  refine ⟨i, e, hi, ?_, ?_⟩
  ·rw [a3 i hi, if_pos hm]
  ·rw [a4 i hi, if_pos hm]
 ·dsimp only at hn
  rw [a3 x hx, if_neg hn] at h1
  have hkN : k < N := by have := (att_lt h hk).2; omega
  rw [a3 k hkN] at h3
  split at h3
  ·omega
  ·exact H.done x hx h1 k hk h3
 ·rintro ⟨l2, r2, o2, nx2⟩ ⟨m2, sub, d2⟩
  dsimp only at m2 sub d2 ⊢
  rw [iadd1 (by omega)]
  refine .ret ⟨l2, r2, o2, nx2, rfl, ⟨m2, d2⟩, ?_⟩
  obtain ⟨q, hq⟩ := List.exists_mem_of_ne_nil Q hQ0
  obtain ⟨i, rfl, hi, hi3, _⟩ := H.nxt.ok q hq
  refine countP_lt (fun x hx hp => ?_) ⟨i, List.mem_range.2 hi, decide_eq_true hi3, decide_eq_false fun e => ?_⟩
  ·have hxN := List.mem_range.1 hx
   have h1 := sub x hxN (of_decide_eq_true hp)
   rw [a3 x hxN] at h1
   split at h1
   ·omega
   ·exact decide_eq_true h1
  ·have h1 := sub i hi e
   rw [a3 i hi, if_pos hq] at h1
   omega
end Go.Dc

set_option linter.unusedVariables false
set_option linter.unusedSimpArgs false
set_option linter.unusedSectionVars false
/-! The grounded labelling and its ranks: the whole. -/
namespace Go.Dc
open Go.Proofs Go.Sort
open Classical
variable {g : T_api_Graph} {N : Nat}

theorem Repeat_plain : ∀ n : Nat, n ≤ 40 → slices_Repeat_int_int_m [3] (n : Int) = some (List.replicate n 3) := by
 intro n hn
 have : ∀ n : Nat, n < 41 → slices_Repeat_int_int_f 20 [3] (n : Int) = some (List.replicate n 3) := by decide +kernel
 exact slices_Repeat_int_int_f_le (k_ := 20) _ (this n (by omega))

/-- the ranks prove the labels -/
def PrvP (g : T_api_Graph) (y r : List Int) : Prop := ∀ i : Nat, i < g.N.toNat →
 (sf y i = 1 → 1 ≤ sf r i ∧ ∀ a : Nat, att g a i → sf r a < sf r i) ∧
 (sf y i = 2 → ∃ a : Nat, a < g.N.toNat ∧ att g a i ∧ sf y a = 1 ∧ 1 ≤ sf r a ∧ sf r a ≤ sf r i)
/-- a proof of the grounded labelling -/
def AccG (g : T_api_Graph) (y r : List Int) : Prop := LOk g.N.toNat y ∧ r.length = g.N.toNat ∧ compP g y = true ∧ PrvP g y r

theorem att_atts (h : GVal g) {i : Nat} {a : Int} : a ∈ attsP g (i : Int) ↔ ∃ b : Nat, a = b ∧ att g b i := by
 rw [mem_attsP]
 constructor
 ·intro ha
  obtain ⟨p, hp, h1, h2⟩ := ha
  have := h.v p hp
  exact ⟨a.toNat, by omega, p, hp, by omega, h2⟩
 ·rintro ⟨b, rfl, hb⟩; exact hb
theorem uOf_nat {y : List Int} {b : Nat} : uOf y (b : Int) = sf y b := by unfold uOf; rw [Int.toNat_natCast]

theorem Hdd.acc (h : GVal g) (hN : g.N = N) {rd : Int} {l r o : List Int} (H : Hdd g N rd l r o []) : AccG g l r := by
 have hNt : g.N.toNat = N := by omega
 refine ⟨?_, by rw [hNt]; exact H.rl, ?_, fun i hi => ?_⟩
 ·rw [hNt]
  refine ⟨H.ll, fun x hx => ?_⟩
  obtain ⟨i, hi, rfl⟩ := List.getElem_of_mem hx
  have e : sf l i = l[i] := by unfold sf; simp [List.getD, hi]
  have := H.v i (by have := H.ll; omega)
  rw [← e]; omega
 ·unfold compP
  rw [range_all, hNt]
  intro i hi
  unfold legalP
  rcases H.v i hi with e | e | e
  ·rw [if_pos e, List.all_eq_true]
   intro a ha
   obtain ⟨b, rfl, hb⟩ := (att_atts h).1 ha
   rw [uOf_nat, (((H.ri i hi).1 e).2.2 b hb).1]; rfl
  ·rw [if_neg (by omega), if_pos e, List.any_eq_true]
   obtain ⟨_, a, _, a2, a3, _⟩ := (H.ri i hi).2 e
   exact ⟨(a : Int), (att_atts h).2 ⟨a, rfl, a2⟩, by rw [uOf_nat, a3]; rfl⟩
  ·rw [if_neg (by omega), if_neg (by omega)]
   have n1 : ((attsP g (i : Int)).any fun a => uOf l a == 1) = false := by
    rw [List.any_eq_false]
    intro a ha
    obtain ⟨b, rfl, hb⟩ := (att_atts h).1 ha
    have hbN : b < N := by have := (att_lt h hb).1; omega
    rw [uOf_nat]
    intro hh
    exact H.done b hbN (eq_of_beq hh) i hb e
   have n2 : ((attsP g (i : Int)).all fun a => uOf l a == 2) = false := by
    cases hc : (attsP g (i : Int)).all fun a => uOf l a == 2 with
    | false => rfl
    | true =>
     have hz : opa g (sf l) i = 0 := zero_opa fun b hb => by
      have := List.all_eq_true.1 hc (b : Int) ((att_atts h).2 ⟨b, rfl, hb⟩)
      rw [uOf_nat] at this
      exact eq_of_beq this
     have := H.zero i hi e (by rw [H.op i hi, hz]; rfl)
     cases this
   rw [n1, n2]; rfl
 ·rw [hNt] at hi
  refine ⟨fun e => ?_, fun e => ?_⟩
  ·obtain ⟨a1, a2, a3⟩ := (H.ri i hi).1 e
   exact ⟨a1, fun a ha => (a3 a ha).2⟩
  ·obtain ⟨a1, a, a2, a3, a4, a5, a6⟩ := (H.ri i hi).2 e
   exact ⟨a, by rw [hNt]; exact a2, a3, a4, a5, a6⟩

theorem build_plain (h : GVal g) (hl : g.L.length ≤ 100000) (hN : g.N = N) : T (grounded_build_m g) fun q => AccG g q.1 q.2 := by
  have h40 := h.n1
  unfold grounded_build_m
  have hR : slices_Repeat_int_int_m [3] g.N = some (List.replicate N 3) := by rw [hN]; exact Repeat_plain N (by omega)
  have hM : mkM 8 (0 : Int) g.N = some (List.replicate N 0) := by rw [hN]; exact mkM_T (by omega)
  simp only [hR, hM, some_bind, meetO_self]
  refine T.join ?_
  dsimp only
  refine T.bind (P := fun o => o.length = 40 ∧ ∀ j : Nat, j < 40 → sf o j = ((g.L.countP fun p => decide (p.To = (j : Int))) : Nat)) ?_ ?_
  · refine T.loopK g.L.length (fun k s => k ≤ g.L.length ∧ s.1 = (k : Int) ∧ s.2.length = 40 ∧ ∀ j : Nat, j < 40 → sf s.2 j = (((g.L.take k).countP fun p => decide (p.To = (j : Int))) : Nat)) ⟨by omega, rfl, by simp, fun j hj => by
      have : sf (List.replicate 40 0) j = 0 := by
        unfold sf
        rw [List.getD_eq_getElem?_getD, List.getElem?_replicate]; split <;> rfl
      rw [this]; simp⟩ ?_
    rintro k ⟨_, o⟩ ⟨hk, rfl, ho, hj⟩
    dsimp only [grounded_build_l1] at ho hj ⊢
    refine T.cond (fun c => ?_) fun c => ?_
    · have hk2 : k < g.L.length := by have := of_decide_eq_true c; omega
      have hv := h.v _ (List.getElem_mem hk2)
      obtain ⟨t, ht⟩ : ∃ t : Nat, g.L[k].To = (t : Int) := ⟨g.L[k].To.toNat, by omega⟩
      have htk : ∀ j : Nat, (g.L.take (k + 1)).countP (fun p => decide (p.To = (j : Int))) = (g.L.take k).countP (fun p => decide (p.To = (j : Int))) + if t = j then 1 else 0 := fun j => by
        rw [List.take_add_one, List.getElem?_eq_getElem hk2, List.countP_append]
        congr 1
        simp only [Option.toList_some, List.countP_singleton, ht]
        by_cases e : t = j
        · rw [if_pos e, if_pos (decide_eq_true (by omega))]
        · rw [if_neg e, if_neg (by simpa using (fun h : (t : Int) = j => e (by omega)))]
      have hle : (g.L.take k).countP (fun p => decide (p.To = (t : Int))) ≤ g.L.length := Nat.le_trans List.countP_le_length (by rw [List.length_take]; omega)
      rw [idxM_nat hk2, some_bind, ht, vidx_sf ho (by omega), some_bind, some_bind, iadd1 (by omega), Int.toNat_natCast, hj t (by omega), iadd1 (by omega)]
      refine .ret ⟨hk2, hk2, rfl, by simpa using ho, fun j hj2 => ?_⟩
      simp only
      rw [sf_set (by omega), htk]
      by_cases e : t = j
      · subst e; rw [if_pos rfl, if_pos rfl]
      · rw [if_neg e, if_neg e, hj j hj2]; rfl
    · have e : k = g.L.length := by have := of_decide_eq_false c; omega
      subst e
      rw [List.take_length] at hj
      exact .ret ⟨ho, hj⟩
  rintro o ⟨ho, hoj⟩
  refine T.bind (P := fun Q => Q.Nodup ∧ ∀ x : Int, x ∈ Q ↔ ∃ i : Nat, x = i ∧ i < N ∧ sf o i = 0) ?_ ?_
  · refine T.loopK N (fun k s => k ≤ N ∧ s.1 = (k : Int) ∧ s.2.Nodup ∧ s.2.length ≤ k ∧ ∀ x : Int, x ∈ s.2 ↔ ∃ i : Nat, x = i ∧ i < k ∧ sf o i = 0) ⟨by omega, rfl, by simp, by simp, by simp⟩ ?_
    rintro k ⟨_, Q⟩ ⟨hk, rfl, hnd, hQl, hQ⟩
    dsimp only [grounded_build_l2] at hnd hQl hQ ⊢
    rw [hN]
    refine T.cond (fun c => ?_) fun c => ?_
    · have hk2 : k < N := by have := of_decide_eq_true c; omega
      rw [vidx_sf ho (by omega), some_bind, iadd1 (by omega)]
      refine T.cond (fun c2 => ?_) fun c2 => .ret ⟨hk2, hk2, rfl, hnd, by simp only; omega, fun x => ?_⟩
      · have hz : sf o k = 0 := eq_of_beq c2
        rw [appM_eq (by simp; omega), some_bind]
        refine .ret ⟨hk2, hk2, rfl, List.nodup_append.2 ⟨hnd, by simp, fun a ha b hb e => ?_⟩, by simp; omega, fun x => ?_⟩
        · rw [List.mem_singleton.1 hb] at e
          subst e
          obtain ⟨i, e, hi, _⟩ := (hQ _).1 ha
          omega
        · simp only [List.mem_append, List.mem_singleton, hQ]
          constructor
          · rintro (⟨i, e, hi, q⟩ | rfl)
            · exact ⟨i, e, by omega, q⟩
            · exact ⟨k, rfl, by omega, hz⟩
          · rintro ⟨i, e, hi, q⟩
            by_cases e2 : i = k
            · exact .inr (by omega)
            · exact .inl ⟨i, e, by omega, q⟩
      · simp only
        rw [hQ]
        constructor
        · rintro ⟨i, e, hi, q⟩; exact ⟨i, e, by omega, q⟩
        · rintro ⟨i, e, hi, q⟩
          refine ⟨i, e, ?_, q⟩
          by_cases e2 : i = k
          · subst e2; rw [q] at c2; cases c2
          · omega
    · have e : k = N := by have := of_decide_eq_false c; omega
      subst e
      exact .ret ⟨hnd, hQ⟩
  rintro Q ⟨hnd, hQ⟩
  have h3 : ∀ j, j < N → sf (List.replicate N 3) j = 3 := fun j hj => by simp [sf, hj]
  have op0 : ∀ j, j < N → sf o j = (opa g (sf (List.replicate N 3)) j : Int) := fun j hj => by
    rw [hoj j (by omega), pairs_count h]
    congr 1
    unfold opa
    rw [hN, Int.toNat_natCast]
    refine List.countP_congr fun a ha => ?_
    rw [decide_eq_true_iff, decide_eq_true_iff, h3 a (List.mem_range.1 ha)]
    exact ⟨fun h => ⟨h, by omega⟩, fun h => h.1⟩
  have H0 : Hdd g N ((0 : Nat) : Int) (List.replicate N 3) (List.replicate N 0) o Q := by
    refine ⟨⟨by simp, by simp, ho, fun i hi => .inr (.inr (h3 i hi)), ⟨fun q hq => ?_, hnd⟩, op0, fun j hj _ hz => (hQ _).2 ⟨j, rfl, hj, hz⟩, fun i hi => ⟨fun h1 => by rw [h3 i hi] at h1; omega, fun h1 => by rw [h3 i hi] at h1; omega⟩⟩, fun i hi h1 => by rw [h3 i hi] at h1; omega⟩
    obtain ⟨i, rfl, hi, hz⟩ := (hQ q).1 hq
    exact ⟨i, rfl, hi, h3 i hi, hz⟩
  have hc3 : ∀ l, c3 N l ≤ N := fun l => by unfold c3; exact Nat.le_trans List.countP_le_length (by simp)
  refine T.bind (P := fun q => AccG g q.1 q.2) ?_ fun q hq => .ret hq
  refine T.loopM (fun s => ∃ rd : Nat, s.1 = ((rd + 1 : Nat) : Int) ∧ rd + c3 N s.2.1 ≤ N ∧ Hdd g N (rd : Int) s.2.1 s.2.2.1 s.2.2.2.1 s.2.2.2.2) (fun s => c3 N s.2.1) ⟨0, rfl, by have := hc3 (List.replicate N 3); simpa using this, H0⟩ ?_
  rintro ⟨_, l, r, o, Q⟩ ⟨rd, rfl, hrd, H⟩
  dsimp only at hrd H
  by_cases hQ0 : Q = []
  · subst hQ0
    unfold grounded_build_l7
    dsimp only
    rw [decide_eq_false (by simp), cond_false]
    exact .ret (H.acc h hN)
  · refine (round_plain h hl hN (rd := rd) (by omega) H hQ0).mono ?_
    rintro s ⟨l', r', o', Q', rfl, H', hlt⟩
    exact ⟨⟨rd + 1, rfl, by simp only; omega, H'⟩, hlt⟩
end Go.Dc

set_option linter.unusedVariables false
set_option linter.unusedSimpArgs false
set_option linter.unusedSectionVars false
/-! Proofs of the grounded labelling are looked at. -/
namespace Go.Dc
open Go.Proofs Go.Sort
variable {g : T_api_Graph}

def wit (y r : List Int) (i k : Int) : Bool := uOf y k == 1 && (decide (uOf r k ≥ 1) && decide (uOf r k ≤ uOf r i))
/-- the rank of a node proves its label -/
def PrvI (g : T_api_Graph) (y r : List Int) (i : Nat) : Prop :=
 (sf y i = 1 → 1 ≤ sf r i ∧ ∀ a : Nat, att g a i → sf r a < sf r i) ∧
 (sf y i = 2 → ∃ a : Nat, a < g.N.toNat ∧ att g a i ∧ sf y a = 1 ∧ 1 ≤ sf r a ∧ sf r a ≤ sf r i)
theorem att_lt' (h : GVal g) {a i : Nat} (ha : att g a i) : a < g.N.toNat := by have := (att_lt h ha).1; omega
/-- what is proved to be In is In in all complete labellings -/
theorem acc_sub (h : GVal g) {y r z : List Int} (ha : AccG g y r) (hz : LOk g.N.toNat z) (hc : compP g z = true) : ∀ i : Nat, i < g.N.toNat → sf y i = 1 → sf z i = 1 := by
 obtain ⟨hy, hr, hcy, hp⟩ := ha
 have ly := fun i hi => (range_all.1 hcy) i hi
 have lz := fun i hi => (range_all.1 hc) i hi
 suffices ∀ m : Nat, ∀ i : Nat, i < g.N.toNat → sf r i ≤ m → sf y i = 1 → sf z i = 1 from fun i hi h1 => this (sf r i).toNat i hi (by omega) h1
 intro m
 induction m with
 | zero => intro i hi hm h1; have := ((hp i hi).1 h1).1; omega
 | succ m ih =>
  intro i hi hm h1
  obtain ⟨p1, p2⟩ := (hp i hi).1 h1
  have out : ∀ a : Nat, att g a i → sf z a = 2 := fun a ha => by
   have haN := att_lt' h ha
   have hya : sf y a = 2 := by
    have := ly i hi
    unfold legalP at this
    rw [if_pos h1, List.all_eq_true] at this
    have := this (a : Int) ((att_atts h).2 ⟨a, rfl, ha⟩)
    rw [uOf_nat] at this; exact eq_of_beq this
   obtain ⟨b, b1, b2, b3, b4, b5⟩ := (hp a haN).2 hya
   have hra := p2 a ha
   have hzb := ih b b1 (by omega) b3
   have hba : (b : Int) ∈ attsP g (a : Int) := (att_atts h).2 ⟨b, rfl, b2⟩
   have hl := lz a haN
   unfold legalP at hl
   rcases hz.at haN with e | e | e
   ·rw [if_pos e, List.all_eq_true] at hl
    have := hl _ hba
    rw [uOf_nat, hzb] at this; cases this
   ·exact e
   ·rw [if_neg (by omega), if_neg (by omega), Bool.and_eq_true, Bool.not_eq_true', List.any_eq_false] at hl
    have := hl.1 _ hba
    rw [uOf_nat, hzb] at this; exact absurd rfl this
  have hl := lz i hi
  unfold legalP at hl
  rcases hz.at hi with e | e | e
  ·exact e
  ·rw [if_neg (by omega), if_pos e, List.any_eq_true] at hl
   obtain ⟨a, ha, hh⟩ := hl
   obtain ⟨b, rfl, hb⟩ := (att_atts h).1 ha
   rw [uOf_nat, out b hb] at hh; cases hh
  ·rw [if_neg (by omega), if_neg (by omega), Bool.and_eq_true, Bool.not_eq_true'] at hl
   have : ((attsP g (i : Int)).all fun a => uOf z a == 2) = true := List.all_eq_true.2 fun a ha => by
    obtain ⟨b, rfl, hb⟩ := (att_atts h).1 ha
    rw [uOf_nat, out b hb]; rfl
   rw [this] at hl; cases hl.2

/-! ### the question of all complete labellings -/
theorem Decide4_plain (h : GVal g) (hg : g.L.length ≤ 100000) {n : Nat} (hn : n < g.N.toNat) : T (verdict_Decide_m g 4 (n : Int)) fun r => r.2 = 0 ∧ ∃ L R, r.1 = ⟨sf L n == 1, L, R, []⟩ ∧ AccG g L R := by
 have hn0 := h.n0; have h40 := h.n1
 obtain ⟨⟨L, R⟩, e, hb⟩ := build_plain h hg (N := g.N.toNat) (by omega)
 have hLl := hb.1.len
 unfold verdict_Decide_m
 refine T.bind (asked_plain hg) fun r hr => ?_
 rcases hr with ⟨rfl, _, _, _⟩ | ⟨_, hb⟩
 case inr => exact absurd ⟨h, by omega, by omega⟩ hb
 rw [show ((0 : Int) != 0) = false from rfl, cond_false, show ((4 : Int) == 4) = true from rfl, cond_true]
 unfold grounded_Label_m grounded_Ranks_m
 rw [e, some_bind, some_bind, idx_sf (by omega), some_bind, some_bind, some_bind]
 exact .ret ⟨rfl, L, R, rfl, hb⟩
end Go.Dc

set_option linter.unusedVariables false
set_option linter.unusedSimpArgs false
set_option linter.unusedSectionVars false
/-! Complete labellings: how many there are. -/
namespace Go.Dc
open Go.Proofs Go.Sort
variable {g : T_api_Graph}

def Cpl (g : T_api_Graph) (z : List Int) : Prop := LOk g.N.toNat z ∧ compP g z = true
theorem Cpl.at {z : List Int} (h : Cpl g z) {i : Nat} (hi : i < g.N.toNat) : legalP g z i = true := range_all.1 h.2 i hi

/-! ### few -/
def code : Nat → List Int → Nat
 | 0, _ => 0
 | k + 1, z => code k z + if sf z k = 1 then 2 ^ k else 0
theorem code_lt : ∀ {k : Nat} {z : List Int}, code k z < 2 ^ k
 | 0, _ => by simp [code]
 | k + 1, z => by have := code_lt (k := k) (z := z); unfold code; rw [Nat.pow_succ]; split <;> omega
theorem code_inj : ∀ {k : Nat} {z z' : List Int}, code k z = code k z' → ∀ i, i < k → (sf z i = 1 ↔ sf z' i = 1)
 | 0, _, _, _, i, hi => by omega
 | k + 1, z, z', h, i, hi => by
  have h1 := code_lt (k := k) (z := z); have h2 := code_lt (k := k) (z := z')
  unfold code at h
  by_cases c1 : sf z k = 1 <;> by_cases c2 : sf z' k = 1
  ·rw [if_pos c1, if_pos c2] at h
   by_cases e : i = k
   ·subst e; exact ⟨fun _ => c2, fun _ => c1⟩
   ·exact code_inj (k := k) (by omega) i (by omega)
  ·rw [if_pos c1, if_neg c2] at h; omega
  ·rw [if_neg c1, if_pos c2] at h; omega
  ·rw [if_neg c1, if_neg c2] at h
   by_cases e : i = k
   ·subst e; exact ⟨fun h => absurd h c1, fun h => absurd h c2⟩
   ·exact code_inj (k := k) (by omega) i (by omega)
theorem cpl_out (h : GVal g) {z : List Int} (hz : Cpl g z) {i : Nat} (hi : i < g.N.toNat) : sf z i = 2 ↔ ∃ a : Nat, att g a i ∧ sf z a = 1 := by
 have hl := hz.at hi
 unfold legalP at hl
 constructor
 ·intro e
  rw [if_neg (by omega), if_pos e, List.any_eq_true] at hl
  obtain ⟨a, ha, hh⟩ := hl
  obtain ⟨b, rfl, hb⟩ := (att_atts h).1 ha
  rw [uOf_nat] at hh
  exact ⟨b, hb, eq_of_beq hh⟩
 ·rintro ⟨a, ha, e⟩
  have hm := (att_atts h).2 ⟨a, rfl, ha⟩
  rcases hz.1.at hi with e1 | e1 | e1
  ·rw [if_pos e1, List.all_eq_true] at hl
   have := hl _ hm
   rw [uOf_nat, e] at this; cases this
  ·exact e1
  ·rw [if_neg (by omega), if_neg (by omega), Bool.and_eq_true, Bool.not_eq_true', List.any_eq_false] at hl
   have := hl.1 _ hm
   rw [uOf_nat, e] at this; exact absurd rfl this
theorem sf_ext {N : Nat} {z z' : List Int} (h : z.length = N) (h' : z'.length = N) (he : ∀ i, i < N → sf z i = sf z' i) : z = z' := by
 refine List.ext_getElem (by omega) fun i h1 h2 => ?_
 have := he i (by omega)
 unfold sf at this
 simpa [List.getD, h1, h2] using this
theorem free_in (h : GVal g) (h7 : ∀ p ∈ g.L, p.To < 7) {z : List Int} (hz : Cpl g z) {i : Nat} (hi : i < g.N.toNat) (hi7 : 7 ≤ i) : sf z i = 1 := by
 have hn : attsP g (i : Int) = [] := by
  cases hc : attsP g (i : Int) with
  | nil => rfl
  | cons a l =>
   obtain ⟨p, hp, _, e⟩ := mem_attsP.1 (show a ∈ attsP g (i : Int) by rw [hc]; simp)
   have := h7 p hp; omega
 have hl := hz.at hi
 unfold legalP at hl
 rw [hn] at hl
 rcases hz.1.at hi with e | e | e
 ·exact e
 ·rw [if_neg (by omega), if_pos e] at hl; cases hl
 ·rw [if_neg (by omega), if_neg (by omega)] at hl; cases hl
theorem cpl_inj (h : GVal g) (h7 : ∀ p ∈ g.L, p.To < 7) {z z' : List Int} (hz : Cpl g z) (hz' : Cpl g z') (he : code 7 z = code 7 z') : z = z' := by
 have hin : ∀ i, i < g.N.toNat → (sf z i = 1 ↔ sf z' i = 1) := fun i hi => by
  by_cases h1 : i < 7
  ·exact code_inj he i h1
  ·exact ⟨fun _ => free_in h h7 hz' hi (by omega), fun _ => free_in h h7 hz hi (by omega)⟩
 refine sf_ext hz.1.len hz'.1.len fun i hi => ?_
 have o := cpl_out h hz hi; have o' := cpl_out h hz' hi
 have : sf z i = 2 ↔ sf z' i = 2 := by
  rw [o, o']
  constructor
  ·rintro ⟨a, ha, e⟩; exact ⟨a, ha, (hin a (att_lt' h ha)).1 e⟩
  ·rintro ⟨a, ha, e⟩; exact ⟨a, ha, (hin a (att_lt' h ha)).2 e⟩
 have h1 := hin i hi
 rcases hz.1.at hi with e | e | e <;> rcases hz'.1.at hi with e' | e' | e' <;> omega
theorem cpl_few (h : GVal g) (h7 : ∀ p ∈ g.L, p.To < 7) {F : List (List Int)} (hn : F.Nodup) (hF : ∀ z ∈ F, Cpl g z) : F.length ≤ 128 := by
 have h1 : (F.map fun z => (code 7 z : Int)).Nodup := by
  unfold List.Nodup
  rw [List.pairwise_map]
  refine List.Pairwise.imp_of_mem (fun {a b} ha hb hab e => hab (cpl_inj h h7 (hF a ha) (hF b hb) (by omega))) hn
 have h2 := nodup_bound (N := 128) h1 fun q hq => by
  obtain ⟨z, _, rfl⟩ := List.mem_map.1 hq
  have h3 := code_lt (k := 7) (z := z)
  have : (2 : Nat) ^ 7 = 128 := by decide
  omega
 simpa using h2
theorem sf_app {l t : List Int} {j : Nat} (hj : j < l.length) : sf (l ++ t) j = sf l j := by
 unfold sf; simp [List.getD, List.getElem?_append_left hj]
end Go.Dc

set_option linter.unusedVariables false
set_option maxRecDepth 100000
set_option maxHeartbeats 1000000
/-! The program's search: a greater depth gives no other answer. -/
namespace Go.Dc

theorem search_finder_find_l1_mono {search_finder_find_r search_finder_find_r' : Int → (List (List Int)) → (List Int) → (List (List Int)) → Bool → Option (Int × (List Int) × Bool × (List (List Int)))} (h_search_finder_find_r : ∀ a0 a1 a2 a3 a4, Le (search_finder_find_r a0 a1 a2 a3 a4) (search_finder_find_r' a0 a1 a2 a3 a4)) {f_0_attackers : (List (List Int))} {t2 : (Bool × Int × (List Int) × Bool)} {t3 : (Int × (List Int))} {s16 : Int × Int × Bool × (List (List Int))} : Le (search_finder_find_l1 f_0_attackers t2 t3 search_finder_find_r s16) (search_finder_find_l1 f_0_attackers t2 t3 search_finder_find_r' s16) := by
 unfold search_finder_find_l1
 repeat' with_reducible (first | exact Le.refl _ | exact h_search_finder_find_r _ _ _ _ _ | refine Le.bind ?_ (fun _ => ?_) | refine Le.cond ?_ ?_)

theorem search_finder_find_b_mono {search_finder_find_r search_finder_find_r' : Int → (List (List Int)) → (List Int) → (List (List Int)) → Bool → Option (Int × (List Int) × Bool × (List (List Int)))} (h_search_finder_find_r : ∀ a0 a1 a2 a3 a4, Le (search_finder_find_r a0 a1 a2 a3 a4) (search_finder_find_r' a0 a1 a2 a3 a4)) {f_0_n : Int} {f_0_attackers : (List (List Int))} {f_0_d : (List Int)} {f_0_found : (List (List Int))} {f_0_full : Bool} : Le (search_finder_find_b search_finder_find_r f_0_n f_0_attackers f_0_d f_0_found f_0_full) (search_finder_find_b search_finder_find_r' f_0_n f_0_attackers f_0_d f_0_found f_0_full) := by
 unfold search_finder_find_b
 repeat' with_reducible (first | exact Le.refl _ | exact h_search_finder_find_r _ _ _ _ _ | refine Le.loopC (fun _ => search_finder_find_l1_mono h_search_finder_find_r) | refine Le.bind ?_ (fun _ => ?_) | refine Le.cond ?_ ?_)

theorem search_finder_find_n_mono : ∀ (n_ : Nat) a0 a1 a2 a3 a4, Le (search_finder_find_n n_ a0 a1 a2 a3 a4) (search_finder_find_n (n_ + 1) a0 a1 a2 a3 a4)
 | 0, _, _, _, _, _ => fun _ h => by cases h
 | n_ + 1, _, _, _, _, _ => search_finder_find_b_mono (search_finder_find_n_mono n_)

theorem search_finder_find_m_at {n_ : Nat} {f_0_n : Int} {f_0_attackers : (List (List Int))} {f_0_d : (List Int)} {f_0_found : (List (List Int))} {f_0_full : Bool} {r} (h : search_finder_find_n n_ f_0_n f_0_attackers f_0_d f_0_found f_0_full = some r) : search_finder_find_m f_0_n f_0_attackers f_0_d f_0_found f_0_full = some r :=
 (limM_iff (m := fun n (a : Int × (List (List Int)) × (List Int) × (List (List Int)) × Bool) => search_finder_find_n n a.1 a.2.1 a.2.2.1 a.2.2.2.1 a.2.2.2.2) (fun n a r h => search_finder_find_n_mono n _ _ _ _ _ r h)).2 ⟨n_, h⟩

end Go.Dc

set_option linter.unusedVariables false
set_option linter.unusedSimpArgs false
set_option linter.unusedSectionVars false
/-! The program's search for complete labellings: sets of labels, what is possible, what a known label asks. -/
namespace Go.Dc
open Go.Proofs Go.Sort
variable {g : T_api_Graph}

/-! ### sets of labels -/
/-- a label among those of a set -/
def dB (v x : Int) : Bool := v / 2 ^ x.toNat % 2 == 1
def Dm (v : Int) : Prop := 0 ≤ v ∧ v ≤ 14 ∧ v % 2 = 0
instance (v : Int) : Decidable (Dm v) := inferInstanceAs (Decidable (_ ∧ _ ∧ _))
def L3 (x : Int) : Prop := x = 1 ∨ x = 2 ∨ x = 3
theorem Dm.fin {v : Int} (h : Dm v) : ∃ a : Fin 8, v = 2 * (a.val : Int) := by
 obtain ⟨h0, h1, h2⟩ := h
 exact ⟨⟨(v / 2).toNat, by omega⟩, by simp only; omega⟩
theorem and_dm {v w : Int} (hv : Dm v) (hw : Dm w) : Dm (iand .i64 v w) ∧ ∀ x, L3 x → dB (iand .i64 v w) x = (dB v x && dB w x) := by
 obtain ⟨a, rfl⟩ := hv.fin; obtain ⟨b, rfl⟩ := hw.fin
 have h := (by decide +kernel : ∀ a b : Fin 8, (0 ≤ iand .i64 (2 * (a.val : Int)) (2 * (b.val : Int)) ∧ iand .i64 (2 * (a.val : Int)) (2 * (b.val : Int)) ≤ 14 ∧ iand .i64 (2 * (a.val : Int)) (2 * (b.val : Int)) % 2 = 0) ∧
  dB (iand .i64 (2 * (a.val : Int)) (2 * (b.val : Int))) 1 = (dB (2 * (a.val : Int)) 1 && dB (2 * (b.val : Int)) 1) ∧ dB (iand .i64 (2 * (a.val : Int)) (2 * (b.val : Int))) 2 = (dB (2 * (a.val : Int)) 2 && dB (2 * (b.val : Int)) 2) ∧
  dB (iand .i64 (2 * (a.val : Int)) (2 * (b.val : Int))) 3 = (dB (2 * (a.val : Int)) 3 && dB (2 * (b.val : Int)) 3)) a b
 refine ⟨h.1, fun x hx => ?_⟩
 rcases hx with rfl | rfl | rfl
 ·exact h.2.1
 ·exact h.2.2.1
 ·exact h.2.2.2
theorem and_bits {v : Int} (hv : Dm v) : (iand .i64 v 2 != 0) = dB v 1 ∧ (iand .i64 v 4 != 0) = dB v 2 ∧ (iand .i64 v 8 != 0) = dB v 3 ∧ (iand .i64 v 12 != 0) = (dB v 2 || dB v 3) ∧ (iand .i64 v 0 != 0) = false := by
 obtain ⟨a, rfl⟩ := hv.fin
 exact (by decide +kernel : ∀ a : Fin 8, (iand .i64 (2 * (a.val : Int)) 2 != 0) = dB (2 * (a.val : Int)) 1 ∧ (iand .i64 (2 * (a.val : Int)) 4 != 0) = dB (2 * (a.val : Int)) 2 ∧ (iand .i64 (2 * (a.val : Int)) 8 != 0) = dB (2 * (a.val : Int)) 3 ∧
  (iand .i64 (2 * (a.val : Int)) 12 != 0) = (dB (2 * (a.val : Int)) 2 || dB (2 * (a.val : Int)) 3) ∧ (iand .i64 (2 * (a.val : Int)) 0 != 0) = false) a
/-- a set within another one -/
def Sb (v w : Int) : Prop := ∀ x, L3 x → dB v x = true → dB w x = true
theorem Sb.refl (v : Int) : Sb v v := fun _ _ h => h
theorem Sb.trans {u v w : Int} (h : Sb u v) (k : Sb v w) : Sb u w := fun x hx e => k x hx (h x hx e)
theorem sb_le {v w : Int} (hv : Dm v) (hw : Dm w) (h : Sb v w) : v ≤ w := by
 obtain ⟨a, rfl⟩ := hv.fin; obtain ⟨b, rfl⟩ := hw.fin
 refine (by decide +kernel : ∀ a b : Fin 8, (dB (2 * (a.val : Int)) 1 = true → dB (2 * (b.val : Int)) 1 = true) → (dB (2 * (a.val : Int)) 2 = true → dB (2 * (b.val : Int)) 2 = true) → (dB (2 * (a.val : Int)) 3 = true → dB (2 * (b.val : Int)) 3 = true) → 2 * (a.val : Int) ≤ 2 * (b.val : Int)) a b (h 1 (.inl rfl)) (h 2 (.inr (.inl rfl))) (h 3 (.inr (.inr rfl)))
theorem dm_zero {v : Int} (hv : Dm v) : v = 0 ↔ ∀ x, L3 x → dB v x = false := by
 obtain ⟨a, rfl⟩ := hv.fin
 have h := (by decide +kernel : ∀ a : Fin 8, (2 * (a.val : Int) = 0 ↔ dB (2 * (a.val : Int)) 1 = false ∧ dB (2 * (a.val : Int)) 2 = false ∧ dB (2 * (a.val : Int)) 3 = false)) a
 rw [h]
 exact ⟨fun ⟨h1, h2, h3⟩ x hx => by rcases hx with rfl | rfl | rfl <;> assumption, fun h => ⟨h 1 (.inl rfl), h 2 (.inr (.inl rfl)), h 3 (.inr (.inr rfl))⟩⟩
/-- the set of one label -/
def bt (x : Int) : Int := if x = 1 then 2 else if x = 2 then 4 else 8
theorem bt_dm (x : Int) : Dm (bt x) := by
 unfold bt Dm
 split
 ·decide
 ·split <;> decide
theorem bt_dB {x y : Int} (hx : L3 x) (hy : L3 y) : dB (bt x) y = decide (x = y) := by
 rcases hx with rfl | rfl | rfl <;> rcases hy with rfl | rfl | rfl <;> decide

/-! ### domains -/
structure DOk (N : Nat) (d : List Int) : Prop where
 len : d.length = 40
 dm : ∀ i, i < N → Dm (sf d i)
theorem DOk.set {N : Nat} {d : List Int} (h : DOk N d) {i : Nat} (hi : i < 40) {v : Int} (hv : Dm v) : DOk N (d.set i v) := by
 refine ⟨by rw [List.length_set]; exact h.len, fun j hj => ?_⟩
 rw [sf_set (by rw [h.len]; exact hi)]
 split
 ·exact hv
 ·exact h.dm j hj
/-- a labelling that is still possible -/
def Cmp (N : Nat) (z d : List Int) : Prop := ∀ i, i < N → dB (sf d i) (sf z i) = true
/-- domains that have become smaller, and no labelling was lost -/
structure Red (g : T_api_Graph) (d d' : List Int) : Prop where
 ok : DOk g.N.toNat d'
 sb : ∀ i, i < g.N.toNat → Sb (sf d' i) (sf d i)
 out : ∀ i, g.N.toNat ≤ i → sf d' i = sf d i
 kp : ∀ z, Cpl g z → Cmp g.N.toNat z d → Cmp g.N.toNat z d'
theorem Red.refl {d : List Int} (h : DOk g.N.toNat d) : Red g d d := ⟨h, fun _ _ => .refl _, fun _ _ => rfl, fun _ _ h => h⟩
theorem Red.trans {a b c : List Int} (h : Red g a b) (k : Red g b c) : Red g a c :=
 ⟨k.ok, fun i hi => (k.sb i hi).trans (h.sb i hi), fun i hi => (k.out i hi).trans (h.out i hi), fun z hz hc => k.kp z hz (h.kp z hz hc)⟩
theorem Red.le {d d' : List Int} (hd : DOk g.N.toNat d) (h : Red g d d') (i : Nat) : sf d' i ≤ sf d i := by
 by_cases hi : i < g.N.toNat
 ·exact sb_le (h.ok.dm i hi) (hd.dm i hi) (h.sb i hi)
 ·rw [h.out i (by omega)]; exact Int.le_refl _
theorem Red.anti {d d' : List Int} (hd : DOk g.N.toNat d) (h : Red g d d') (k : ∀ i, sf d i ≤ sf d' i) : d' = d :=
 sf_ext h.ok.len hd.len fun i _ => Int.le_antisymm (h.le hd i) (k i)
/-- one domain is cut to a set that all labels have which are still possible -/
theorem Red.cut {d : List Int} (hd : DOk g.N.toNat d) {i : Nat} (hi : i < g.N.toNat) (h40 : g.N.toNat ≤ 40) {w : Int} (hw : Dm w) (hk : ∀ z, Cpl g z → Cmp g.N.toNat z d → dB w (sf z i) = true) : Red g d (d.set i (iand .i64 (sf d i) w)) := by
 have hl : i < d.length := by rw [hd.len]; omega
 obtain ⟨h1, h2⟩ := and_dm (hd.dm i hi) hw
 refine ⟨hd.set (by omega) h1, fun j hj x hx e => ?_, fun j hj => ?_, fun z hz hc j hj => ?_⟩
 ·rw [sf_set hl] at e
  split at e
  ·rename_i e1; subst e1; rw [h2 x hx] at e; simp only [Bool.and_eq_true] at e; exact e.1
  ·exact e
 ·rw [sf_set hl, if_neg (by omega)]
 ·rw [sf_set hl]
  split
  ·rename_i e1; subst e1
   rw [h2 _ (hz.1.at hi), hc i hi, hk z hz hc]; rfl
  ·exact hc j hj

/-! ### which nodes can have a label -/
theorem can_plain {n : Int} {A found : List (List Int)} {d nodes : List Int} {full : Bool} {lb : Int} (hd : d.length = 40) (hn : nodes.length ≤ 1000) (hr : ∀ a ∈ nodes, 0 ≤ a ∧ a < 40) :
  search_finder_can_m n A d found full nodes lb = some (nodes.filter fun a => iand .i64 (uOf d a) lb != 0) := by
 refine T.eq ?_
 unfold search_finder_can_m
 refine T.bind (P := fun q => q = nodes.filter fun a => iand .i64 (uOf d a) lb != 0) ?_ fun q hq => .ret hq
 refine T.loopK nodes.length (fun k s => k ≤ nodes.length ∧ s = ((k : Int), (nodes.take k).filter fun a => iand .i64 (uOf d a) lb != 0)) ⟨by omega, by simp⟩ ?_
 rintro k _ ⟨hk, rfl⟩
 dsimp only [search_finder_can_l1]
 refine T.cond (fun c => ?_) fun c => ?_
 ·have hk2 : k < nodes.length := by simpa using c
  have tk : nodes.take (k + 1) = nodes.take k ++ [nodes[k]] := by rw [List.take_add_one, List.getElem?_eq_getElem hk2]; rfl
  obtain ⟨h0, h1⟩ := hr _ (List.getElem_mem hk2)
  obtain ⟨b, hb⟩ := Int.eq_ofNat_of_zero_le h0
  rw [idxM_nat hk2, some_bind, iadd1 (by omega), tk, List.filter_append, hb, vidx_sf hd (by omega), some_bind]
  have hf : ([(b : Int)].filter fun a => iand .i64 (uOf d a) lb != 0) = if (iand .i64 (sf d b) lb != 0) = true then [(b : Int)] else [] := by
   rw [List.filter_cons, uOf_nat]; simp
  rw [hf]
  refine T.cond (fun c2 => ?_) fun c2 => ?_
  ·rw [appM_eq (by have := List.length_filter_le (fun a => iand .i64 (uOf d a) lb != 0) (nodes.take k); simp at this ⊢; omega), some_bind, if_pos c2]
   exact .ret ⟨hk2, hk2, rfl⟩
  ·rw [if_neg (by rw [c2]; simp), List.append_nil]
   exact .ret ⟨hk2, hk2, rfl⟩
 ·have e : k = nodes.length := by have : ¬ (k : Int) < nodes.length := of_decide_eq_false c; omega
  subst e
  exact .ret (by simp)

/-! ### what is possible because of the attackers -/
def posP (g : T_api_Graph) (d : List Int) (i : Nat) : Int :=
 (if (attsP g (i : Int)).all (fun a => dB (uOf d a) 2) = true then 2 else 0) + (if (attsP g (i : Int)).any (fun a => dB (uOf d a) 1) = true then 4 else 0) +
 (if (attsP g (i : Int)).all (fun a => dB (uOf d a) 2 || dB (uOf d a) 3) = true ∧ (attsP g (i : Int)).any (fun a => dB (uOf d a) 3) = true then 8 else 0)
theorem posP_dm {d : List Int} {i : Nat} : Dm (posP g d i) ∧ dB (posP g d i) 1 = (attsP g (i : Int)).all (fun a => dB (uOf d a) 2) ∧ dB (posP g d i) 2 = (attsP g (i : Int)).any (fun a => dB (uOf d a) 1) ∧
  dB (posP g d i) 3 = ((attsP g (i : Int)).all (fun a => dB (uOf d a) 2 || dB (uOf d a) 3) && (attsP g (i : Int)).any fun a => dB (uOf d a) 3) := by
 unfold posP Dm
 generalize (attsP g (i : Int)).all (fun a => dB (uOf d a) 2) = b1
 generalize (attsP g (i : Int)).any (fun a => dB (uOf d a) 1) = b2
 generalize (attsP g (i : Int)).all (fun a => dB (uOf d a) 2 || dB (uOf d a) 3) = b3
 generalize (attsP g (i : Int)).any (fun a => dB (uOf d a) 3) = b4
 cases b1 <;> cases b2 <;> cases b3 <;> cases b4 <;> decide
theorem att_rng (h : GVal g) {i : Int} {a : Int} (ha : a ∈ attsP g i) : 0 ≤ a ∧ a < 40 ∧ a.toNat < g.N.toNat := by
 have h1 := attsP_rng h a ha; have := h.n1; omega
theorem filter_len {α : Type} {l : List α} {p : α → Bool} : ((l.filter p).length < l.length) ↔ l.all p = false := by
 rw [List.all_eq_false]
 constructor
 ·intro h
  refine Classical.byContradiction fun hn => ?_
  have : l.filter p = l := List.filter_eq_self.2 fun a ha => Classical.byContradiction fun hp => hn ⟨a, ha, hp⟩
  rw [this] at h; omega
 ·rintro ⟨a, ha, hp⟩
  refine Nat.lt_of_le_of_ne (List.length_filter_le _ _) fun e => ?_
  have := List.length_filter_eq_length_iff.1 e a ha
  exact hp this
theorem filter_nil {α : Type} {l : List α} {p : α → Bool} : ((l.filter p).length = 0) ↔ l.any p = false := by
 rw [List.length_eq_zero_iff, List.filter_eq_nil_iff, List.any_eq_false]
theorem all_c {l : List Int} {p q : Int → Bool} (h : ∀ a ∈ l, p a = q a) : l.all p = l.all q := all_cg h
theorem any_c {l : List Int} {p q : Int → Bool} (h : ∀ a ∈ l, p a = q a) : l.any p = l.any q := any_cg h
theorem possible_plain (h : GVal g) {n : Int} {A found : List (List Int)} {d : List Int} {full : Bool} (hA : ∀ i : Nat, i < g.N.toNat → idxM A (i : Int) = some (attsP g (i : Int))) (hd : DOk g.N.toNat d) {i : Nat} (hi : i < g.N.toNat) :
  search_finder_possible_m n A d found full (i : Int) = some (posP g d i) := by
 have hal := attsP_len h (i := (i : Int))
 have hr : ∀ a ∈ attsP g (i : Int), 0 ≤ a ∧ a < 40 := fun a ha => ⟨(att_rng h ha).1, (att_rng h ha).2.1⟩
 have hdm : ∀ a ∈ attsP g (i : Int), Dm (uOf d a) := fun a ha => hd.dm _ (att_rng h ha).2.2
 unfold search_finder_possible_m
 simp only [hA i hi, some_bind, joinM_eq, can_plain hd.len (by omega : (attsP g (i : Int)).length ≤ 1000) hr]
 have l1 : decide ((((attsP g (i : Int)).filter fun a => iand .i64 (uOf d a) 4 != 0).length : Int) < ((attsP g (i : Int)).length : Int)) = !(attsP g (i : Int)).all (fun a => dB (uOf d a) 2) := by
  rw [← all_c (p := fun a => iand .i64 (uOf d a) 4 != 0) fun a ha => (and_bits (hdm a ha)).2.1]
  have := filter_len (l := attsP g (i : Int)) (p := fun a => iand .i64 (uOf d a) 4 != 0)
  cases hb : (attsP g (i : Int)).all fun a => iand .i64 (uOf d a) 4 != 0 with
  | true => rw [hb] at this; simp only [Bool.not_true, decide_eq_false_iff_not]; intro h1; have := this.1 (by omega); cases this
  | false => rw [hb] at this; simp only [Bool.not_false, decide_eq_true_eq]; have := this.2 rfl; omega
 have l2 : ((((attsP g (i : Int)).filter fun a => iand .i64 (uOf d a) 2 != 0).length : Int) == 0) = !(attsP g (i : Int)).any (fun a => dB (uOf d a) 1) := by
  rw [← any_c (p := fun a => iand .i64 (uOf d a) 2 != 0) fun a ha => (and_bits (hdm a ha)).1]
  have := filter_nil (l := attsP g (i : Int)) (p := fun a => iand .i64 (uOf d a) 2 != 0)
  cases hb : (attsP g (i : Int)).any fun a => iand .i64 (uOf d a) 2 != 0 with
  | true => rw [hb] at this; simp only [Bool.not_true, beq_eq_false_iff_ne]; intro h1; have := this.1 (by omega); cases this
  | false => rw [hb] at this; simp only [Bool.not_false, beq_iff_eq]; have := this.2 rfl; omega
 have l3 : decide ((((attsP g (i : Int)).filter fun a => iand .i64 (uOf d a) 12 != 0).length : Int) < ((attsP g (i : Int)).length : Int)) = !(attsP g (i : Int)).all (fun a => dB (uOf d a) 2 || dB (uOf d a) 3) := by
  rw [← all_c (p := fun a => iand .i64 (uOf d a) 12 != 0) fun a ha => (and_bits (hdm a ha)).2.2.2.1]
  have := filter_len (l := attsP g (i : Int)) (p := fun a => iand .i64 (uOf d a) 12 != 0)
  cases hb : (attsP g (i : Int)).all fun a => iand .i64 (uOf d a) 12 != 0 with
  | true => rw [hb] at this; simp only [Bool.not_true, decide_eq_false_iff_not]; intro h1; have := this.1 (by omega); cases this
  | false => rw [hb] at this; simp only [Bool.not_false, decide_eq_true_eq]; have := this.2 rfl; omega
 have l4 : ((((attsP g (i : Int)).filter fun a => iand .i64 (uOf d a) 8 != 0).length : Int) == 0) = !(attsP g (i : Int)).any (fun a => dB (uOf d a) 3) := by
  rw [← any_c (p := fun a => iand .i64 (uOf d a) 8 != 0) fun a ha => (and_bits (hdm a ha)).2.2.1]
  have := filter_nil (l := attsP g (i : Int)) (p := fun a => iand .i64 (uOf d a) 8 != 0)
  cases hb : (attsP g (i : Int)).any fun a => iand .i64 (uOf d a) 8 != 0 with
  | true => rw [hb] at this; simp only [Bool.not_true, beq_eq_false_iff_ne]; intro h1; have := this.1 (by omega); cases this
  | false => rw [hb] at this; simp only [Bool.not_false, beq_iff_eq]; have := this.2 rfl; omega
 rw [l1, l2, l3, l4]
 unfold posP
 generalize (attsP g (i : Int)).all (fun a => dB (uOf d a) 2) = b1
 generalize (attsP g (i : Int)).any (fun a => dB (uOf d a) 1) = b2
 generalize (attsP g (i : Int)).all (fun a => dB (uOf d a) 2 || dB (uOf d a) 3) = b3
 generalize (attsP g (i : Int)).any (fun a => dB (uOf d a) 3) = b4
 cases b1 <;> cases b2 <;> cases b3 <;> cases b4 <;> rfl
/-- labels by legality -/
theorem legal_pos (h : GVal g) {z d : List Int} (hz : Cpl g z) (hc : Cmp g.N.toNat z d) {i : Nat} (hi : i < g.N.toNat) : dB (posP g d i) (sf z i) = true := by
 obtain ⟨_, p1, p2, p3⟩ := posP_dm (g := g) (d := d) (i := i)
 have hl := hz.at hi
 have cz : ∀ a ∈ attsP g (i : Int), dB (uOf d a) (uOf z a) = true := fun a ha => hc _ (att_rng h ha).2.2
 have lz : ∀ a ∈ attsP g (i : Int), L3 (uOf z a) := fun a ha => hz.1.at (att_rng h ha).2.2
 unfold legalP at hl
 rcases hz.1.at hi with e | e | e
 ·rw [e, if_pos rfl] at hl
  rw [e, p1]
  exact List.all_eq_true.2 fun a ha => by have := cz a ha; rw [eq_of_beq (List.all_eq_true.1 hl a ha)] at this; exact this
 ·rw [e, if_neg (by omega), if_pos rfl] at hl
  obtain ⟨a, ha, hb⟩ := List.any_eq_true.1 hl
  rw [e, p2]
  exact List.any_eq_true.2 ⟨a, ha, by have := cz a ha; rw [eq_of_beq hb] at this; exact this⟩
 ·rw [e, if_neg (by omega), if_neg (by omega)] at hl
  simp only [Bool.and_eq_true, Bool.not_eq_true'] at hl
  obtain ⟨h1, h2⟩ := hl
  rw [e, p3]
  have no1 : ∀ a ∈ attsP g (i : Int), uOf z a ≠ 1 := fun a ha he => by have := List.any_eq_false.1 h1 a ha; rw [he] at this; exact this rfl
  rw [Bool.and_eq_true]
  refine ⟨List.all_eq_true.2 fun a ha => ?_, ?_⟩
  ·rcases lz a ha with e1 | e1 | e1
   ·exact absurd e1 (no1 a ha)
   ·have := cz a ha; rw [e1] at this; rw [this]; rfl
   ·have := cz a ha; rw [e1] at this; rw [this, Bool.or_true]
  ·obtain ⟨a, ha, hb⟩ := List.all_eq_false.1 h2
   refine List.any_eq_true.2 ⟨a, ha, ?_⟩
   rcases lz a ha with e1 | e1 | e1
   ·exact absurd e1 (no1 a ha)
   ·rw [e1] at hb; exact absurd rfl hb
   ·have := cz a ha; rw [e1] at this; exact this
/-- domains of one label each that are possible are a labelling -/
theorem pos_legal (h : GVal g) {z d : List Int} (hd : ∀ i, i < g.N.toNat → sf d i = bt (sf z i)) (hz : LOk g.N.toNat z) {i : Nat} (hi : i < g.N.toNat) (hp : dB (posP g d i) (sf z i) = true) : legalP g z i = true := by
 obtain ⟨_, p1, p2, p3⟩ := posP_dm (g := g) (d := d) (i := i)
 have dz : ∀ a ∈ attsP g (i : Int), ∀ x, L3 x → dB (uOf d a) x = decide (uOf z a = x) := fun a ha x hx => by
  unfold uOf
  rw [hd _ (att_rng h ha).2.2, bt_dB (hz.at (att_rng h ha).2.2) hx]
 unfold legalP
 rcases hz.at hi with e | e | e
 ·rw [e, if_pos rfl]
  rw [e, p1] at hp
  exact List.all_eq_true.2 fun a ha => by have := List.all_eq_true.1 hp a ha; rw [dz a ha 2 (.inr (.inl rfl))] at this; simpa using this
 ·rw [e, if_neg (by omega), if_pos rfl]
  rw [e, p2] at hp
  obtain ⟨a, ha, hb⟩ := List.any_eq_true.1 hp
  rw [dz a ha 1 (.inl rfl)] at hb
  exact List.any_eq_true.2 ⟨a, ha, by simpa using hb⟩
 ·rw [e, if_neg (by omega), if_neg (by omega)]
  rw [e, p3] at hp
  simp only [Bool.and_eq_true] at hp
  obtain ⟨h1, h2⟩ := hp
  simp only [Bool.and_eq_true, Bool.not_eq_true']
  refine ⟨List.any_eq_false.2 fun a ha hb => ?_, ?_⟩
  ·have h3 := List.all_eq_true.1 h1 a ha
   have e1 : uOf z a = 1 := eq_of_beq hb
   rw [dz a ha 2 (.inr (.inl rfl)), dz a ha 3 (.inr (.inr rfl)), e1] at h3
   exact absurd h3 (by decide)
  ·obtain ⟨a, ha, hb⟩ := List.any_eq_true.1 h2
   rw [dz a ha 3 (.inr (.inr rfl))] at hb
   refine List.all_eq_false.2 ⟨a, ha, ?_⟩
   rw [of_decide_eq_true hb]; decide
end Go.Dc

set_option linter.unusedVariables false
set_option linter.unusedSimpArgs false
set_option linter.unusedSectionVars false
/-! The program's search for complete labellings: what a known label asks, until nothing changes. -/
namespace Go.Dc
open Go.Proofs Go.Sort
variable {g : T_api_Graph}

theorem Cmp.up {d d' z : List Int} (hz : Cpl g z) (h : Red g d d') (hc : Cmp g.N.toNat z d') : Cmp g.N.toNat z d := fun i hi => h.sb i hi _ (hz.1.at hi) (hc i hi)

/-- the domains of some nodes are cut -/
theorem cut_loop (h : GVal g) {f : Int × List Int → Option (Sum (List Int) (Int × List Int))} {d nodes : List Int} {w : Int} (hw : Dm w) (hd : DOk g.N.toNat d) (hn : nodes.length ≤ 1000) (hr : ∀ a ∈ nodes, 0 ≤ a ∧ a.toNat < g.N.toNat)
  (hk : ∀ z, Cpl g z → Cmp g.N.toNat z d → ∀ a ∈ nodes, dB w (uOf z a) = true)
  (hf : ∀ s : Int × List Int, f s = bif decide (s.1 < ((nodes.length : Int))) then Option.bind (idxM nodes s.1) fun t39 => Option.bind (vidxM 40 s.2 t39) fun t40 => Option.bind (vidxM 40 s.2 t39) fun t41 =>
   some (Sum.inr ((iadd .i64 s.1 1, s.2.set (Int.toNat t39) (iand .i64 t40 w)))) else some (Sum.inl s.2)) : T (loopC f (0, d)) fun d' => Red g d d' := by
 have h40 := h.n1
 refine T.loopK nodes.length (fun k s => k ≤ nodes.length ∧ s.1 = (k : Int) ∧ Red g d s.2) ⟨by omega, rfl, .refl hd⟩ ?_
 rintro k ⟨_, e⟩ ⟨hk1, rfl, he⟩
 dsimp only at he
 rw [hf]
 dsimp only
 refine T.cond (fun c => ?_) fun c => .ret he
 have hk2 : k < nodes.length := by simpa using c
 obtain ⟨h0, h1⟩ := hr _ (List.getElem_mem hk2)
 obtain ⟨b, hb⟩ := Int.eq_ofNat_of_zero_le h0
 have hbN : b < g.N.toNat := by rw [hb] at h1; simpa using h1
 rw [idxM_nat hk2, some_bind, hb, vidx_sf he.ok.len (by omega), some_bind, some_bind, iadd1 (by omega), Int.toNat_natCast]
 refine .ret ⟨hk2, hk2, rfl, he.trans (.cut he.ok hbN (by omega) hw fun z hz hc => ?_)⟩
 have := hk z hz (hc.up hz he) _ (List.getElem_mem hk2)
 rw [hb, uOf_nat] at this; exact this

theorem and_bt {v y : Int} (hv : Dm v) (hy : L3 y) : (iand .i64 v (bt y) != 0) = dB v y := by
 obtain ⟨h1, h2, h3, _⟩ := and_bits hv
 rcases hy with rfl | rfl | rfl
 ·exact h1
 ·exact h2
 ·exact h3

/-- one attacker alone can have a label that some attacker must have -/
theorem limit_fin (h : GVal g) {n : Int} {A found : List (List Int)} {d : List Int} {full : Bool} {al : Int} (hd : DOk g.N.toNat d) {i : Nat} (hi : i < g.N.toNat)
  (ha : al = 0 ∨ ∃ y, L3 y ∧ al = bt y ∧ ∀ z, Cpl g z → Cmp g.N.toNat z d → ∃ a ∈ attsP g (i : Int), uOf z a = y) :
  T (Option.bind (search_finder_can_m n A d found full (attsP g (i : Int)) al) fun l25 => bif ((l25.length : Int) : Int) == 1 then Option.bind (idxM l25 0) fun t26 => Option.bind (vidxM 40 d t26) fun t27 => Option.bind (vidxM 40 d t26) fun t28 =>
   some ((n, d.set (Int.toNat t26) (iand .i64 t27 al), full)) else some ((n, d, full))) fun r => ∃ d', r = (n, d', full) ∧ Red g d d' := by
 have h40 := h.n1
 have hal := attsP_len h (i := (i : Int))
 have hr : ∀ a ∈ attsP g (i : Int), 0 ≤ a ∧ a < 40 := fun a ha => ⟨(att_rng h ha).1, (att_rng h ha).2.1⟩
 have hdm : ∀ a ∈ attsP g (i : Int), Dm (uOf d a) := fun a ha => hd.dm _ (att_rng h ha).2.2
 rw [can_plain hd.len (by omega : (attsP g (i : Int)).length ≤ 1000) hr, some_bind]
 refine T.cond (fun c => ?_) fun c => .ret ⟨d, rfl, .refl hd⟩
 have hl1 : ((attsP g (i : Int)).filter fun a => iand .i64 (uOf d a) al != 0).length = 1 := by have := eq_of_beq c; omega
 obtain ⟨b, hb⟩ := List.length_eq_one_iff.1 hl1
 have hbm : b ∈ (attsP g (i : Int)).filter fun a => iand .i64 (uOf d a) al != 0 := by rw [hb]; simp
 obtain ⟨hba, hbv⟩ := List.mem_filter.1 hbm
 obtain ⟨b0, b1, b2⟩ := att_rng h hba
 obtain ⟨m, rfl⟩ := Int.eq_ofNat_of_zero_le b0
 rw [Int.toNat_natCast] at b2
 rcases ha with rfl | ⟨y, hy, rfl, hz⟩
 ·rw [(and_bits (hdm _ hba)).2.2.2.2] at hbv; cases hbv
 rw [hb, show idxM [(m : Int)] 0 = some (m : Int) from rfl, some_bind, vidx_sf hd.len (by omega), some_bind, some_bind, Int.toNat_natCast]
 refine .ret ⟨_, rfl, .cut hd b2 (by omega) (bt_dm y) fun z hcz hc => ?_⟩
 obtain ⟨a, haa, hay⟩ := hz z hcz hc
 have hin : a ∈ (attsP g (i : Int)).filter fun a => iand .i64 (uOf d a) (bt y) != 0 := List.mem_filter.2 ⟨haa, by
  rw [and_bt (hdm a haa) hy, ← hay]
  exact hc _ (att_rng h haa).2.2⟩
 rw [hb, List.mem_singleton] at hin
 subst hin
 rw [uOf_nat] at hay
 rw [hay, bt_dB hy hy]; simp
theorem dB_one {x y : Int} (hx : L3 x) (hy : L3 y) (h : dB (bt x) y = true) : y = x := by rw [bt_dB hx hy] at h; exact (of_decide_eq_true h).symm
theorem limit_plain (h : GVal g) {n : Int} {A found : List (List Int)} {d : List Int} {full : Bool} (hA : ∀ i : Nat, i < g.N.toNat → idxM A (i : Int) = some (attsP g (i : Int))) (hd : DOk g.N.toNat d) {i : Nat} (hi : i < g.N.toNat) :
  T (search_finder_limit_m n A d found full (i : Int)) fun r => ∃ d', r = (n, d', full) ∧ Red g d d' := by
 have h40 := h.n1
 have hal := attsP_len h (i := (i : Int))
 unfold search_finder_limit_m
 simp only [hA i hi, some_bind, joinM_eq, vidx_sf hd.len (show i < 40 by omega)]
 have zl : ∀ y, L3 y → sf d i = bt y → ∀ z, Cpl g z → Cmp g.N.toNat z d → sf z i = y := fun y hy e z hz hc => by
  have := hc i hi; rw [e] at this
  exact dB_one hy (hz.1.at hi) this
 have hr : ∀ a ∈ attsP g (i : Int), 0 ≤ a ∧ a.toNat < g.N.toNat := fun a ha => ⟨(att_rng h ha).1, (att_rng h ha).2.2⟩
 refine T.cond (fun c => ?_) fun c => T.cond (fun c => ?_) fun c => T.cond (fun c => ?_) fun c => ?_
 ·have e : sf d i = bt 1 := eq_of_beq c
  refine T.bind (cut_loop h (w := 4) (by decide) hd (by omega) hr (fun z hz hc a ha => ?_) fun s => rfl) fun d1 h1 => ?_
  ·have hl := hz.at hi
   unfold legalP at hl
   rw [if_pos (zl 1 (.inl rfl) e z hz hc)] at hl
   rw [eq_of_beq (List.all_eq_true.1 hl a ha)]; rfl
  ·exact (limit_fin h h1.ok hi (.inl rfl)).mono fun r ⟨d', e1, h2⟩ => ⟨d', e1, h1.trans h2⟩
 ·have e : sf d i = bt 2 := eq_of_beq c
  refine limit_fin h hd hi (.inr ⟨1, .inl rfl, rfl, fun z hz hc => ?_⟩)
  have hl := hz.at hi
  unfold legalP at hl
  rw [if_neg (by rw [zl 2 (.inr (.inl rfl)) e z hz hc]; decide), if_pos (zl 2 (.inr (.inl rfl)) e z hz hc)] at hl
  obtain ⟨a, ha, hb⟩ := List.any_eq_true.1 hl
  exact ⟨a, ha, eq_of_beq hb⟩
 ·have e : sf d i = bt 3 := eq_of_beq c
  have leg : ∀ z, Cpl g z → Cmp g.N.toNat z d → (∀ a ∈ attsP g (i : Int), uOf z a = 2 ∨ uOf z a = 3) ∧ ∃ a ∈ attsP g (i : Int), uOf z a = 3 := fun z hz hc => by
   have hl := hz.at hi
   unfold legalP at hl
   rw [if_neg (by rw [zl 3 (.inr (.inr rfl)) e z hz hc]; decide), if_neg (by rw [zl 3 (.inr (.inr rfl)) e z hz hc]; decide)] at hl
   simp only [Bool.and_eq_true, Bool.not_eq_true'] at hl
   obtain ⟨h1, h2⟩ := hl
   have no1 : ∀ a ∈ attsP g (i : Int), uOf z a = 2 ∨ uOf z a = 3 := fun a ha => by
    rcases hz.1.at (att_rng h ha).2.2 with e1 | e1 | e1
    ·exact absurd (List.any_eq_false.1 h1 a ha) (by rw [show uOf z a = 1 from e1]; simp)
    ·exact .inl e1
    ·exact .inr e1
   refine ⟨no1, ?_⟩
   obtain ⟨a, ha, hb⟩ := List.all_eq_false.1 h2
   exact ⟨a, ha, (no1 a ha).resolve_left fun e1 => by rw [e1] at hb; exact hb rfl⟩
  refine T.bind (cut_loop h (w := 12) (by decide) hd (by omega) hr (fun z hz hc a ha => ?_) fun s => rfl) fun d1 h1 => ?_
  ·rcases (leg z hz hc).1 a ha with e1 | e1 <;> rw [e1] <;> rfl
  ·exact (limit_fin h h1.ok hi (.inr ⟨3, .inr (.inr rfl), rfl, fun z hz hc => (leg z hz (hc.up hz h1)).2⟩)).mono fun r ⟨d', e1, h2⟩ => ⟨d', e1, h1.trans h2⟩
 ·exact limit_fin h hd hi (.inl rfl)

/-! ### until nothing changes -/
/-- nothing changes any more -/
def Fix (g : T_api_Graph) (d : List Int) : Prop := ∀ i, i < g.N.toNat → Sb (sf d i) (posP g d i)
theorem settle1_plain (h : GVal g) {A found : List (List Int)} (hA : ∀ i : Nat, i < g.N.toNat → idxM A (i : Int) = some (attsP g (i : Int))) {s : Int × List Int × Bool} (hn : s.1 = g.N) (hd : DOk g.N.toNat s.2.1) :
  T (loopC (search_finder_settle_l1 A found s) (0, s.1, s.2.1, s.2.2)) fun r => match r with
   | .inl b => b.1 = false ∧ b.2.1 = g.N ∧ b.2.2.2 = s.2.2 ∧ ∀ z, Cpl g z → ¬ Cmp g.N.toNat z s.2.1
   | .inr q => q.1 = g.N ∧ q.2.2 = s.2.2 ∧ Red g s.2.1 q.2.1 ∧ (q.2.1 = s.2.1 → Fix g s.2.1) := by
 have h40 := h.n1; have hn0 := h.n0
 refine T.loopK g.N.toNat (fun k t => k ≤ g.N.toNat ∧ t.1 = (k : Int) ∧ t.2.1 = g.N ∧ t.2.2.2 = s.2.2 ∧ Red g s.2.1 t.2.2.1 ∧ (t.2.2.1 = s.2.1 → ∀ i, i < k → Sb (sf s.2.1 i) (posP g s.2.1 i))) ⟨by omega, rfl, hn, rfl, .refl hd, fun _ i hi => by omega⟩ ?_
 rintro k ⟨_, n, d, full⟩ ⟨hk, rfl, e1, e2, hr, hfx⟩
 dsimp only at e1 e2 hr hfx
 subst e1; subst e2
 dsimp only [search_finder_settle_l1]
 refine T.cond (fun c => ?_) fun c => ?_
 ·have hkN : k < g.N.toNat := by rw [hn] at c; have := of_decide_eq_true c; omega
  have hl : k < d.length := by rw [hr.ok.len]; omega
  have hcut := Red.cut hr.ok hkN (by omega) (posP_dm (g := g) (d := d) (i := k)).1 fun z hz hc => legal_pos h hz hc hkN
  simp only [joinM_eq, meetO_self]
  rw [vidx_sf hr.ok.len (by omega), some_bind, possible_plain h hA hr.ok hkN, some_bind, some_bind, Int.toNat_natCast, vidx_sf hcut.ok.len (by omega), some_bind, sf_set hl, if_pos rfl]
  refine T.cond (fun c2 => .ret ⟨rfl, rfl, rfl, fun z hz hc => ?_⟩) fun c2 => ?_
  ·have h1 := hcut.kp z hz (hr.kp z hz hc) k hkN
   rw [sf_set hl, if_pos rfl, eq_of_beq c2] at h1
   have := (dm_zero (v := 0) (by decide)).1 rfl _ (hz.1.at hkN)
   rw [this] at h1; cases h1
  ·refine T.bind (limit_plain h hA hcut.ok hkN) fun r ⟨d2, er, h2⟩ => ?_
   subst er
   rw [iadd1 (by omega)]
   refine .ret ⟨hkN, hkN, rfl, rfl, rfl, hr.trans (hcut.trans h2), fun e i hi => ?_⟩
   dsimp only at e
   have ed : d = s.2.1 := Red.anti hd hr fun j => by
    have h3 := h2.le hcut.ok j; have h4 := hcut.le hr.ok j
    rw [e] at h3; omega
   by_cases hik : i = k
   ·subst hik
    have h3 := h2.le hcut.ok i
    rw [e, sf_set hl, if_pos rfl, ed] at h3
    have h5 := hcut.le hr.ok i
    rw [sf_set hl, if_pos rfl, ed] at h5
    have h6 : iand .i64 (sf s.2.1 i) (posP g s.2.1 i) = sf s.2.1 i := by omega
    intro x hx hb
    rw [← h6, (and_dm (hd.dm i hkN) (posP_dm (g := g) (d := s.2.1) (i := i)).1).2 x hx] at hb
    simp only [Bool.and_eq_true] at hb; exact hb.2
   ·exact hfx ed i (by omega)
 ·have e : k = g.N.toNat := by rw [hn] at c; have := of_decide_eq_false c; omega
  subst e
  exact .ret ⟨rfl, rfl, hr, hfx⟩

theorem contv_plain {n : Int} {A found : List (List Int)} {d : List Int} {full : Bool} (hd : d.length = 40) {N : Nat} (hN : N ≤ 40) : T (slices_Contains_int_int_s1_m n A d found full (N : Int) 0) fun b => b = true ↔ ∃ i, i < N ∧ sf d i = 0 := by
 unfold slices_Contains_int_int_s1_m slices_Index_int_int_s1_m
 refine T.bind (P := fun r : Int => (0 ≤ r ↔ ∃ i, i < N ∧ sf d i = 0)) ?_ fun r hr => .ret (by rw [decide_eq_true_eq]; exact hr)
 refine T.bind (P := fun r => match r with | .inl (a : Int) => 0 ≤ a ∧ ∃ i, i < N ∧ sf d i = 0 | .inr (_ : Unit) => ¬ ∃ i, i < N ∧ sf d i = 0) ?_ fun r hr => ?_
 ·refine T.loopK N (fun k s => k ≤ N ∧ s = (k : Int) ∧ ∀ i, i < k → sf d i ≠ 0) ⟨by omega, rfl, fun i hi => by omega⟩ ?_
  rintro k _ ⟨hk, rfl, hno⟩
  dsimp only [slices_Index_int_int_s1_l1]
  rw [Int.toNat_natCast]
  refine T.cond (fun c => ?_) fun c => ?_
  ·have hkN : k < N := by have := of_decide_eq_true c; omega
   have hv : vsidxM 40 d (N : Int) (k : Int) = some (sf d k) := by
    unfold vsidxM
    rw [if_pos hd, Int.toNat_natCast, idx_sf (by simp; omega)]
    unfold sf; simp [List.getD, List.getElem?_take_of_lt hkN]
   rw [hv, some_bind, iadd1 (by omega)]
   refine T.cond (fun c2 => .ret ⟨by omega, k, hkN, (eq_of_beq c2).symm⟩) fun c2 => .ret ⟨hkN, hkN, rfl, fun i hi => ?_⟩
   by_cases e : i = k
   ·subst e; intro h0; rw [h0] at c2; cases c2
   ·exact hno i (by omega)
  ·have e : k = N := by have := of_decide_eq_false c; omega
   subst e
   exact .ret fun ⟨i, hi, h0⟩ => hno i hi h0
 ·match r, hr with
  | .inl a, ⟨h0, h1⟩ => exact .ret ⟨fun _ => h1, fun _ => h0⟩
  | .inr _, h0 => exact .ret ⟨fun h1 => by omega, fun h1 => absurd h1 h0⟩

/-- how much there is in a list -/
def wt (d : List Int) : Nat := (d.map Int.toNat).sum
theorem wt_le : ∀ {a b : List Int}, a.length = b.length → (∀ i, sf a i ≤ sf b i) → wt a ≤ wt b
 | [], [], _, _ => Nat.le_refl _
 | x :: a, y :: b, h, h1 => by
  have h2 : x ≤ y := h1 0
  have := wt_le (a := a) (b := b) (by simpa using h) fun i => h1 (i + 1)
  simp only [wt, List.map_cons, List.sum_cons] at this ⊢
  omega
 | [], _ :: _, h, _ => by simp at h
 | _ :: _, [], h, _ => by simp at h
theorem wt_lt : ∀ {a b : List Int}, a.length = b.length → (∀ i, sf a i ≤ sf b i) → (∃ i, i < a.length ∧ 0 ≤ sf a i ∧ sf a i < sf b i) → wt a < wt b
 | [], [], _, _, ⟨i, hi, _⟩ => by simp at hi
 | x :: a, y :: b, h, h1, ⟨i, hi, h3, h4⟩ => by
  have h2 : x ≤ y := h1 0
  have hl : a.length = b.length := by simpa using h
  cases i with
  | zero =>
   have h3 : 0 ≤ x := h3
   have h4 : x < y := h4
   have := wt_le hl fun i => h1 (i + 1)
   simp only [wt, List.map_cons, List.sum_cons] at this ⊢
   omega
  | succ i =>
   have := wt_lt hl (fun i => h1 (i + 1)) ⟨i, by simpa using hi, h3, h4⟩
   simp only [wt, List.map_cons, List.sum_cons] at this ⊢
   omega
 | [], _ :: _, h, _, _ => by simp at h
 | _ :: _, [], h, _, _ => by simp at h
theorem Red.wt {d d' : List Int} (hd : DOk g.N.toNat d) (h : Red g d d') (hne : d' ≠ d) : wt d' < wt d := by
 refine wt_lt (h.ok.len.trans hd.len.symm) (h.le hd) (Classical.byContradiction fun hno => hne (Red.anti hd h fun i => ?_))
 refine Classical.byContradiction fun hlt => hno ?_
 by_cases hi : i < g.N.toNat
 ·refine ⟨i, ?_, (h.ok.dm i hi).1, by omega⟩
  refine Classical.byContradiction fun hl => ?_
  have e1 : sf d i = 0 := by unfold sf; rw [List.getD, List.getElem?_eq_none (by rw [hd.len, ← h.ok.len]; omega)]; rfl
  have := (h.ok.dm i hi).1
  omega
 ·have := h.out i (by omega); omega

theorem settle_plain (h : GVal g) {A found : List (List Int)} (hA : ∀ i : Nat, i < g.N.toNat → idxM A (i : Int) = some (attsP g (i : Int))) {d : List Int} (hd : DOk g.N.toNat d) {full : Bool} :
  T (search_finder_settle_m g.N A d found full) fun r => r.2.1 = g.N ∧ r.2.2.2 = full ∧ ((r.1 = false ∧ ∀ z, Cpl g z → ¬ Cmp g.N.toNat z d) ∨ (r.1 = true ∧ Red g d r.2.2.1 ∧ Fix g r.2.2.1 ∧ ∀ i, i < g.N.toNat → sf r.2.2.1 i ≠ 0)) := by
 have h40 := h.n1; have hn0 := h.n0
 unfold search_finder_settle_m
 refine T.bind (P := fun r : Bool × Int × List Int × Bool => r.2.1 = g.N ∧ r.2.2.2 = full ∧ ((r.1 = false ∧ ∀ z, Cpl g z → ¬ Cmp g.N.toNat z d) ∨ (r.1 = true ∧ Red g d r.2.2.1 ∧ Fix g r.2.2.1 ∧ ∀ i, i < g.N.toNat → sf r.2.2.1 i ≠ 0))) ?_ fun r hr => .ret hr
 refine T.loopM (fun s => s.1 = g.N ∧ s.2.2 = full ∧ Red g d s.2.1) (fun s => wt s.2.1) ⟨rfl, rfl, .refl hd⟩ ?_
 rintro ⟨n, e, fl⟩ ⟨e1, e2, he⟩
 dsimp only at e1 e2 he
 subst e1; subst e2
 dsimp only [search_finder_settle_l2]
 refine T.bind (settle1_plain h hA (s := (g.N, e, fl)) rfl he.ok) fun r hr => ?_
 match r, hr with
 | .inl b, ⟨h1, h2, h3, h4⟩ => exact .ret ⟨h2, h3, .inl ⟨h1, fun z hz hc => h4 z hz (he.kp z hz hc)⟩⟩
 | .inr q, ⟨h1, h2, h3, h4⟩ =>
  obtain ⟨qn, q2, qf⟩ := q
  dsimp only at h1 h2 h3 h4
  subst h1; subst h2
  rw [sumK_inr]
  dsimp only
  obtain ⟨N, hN⟩ : ∃ N : Nat, g.N = (N : Int) := ⟨g.N.toNat, by omega⟩
  have hNt : g.N.toNat = N := by omega
  rw [show vsM 40 g.N = some g.N from by unfold vsM; rw [if_pos ⟨hn0, by omega⟩], some_bind]
  refine T.bind (P := fun b => b = true ↔ ∃ i, i < N ∧ sf q2 i = 0) (by rw [hN]; exact contv_plain h3.ok.len (by omega)) fun b hb => ?_
  refine T.cond (fun c => .ret ⟨rfl, rfl, .inl ⟨rfl, fun z hz hc => ?_⟩⟩) fun c => ?_
  ·obtain ⟨i, hi, h0⟩ := hb.1 c
   have h5 := h3.kp z hz (he.kp z hz hc) i (by omega)
   rw [h0, (dm_zero (v := 0) (by decide)).1 rfl _ (hz.1.at (by omega))] at h5; cases h5
  ·have hno : ∀ i, i < g.N.toNat → sf q2 i ≠ 0 := fun i hi h0 => by rw [hb.2 ⟨i, by omega, h0⟩] at c; cases c
   rw [show veqM 40 q2 e = some (decide (q2 = e)) from by unfold veqM; rw [if_pos ⟨h3.ok.len, he.ok.len⟩], some_bind]
   refine T.cond (fun c2 => .ret ⟨rfl, rfl, .inr ⟨rfl, he.trans h3, ?_, hno⟩⟩) fun c2 => .ret ⟨⟨rfl, rfl, he.trans h3⟩, h3.wt he.ok (of_decide_eq_false c2)⟩
   have e3 := of_decide_eq_true c2
   have := h4 e3
   rw [e3]; exact this

/-! ### the labels -/
theorem labels_plain_f (h : GVal g) {A found : List (List Int)} {d : List Int} (hd : DOk g.N.toNat d) {full : Bool} :
  T (search_finder_labels_m g.N A d found full) fun r => (r.1 = -1 ∧ r.2.length = g.N.toNat ∧ ∀ i, i < g.N.toNat → L3 (sf r.2 i) ∧ sf d i = bt (sf r.2 i)) ∨ (∃ i : Nat, i < g.N.toNat ∧ r.1 = (i : Int) ∧ ∀ x, L3 x → sf d i ≠ bt x) := by
 have h40 := h.n1; have hn0 := h.n0
 unfold search_finder_labels_m
 refine T.bind (P := fun r => match r with
  | .inl (a : Int × List Int) => ∃ i : Nat, i < g.N.toNat ∧ a.1 = (i : Int) ∧ ∀ x, L3 x → sf d i ≠ bt x
  | .inr (l : List Int) => l.length = g.N.toNat ∧ ∀ i, i < g.N.toNat → L3 (sf l i) ∧ sf d i = bt (sf l i)) ?_ fun r hr => ?_
 ·refine T.loopK g.N.toNat (fun k s => k ≤ g.N.toNat ∧ s.1 = (k : Int) ∧ s.2.length = k ∧ ∀ i, i < k → L3 (sf s.2 i) ∧ sf d i = bt (sf s.2 i)) ⟨by omega, rfl, rfl, fun i hi => by omega⟩ ?_
  rintro k ⟨_, l⟩ ⟨hk, rfl, hl, hi⟩
  dsimp only at hl hi
  dsimp only [search_finder_labels_l1]
  refine T.cond (fun c => ?_) fun c => ?_
  ·have hkN : k < g.N.toNat := by have := of_decide_eq_true c; omega
   have go : ∀ x : Int, L3 x → sf d k = bt x → T (Option.bind (appM 8 l [x]) fun l18 => (some (Sum.inr (iadd .i64 (k : Int) 1, l18)) : Option (Sum (Sum (Int × List Int) (List Int)) (Int × List Int)))) (onO (fun r => match r with
     | .inl (a : Int × List Int) => ∃ i : Nat, i < g.N.toNat ∧ a.1 = (i : Int) ∧ ∀ x, L3 x → sf d i ≠ bt x
     | .inr (l : List Int) => l.length = g.N.toNat ∧ ∀ i, i < g.N.toNat → L3 (sf l i) ∧ sf d i = bt (sf l i)) fun s => k < g.N.toNat ∧ k + 1 ≤ g.N.toNat ∧ s.1 = ((k + 1 : Nat) : Int) ∧ s.2.length = k + 1 ∧ ∀ i, i < k + 1 → L3 (sf s.2 i) ∧ sf d i = bt (sf s.2 i)) := fun x hx e => by
    rw [appM_eq (by simp; omega), some_bind, iadd1 (by omega)]
    refine .ret ⟨hkN, hkN, rfl, by simp [hl], fun i hik => ?_⟩
    by_cases e1 : i = k
    ·subst e1
     have e2 : sf (l ++ [x]) i = x := by unfold sf; rw [← hl]; simp [List.getD]
     dsimp only
     rw [e2]; exact ⟨hx, e⟩
    ·dsimp only
     rw [sf_app (by omega)]; exact hi i (by omega)
   rw [vidx_sf hd.len (by omega), some_bind]
   refine T.cond (fun c1 => go 1 (.inl rfl) (eq_of_beq c1)) fun c1 => T.cond (fun c2 => go 2 (.inr (.inl rfl)) (eq_of_beq c2)) fun c2 => T.cond (fun c3 => go 3 (.inr (.inr rfl)) (eq_of_beq c3)) fun c3 => .ret ⟨k, hkN, rfl, fun x hx e => ?_⟩
   rcases hx with rfl | rfl | rfl
   ·rw [e] at c1; exact absurd c1 (by decide)
   ·rw [e] at c2; exact absurd c2 (by decide)
   ·rw [e] at c3; exact absurd c3 (by decide)
  ·have e : k = g.N.toNat := by have := of_decide_eq_false c; omega
   subst e
   exact .ret ⟨hl, hi⟩
 ·match r, hr with
  | .inl a, h1 => exact .ret (.inr h1)
  | .inr l, h1 => exact .ret (.inl ⟨rfl, h1⟩)
end Go.Dc
