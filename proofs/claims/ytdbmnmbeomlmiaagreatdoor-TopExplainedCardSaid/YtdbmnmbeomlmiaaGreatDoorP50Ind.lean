/- Part P50.Ind of a proof: lemmas. -/
import Derived.Test.YtdbmnmbeomlmiaaGreatDoorP50SortC
import Derived.Test.YtdbmnmbeomlmiaaGreatDoorLAWTXF
import Derived.Test.YtdbmnmbeomlmiaaGreatDoorDcCptP
set_option linter.unusedVariables false
set_option maxHeartbeats 4000000
set_option linter.unusedSimpArgs false
set_option linter.unusedSectionVars false
namespace Go.Dc

abbrev FdR := Int × List Int × List (ByteArray × Int) × Int × Bool × List (List Int) × List T_api_Step
structure Post (n : Int) (L : List (List Int)) (V F : List Int) (u : Nat) (C : List (List Int)) (S : List T_api_Step) (nd : Int) (r : FdR) : Prop where
 inv : CInv n L r.2.2.2.2.2.1 r.2.2.1 r.2.2.2.2.2.2
 vlen : (r.2.1.length : Int) = n
 nd0 : nd ≤ r.2.2.2.1
 nd1 : r.2.2.2.1 + 1 ≤ nd + ((2 ^ (u + 1) : Nat) : Int)
 lenC : C.length ≤ r.2.2.2.2.2.1.length
 ext : ∀ i, i < C.length → r.2.2.2.2.2.1.getD i [] = C.getD i []
 lenS : (r.2.2.2.2.2.2.length : Int) - S.length ≤ r.2.2.2.1 - nd
 sure : nd + ((2 ^ (u + 1) : Nat) : Int) ≤ 8192 → (S.length : Int) ≤ nd → nvs L n ≤ 12 → r.2.2.2.2.1 = false
 big : r.2.2.2.2.1 = false → r.2.2.2.1 ≤ 9000
 res : r.2.2.2.2.1 = false → (r.1 = -1 ∧ VV n r.2.1 ∧ ∀ c ∈ r.2.2.2.2.2.1, ∃ y ∈ c, valP r.2.1 y = 1) ∨
  (0 ≤ r.1 ∧ r.1 < r.2.2.2.2.2.1.length ∧ r.2.1 = V ∧ FalC F (r.2.2.2.2.2.1.getD r.1.toNat []) ∧ ∀ i, i < r.2.2.2.2.2.1.length → r.2.2.2.2.2.1.getD i [] = [] → (i : Int) = r.1 ∧ i + 1 = r.2.2.2.2.2.1.length)

abbrev FindT := List Int → List (List Int) → List (ByteArray × Int) → List T_api_Step → Int → Bool → Option FdR

def Good (n : Int) (L : List (List Int)) (r : FindT) (u : Nat) : Prop :=
 ∀ V C K S nd, CInv n L C K S → VV n V → (∀ c ∈ C, c ≠ []) → 0 ≤ nd → nd ≤ 9000 → opn L V < u → T (r V C K S nd false) (Post n L V V (opn L V) C S nd)

theorem pow_mono {a b : Nat} (h : a ≤ b) : ((2 ^ a : Nat) : Int) ≤ ((2 ^ b : Nat) : Int) := by exact_mod_cast Nat.pow_le_pow_right (by decide) h
theorem pow_pos' {a : Nat} : 1 ≤ ((2 ^ a : Nat) : Int) := by exact_mod_cast Nat.one_le_two_pow
theorem pow_two {a : Nat} : ((2 ^ (a + 1) : Nat) : Int) = 2 * ((2 ^ a : Nat) : Int) := by rw [Nat.pow_succ]; omega

section
variable {n : Int} {L : List (List Int)} {r : FindT}

theorem Post.chg {V F V3 : List Int} {u : Nat} {C : List (List Int)} {S : List T_api_Step} {nd : Int} {n2 : Int} {V2 : List Int} {K2 : List (ByteArray × Int)} {nd2 : Int} {st2 : Bool} {C2 : List (List Int)} {S2 : List T_api_Step}
  (hq : Post n L F F u C S nd (n2, V2, K2, nd2, st2, C2, S2)) (h3 : (V3.length : Int) = n) (h4 : st2 = false → n2 = -1 → VV n V3 ∧ ∀ c ∈ C2, ∃ y ∈ c, valP V3 y = 1) (h5 : st2 = false → 0 ≤ n2 → V3 = V) :
  Post n L V F u C S nd (n2, V3, K2, nd2, st2, C2, S2) :=
 ⟨hq.inv, h3, hq.nd0, hq.nd1, hq.lenC, hq.ext, hq.lenS, hq.sure, hq.big, fun hs => by
  rcases hq.res hs with ⟨a1, a2, a3⟩ | ⟨a1, a2, a3, a4, a5⟩
  ·exact .inl ⟨a1, h4 hs a1⟩
  ·exact .inr ⟨a1, a2, h5 hs a1, a4, a5⟩⟩

theorem under_T {V : List Int} {C : List (List Int)} {K : List (ByteArray × Int)} {S : List T_api_Step} {nd : Int} {u : Nat} (hr : Good n L r u) (hI : CInv n L C K S) (hV : VV n V) (hne : ∀ c ∈ C, c ≠ []) (hd0 : 0 ≤ nd) (hd : nd ≤ 9000)
  (hu : opn L V ≤ u) {x : Int} (h0 : x ≠ 0) (h1 : -n ≤ x) (h2 : x ≤ n) (ho : occ L x.natAbs = true) (hv : valP V x = 0) :
  T (proof_search_under_m r V C K S nd false x) (Post n L V (setP V x 1) (opn L (setP V x 1)) C S nd) := by
 have hn1 := hI.n1
 have hlt := opn_lt hV.len hn1 h0 h1 h2 ho hv
 unfold proof_search_under_m
 rw [set_plain hV.len hn1 h0 h1 h2 (.inr rfl), some_bind]
 refine T.bind (hr (setP V x 1) C K S nd hI (setP_VV hV (.inr rfl)) hne hd0 hd (by omega)) fun q hq => ?_
 obtain ⟨n2, V2, K2, nd2, st2, C2, S2⟩ := q
 have hset : proof_search_set_m V2 C2 K2 S2 nd2 st2 x 0 = some (setP V2 x 0) := set_plain hq.vlen hn1 h0 h1 h2 (.inl rfl)
 have hl3 : ((setP V2 x 0).length : Int) = n := by rw [setP_len]; exact hq.vlen
 dsimp only
 refine T.cond (fun h => ?_) fun h => T.cond (fun h3 => ?_) fun h3 => .ret ?_
 ·rw [hset, some_bind]
  have h := of_decide_eq_true h
  refine .ret (hq.chg hl3 (fun _ e => by omega) fun hs _ => ?_)
  rcases hq.res hs with ⟨a1, _⟩ | ⟨a1, a2, a3, a4, a5⟩
  ·have a1 : n2 = -1 := a1; omega
  ·have a3 : V2 = setP V x 1 := a3
   rw [a3]; exact setP_back hV.len h0 h1 h2 hv
 ·rw [hset, some_bind]
  exact .ret (hq.chg hl3 (fun hs _ => by rw [h3] at hs; cases hs) fun hs _ => by rw [h3] at hs; cases hs)
 ·have h := of_decide_eq_false h
  refine hq.chg hq.vlen (fun hs e => ?_) fun hs e => by omega
  rcases hq.res hs with ⟨a1, a2, a3⟩ | ⟨a1, _⟩
  ·exact ⟨a2, a3⟩
  ·have a1 : 0 ≤ n2 := a1; omega

theorem fal_under {V : List Int} {c : List Int} {x : Int} (hl : (V.length : Int) = n) (h0 : x ≠ 0) (h1 : -n ≤ x) (h2 : x ≤ n) (hc : ∀ y ∈ c, y ≠ 0) (hF : FalC (setP V x 1) c) : ∀ y ∈ c, y = -x ∨ valP V y = -1 := fun y hy => by
 have h3 := hF y hy
 rw [setP_val hl h0 h1 h2 (hc y hy)] at h3
 split at h3
 ·omega
 ·split at h3
  ·left; assumption
  ·right; exact h3

theorem Contains_of {c : List Int} {x : Int} (hc : c.length ≤ 50) : slices_Contains_int_int_m c x = some (decide (x ∈ c)) := Contains_plain (by omega)

theorem core_T {V : List Int} {C : List (List Int)} {K : List (ByteArray × Int)} {S : List T_api_Step} {nd : Int} (hr : Good n L r (opn L V)) (hI : CInv n L C K S) (hV : VV n V) (hne : ∀ c ∈ C, c ≠ []) (hd0 : 0 ≤ nd) (hd : nd + 1 ≤ 9000)
  {unit x : Int} (h0 : x ≠ 0) (hxc : ∃ c ∈ C, x ∈ c) (hv : valP V x = 0) (hun : unit = -1 ∨ 0 ≤ unit ∧ unit < C.length ∧ UniC V (C.getD unit.toNat []) x) :
  T (Option.bind (proof_search_under_m r V C K S (nd + 1) false x) fun first9 =>
 bif decide (first9.1 < 0) then
 some ((first9.1, first9.2.1, first9.2.2.1, first9.2.2.2.1, first9.2.2.2.2.1, first9.2.2.2.2.2.1, first9.2.2.2.2.2.2))
 else
 bif first9.2.2.2.2.1 then
 some ((first9.1, first9.2.1, first9.2.2.1, first9.2.2.2.1, first9.2.2.2.2.1, first9.2.2.2.2.2.1, first9.2.2.2.2.2.2))
 else
 Option.bind (idxM first9.2.2.2.2.2.1 first9.1) fun t12 =>
 Option.bind (slices_Contains_int_int_m t12 (ineg .i64 x)) fun t13 =>
 bif !t13 then
 some ((first9.1, first9.2.1, first9.2.2.1, first9.2.2.2.1, first9.2.2.2.2.1, first9.2.2.2.2.2.1, first9.2.2.2.2.2.2))
 else
 bif decide (unit < 0) then
 Option.bind (proof_search_under_m r first9.2.1 first9.2.2.2.2.2.1 first9.2.2.1 first9.2.2.2.2.2.2 first9.2.2.2.1 first9.2.2.2.2.1 (ineg .i64 x)) fun unit14 =>
 bif decide (unit14.1 < 0) then
 some ((unit14.1, unit14.2.1, unit14.2.2.1, unit14.2.2.2.1, unit14.2.2.2.2.1, unit14.2.2.2.2.2.1, unit14.2.2.2.2.2.2))
 else
 bif unit14.2.2.2.2.1 then
 some ((unit14.1, unit14.2.1, unit14.2.2.1, unit14.2.2.2.1, unit14.2.2.2.2.1, unit14.2.2.2.2.2.1, unit14.2.2.2.2.2.2))
 else
 Option.bind (idxM unit14.2.2.2.2.2.1 unit14.1) fun t15 =>
 Option.bind (slices_Contains_int_int_m t15 x) fun t16 =>
 bif !t16 then
 some ((unit14.1, unit14.2.1, unit14.2.2.1, unit14.2.2.2.1, unit14.2.2.2.2.1, unit14.2.2.2.2.2.1, unit14.2.2.2.2.2.2))
 else
 Option.bind (proof_search_learn_m unit14.2.1 unit14.2.2.2.2.2.1 unit14.2.2.1 unit14.2.2.2.2.2.2 unit14.2.2.2.1 unit14.2.2.2.2.1 unit14.1 first9.1 x) fun t17 =>
 some ((t17.1, unit14.2.1, t17.2.1, t17.2.2.1, t17.2.2.2.1, t17.2.2.2.2.1, t17.2.2.2.2.2))
 else
 Option.bind (proof_search_learn_m first9.2.1 first9.2.2.2.2.2.1 first9.2.2.1 first9.2.2.2.2.2.2 first9.2.2.2.1 first9.2.2.2.2.1 unit first9.1 x) fun t18 =>
 some ((t18.1, first9.2.1, t18.2.1, t18.2.2.1, t18.2.2.2.1, t18.2.2.2.2.1, t18.2.2.2.2.2))) (Post n L V V (opn L V) C S nd) := by
 have hn1 := hI.n1
 obtain ⟨cx, hcx, hxm⟩ := hxc
 have hxr := (hI.ok _ hcx).rng x hxm
 have hxo := hI.oc _ hcx x hxm
 obtain ⟨_, h1, h2⟩ := hxr
 have hlt := opn_lt hV.len hn1 h0 h1 h2 hxo hv
 have hp := pow_mono (show opn L (setP V x 1) + 1 ≤ opn L V by omega)
 have hq2 := pow_two (a := opn L V)
 have hp1 := pow_pos' (a := opn L V)
 refine T.bind (under_T hr hI hV hne (by omega) hd (Nat.le_refl _) h0 h1 h2 hxo hv) fun q hq => ?_
 obtain ⟨f, V1, K1, nd1, st1, C1, S1⟩ := q
 dsimp only
 have g1 : nd1 + 1 ≤ nd + 1 + ((2 ^ (opn L (setP V x 1) + 1) : Nat) : Int) := hq.nd1
 have g0 : nd + 1 ≤ nd1 := hq.nd0
 have gS : (S1.length : Int) - S.length ≤ nd1 - (nd + 1) := hq.lenS
 have gC : C.length ≤ C1.length := hq.lenC
 have gext : ∀ i, i < C.length → C1.getD i [] = C.getD i [] := hq.ext
 have qsure : nd + 1 + ((2 ^ (opn L (setP V x 1) + 1) : Nat) : Int) ≤ 8192 → (S.length : Int) ≤ nd + 1 → nvs L n ≤ 12 → st1 = false := hq.sure
 have gsure : nd + ((2 ^ (opn L V + 1) : Nat) : Int) ≤ 8192 → (S.length : Int) ≤ nd → nvs L n ≤ 12 → st1 = false := fun a b c => qsure (by omega) (by omega) c
 -- an answer that goes up
 have up : ∀ (hres : st1 = false → (f = -1 ∧ VV n V1 ∧ ∀ c ∈ C1, ∃ y ∈ c, valP V1 y = 1) ∨ (0 ≤ f ∧ f < C1.length ∧ V1 = V ∧ FalC V (C1.getD f.toNat []) ∧ ∀ i, i < C1.length → C1.getD i [] = [] → (i : Int) = f ∧ i + 1 = C1.length)),
   Post n L V V (opn L V) C S nd (f, V1, K1, nd1, st1, C1, S1) := fun hres =>
  ⟨hq.inv, hq.vlen, by dsimp only; omega, by dsimp only; omega, gC, hq.ext, by dsimp only; omega, gsure, hq.big, hres⟩
 refine T.cond (fun h => .ret (up fun hs => ?_)) fun h => T.cond (fun h3 => .ret (up fun hs => by rw [h3] at hs; cases hs)) fun h3 => ?_
 ·have h := of_decide_eq_true h
  rcases hq.res hs with a | ⟨a1, _⟩
  ·exact .inl a
  ·have a1 : 0 ≤ f := a1; omega
 have h := of_decide_eq_false h
 obtain ⟨a1, a2, a3, a4, a5⟩ : 0 ≤ f ∧ f < C1.length ∧ V1 = V ∧ FalC (setP V x 1) (C1.getD f.toNat []) ∧ ∀ i, i < C1.length → C1.getD i [] = [] → (i : Int) = f ∧ i + 1 = C1.length := by
  rcases hq.res h3 with ⟨a1, _⟩ | a
  ·have a1 : f = -1 := a1; omega
  ·exact a
 subst a3
 have hfm : C1.getD f.toNat [] ∈ C1 := getD_mem (by omega)
 have hfok := hq.inv.ok _ hfm
 rw [idxM_getD' [] a1 a2, some_bind, ineg64 (by omega) (by omega), Contains_of hfok.len, some_bind]
 have hfal := fal_under hV.len h0 h1 h2 (fun y hy => (hfok.rng y hy).1) a4
 refine T.cond (fun h4 => .ret (up fun _ => .inr ⟨a1, a2, rfl, fun y hy => ?_, a5⟩)) fun h4 => ?_
 ·have h4 : ¬ (-x ∈ C1.getD f.toNat []) := by simpa using h4
  rcases hfal y hy with e | e
  ·subst e; exact absurd hy h4
  ·exact e
 have h4 : -x ∈ C1.getD f.toNat [] := by simpa using h4
 have hne1 : ∀ c ∈ C1, c ≠ [] := fun c hc e => by
  subst e
  obtain ⟨i, hi, ei⟩ := List.getElem_of_mem hc
  have hgi : C1.getD i [] = [] := by simp [List.getD, hi, ei]
  have h5 := (a5 i hi hgi).1
  have h6 : f.toNat = i := by omega
  rw [h6, hgi] at h4; simp at h4
 have hd1 : nd1 ≤ 9000 := hq.big h3
 have h3' : st1 = false := h3
 subst h3'
 refine T.cond (fun h5 => ?_) fun h5 => ?_
 · -- both ways are tried
  have hvn : valP V1 (-x) = 0 := by rw [valP_neg h0, hv]; rfl
  have hlt2 := opn_lt hV.len hn1 (show -x ≠ 0 by omega) (by omega) (by omega) (by rw [Int.natAbs_neg]; exact hxo) hvn
  have hp2 := pow_mono (show opn L (setP V1 (-x) 1) + 1 ≤ opn L V1 by omega)
  refine T.bind (under_T hr hq.inv hV hne1 (by omega) hd1 (Nat.le_refl _) (show -x ≠ 0 by omega) (by omega) (by omega) (by rw [Int.natAbs_neg]; exact hxo) hvn) fun q2 hu => ?_
  obtain ⟨un, V2, K2, nd2, st2, C2, S2⟩ := q2
  dsimp only
  have k1 : nd2 + 1 ≤ nd1 + ((2 ^ (opn L (setP V1 (-x) 1) + 1) : Nat) : Int) := hu.nd1
  have k0 : nd1 ≤ nd2 := hu.nd0
  have kS : (S2.length : Int) - S1.length ≤ nd2 - nd1 := hu.lenS
  have kC : C1.length ≤ C2.length := hu.lenC
  have uext : ∀ i, i < C1.length → C2.getD i [] = C1.getD i [] := hu.ext
  have usure : nd1 + ((2 ^ (opn L (setP V1 (-x) 1) + 1) : Nat) : Int) ≤ 8192 → (S1.length : Int) ≤ nd1 → nvs L n ≤ 12 → st2 = false := hu.sure
  have kext : ∀ i, i < C.length → C2.getD i [] = C.getD i [] := fun i hi => (uext i (by omega)).trans (gext i hi)
  have ksure : nd + ((2 ^ (opn L V1 + 1) : Nat) : Int) ≤ 8192 → (S.length : Int) ≤ nd → nvs L n ≤ 12 → st2 = false := fun a b c => usure (by omega) (by omega) c
  have up2 : ∀ (hres : st2 = false → (un = -1 ∧ VV n V2 ∧ ∀ c ∈ C2, ∃ y ∈ c, valP V2 y = 1) ∨ (0 ≤ un ∧ un < C2.length ∧ V2 = V1 ∧ FalC V1 (C2.getD un.toNat []) ∧ ∀ i, i < C2.length → C2.getD i [] = [] → (i : Int) = un ∧ i + 1 = C2.length)),
    Post n L V1 V1 (opn L V1) C S nd (un, V2, K2, nd2, st2, C2, S2) := fun hres =>
   ⟨hu.inv, hu.vlen, by dsimp only; omega, by dsimp only; omega, by dsimp only; omega, kext, by dsimp only; omega, ksure, hu.big, hres⟩
  refine T.cond (fun h6 => .ret (up2 fun hs => ?_)) fun h6 => T.cond (fun h7 => .ret (up2 fun hs => by rw [h7] at hs; cases hs)) fun h7 => ?_
  ·have h6 := of_decide_eq_true h6
   rcases hu.res hs with a | ⟨b1, _⟩
   ·exact .inl a
   ·have b1 : 0 ≤ un := b1; omega
  have h6 := of_decide_eq_false h6
  obtain ⟨b1, b2, b3, b4, b5⟩ : 0 ≤ un ∧ un < C2.length ∧ V2 = V1 ∧ FalC (setP V1 (-x) 1) (C2.getD un.toNat []) ∧ ∀ i, i < C2.length → C2.getD i [] = [] → (i : Int) = un ∧ i + 1 = C2.length := by
   rcases hu.res h7 with ⟨b1, _⟩ | b
   ·have b1 : un = -1 := b1; omega
   ·exact b
  subst b3
  have hum : C2.getD un.toNat [] ∈ C2 := getD_mem (by omega)
  have huok := hu.inv.ok _ hum
  rw [idxM_getD' [] b1 b2, some_bind, Contains_of huok.len, some_bind]
  have hual := fal_under hV.len (show -x ≠ 0 by omega) (by omega) (by omega) (fun y hy => (huok.rng y hy).1) b4
  rw [Int.neg_neg] at hual
  refine T.cond (fun h8 => .ret (up2 fun _ => .inr ⟨b1, b2, rfl, fun y hy => ?_, b5⟩)) fun h8 => ?_
  ·have h8 : ¬ (x ∈ C2.getD un.toNat []) := by simpa using h8
   rcases hual y hy with e | e
   ·subst e; exact absurd hy h8
   ·exact e
  have h8 : x ∈ C2.getD un.toNat [] := by simpa using h8
  have hne2 : ∀ c ∈ C2, c ≠ [] := fun c hc e => by
   subst e
   obtain ⟨i, hi, ei⟩ := List.getElem_of_mem hc
   have hgi : C2.getD i [] = [] := by simp [List.getD, hi, ei]
   have h9 := (b5 i hi hgi).1
   have h10 : un.toNat = i := by omega
   rw [h10, hgi] at h8; simp at h8
  have h7' : st2 = false := h7
  subst h7'
  have hfe : C2.getD f.toNat [] = C1.getD f.toNat [] := uext f.toNat (by omega)
  refine T.bind (learn_plain hu.inv hV hne2 h0 b1 b2 a1 (show f < ((C2.length : Nat) : Int) by omega) h8 (by rw [hfe]; exact h4) hual (by rw [hfe]; exact hfal)) fun l hl0 => .ret ?_
  have hl : LPost n L V2 C2 S2 nd2 l := hl0
  have l1 := hl.nd
  have l2 := hl.lenS
  have l3 := hl.lenC
  have hd2 : nd2 ≤ 9000 := hu.big rfl
  refine ⟨hl.inv, hV.len, by dsimp only; omega, by dsimp only; omega, by dsimp only; omega, fun i hi => (hl.ext i (by omega)).trans (kext i hi), by dsimp only; omega, fun c1 c2 c3 => hl.sure (by omega) (by omega), fun _ => by dsimp only; omega, fun hs => .inr ?_⟩
  obtain ⟨m1, m2, m3, m4⟩ := hl.res hs
  exact ⟨m1, m2, rfl, m3, m4⟩
 ·have h5 := of_decide_eq_false h5
  obtain ⟨u1, u2, u3, u4, u5⟩ := hun.resolve_left (by omega)
  have hue : C1.getD unit.toNat [] = C.getD unit.toNat [] := gext unit.toNat (by omega)
  refine T.bind (learn_plain hq.inv hV hne1 h0 u1 (show unit < ((C1.length : Nat) : Int) by omega) a1 a2 (by rw [hue]; exact u3) h4 (by rw [hue]; exact u5) hfal) fun l hl0 => .ret ?_
  have hl : LPost n L V1 C1 S1 nd1 l := hl0
  have l1 := hl.nd
  have l2 := hl.lenS
  have l3 := hl.lenC
  refine ⟨hl.inv, hV.len, by dsimp only; omega, by dsimp only; omega, by dsimp only; omega, fun i hi => (hl.ext i (by omega)).trans (gext i hi), by dsimp only; omega, fun c1 c2 c3 => hl.sure (by omega) (by omega), fun _ => by dsimp only; omega, fun hs => .inr ?_⟩
  obtain ⟨m1, m2, m3, m4⟩ := hl.res hs
  exact ⟨m1, m2, rfl, m3, m4⟩
end
end Go.Dc

namespace Go.Dc
section
variable {n : Int} {L : List (List Int)} {r : FindT}

theorem find_b_T {V : List Int} {C : List (List Int)} {K : List (ByteArray × Int)} {S : List T_api_Step} {nd : Int} (hr : Good n L r (opn L V)) (hI : CInv n L C K S) (hV : VV n V) (hne : ∀ c ∈ C, c ≠ []) (hd0 : 0 ≤ nd) (hd : nd ≤ 9000) :
  T (proof_search_find_b r V C K S nd false) (Post n L V V (opn L V) C S nd) := by
 have hn1 := hI.n1
 have hlen : C.length ≤ 100000 := by have := hI.lenC; have := hI.lenL; have := hI.lenS; omega
 have hq2 := pow_two (a := opn L V)
 have hp1 := pow_pos' (a := opn L V)
 have e1 : iadd .i64 nd 1 = nd + 1 := iadd64 (by omega) (by omega)
 unfold proof_search_find_b
 rw [e1]
 refine T.joinP (P := fun j => j.1 = nd + 1 ∧ (j.2 = true ∧ 9000 < nd + 1 ∨ j.2 = false ∧ nd + 1 ≤ 9000)) ?_ ?_
 rotate_left
 ·intro k hk
  refine T.cond (fun h => hk _ ⟨rfl, .inl ⟨rfl, by simpa using h⟩⟩) fun h => hk _ ⟨rfl, .inr ⟨rfl, by simpa using h⟩⟩
 rintro ⟨nd', st'⟩ ⟨e, hs⟩
 dsimp only at e hs
 subst e
 rcases hs with ⟨rfl, h9⟩ | ⟨rfl, h9⟩
 ·rw [cond_true]
  exact .ret ⟨hI, hV.len, by dsimp only; omega, by dsimp only; omega, Nat.le_refl _, fun i hi => rfl, by dsimp only; omega, fun c1 _ _ => by omega, fun h => (by cases h), fun h => (by cases h)⟩
 rw [cond_false]
 refine T.bind (look_plain hV hn1 hI.ok hlen) fun t ht => ?_
 obtain ⟨unit, x⟩ := t
 -- an answer that is clear now
 have now : ∀ res : Int, ((res = -1 ∧ VV n V ∧ ∀ c ∈ C, ∃ y ∈ c, valP V y = 1) ∨ (0 ≤ res ∧ res < C.length ∧ FalC V (C.getD res.toNat []))) → Post n L V V (opn L V) C S nd (res, V, K, nd + 1, false, C, S) := fun res h =>
  ⟨hI, hV.len, by dsimp only; omega, by dsimp only; omega, Nat.le_refl _, fun i hi => rfl, by dsimp only; omega, fun _ _ _ => rfl, fun _ => by dsimp only; omega, fun _ => by
   rcases h with h | ⟨a1, a2, a3⟩
   ·exact .inl h
   ·exact .inr ⟨a1, a2, rfl, a3, fun i hi he => absurd he (hne _ (getD_mem hi))⟩⟩
 dsimp only
 refine T.joinP (P := fun _ => unit = -1 ∧ x = 0 ∧ (∀ c ∈ C, OpnC V c) ∨ 0 ≤ unit ∧ unit < C.length ∧ x ≠ 0 ∧ UniC V (C.getD unit.toNat []) x) ?_ ?_
 rotate_left
 ·intro k hk
  rcases ht with ⟨h1, h2, h3⟩ | ⟨h1, h2, h3⟩
  ·dsimp only at h1 h2
   subst h1
   rw [show decide ((-1 : Int) ≥ 0) = false from rfl, cond_false]
   exact hk _ (.inl ⟨rfl, h2, h3⟩)
  ·dsimp only at h1 h2 h3
   rw [show decide (unit ≥ 0) = true from decide_eq_true h1, cond_true]
   refine T.cond (fun h4 => .ret (now unit (.inr ⟨h1, h2, ?_⟩))) fun h4 => hk _ (.inr ⟨h1, h2, ?_⟩)
   ·have h4 := eq_of_beq h4
    rcases h3 with ⟨_, h5⟩ | ⟨h5, _⟩
    ·exact h5
    ·exact absurd h4 h5
   ·rcases h3 with ⟨h5, _⟩ | h5
    ·rw [h5] at h4; cases h4
    ·exact h5
 intro _ hux
 refine T.joinP (P := fun j => j ≠ 0 ∧ (∃ c ∈ C, j ∈ c) ∧ valP V j = 0 ∧ (unit = -1 ∨ 0 ≤ unit ∧ unit < C.length ∧ UniC V (C.getD unit.toNat []) j)) ?_ ?_
 ·rintro j ⟨j0, j1, j2, j3⟩
  exact core_T hr hI hV hne hd0 h9 j0 j1 j2 j3
 ·intro k hk
  rcases hux with ⟨rfl, rfl, h3⟩ | ⟨h1, h2, h3, h4⟩
  ·rw [show decide ((-1 : Int) < 0) = true from rfl, cond_true]
   refine T.bind (branch_plain hV hn1 hI.ok hlen h3) fun y hy => ?_
   rcases hy with ⟨rfl, h5⟩ | ⟨h5, h6, h7⟩
   ·exact .ret (now (-1) (.inl ⟨rfl, hV, h5⟩))
   ·rw [show (y == 0) = false from beq_false_of_ne h5, cond_false]
    exact hk _ ⟨h5, h7, h6, .inl rfl⟩
  ·rw [show decide (unit < 0) = false from decide_eq_false (by omega), cond_false]
   exact hk _ ⟨h3, ⟨_, getD_mem (by omega), h4.1⟩, h4.2.1, .inr ⟨h1, h2, h4⟩⟩
end

theorem find_n_T {n : Int} {L : List (List Int)} : ∀ u, Good n L (proof_search_find_n u) u
 | 0 => fun V C K S nd _ _ _ _ _ h => absurd h (by omega)
 | u + 1 => fun V C K S nd hI hV hne hd0 hd hu => find_b_T (r := proof_search_find_n u) (fun V' C' K' S' nd' a b c d e f => find_n_T u V' C' K' S' nd' a b c d e (by omega)) hI hV hne hd0 hd

theorem find_m_T {n : Int} {L : List (List Int)} {V : List Int} {C : List (List Int)} {K : List (ByteArray × Int)} {S : List T_api_Step} {nd : Int} (hI : CInv n L C K S) (hV : VV n V) (hne : ∀ c ∈ C, c ≠ []) (hd0 : 0 ≤ nd) (hd : nd ≤ 9000) :
  T (proof_search_find_m V C K S nd false) (Post n L V V (opn L V) C S nd) := by
 obtain ⟨q, h1, h2⟩ := find_n_T (n := n) (L := L) (opn L V + 1) V C K S nd hI hV hne hd0 hd (by omega)
 exact ⟨q, proof_search_find_m_at h1, h2⟩
end Go.Dc

set_option maxHeartbeats 1000000
namespace Go.Dc

def SolR (n : Int) (l : List (List Int)) (r : T_api_Answer × Int) : Prop :=
 r = (⟨false, [], []⟩, 2) ∧ 12 < nvs l n ∨
 r.2 = 0 ∧ r.1.Sat = true ∧ r.1.Steps = [] ∧ (r.1.Model.length : Int) = n ∧ satP l r.1.Model = true ∨
 r.2 = 0 ∧ r.1.Sat = false ∧ r.1.Model = [] ∧ r.1.Steps.length ≤ 20000 ∧ refP l r.1.Steps = true

theorem model_plain {V : List Int} {C : List (List Int)} {K : List (ByteArray × Int)} {S : List T_api_Step} {nd : Int} {st : Bool} (hl : V.length ≤ 200) : proof_search_model_m V C K S nd st = some (V.map fun v => decide (v > 0)) := by
 unfold proof_search_model_m
 have h : T (loopC (proof_search_model_l1 V) (0, [])) (· = V.map fun v => decide (v > 0)) := by
  refine T.loopK V.length (fun k s => s.1 = (k : Int) ∧ k ≤ V.length ∧ s.2 = (V.take k).map fun v => decide (v > 0)) ⟨rfl, by omega, rfl⟩ ?_
  rintro k ⟨i, o⟩ ⟨e, hk, ho⟩
  dsimp only at e ho
  subst e
  unfold proof_search_model_l1
  dsimp only
  refine T.cond (fun h => ?_) fun h => .ret ?_
  ·have hk2 : k < V.length := by simpa using h
   have hol : o.length ≤ 200 := by rw [ho]; simp; omega
   rw [idxM_nat hk2, some_bind, appM_eq (by simp; omega), some_bind, iadd1 (by omega)]
   refine .ret ⟨hk2, rfl, hk2, ?_⟩
   rw [← List.take_append_getElem hk2, List.map_append, ho]; rfl
  ·have : k = V.length := by simp at h; omega
   subst this
   rw [ho, List.take_length]
 rw [h.eq]; rfl

theorem litT_val {V : List Int} {x : Int} (h0 : x ≠ 0) (hx : (x.natAbs : Int) ≤ V.length) (h : valP V x = 1) : litT (V.map fun v => decide (v > 0)) x = true := by
 have hi : x.natAbs - 1 < V.length := by omega
 unfold litT
 rw [show (V.map fun v => decide (v > 0)).getD (x.natAbs - 1) false = decide (V.getD (x.natAbs - 1) 0 > 0) by simp [List.getD, hi]]
 unfold valP at h
 split at h
 ·rename_i hp
  rw [h]; simp [hp]
 ·rename_i hp
  have : V.getD (x.natAbs - 1) 0 = -1 := by omega
  rw [this]; simp; omega

theorem inv_run {n : Int} {L C : List (List Int)} {K : List (ByteArray × Int)} {S : List T_api_Step} (h : CInv n L C K S) : runP L S = some C := by
 have hl := h.lenC
 suffices hh : ∀ j, j ≤ S.length → runP L (S.take j) = some (C.take (L.length + j)) by
  have := hh S.length (Nat.le_refl _)
  rw [List.take_length, List.take_of_length_le (by omega)] at this
  exact this
 intro j
 induction j with
 | zero =>
  intro _
  simp only [List.take_zero, runP, Nat.add_zero]
  congr 1
  apply List.ext_getElem
  ·simp; omega
  ·intro i h1 h2
   have := h.pre i h1
   simp only [List.getD, List.getElem?_eq_getElem h1, List.getElem?_eq_getElem (show i < C.length by omega), Option.getD_some] at this
   rw [List.getElem_take]; exact this.symm
 | succ j ih =>
  intro hj
  rw [runP_snoc hj (ih (by omega))]
  obtain ⟨q1, q2, q3, q4, q5⟩ := h.stp j hj
  have hlt : (C.take (L.length + j)).length = L.length + j := by simp; omega
  rw [stepP_of q1 (by rw [hlt]; exact q2) q3 (by rw [hlt]; exact q4)]
  have hg : ∀ i, i < L.length + j → (C.take (L.length + j)).getD i [] = C.getD i [] := fun i hi => by
   simp [List.getD, List.getElem?_take, hi]
  rw [hg _ (by omega), hg _ (by omega), q5, if_pos rfl]
  congr 1
  have hlt2 : L.length + j < C.length := by omega
  have : C.getD (L.length + j) [] = C[L.length + j] := by simp [List.getD, hlt2]
  rw [this, show L.length + (j + 1) = L.length + j + 1 by omega, List.take_append_getElem hlt2]

theorem Solve_plain {n : Int} {l : List (List Int)} : T (proof_Solve_s1_m n l) fun r => if ValidP n l = 0 then SolR n l r else r = (⟨false, [], []⟩, ValidP n l) := by
 unfold proof_Solve_s1_m
 rw [Validate_plain, some_bind]
 by_cases hv : ValidP n l = 0
 rotate_left
 ·rw [show (ValidP n l != 0) = true by simp [hv], cond_true]
  exact .ret (by rw [if_neg hv])
 rw [hv, bne_self_eq_false, cond_false]
 obtain ⟨n0, n1, hlen, hcl⟩ := ValidP_ok.1 hv
 simp only [if_true]
 rw [find_bind (l := l) (fun c => if c.isEmpty = true then some ((⟨false, [], []⟩, 0) : T_api_Answer × Int) else none) (fun i hi => by
  unfold proof_Solve_s1_l1
  rw [show decide ((i : Int) < (l.length : Int)) = true by simp [hi], cond_true, idxM_nat hi, iadd64 (by omega) (by omega)]
  simp only [Option.bind_some]
  cases hq : l[i] with
  | nil => simp
  | cons y ys => simp; rw [show ((ys.length : Int) + 1 == 0) = false from beq_false_of_ne (by omega)]; rfl) (by unfold proof_Solve_s1_l1; simp)]
 cases hf : l.findSome? (fun c => if c.isEmpty = true then some ((⟨false, [], []⟩, 0) : T_api_Answer × Int) else none) with
 | some r =>
  obtain ⟨c, hc, hy⟩ := List.exists_of_findSome?_eq_some hf
  split at hy
  ·rename_i he
   cases hy
   refine .ret (.inr (.inr ⟨rfl, rfl, rfl, by simp, ?_⟩))
   unfold refP
   simp only [runP, if_true]
   exact List.any_eq_true.2 ⟨c, hc, he⟩
  ·cases hy
 | none =>
  rw [List.findSome?_eq_none_iff] at hf
  have hne : ∀ c ∈ l, c ≠ [] := fun c hc e => by have := hf c hc; rw [e] at this; simp at this
  obtain ⟨N, rfl⟩ := Int.eq_ofNat_of_zero_le n0
  have hmk : mkM 8 0 (N : Int) = some (List.replicate N (0 : Int)) := mkM_T (by omega)
  have hcn : slices_Clone_int_int_m l = some l := by unfold slices_Clone_int_int_m; rw [appM_eq (by simp; omega)]; rfl
  simp only [hmk, hcn, Option.bind_some, meetO_self, joinM_eq]
  have hV : VV (N : Int) (List.replicate N 0) := ⟨by simp, fun i => .inr (.inr getD_rep)⟩
  have hI : CInv (N : Int) l l [] [] := ⟨n0, n1, hlen, by simp, by simp, fun i _ => rfl, hcl, fun c hc x hx => occ_of hc hx, fun j hj => by simp at hj, fun p hp => by simp at hp⟩
  refine T.bind (find_m_T hI hV hne (by omega) (by omega)) fun q hq => ?_
  obtain ⟨f, V1, K1, nd1, st1, C1, S1⟩ := q
  dsimp only
  have hop : opn l (List.replicate N 0) ≤ nvs l (N : Int) := opn_le (by simp)
  have hsure : (0 : Int) + ((2 ^ (opn l (List.replicate N 0) + 1) : Nat) : Int) ≤ 8192 → (([] : List T_api_Step).length : Int) ≤ 0 → nvs l (N : Int) ≤ 12 → st1 = false := hq.sure
  refine T.cond (fun h => .ret (.inl ⟨rfl, ?_⟩)) fun h => ?_
  ·refine Nat.lt_of_not_le fun hle => ?_
   have hp := pow_mono (show opn l (List.replicate N 0) + 1 ≤ 13 by omega)
   have h13 : ((2 ^ 13 : Nat) : Int) = 8192 := by decide
   rw [h13] at hp
   have := hsure (by omega) (by simp) hle
   rw [this] at h; cases h
  have hpre : ∀ c ∈ l, c ∈ C1 := fun c hc => by
   obtain ⟨i, hi, rfl⟩ := List.getElem_of_mem hc
   have h1 : C1.getD i [] = l.getD i [] := hq.inv.pre i hi
   have h2 : l.getD i [] = l[i] := by simp [List.getD, hi]
   have h3 : l.length ≤ C1.length := hq.lenC
   rw [← h2, ← h1]; exact getD_mem (by omega)
  refine T.cond (fun h2 => ?_) fun h2 => .ret ?_
  ·have h2 := of_decide_eq_true h2
   rcases hq.res h with ⟨a1, a2, a3⟩ | ⟨a1, _⟩
   rotate_left
   ·have a1 : 0 ≤ f := a1; omega
   have a2 : VV (N : Int) V1 := a2
   have hvl := a2.len
   rw [model_plain (by omega), some_bind]
   refine .ret (.inr (.inl ⟨rfl, rfl, rfl, by simpa using hvl, ?_⟩))
   refine List.all_eq_true.2 fun c hc => ?_
   obtain ⟨y, hy, hyv⟩ := a3 c (hpre c hc)
   have hr := (hcl c hc).rng y hy
   exact List.any_eq_true.2 ⟨y, hy, litT_val hr.1 (by omega) hyv⟩
  ·have h2 := of_decide_eq_false h2
   rcases hq.res h with ⟨a1, _⟩ | ⟨a1, a2, a3, a4, a5⟩
   ·have a1 : f = -1 := a1; omega
   have a1 : 0 ≤ f := a1
   have a2 : f < C1.length := a2
   have hinv : CInv (N : Int) l C1 K1 S1 := hq.inv
   have hfm : C1.getD f.toNat [] ∈ C1 := getD_mem (by omega)
   have hemp : C1.getD f.toNat [] = [] := by
    cases hc : C1.getD f.toNat [] with
    | nil => rfl
    | cons y ys =>
     have a4 : FalC (List.replicate N 0) (C1.getD f.toNat []) := a4
     have := a4 y (by rw [hc]; simp)
     unfold valP at this
     rw [getD_rep] at this
     split at this <;> omega
   have hlast : ((f.toNat : Nat) : Int) = f ∧ f.toNat + 1 = C1.length := a5 f.toNat (by show f.toNat < C1.length; omega) hemp
   have hS : S1 ≠ [] := fun e => by
    subst e
    have h5 := hinv.lenC
    simp at h5
    have h6 := hinv.pre f.toNat (by omega)
    rw [hemp] at h6
    exact hne _ (getD_mem (z := []) (show f.toNat < l.length by omega)) h6.symm
   refine .inr (.inr ⟨rfl, rfl, rfl, hinv.lenS, ?_⟩)
   dsimp only
   unfold refP
   rw [inv_run hinv]
   simp only [if_neg hS]
   rw [show C1.length - 1 = f.toNat by omega]
   have : C1.getD f.toNat [1] = C1.getD f.toNat [] := by simp [List.getD, show f.toNat < C1.length by omega]
   rw [this, hemp]; rfl

end Go.Dc

namespace Go.Dc
open Go.Proofs Go.Sort

theorem satB_satP {l : List (List Int)} {m : List Bool} : satB m l = satP l m := rfl
theorem lit_neg {m : List Bool} {a : Nat} : litT m (-((a : Int) + 1)) = !m.getD a false := by
 unfold litT
 rw [show (-((a : Int) + 1)).natAbs - 1 = a by omega, show decide (-((a : Int) + 1) > 0) = false from decide_eq_false (by omega)]; simp

theorem labels_plain {N : Nat} (hN : N ≤ 40) {m : List Bool} (hm : m.length = 2 * N) (hno : ∀ j, j < N → (m.getD j false && m.getD (N + j) false) = false) : T (verdict_labels_m (N : Int) m) fun y => LOk N y ∧ MOk N y m := by
 unfold verdict_labels_m
 refine T.bind (P := fun y => LOk N y ∧ MOk N y m) ?_ fun y hy => .ret hy
 refine T.loopK N (fun k s => k ≤ N ∧ s.1 = (k : Int) ∧ LOk k s.2 ∧ ∀ j, j < k → m.getD j false = (sf s.2 j == 1) ∧ m.getD (N + j) false = (sf s.2 j == 2)) ⟨by omega, rfl, ⟨rfl, by simp⟩, by simp⟩ ?_
 rintro k ⟨_, y⟩ ⟨hk, rfl, hy, hj⟩
 dsimp only at hy hj
 have hyl := hy.len
 dsimp only [verdict_labels_l1]
 refine T.cond (fun c => ?_) fun c => ?_
 ·have hk2 : k < N := by have := of_decide_eq_true c; omega
  have snoc : ∀ x : Int, 1 ≤ x → x ≤ 3 → LOk (k + 1) (y ++ [x]) := fun x h1 h2 => ⟨by simp; omega, fun z hz => by
   rcases List.mem_append.1 hz with hz | hz
   ·exact hy.rng z hz
   ·rw [List.mem_singleton.1 hz]; exact ⟨h1, h2⟩⟩
  have s1 : ∀ (x : Int) j, j < k → sf (y ++ [x]) j = sf y j := fun x j hj => by unfold sf; simp [List.getD, List.getElem?_append_left (show j < y.length by omega)]
  have s2 : ∀ x : Int, sf (y ++ [x]) k = x := fun x => by unfold sf; rw [← hyl]; simp [List.getD]
  have step : ∀ x : Int, 1 ≤ x → x ≤ 3 → m.getD k false = (x == 1) → m.getD (N + k) false = (x == 2) → LOk (k + 1) (y ++ [x]) ∧ ∀ j, j < k + 1 → m.getD j false = (sf (y ++ [x]) j == 1) ∧ m.getD (N + j) false = (sf (y ++ [x]) j == 2) := fun x h1 h2 e1 e2 => ⟨snoc x h1 h2, fun j hjk => by
   by_cases e : j = k
   ·subst e; rw [s2]; exact ⟨e1, e2⟩
   ·rw [s1 x j (by omega)]; exact hj j (by omega)⟩
  have hn := hno k hk2
  rw [idxM_getD (z := false) (by omega), some_bind, iadd1 (by omega), iadd64 (by omega) (by omega), show (N : Int) + (k : Int) = ((N + k : Nat) : Int) by omega]
  refine T.cond (fun c1 => ?_) fun c1 => ?_
  ·rw [appM_eq (by simp; omega), some_bind]
   have h2 : m.getD (N + k) false = false := by rw [c1] at hn; simpa using hn
   obtain ⟨q1, q2⟩ := step 1 (by omega) (by omega) c1 h2
   exact .ret ⟨hk2, hk2, rfl, q1, q2⟩
  ·rw [idxM_getD (z := false) (by omega), some_bind]
   refine T.cond (fun c2 => ?_) fun c2 => ?_
   ·rw [appM_eq (by simp; omega), some_bind]
    obtain ⟨q1, q2⟩ := step 2 (by omega) (by omega) c1 c2
    exact .ret ⟨hk2, hk2, rfl, q1, q2⟩
   ·rw [appM_eq (by simp; omega), some_bind]
    obtain ⟨q1, q2⟩ := step 3 (by omega) (by omega) c1 c2
    exact .ret ⟨hk2, hk2, rfl, q1, q2⟩
 ·have e : k = N := by have := of_decide_eq_false c; omega
  subst e
  exact .ret ⟨hy, hm, fun j hj' => (hj j hj').1, fun j hj' => (hj j hj').2⟩

def modelOf (N : Nat) (y : List Int) : List Bool := (List.range N).map (fun j => sf y j == 1) ++ (List.range N).map (fun j => sf y j == 2)
theorem modelOf_ok {N : Nat} {y : List Int} : MOk N y (modelOf N y) := by
 refine ⟨by simp [modelOf]; omega, fun j hj => ?_, fun j hj => ?_⟩
 ·unfold modelOf
  simp only [List.getD_eq_getElem?_getD]
  rw [List.getElem?_append_left (by simpa using hj)]; simp [hj]
 ·unfold modelOf
  simp only [List.getD_eq_getElem?_getD]
  rw [List.getElem?_append_right (by simp)]; simp [hj]
theorem no_both {g : T_api_Graph} (h : GVal g) {q : Int} {n : Nat} (hn : n < g.N.toNat) {st : List T_api_Step} (hr : refP (encP g q (n : Int)) st = true) {y : List Int} (hy : LOk g.N.toNat y) : forP g q n y = false := by
 rw [← enc_sat h hy (modelOf_ok (N := g.N.toNat) (y := y)) hn, satB_satP]
 exact refP_sound hr

theorem enc_no_both {g : T_api_Graph} (h : GVal g) {q : Int} {n : Nat} {m : List Bool} (hs : satP (encP g q (n : Int)) m = true) : ∀ j, j < g.N.toNat → (m.getD j false && m.getD (g.N.toNat + j) false) = false := fun j hj => by
 have hn0 := h.n0
 have hc : [-((j : Int) + 1), -(g.N + (j : Int) + 1)] ∈ encP g q (n : Int) := by
  unfold encP nodesC
  refine List.mem_append_left _ (List.mem_flatMap.2 ⟨j, List.mem_range.2 hj, ?_⟩)
  unfold nodeC; simp
 have := List.all_eq_true.1 hs _ hc
 rw [show -(g.N + (j : Int) + 1) = -(((g.N.toNat + j : Nat) : Int) + 1) by omega] at this
 simp only [List.any_cons, List.any_nil, Bool.or_false, lit_neg] at this
 revert this
 cases m.getD j false <;> cases m.getD (g.N.toNat + j) false <;> simp

def DecR (g : T_api_Graph) (q : Int) (n : Nat) (v : T_api_Verdict) : Prop :=
 (∃ y, v = ⟨q != 3, y, [], []⟩ ∧ LOk g.N.toNat y ∧ forP g q n y = true) ∨ (∃ st, v = ⟨q == 3, [], [], st⟩ ∧ st.length ≤ 20000 ∧ refP (encP g q (n : Int)) st = true)
theorem Decide_plain {g : T_api_Graph} (h : GVal g) (hg : g.L.length ≤ 100000) {q : Int} (hq1 : 1 ≤ q) (hq3 : q ≤ 3) {n : Nat} (hn : n < g.N.toNat) :
  T (verdict_Decide_m g q (n : Int)) fun r => (r.2 = 0 ∧ DecR g q n r.1) ∨ (r = (⟨false, [], [], []⟩, 2) ∧ 12 < nvs (encP g q (n : Int)) (2 * g.N)) := by
 have hn0 := h.n0; have hn1 := h.n1
 unfold verdict_Decide_m
 refine T.bind (asked_plain hg) fun r hr => ?_
 rcases hr with ⟨rfl, _, _, _⟩ | ⟨_, hb⟩
 case inr => exact absurd ⟨h, by omega, by omega⟩ hb
 rw [show ((0 : Int) != 0) = false from rfl, cond_false, show (q == 4) = false by simp; omega, cond_false]
 refine T.bind (Encode_plain hg) fun r hr => ?_
 have er : r = (2 * g.N, 0, encP g q (n : Int)) := by
  rcases hr with ⟨_, _, _, _, _, hr⟩ | ⟨_, _, _, hc, _⟩ | ⟨hc, _⟩
  ·exact hr
  ·exact absurd ⟨hq1, hq3⟩ hc
  ·exact absurd ⟨h, by omega, by omega⟩ hc
 subst er
 dsimp only
 rw [show ((0 : Int) != 0) = false from rfl, cond_false]
 have hv := enc_ok h (q := q) (n := n) hn
 refine T.bind Solve_plain fun s hs => ?_
 rw [if_pos (ValidP_ok.2 hv)] at hs
 rcases hs with ⟨rfl, hs⟩ | ⟨h0, h1, h2, h3, h4⟩ | ⟨h0, h1, h2, h3, h4⟩
 ·exact .ret (.inr ⟨rfl, hs⟩)
 ·rw [h0, show ((0 : Int) != 0) = false from rfl, cond_false, h1, cond_true]
  have hNN : g.N = (g.N.toNat : Int) := by omega
  rw [hNN]
  refine T.bind (labels_plain (N := g.N.toNat) (m := s.1.Model) (by omega) (by omega) (enc_no_both h h4)) fun y ⟨hy, hm⟩ => .ret (.inl ⟨rfl, .inl ⟨y, rfl, hy, ?_⟩⟩)
  rw [← enc_sat h hy hm hn]; exact h4
 ·rw [h0, show ((0 : Int) != 0) = false from rfl, cond_false, h1, cond_false]
  exact .ret (.inl ⟨rfl, .inr ⟨s.1.Steps, rfl, h3, h4⟩⟩)

def AccR (g : T_api_Graph) (q : Int) (n : Nat) (v : T_api_Verdict) : Prop :=
 v.Ranks = [] ∧ (v.Holds = (q != 3) ∧ v.Steps = [] ∧ LOk g.N.toNat v.Labels ∧ forP g q n v.Labels = true ∨ v.Holds ≠ (q != 3) ∧ v.Labels = [] ∧ v.Steps.length ≤ 20000 ∧ refP (encP g q (n : Int)) v.Steps = true)
theorem len_pos {α : Type} {l : List α} : decide ((l.length : Int) > 0) = false ↔ l = [] := by
 rw [decide_eq_false_iff_not]
 constructor
 ·intro h; exact List.eq_nil_of_length_eq_zero (by omega)
 ·rintro rfl; simp
theorem VCheck_plain {g : T_api_Graph} (h : GVal g) (hg : g.L.length ≤ 100000) {q : Int} (hq1 : 1 ≤ q) (hq3 : q ≤ 3) {n : Nat} (hn : n < g.N.toNat) {v : T_api_Verdict} (hl : v.Labels.length ≤ 1000000) :
  T (verdict_Check_m g q (n : Int) v) fun r => r = 0 ↔ AccR g q n v := by
 have hn0 := h.n0; have hn1 := h.n1
 unfold verdict_Check_m
 refine T.bind (asked_plain hg) fun r hr => ?_
 rcases hr with ⟨rfl, _, _, _⟩ | ⟨_, hb⟩
 case inr => exact absurd ⟨h, by omega, by omega⟩ hb
 rw [show ((0 : Int) != 0) = false from rfl, cond_false, show (q == 4) = false by simp; omega, cond_false]
 have hv := enc_ok h (q := q) (n := n) hn
 have key : T (bif v.Holds == ((q : Int) != 3) then Option.bind (verdict_labelled_m g q (n : Int) v) fun t6 => some t6 else Option.bind (verdict_refuted_m g q (n : Int) v) fun t7 => some t7) fun r => r = 0 ↔ AccR g q n v := by
  refine T.cond (fun c => ?_) fun c => ?_
  ·have hc : v.Holds = (q != 3) := eq_of_beq c
   refine T.bind (P := fun r => r = 0 ↔ AccR g q n v) ?_ fun r hr => .ret hr
   unfold verdict_labelled_m
   refine T.join ?_
   have no : ∀ j : Bool, j = true → (v.Ranks ≠ [] ∨ v.Steps ≠ []) → T (bif j then some (4 : Int) else Option.bind (verdict_shown_m g q (n : Int) v.Labels) fun t3 => bif !t3 then some 11 else some 0) fun r => r = 0 ↔ AccR g q n v := fun j hj hne => by
    subst hj
    refine .ret ⟨fun h => (by cases h), fun ⟨h1, h2⟩ => ?_⟩
    rcases h2 with ⟨_, h2, _⟩ | ⟨h2, _⟩
    ·rcases hne with h | h
     ·exact absurd h1 h
     ·exact absurd h2 h
    ·exact absurd hc h2
   refine T.cond (fun c1 => no true rfl (.inl fun e => by rw [e] at c1; simp at c1)) fun c1 => ?_
   have hr := len_pos.1 c1
   cases c2 : decide ((v.Steps.length : Int) > 0) with
   | true => exact no true rfl (.inr fun e => by rw [e] at c2; simp at c2)
   | false =>
    have hs := len_pos.1 c2
    show T (Option.bind (verdict_shown_m g q (n : Int) v.Labels) fun t3 => bif !t3 then some 11 else some 0) _
    refine T.bind (shown_plain h hg hl hn) fun b hb => ?_
    refine T.cond (fun c3 => .ret ⟨fun h => (by cases h), fun ⟨h1, h2⟩ => ?_⟩) fun c3 => .ret ⟨fun _ => ⟨hr, .inl ⟨hc, hs, hb.1 (by simpa using c3)⟩⟩, fun _ => rfl⟩
    rcases h2 with ⟨_, _, h3⟩ | ⟨h2, _⟩
    ·rw [hb.2 h3] at c3; cases c3
    ·exact absurd hc h2
  ·have hc : v.Holds ≠ (q != 3) := fun e => by rw [e] at c; simp at c
   refine T.bind (P := fun r => r = 0 ↔ AccR g q n v) ?_ fun r hr => .ret hr
   unfold verdict_refuted_m
   refine T.cond (fun c1 => .ret ⟨fun h => (by cases h), fun ⟨h1, _⟩ => by rw [h1] at c1; simp at c1⟩) fun c1 => T.cond (fun c2 => .ret ⟨fun h => (by cases h), fun ⟨_, h2⟩ => ?_⟩) fun c2 => ?_
   ·rcases h2 with ⟨h2, _⟩ | ⟨_, h2, _⟩
    ·exact absurd h2 hc
    ·rw [h2] at c2; simp at c2
   have hr := len_pos.1 c1; have hlb := len_pos.1 c2
   refine T.bind (Encode_plain hg) fun r hr' => ?_
   have er : r = (2 * g.N, 0, encP g q (n : Int)) := by
    rcases hr' with ⟨_, _, _, _, _, hr⟩ | ⟨_, _, _, hc, _⟩ | ⟨hc, _⟩
    ·exact hr
    ·exact absurd ⟨hq1, hq3⟩ hc
    ·exact absurd ⟨h, by omega, by omega⟩ hc
   subst er
   dsimp only
   rw [Check_plain, some_bind]
   unfold CheckP
   rw [if_neg (by rw [ValidP_ok.2 hv]; simp), if_neg (by simp), if_neg (by simp)]
   by_cases hst : 20000 < v.Steps.length
   ·rw [if_pos hst]
    refine .ret ⟨fun h => (by cases h), fun ⟨_, h2⟩ => ?_⟩
    rcases h2 with ⟨h2, _⟩ | ⟨_, _, h2, _⟩
    ·exact absurd h2 hc
    ·omega
   ·rw [if_neg hst]
    by_cases hrf : refP (encP g q (n : Int)) v.Steps = true
    ·rw [if_pos hrf]
     exact .ret ⟨fun _ => ⟨hr, .inr ⟨hc, hlb, by omega, hrf⟩⟩, fun _ => rfl⟩
    ·rw [if_neg hrf]
     refine .ret ⟨fun h => (by cases h), fun ⟨_, h2⟩ => ?_⟩
     rcases h2 with ⟨h2, _⟩ | ⟨_, _, _, h2⟩
     ·exact absurd h2 hc
     ·exact absurd h2 hrf
 simp only [joinM_eq]
 by_cases h1 : q = 1
 ·subst h1; exact key
 ·by_cases h2 : q = 2
  ·subst h2; exact key
  ·have h3 : q = 3 := by omega
   subst h3; exact key
theorem Dec_acc {g : T_api_Graph} {q : Int} {n : Nat} {v : T_api_Verdict} (h : DecR g q n v) : AccR g q n v := by
 rcases h with ⟨y, rfl, h1, h2⟩ | ⟨st, rfl, h1, h2⟩
 ·exact ⟨rfl, .inl ⟨rfl, rfl, h1, h2⟩⟩
 ·refine ⟨rfl, .inr ⟨?_, rfl, h1, h2⟩⟩
  show (q == 3) ≠ (q != 3)
  cases hq : q == 3 <;> simp [bne, hq]
end Go.Dc

namespace Go.Dc
open Go.Proofs Go.Sort
open Classical

theorem countP_one {N k : Nat} (hk : k < N) {p q : Nat → Bool} (h : ∀ a, a ≠ k → p a = q a) (hq : q k = false) : (List.range N).countP p = (List.range N).countP q + (if p k = true then 1 else 0) := by
 induction N with
 | zero => omega
 | succ N ih =>
  rw [List.range_succ, List.countP_append, List.countP_append, List.countP_singleton, List.countP_singleton]
  by_cases e : k = N
  ·subst e
   have : (List.range k).countP p = (List.range k).countP q := List.countP_congr fun a ha => by rw [h a (by have := List.mem_range.1 ha; omega)]
   rw [this, hq]; simp
  ·rw [ih (by omega), h N (by omega)]; omega
theorem countP_zero {N : Nat} {p : Nat → Bool} : (List.range N).countP p = 0 ↔ ∀ a, a < N → p a = false := by
 rw [List.countP_eq_zero]
 constructor
 ·intro h a ha; simpa using h a (List.mem_range.2 ha)
 ·intro h a ha; simpa using h a (List.mem_range.1 ha)

noncomputable def opa (g : T_api_Graph) (l : Nat → Int) (j : Nat) : Nat := (List.range g.N.toNat).countP fun a : Nat => decide (att g a j ∧ l a ≠ 2)
variable {g : T_api_Graph} {N : Nat}

theorem pairs_count (h : GVal g) (j : Nat) : g.L.countP (fun p => decide (p.To = (j : Int))) = (List.range g.N.toNat).countP fun a : Nat => decide (att g a j) := by
 rw [List.countP_eq_length_filter, List.countP_eq_length_filter]
 have e : (g.L.filter fun p => decide (p.To = (j : Int))).length = ((g.L.filter fun p => decide (p.To = (j : Int))).map fun p => p.From.toNat).length := by simp
 rw [e]
 refine List.Perm.length_eq ((List.perm_ext_iff_of_nodup ?_ ?_).2 fun a => ?_)
 ·unfold List.Nodup
  rw [List.pairwise_map]
  refine List.Pairwise.imp_of_mem ?_ (List.Pairwise.filter _ h.s)
  intro p q hp hq hpq hf
  have h1 := List.mem_filter.1 hp; have h2 := List.mem_filter.1 hq
  have t1 := of_decide_eq_true h1.2; have t2 := of_decide_eq_true h2.2
  have v1 := h.v p h1.1; have v2 := h.v q h2.1
  unfold plt at hpq
  omega
 ·exact List.Pairwise.filter _ List.nodup_range
 ·rw [List.mem_map, List.mem_filter, List.mem_range, decide_eq_true_iff]
  constructor
  ·rintro ⟨p, hp, rfl⟩
   obtain ⟨h1, h2⟩ := List.mem_filter.1 hp
   have v := h.v p h1
   exact ⟨by omega, p, h1, by omega, of_decide_eq_true h2⟩
  ·rintro ⟨ha, p, hp, h1, h2⟩
   exact ⟨p, List.mem_filter.2 ⟨hp, decide_eq_true h2⟩, by omega⟩

theorem att_lt (h : GVal g) {a b : Nat} (hab : att g a b) : (a : Int) < g.N ∧ (b : Int) < g.N := by
 obtain ⟨p, hp, h1, h2⟩ := hab
 have := h.v p hp
 omega
theorem opa_zero (h : GVal g) {l : Nat → Int} {j : Nat} (hz : opa g l j = 0) : ∀ a : Nat, att g a j → l a = 2 := by
 intro a ha
 have hlt := (att_lt h ha).1
 have := countP_zero.1 hz a (by omega)
 simp only [decide_eq_false_iff_not, not_and, ne_eq, Classical.not_not] at this
 exact this ha
theorem zero_opa {l : Nat → Int} {j : Nat} (hz : ∀ a : Nat, att g a j → l a = 2) : opa g l j = 0 := by
 refine countP_zero.2 fun a _ => ?_
 simp only [decide_eq_false_iff_not, not_and, ne_eq, Classical.not_not]
 exact hz a
theorem opa_set (h : GVal g) {N : Nat} (hN : g.N = N) {l : List Int} (hl : l.length = N) {k : Nat} (hk : k < N) (h3 : sf l k = 3) (j : Nat) : opa g (sf l) j = opa g (sf (l.set k 2)) j + (if att g k j then 1 else 0) := by
 unfold opa
 rw [hN, Int.toNat_natCast, countP_one (k := k) hk (q := fun a : Nat => decide (att g a j ∧ sf (l.set k 2) a ≠ 2))]
 ·congr 1
  by_cases c : att g k j
  ·rw [if_pos c, if_pos (decide_eq_true ⟨c, by omega⟩)]
  ·rw [if_neg c, if_neg (by simp [c])]
 ·intro a ha
  rw [sf_set (by omega), if_neg (fun e => ha e.symm)]
 ·rw [sf_set (by omega), if_pos rfl]; simp

theorem nodup_bound {Q : List Int} (h : Q.Nodup) (hb : ∀ q ∈ Q, 0 ≤ q ∧ q < (N : Int)) : Q.length ≤ N := by
 have h1 : (Q.map Int.toNat).Nodup := by
  unfold List.Nodup
  rw [List.pairwise_map]
  refine List.Pairwise.imp_of_mem ?_ h
  intro a b ha hb' hab e
  have := hb a ha; have := hb b hb'
  exact hab (by omega)
 have h2 : (Q.map Int.toNat) ⊆ List.range N := fun x hx => by
  obtain ⟨q, hq, rfl⟩ := List.mem_map.1 hx
  have := hb q hq
  exact List.mem_range.2 (by omega)
 have h3 : (Q.map Int.toNat).Perm ((List.range N).filter fun x => decide (x ∈ Q.map Int.toNat)) :=
  (List.perm_ext_iff_of_nodup h1 (List.Pairwise.filter _ List.nodup_range)).2 fun x => by
   rw [List.mem_filter, decide_eq_true_iff]
   exact ⟨fun hx => ⟨h2 hx, hx⟩, fun hx => hx.2⟩
 have h4 := h3.length_eq
 have h5 := List.length_filter_le (fun x => decide (x ∈ Q.map Int.toNat)) (List.range N)
 rw [List.length_map] at h4
 rw [List.length_range] at h5
 omega
theorem vidx_sf {d : List Int} {i : Nat} (hd : d.length = 40) (hi : i < 40) : vidxM 40 d (i : Int) = some (sf d i) := by
 unfold vidxM
 rw [if_pos hd, idx_sf (by omega)]


structure Nx (N : Nat) (l o Q : List Int) : Prop where
 ok : ∀ q ∈ Q, ∃ i : Nat, q = i ∧ i < N ∧ sf l i = 3 ∧ sf o i = 0
 nd : Q.Nodup
theorem Nx.len {l o Q : List Int} (h : Nx N l o Q) : Q.length ≤ N := nodup_bound h.nd fun q hq => by
 obtain ⟨i, rfl, hi, _⟩ := h.ok q hq; omega
def RI (g : T_api_Graph) (N : Nat) (rd : Int) (l r : List Int) : Prop := ∀ i : Nat, i < N →
 (sf l i = 1 → 1 ≤ sf r i ∧ sf r i ≤ rd ∧ ∀ a : Nat, att g a i → sf l a = 2 ∧ sf r a < sf r i) ∧
 (sf l i = 2 → sf r i ≤ rd ∧ ∃ a : Nat, a < N ∧ att g a i ∧ sf l a = 1 ∧ 1 ≤ sf r a ∧ sf r a ≤ sf r i)
structure Md (g : T_api_Graph) (N : Nat) (rd : Int) (l r o nx : List Int) : Prop where
 ll : l.length = N
 rl : r.length = N
 lo : o.length = 40
 v : ∀ i, i < N → sf l i = 1 ∨ sf l i = 2 ∨ sf l i = 3
 nxt : Nx N l o nx
 op : ∀ j, j < N → sf o j = (opa g (sf l) j : Int)
 zero : ∀ j, j < N → sf l j = 3 → sf o j = 0 → (j : Int) ∈ nx
 ri : RI g N rd l r

theorem l4_plain (h : GVal g) (hN : g.N = N) {rd : Int} {st : Int × List Int × List Int × List Int × List Int} {k i : Nat} (hk : k < N) (h3 : sf st.2.1 k = 3) (hiN : i < N) (hik : att g i k) (hi1 : sf st.2.1 i = 1) (hir : sf st.2.2.1 i = rd)
  {T2 : List Int} (hT : ∀ j : Int, j ∈ T2 ↔ att g k j) (hnd : T2.Nodup) (hTl : T2.length ≤ 64) (md : Md g N rd st.2.1 st.2.2.1 st.2.2.2.1 st.2.2.2.2) :
  T (loopC (grounded_build_l4 st (k : Int) T2) (0, st.2.2.2.1, st.2.2.2.2)) fun q => Md g N rd (st.2.1.set k 2) (st.2.2.1.set k rd) q.1 q.2 := by
 obtain ⟨p, l, r, o, nq⟩ := st
 dsimp only at h3 hi1 hir md ⊢
 have h40 := h.n1
 have hll := md.ll; have hrl := md.rl; have hlo := md.lo
 have sl : ∀ x, sf (l.set k 2) x = if k = x then 2 else sf l x := fun x => sf_set (by omega)
 have sr : ∀ x, sf (r.set k rd) x = if k = x then rd else sf r x := fun x => sf_set (by omega)
 have hok : sf o k ≠ 0 := fun e => by
  have := md.op k hk
  rw [e] at this
  have := opa_zero h (l := sf l) (j := k) (by omega) i hik
  omega
 have hri : RI g N rd (l.set k 2) (r.set k rd) := fun x hx => by
  obtain ⟨q1, q2⟩ := md.ri x hx
  rw [sl, sr]
  by_cases e : k = x
  ·subst e
   rw [if_pos rfl, if_pos rfl]
   refine ⟨fun h => by omega, fun _ => ⟨by omega, i, hiN, hik, ?_, ?_⟩⟩
   ·rw [sl, if_neg (fun e => by subst e; omega)]; exact hi1
   ·have hne : ¬ k = i := fun e => by subst e; omega
    have := (md.ri i hiN).1 hi1
    rw [sr, if_neg hne]; omega
  ·rw [if_neg e, if_neg e]
   refine ⟨fun hx1 => ?_, fun hx2 => ?_⟩
   ·obtain ⟨a1, a2, a3⟩ := q1 hx1
    refine ⟨a1, a2, fun a ha => ?_⟩
    obtain ⟨b1, b2⟩ := a3 a ha
    have hne : ¬ k = a := fun e => by subst e; omega
    rw [sl, sr, if_neg hne, if_neg hne]; exact ⟨b1, b2⟩
   ·obtain ⟨a1, a, a2, a3, a4, a5, a6⟩ := q2 hx2
    have hne : ¬ k = a := fun e => by subst e; omega
    refine ⟨a1, a, a2, a3, ?_⟩
    rw [sl, sr, if_neg hne, if_neg hne]; exact ⟨a4, a5, a6⟩
 have fin : ∀ o' nq' : List Int, o'.length = 40 → Nx N (l.set k 2) o' nq' → (∀ j, j < N → sf o' j = (opa g (sf (l.set k 2)) j : Int)) → (∀ j, j < N → sf (l.set k 2) j = 3 → sf o' j = 0 → (j : Int) ∈ nq') → Md g N rd (l.set k 2) (r.set k rd) o' nq' :=
  fun o' nq' a1 a2 a3 a4 => ⟨by simp [hll], by simp [hrl], a1, fun x hx => by rw [sl]; split; exact .inr (.inl rfl); exact md.v x hx, a2, a3, a4, hri⟩
 refine T.loopK T2.length (fun q s => q ≤ T2.length ∧ s.1 = (q : Int) ∧ s.2.1.length = 40 ∧ Nx N (l.set k 2) s.2.1 s.2.2 ∧ (∀ j, j < N → sf s.2.1 j = (opa g (sf (l.set k 2)) j : Int) + (if (j : Int) ∈ T2.drop q then 1 else 0)) ∧ (∀ j, j < N → sf (l.set k 2) j = 3 → sf s.2.1 j = 0 → (j : Int) ∈ s.2.2)) ⟨by omega, rfl, hlo, ⟨fun q hq => ?_, md.nxt.nd⟩, fun j hj => ?_, fun j hj h1 h2 => ?_⟩ ?_
 ·obtain ⟨x, e, hx, q1, q2⟩ := md.nxt.ok q hq
  have hne : ¬ k = x := fun e => by subst e; exact hok q2
  refine ⟨x, e, hx, ?_, q2⟩
  rw [sl, if_neg hne]; exact q1
 ·rw [md.op j hj, opa_set h hN hll hk h3 j, List.drop_zero]
  by_cases c : att g k j
  ·rw [if_pos c, if_pos ((hT j).2 c)]; rfl
  ·rw [if_neg c, if_neg (fun e => c ((hT j).1 e))]; rfl
 ·rw [sl] at h1
  split at h1
  ·cases h1
  ·exact md.zero j hj h1 h2
 ·rintro q ⟨_, o', nq'⟩ ⟨hq, rfl, ho', nx', hop', hz'⟩
  dsimp only at ho' nx' hop' hz'
  dsimp only [grounded_build_l4]
  refine T.cond (fun c => ?_) fun c => ?_
  ·have hq2 : q < T2.length := by have := of_decide_eq_true c; omega
   have hat := (hT _).1 (List.getElem_mem hq2)
   obtain ⟨pp, hp, p1, p2⟩ := hat
   have hv := h.v pp hp
   obtain ⟨j, hj⟩ : ∃ j : Nat, T2[q] = (j : Int) := ⟨T2[q].toNat, by omega⟩
   have hjN : j < N := by omega
   have hdr : T2.drop q = (j : Int) :: T2.drop (q + 1) := by rw [List.drop_eq_getElem_cons hq2, hj]
   have hjn : (j : Int) ∉ T2.drop (q + 1) := by
    have : (T2.drop q).Nodup := List.Pairwise.sublist (List.drop_sublist _ _) hnd
    rw [hdr] at this
    exact (List.nodup_cons.1 this).1
   have hoj := hop' j hjN
   rw [hdr, if_pos (by simp)] at hoj
   have hoc : (opa g (sf (l.set k 2)) j : Int) ≤ 40 := by
    have : opa g (sf (l.set k 2)) j ≤ g.N.toNat := by unfold opa; exact Nat.le_trans List.countP_le_length (by simp)
    omega
   have nl := nx'.len
   rw [idxM_nat hq2, some_bind, hj, vidx_sf ho' (by omega), some_bind, some_bind, iadd1 (by omega), Int.toNat_natCast, Int.toNat_natCast, isub64 (by omega) (by omega), vidx_sf (by simpa using ho') (by omega), some_bind]
   have hsj : ∀ x, sf (o'.set j (sf o' j - 1)) x = if j = x then sf o' j - 1 else sf o' x := fun x => sf_set (by omega)
   have hop2 : ∀ x, x < N → sf (o'.set j (sf o' j - 1)) x = (opa g (sf (l.set k 2)) x : Int) + (if (x : Int) ∈ T2.drop (q + 1) then 1 else 0) := fun x hx => by
    rw [hsj]
    by_cases e : j = x
    ·subst e; rw [if_pos rfl, if_neg hjn, hoj]; omega
    ·rw [if_neg e, hop' x hx, hdr]
     have : ((x : Int) ∈ (j : Int) :: T2.drop (q + 1)) ↔ ((x : Int) ∈ T2.drop (q + 1)) := by
      rw [List.mem_cons]; exact ⟨fun h => h.elim (fun e2 => absurd (by omega) e) id, .inr⟩
     simp only [this]
   have nx2 : Nx N (l.set k 2) (o'.set j (sf o' j - 1)) nq' := ⟨fun y hy => by
    obtain ⟨x, e, hx, q1, q3⟩ := nx'.ok y hy
    refine ⟨x, e, hx, q1, ?_⟩
    rw [hsj]
    by_cases e2 : j = x
    ·subst e2; rw [hoj] at q3; omega
    ·rw [if_neg e2]; exact q3, nx'.nd⟩
   have stay : ¬ (sf (o'.set j (sf o' j - 1)) j = 0 ∧ sf (l.set k 2) j = 3) → ∀ x, x < N → sf (l.set k 2) x = 3 → sf (o'.set j (sf o' j - 1)) x = 0 → (x : Int) ∈ nq' := fun hno x hx h1 h2 => by
    by_cases e : j = x
    ·subst e; exact absurd ⟨h2, h1⟩ hno
    ·rw [hsj, if_neg e] at h2
     exact hz' x hx h1 h2
   refine T.cond (fun c2 => ?_) fun c2 => .ret ⟨hq2, hq2, rfl, by simpa using ho', nx2, hop2, stay fun hh => by rw [hh.1] at c2; cases c2⟩
   have b1 : sf (o'.set j (sf o' j - 1)) j = 0 := eq_of_beq c2
   rw [idx_sf (l := l.set k 2) (by simp; omega), some_bind]
   refine T.cond (fun c3 => ?_) fun c3 => .ret ⟨hq2, hq2, rfl, by simpa using ho', nx2, hop2, stay fun hh => by rw [hh.2] at c3; cases c3⟩
   have b2 : sf (l.set k 2) j = 3 := eq_of_beq c3
   rw [appM_eq (by simp; omega), some_bind]
   refine .ret ⟨hq2, hq2, rfl, by simpa using ho', ⟨fun y hy => ?_, ?_⟩, hop2, fun x hx h1 h2 => ?_⟩
   ·rcases List.mem_append.1 hy with hy | hy
    ·exact nx2.ok y hy
    ·rw [List.mem_singleton.1 hy]
     exact ⟨j, rfl, hjN, b2, b1⟩
   ·refine List.nodup_append.2 ⟨nx'.nd, by simp, fun y hy z hz2 e => ?_⟩
    rw [List.mem_singleton.1 hz2] at e
    subst e
    obtain ⟨x, e, hx, q1, q3⟩ := nx'.ok _ hy
    have : x = j := by omega
    subst this
    rw [hoj] at q3; omega
   ·simp only at h1 h2 ⊢
    rw [List.mem_append, List.mem_singleton]
    by_cases e : j = x
    ·exact .inr (by omega)
    ·rw [hsj, if_neg e] at h2
     exact .inl (hz' x hx h1 h2)
  ·have e : q = T2.length := by have := of_decide_eq_false c; omega
   subst e
   rw [List.drop_length] at hop'
   exact .ret (fin _ _ ho' nx' (fun j hj => by rw [hop' j hj]; simp) hz')
end Go.Dc

namespace Go.Dc
open Go.Proofs Go.Sort
open Classical
variable {g : T_api_Graph} {N : Nat}

theorem l5_plain (h : GVal g) (hg : g.L.length ≤ 100000) (hN : g.N = N) {s9 : Int × List Int × List Int × List Int × List Int} {i : Nat} (hiN : i < N) {T1 : List Int} (hT : ∀ j : Int, j ∈ T1 ↔ att g i j) (hTl : T1.length ≤ 64)
  {l r o nx : List Int} (md : Md g N s9.1 l r o nx) (hi1 : sf l i = 1) (hir : sf r i = s9.1) :
  T (loopC (grounded_build_l5 g s9 T1) (0, l, r, o, nx)) fun q => Md g N s9.1 q.1 q.2.1 q.2.2.1 q.2.2.2 ∧ (∀ x, x < N → sf q.1 x = 3 → sf l x = 3) ∧ (∀ x, x < N → (sf q.1 x = 1 ↔ sf l x = 1)) ∧ (∀ x, x < N → sf l x = 1 → sf q.2.1 x = sf r x) ∧ ∀ k : Nat, att g i k → sf q.1 k ≠ 3 := by
 have h40 := h.n1
 refine T.loopK T1.length (fun p s => p ≤ T1.length ∧ s.1 = (p : Int) ∧ Md g N s9.1 s.2.1 s.2.2.1 s.2.2.2.1 s.2.2.2.2 ∧ (∀ x, x < N → sf s.2.1 x = 3 → sf l x = 3) ∧ (∀ x, x < N → (sf s.2.1 x = 1 ↔ sf l x = 1)) ∧ (∀ x, x < N → sf l x = 1 → sf s.2.2.1 x = sf r x) ∧ ∀ k : Nat, (k : Int) ∈ T1.take p → sf s.2.1 k ≠ 3)
  ⟨by omega, rfl, md, fun _ _ h => h, fun _ _ => .rfl, fun _ _ _ => rfl, by simp⟩ ?_
 rintro p ⟨_, l', r', o', nx'⟩ ⟨hp, rfl, md', mono, one, rk, hd⟩
 dsimp only at md' mono one rk hd
 dsimp only [grounded_build_l5]
 refine T.cond (fun c => ?_) fun c => ?_
 ·have hp2 : p < T1.length := by have := of_decide_eq_true c; omega
  have hat := (hT _).1 (List.getElem_mem hp2)
  obtain ⟨k, hk⟩ : ∃ k : Nat, T1[p] = (k : Int) := by
   obtain ⟨q, hq, _, q2⟩ := hat
   have := h.v q hq
   exact ⟨T1[p].toNat, by omega⟩
  rw [hk] at hat
  have hkN : k < N := by have := (att_lt h hat).2; omega
  have hll := md'.ll; have hrl := md'.rl
  have htk : ∀ x : Int, x ∈ T1.take (p + 1) ↔ x ∈ T1.take p ∨ x = (k : Int) := fun x => by
   rw [List.take_add_one, List.getElem?_eq_getElem hp2, hk]; simp only [Option.toList_some, List.mem_append, List.mem_singleton]
  rw [idxM_nat hp2, some_bind, hk, idx_sf (by omega), some_bind, iadd1 (by omega)]
  refine T.cond (fun c2 => .ret ⟨hp2, hp2, rfl, md', mono, one, rk, fun x hx => ?_⟩) fun c2 => ?_
  ·rcases (htk x).1 hx with hx | hx
   ·exact hd x hx
   ·have : x = k := by omega
    subst this
    simpa using c2
  ·have h3 : sf l' k = 3 := by simpa using c2
   obtain ⟨T2, e1, e2, e3, e4⟩ := Attacked_plain h hg (i := k) (by omega)
   have hnd : T2.Nodup := e3.imp fun {a b} hab => by omega
   rw [some_bind, idx_sf (l := r') (by omega), some_bind, e1, some_bind]
   have hil : sf l' i = 1 := (one i hiN).2 hi1
   refine T.bind (l4_plain h hN (rd := s9.1) (st := ((p : Int), l', r', o', nx')) hkN h3 hiN hat hil (by rw [← hir]; exact rk i hiN hi1) e2 hnd e4 md') ?_
   rintro ⟨o2, nx2⟩ q1
   dsimp only at q1 ⊢
   rw [Int.toNat_natCast]
   have hs : ∀ x, sf (l'.set k 2) x = if k = x then 2 else sf l' x := fun x => sf_set (by omega)
   have hr : ∀ x, sf (r'.set k s9.1) x = if k = x then s9.1 else sf r' x := fun x => sf_set (by omega)
   refine .ret ⟨hp2, hp2, rfl, q1, fun x hx h5 => ?_, fun x hx => ?_, fun x hx h5 => ?_, fun x hx => ?_⟩
   ·simp only at h5
    rw [hs] at h5; split at h5
    ·omega
    ·exact mono x hx h5
   ·simp only
    rw [hs]; split
    ·rename_i e; subst e
     have := mono k hkN h3
     omega
    ·exact one x hx
   ·simp only
    have hne : ¬ k = x := fun e => by subst e; have := mono k hkN h3; omega
    rw [hr, if_neg hne]; exact rk x hx h5
   ·simp only
    rw [hs]; split
    ·omega
    ·rename_i e
     rcases (htk x).1 hx with hx | hx
     ·exact hd x hx
     ·exact absurd (by omega) e
 ·have e : p = T1.length := by have := of_decide_eq_false c; omega
  subst e
  rw [List.take_length] at hd
  exact .ret ⟨md', mono, one, rk, fun k hk => hd k ((hT _).2 hk)⟩

theorem l3_plain {s9 : Int × List Int × List Int × List Int × List Int} (hQ : ∀ q ∈ s9.2.2.2.2, ∃ i : Nat, q = i ∧ i < N) (hQl : s9.2.2.2.2.length ≤ 1000) (hll : s9.2.1.length = N) (hrl : s9.2.2.1.length = N) :
  T (loopC (grounded_build_l3 s9) (0, s9.2.1, s9.2.2.1)) fun q => q.1.length = N ∧ q.2.length = N ∧ (∀ x : Nat, x < N → sf q.1 x = if (x : Int) ∈ s9.2.2.2.2 then 1 else sf s9.2.1 x) ∧ ∀ x : Nat, x < N → sf q.2 x = if (x : Int) ∈ s9.2.2.2.2 then s9.1 else sf s9.2.2.1 x := by
 obtain ⟨rd, l, r, o, Q⟩ := s9
 dsimp only at hQ hQl hll hrl ⊢
 refine T.loopK Q.length (fun p s => p ≤ Q.length ∧ s.1 = (p : Int) ∧ s.2.1.length = N ∧ s.2.2.length = N ∧ (∀ x : Nat, x < N → sf s.2.1 x = if (x : Int) ∈ Q.take p then 1 else sf l x) ∧ ∀ x : Nat, x < N → sf s.2.2 x = if (x : Int) ∈ Q.take p then rd else sf r x) ⟨by omega, rfl, hll, hrl, by simp, by simp⟩ ?_
 rintro p ⟨_, l', r'⟩ ⟨hp, rfl, hl', hr', hx, hxr⟩
 dsimp only at hl' hr' hx hxr
 dsimp only [grounded_build_l3]
 refine T.cond (fun c => ?_) fun c => ?_
 ·have hp2 : p < Q.length := by have := of_decide_eq_true c; omega
  obtain ⟨i, hi, hiN⟩ := hQ _ (List.getElem_mem hp2)
  rw [idxM_nat hp2, some_bind, hi, idx_sf (by omega), some_bind, idx_sf (by omega), some_bind, iadd1 (by omega), Int.toNat_natCast]
  have htk : ∀ x : Nat, ((x : Int) ∈ Q.take (p + 1) ↔ (x : Int) ∈ Q.take p ∨ (x : Int) = (i : Int)) := fun x => by
   rw [List.take_add_one, List.getElem?_eq_getElem hp2, hi]; simp only [Option.toList_some, List.mem_append, List.mem_singleton]
  refine .ret ⟨hp2, hp2, rfl, by simp [hl'], by simp [hr'], fun x hx2 => ?_, fun x hx2 => ?_⟩
  ·simp only
   rw [sf_set (by omega)]
   by_cases e : i = x
   ·rw [if_pos e, if_pos ((htk x).2 (.inr (by omega)))]
   ·rw [if_neg e, hx x hx2]
    have : ((x : Int) ∈ Q.take (p + 1)) ↔ ((x : Int) ∈ Q.take p) := (htk x).trans ⟨fun h => h.elim id fun e2 => absurd (by omega) e, .inl⟩
    simp only [this]
  ·simp only
   rw [sf_set (by omega)]
   by_cases e : i = x
   ·rw [if_pos e, if_pos ((htk x).2 (.inr (by omega)))]
   ·rw [if_neg e, hxr x hx2]
    have : ((x : Int) ∈ Q.take (p + 1)) ↔ ((x : Int) ∈ Q.take p) := (htk x).trans ⟨fun h => h.elim id fun e2 => absurd (by omega) e, .inl⟩
    simp only [this]
 ·have e : p = Q.length := by have := of_decide_eq_false c; omega
  subst e
  rw [List.take_length] at hx hxr
  exact .ret ⟨hl', hr', hx, hxr⟩

theorem l6_plain (h : GVal g) (hg : g.L.length ≤ 100000) (hN : g.N = N) {s9 : Int × List Int × List Int × List Int × List Int} (hQl : s9.2.2.2.2.length ≤ 1000)
  {l1 r1 o1 : List Int} (hQ : ∀ q ∈ s9.2.2.2.2, ∃ i : Nat, q = i ∧ i < N ∧ sf l1 i = 1 ∧ sf r1 i = s9.1) (md : Md g N s9.1 l1 r1 o1 []) (hd : ∀ x : Nat, x < N → sf l1 x = 1 → (x : Int) ∉ s9.2.2.2.2 → ∀ k : Nat, att g x k → sf l1 k ≠ 3) :
  T (loopC (grounded_build_l6 g s9) (0, l1, r1, o1, [])) fun q => Md g N s9.1 q.1 q.2.1 q.2.2.1 q.2.2.2 ∧ (∀ x, x < N → sf q.1 x = 3 → sf l1 x = 3) ∧ ∀ x : Nat, x < N → sf q.1 x = 1 → ∀ k : Nat, att g x k → sf q.1 k ≠ 3 := by
 have h40 := h.n1
 refine T.loopK s9.2.2.2.2.length (fun p s => p ≤ s9.2.2.2.2.length ∧ s.1 = (p : Int) ∧ Md g N s9.1 s.2.1 s.2.2.1 s.2.2.2.1 s.2.2.2.2 ∧ (∀ x, x < N → sf s.2.1 x = 3 → sf l1 x = 3) ∧ (∀ x, x < N → (sf s.2.1 x = 1 ↔ sf l1 x = 1)) ∧ (∀ x, x < N → sf l1 x = 1 → sf s.2.2.1 x = sf r1 x) ∧ ∀ x : Nat, x < N → sf l1 x = 1 → (x : Int) ∉ s9.2.2.2.2.drop p → ∀ k : Nat, att g x k → sf s.2.1 k ≠ 3)
  ⟨by omega, rfl, md, fun _ _ h => h, fun _ _ => .rfl, fun _ _ _ => rfl, fun x hx h1 hn => hd x hx h1 (by simpa using hn)⟩ ?_
 rintro p ⟨_, l', r', o', nx'⟩ ⟨hp, rfl, md', mono, one, rk, hd'⟩
 dsimp only at md' mono one rk hd'
 dsimp only [grounded_build_l6]
 refine T.cond (fun c => ?_) fun c => ?_
 ·have hp2 : p < s9.2.2.2.2.length := by have := of_decide_eq_true c; omega
  obtain ⟨i, hi, hiN, hi1, hir⟩ := hQ _ (List.getElem_mem hp2)
  obtain ⟨T1, e1, e2, e3, e4⟩ := Attacked_plain h hg (i := i) (by omega)
  rw [idxM_nat hp2, some_bind, hi, e1, some_bind, iadd1 (by omega)]
  refine T.bind (l5_plain h hg hN (s9 := s9) hiN e2 e4 md' ((one i hiN).2 hi1) (by rw [rk i hiN hi1]; exact hir)) ?_
  rintro ⟨l2, r2, o2, nx2⟩ ⟨q1, q2, q3, q4, q5⟩
  dsimp only at q1 q2 q3 q4 q5 ⊢
  refine .ret ⟨hp2, hp2, rfl, q1, fun x hx h5 => mono x hx (q2 x hx h5), fun x hx => (q3 x hx).trans (one x hx), fun x hx h5 => (q4 x hx ((one x hx).2 h5)).trans (rk x hx h5), fun x hx h1 hn k hk h5 => ?_⟩
  simp only at h5
  have hkN : k < N := by have := (att_lt h hk).2; omega
  by_cases e : x = i
  ·subst e; exact q5 k hk h5
  ·refine hd' x hx h1 (fun hm => hn ?_) k hk (q2 k hkN h5)
   rw [List.drop_eq_getElem_cons hp2, hi] at hm
   rcases List.mem_cons.1 hm with hm | hm
   ·exact absurd (by omega) e
   ·exact hm
 ·have e : p = s9.2.2.2.2.length := by have := of_decide_eq_false c; omega
  subst e
  rw [List.drop_length] at hd'
  exact .ret ⟨md', mono, fun x hx h1 => hd' x hx ((one x hx).1 h1) (by simp)⟩

structure Hdd (g : T_api_Graph) (N : Nat) (rd : Int) (l r o Q : List Int) : Prop extends Md g N rd l r o Q where
 done : ∀ i, i < N → sf l i = 1 → ∀ k : Nat, att g i k → sf l k ≠ 3
theorem countP_lt {α : Type} {p q : α → Bool} : ∀ {l : List α}, (∀ x ∈ l, p x = true → q x = true) → (∃ x ∈ l, q x = true ∧ p x = false) → l.countP p < l.countP q
 | [], _, h => by obtain ⟨x, hx, _⟩ := h; simp at hx
 | y :: l, h, hx => by
  have h1 : l.countP p ≤ l.countP q := by
   refine List.countP_mono_left fun x hx hp => h x (List.mem_cons_of_mem _ hx) hp
  rw [List.countP_cons, List.countP_cons]
  obtain ⟨x, hx, hq, hp⟩ := hx
  rcases List.mem_cons.1 hx with rfl | hx
  ·rw [hq, hp]; simp; omega
  ·have := countP_lt (fun x hx => h x (List.mem_cons_of_mem _ hx)) ⟨x, hx, hq, hp⟩
   cases hpy : p y with
   | false => simp; split <;> omega
   | true => rw [h y (by simp) hpy]; simp; exact this
def c3 (N : Nat) (l : List Int) : Nat := (List.range N).countP fun i => decide (sf l i = 3)

theorem round_plain (h : GVal g) (hg : g.L.length ≤ 100000) (hN : g.N = N) {rd : Nat} (hrd : rd ≤ 1000) {l r o Q : List Int} (H : Hdd g N (rd : Int) l r o Q) (hQ0 : Q ≠ []) :
  T (grounded_build_l7 g (((rd + 1 : Nat) : Int), l, r, o, Q)) fun s => ∃ l' r' o' Q', s = .inr (((rd + 2 : Nat) : Int), l', r', o', Q') ∧ Hdd g N ((rd + 1 : Nat) : Int) l' r' o' Q' ∧ c3 N l' < c3 N l := by
 have h40 := h.n1
 have hql := H.nxt.len
 unfold grounded_build_l7
 dsimp only
 have hpos : (Q.length : Int) > 0 := by have := List.length_pos_iff.2 hQ0; omega
 rw [decide_eq_true hpos, cond_true]
 refine T.bind (l3_plain (N := N) (s9 := (((rd + 1 : Nat) : Int), l, r, o, Q)) (fun q hq => by obtain ⟨i, e, hi, _⟩ := H.nxt.ok q hq; exact ⟨i, e, hi⟩) (by dsimp only; omega) H.ll H.rl) ?_
 rintro ⟨l1, r1⟩ ⟨a1, a2, a3, a4⟩
 dsimp only at a1 a2 a3 a4 ⊢
 have hin : ∀ x : Nat, x < N → (x : Int) ∈ Q → sf l x = 3 ∧ sf o x = 0 := fun x hx hm => by
  obtain ⟨i, e, hi, q1, q2⟩ := H.nxt.ok _ hm
  have : i = x := by omega
  subst this; exact ⟨q1, q2⟩
 have nin : ∀ x : Nat, x < N → sf l x ≠ 3 → sf l1 x = sf l x ∧ sf r1 x = sf r x := fun x hx hne => by
  have hm : (x : Int) ∉ Q := fun hm => hne (hin x hx hm).1
  rw [a3 x hx, a4 x hx, if_neg hm, if_neg hm]; exact ⟨rfl, rfl⟩
 have op1 : ∀ j, opa g (sf l1) j = opa g (sf l) j := fun j => by
  unfold opa
  refine List.countP_congr fun a ha => ?_
  have haN : a < N := by have := List.mem_range.1 ha; omega
  rw [decide_eq_true_iff, decide_eq_true_iff, a3 a haN]
  by_cases hm : (a : Int) ∈ Q
  ·rw [if_pos hm]
   have := (hin a haN hm).1
   exact ⟨fun h => ⟨h.1, by omega⟩, fun h => ⟨h.1, by omega⟩⟩
  ·rw [if_neg hm]
 have md : Md g N ((rd + 1 : Nat) : Int) l1 r1 o [] := by
  refine ⟨a1, a2, H.lo, fun i hi => ?_, ⟨fun q hq => (by cases hq), by simp⟩, fun j hj => ?_, fun j hj h3 h0 => ?_, fun i hi => ⟨fun h1 => ?_, fun h2 => ?_⟩⟩
  ·rw [a3 i hi]; split
   ·exact .inl rfl
   ·exact H.v i hi
  ·rw [H.op j hj, op1]
  ·rw [a3 j hj] at h3; split at h3
   ·omega
   ·rename_i hm; exact absurd (H.zero j hj h3 h0) hm
  ·by_cases hm : (i : Int) ∈ Q
   ·obtain ⟨q1, q2⟩ := hin i hi hm
    rw [a4 i hi, if_pos hm]
    refine ⟨by omega, by omega, fun a ha => ?_⟩
    have haN : a < N := by have := (att_lt h ha).1; omega
    have hz := H.op i hi
    rw [q2] at hz
    have ha2 := opa_zero h (l := sf l) (j := i) (by omega) a ha
    obtain ⟨e1, e2⟩ := nin a haN (by omega)
    have := ((H.ri a haN).2 ha2).1
    rw [e1, e2]; exact ⟨ha2, by omega⟩
   ·rw [a3 i hi, if_neg hm] at h1
    obtain ⟨b1, b2, b3⟩ := (H.ri i hi).1 h1
    rw [a4 i hi, if_neg hm]
    refine ⟨b1, by omega, fun a ha => ?_⟩
    have haN : a < N := by have := (att_lt h ha).1; omega
    obtain ⟨c1, c2⟩ := b3 a ha
    obtain ⟨e1, e2⟩ := nin a haN (by omega)
    rw [e1, e2]; exact ⟨c1, c2⟩
  ·have hm : (i : Int) ∉ Q := fun hm => by rw [a3 i hi, if_pos hm] at h2; omega
   rw [a3 i hi, if_neg hm] at h2
   obtain ⟨b1, a, b2, b3, b4, b5, b6⟩ := (H.ri i hi).2 h2
   rw [a4 i hi, if_neg hm]
   obtain ⟨e1, e2⟩ := nin a b2 (by omega)
   exact ⟨by omega, a, b2, b3, by rw [e1]; exact b4, by rw [e2]; exact b5, by rw [e2]; exact b6⟩
 refine T.bind (l6_plain h hg hN (s9 := (((rd + 1 : Nat) : Int), l, r, o, Q)) (by dsimp only; omega) (fun q hq => ?_) md fun x hx h1 hn k hk h3 => ?_) ?_
 ·obtain ⟨i, e, hi, _⟩ := H.nxt.ok q hq
  have hm : (i : Int) ∈ Q := e ▸ hq
  refine ⟨i, e, hi, ?_, ?_⟩
  ·rw [a3 i hi, if_pos hm]
  ·rw [a4 i hi, if_pos hm]
 ·dsimp only at hn
  rw [a3 x hx, if_neg hn] at h1
  have hkN : k < N := by have := (att_lt h hk).2; omega
  rw [a3 k hkN] at h3
  split at h3
  ·omega
  ·exact H.done x hx h1 k hk h3
 ·rintro ⟨l2, r2, o2, nx2⟩ ⟨m2, sub, d2⟩
  dsimp only at m2 sub d2 ⊢
  rw [iadd1 (by omega)]
  refine .ret ⟨l2, r2, o2, nx2, rfl, ⟨m2, d2⟩, ?_⟩
  obtain ⟨q, hq⟩ := List.exists_mem_of_ne_nil Q hQ0
  obtain ⟨i, rfl, hi, hi3, _⟩ := H.nxt.ok q hq
  refine countP_lt (fun x hx hp => ?_) ⟨i, List.mem_range.2 hi, decide_eq_true hi3, decide_eq_false fun e => ?_⟩
  ·have hxN := List.mem_range.1 hx
   have h1 := sub x hxN (of_decide_eq_true hp)
   rw [a3 x hxN] at h1
   split at h1
   ·omega
   ·exact decide_eq_true h1
  ·have h1 := sub i hi e
   rw [a3 i hi, if_pos hq] at h1
   omega
end Go.Dc

namespace Go.Dc
open Go.Proofs Go.Sort
open Classical
variable {g : T_api_Graph} {N : Nat}

theorem Repeat_plain : ∀ n : Nat, n ≤ 40 → slices_Repeat_int_int_m [3] (n : Int) = some (List.replicate n 3) := by
 intro n hn
 have : ∀ n : Nat, n < 41 → slices_Repeat_int_int_f 20 [3] (n : Int) = some (List.replicate n 3) := by decide +kernel
 exact slices_Repeat_int_int_f_le (k_ := 20) _ (this n (by omega))

def PrvP (g : T_api_Graph) (y r : List Int) : Prop := ∀ i : Nat, i < g.N.toNat →
 (sf y i = 1 → 1 ≤ sf r i ∧ ∀ a : Nat, att g a i → sf r a < sf r i) ∧
 (sf y i = 2 → ∃ a : Nat, a < g.N.toNat ∧ att g a i ∧ sf y a = 1 ∧ 1 ≤ sf r a ∧ sf r a ≤ sf r i)
def AccG (g : T_api_Graph) (y r : List Int) : Prop := LOk g.N.toNat y ∧ r.length = g.N.toNat ∧ compP g y = true ∧ PrvP g y r

theorem att_atts (h : GVal g) {i : Nat} {a : Int} : a ∈ attsP g (i : Int) ↔ ∃ b : Nat, a = b ∧ att g b i := by
 rw [mem_attsP]
 constructor
 ·intro ha
  obtain ⟨p, hp, h1, h2⟩ := ha
  have := h.v p hp
  exact ⟨a.toNat, by omega, p, hp, by omega, h2⟩
 ·rintro ⟨b, rfl, hb⟩; exact hb
theorem uOf_nat {y : List Int} {b : Nat} : uOf y (b : Int) = sf y b := by unfold uOf; rw [Int.toNat_natCast]

theorem Hdd.acc (h : GVal g) (hN : g.N = N) {rd : Int} {l r o : List Int} (H : Hdd g N rd l r o []) : AccG g l r := by
 have hNt : g.N.toNat = N := by omega
 refine ⟨?_, by rw [hNt]; exact H.rl, ?_, fun i hi => ?_⟩
 ·rw [hNt]
  refine ⟨H.ll, fun x hx => ?_⟩
  obtain ⟨i, hi, rfl⟩ := List.getElem_of_mem hx
  have e : sf l i = l[i] := by unfold sf; simp [List.getD, hi]
  have := H.v i (by have := H.ll; omega)
  rw [← e]; omega
 ·unfold compP
  rw [range_all, hNt]
  intro i hi
  unfold legalP
  rcases H.v i hi with e | e | e
  ·rw [if_pos e, List.all_eq_true]
   intro a ha
   obtain ⟨b, rfl, hb⟩ := (att_atts h).1 ha
   rw [uOf_nat, (((H.ri i hi).1 e).2.2 b hb).1]; rfl
  ·rw [if_neg (by omega), if_pos e, List.any_eq_true]
   obtain ⟨_, a, _, a2, a3, _⟩ := (H.ri i hi).2 e
   exact ⟨(a : Int), (att_atts h).2 ⟨a, rfl, a2⟩, by rw [uOf_nat, a3]; rfl⟩
  ·rw [if_neg (by omega), if_neg (by omega)]
   have n1 : ((attsP g (i : Int)).any fun a => uOf l a == 1) = false := by
    rw [List.any_eq_false]
    intro a ha
    obtain ⟨b, rfl, hb⟩ := (att_atts h).1 ha
    have hbN : b < N := by have := (att_lt h hb).1; omega
    rw [uOf_nat]
    intro hh
    exact H.done b hbN (eq_of_beq hh) i hb e
   have n2 : ((attsP g (i : Int)).all fun a => uOf l a == 2) = false := by
    cases hc : (attsP g (i : Int)).all fun a => uOf l a == 2 with
    | false => rfl
    | true =>
     have hz : opa g (sf l) i = 0 := zero_opa fun b hb => by
      have := List.all_eq_true.1 hc (b : Int) ((att_atts h).2 ⟨b, rfl, hb⟩)
      rw [uOf_nat] at this
      exact eq_of_beq this
     have := H.zero i hi e (by rw [H.op i hi, hz]; rfl)
     cases this
   rw [n1, n2]; rfl
 ·rw [hNt] at hi
  refine ⟨fun e => ?_, fun e => ?_⟩
  ·obtain ⟨a1, a2, a3⟩ := (H.ri i hi).1 e
   exact ⟨a1, fun a ha => (a3 a ha).2⟩
  ·obtain ⟨a1, a, a2, a3, a4, a5, a6⟩ := (H.ri i hi).2 e
   exact ⟨a, by rw [hNt]; exact a2, a3, a4, a5, a6⟩

theorem build_plain (h : GVal g) (hl : g.L.length ≤ 100000) (hN : g.N = N) : T (grounded_build_m g) fun q => AccG g q.1 q.2 := by
  have h40 := h.n1
  unfold grounded_build_m
  have hR : slices_Repeat_int_int_m [3] g.N = some (List.replicate N 3) := by rw [hN]; exact Repeat_plain N (by omega)
  have hM : mkM 8 (0 : Int) g.N = some (List.replicate N 0) := by rw [hN]; exact mkM_T (by omega)
  simp only [hR, hM, some_bind, meetO_self]
  refine T.join ?_
  dsimp only
  refine T.bind (P := fun o => o.length = 40 ∧ ∀ j : Nat, j < 40 → sf o j = ((g.L.countP fun p => decide (p.To = (j : Int))) : Nat)) ?_ ?_
  · refine T.loopK g.L.length (fun k s => k ≤ g.L.length ∧ s.1 = (k : Int) ∧ s.2.length = 40 ∧ ∀ j : Nat, j < 40 → sf s.2 j = (((g.L.take k).countP fun p => decide (p.To = (j : Int))) : Nat)) ⟨by omega, rfl, by simp, fun j hj => by
      have : sf (List.replicate 40 0) j = 0 := by
        unfold sf
        rw [List.getD_eq_getElem?_getD, List.getElem?_replicate]; split <;> rfl
      rw [this]; simp⟩ ?_
    rintro k ⟨_, o⟩ ⟨hk, rfl, ho, hj⟩
    dsimp only [grounded_build_l1] at ho hj ⊢
    refine T.cond (fun c => ?_) fun c => ?_
    · have hk2 : k < g.L.length := by have := of_decide_eq_true c; omega
      have hv := h.v _ (List.getElem_mem hk2)
      obtain ⟨t, ht⟩ : ∃ t : Nat, g.L[k].To = (t : Int) := ⟨g.L[k].To.toNat, by omega⟩
      have htk : ∀ j : Nat, (g.L.take (k + 1)).countP (fun p => decide (p.To = (j : Int))) = (g.L.take k).countP (fun p => decide (p.To = (j : Int))) + if t = j then 1 else 0 := fun j => by
        rw [List.take_add_one, List.getElem?_eq_getElem hk2, List.countP_append]
        congr 1
        simp only [Option.toList_some, List.countP_singleton, ht]
        by_cases e : t = j
        · rw [if_pos e, if_pos (decide_eq_true (by omega))]
        · rw [if_neg e, if_neg (by simpa using (fun h : (t : Int) = j => e (by omega)))]
      have hle : (g.L.take k).countP (fun p => decide (p.To = (t : Int))) ≤ g.L.length := Nat.le_trans List.countP_le_length (by rw [List.length_take]; omega)
      rw [idxM_nat hk2, some_bind, ht, vidx_sf ho (by omega), some_bind, some_bind, iadd1 (by omega), Int.toNat_natCast, hj t (by omega), iadd1 (by omega)]
      refine .ret ⟨hk2, hk2, rfl, by simpa using ho, fun j hj2 => ?_⟩
      simp only
      rw [sf_set (by omega), htk]
      by_cases e : t = j
      · subst e; rw [if_pos rfl, if_pos rfl]
      · rw [if_neg e, if_neg e, hj j hj2]; rfl
    · have e : k = g.L.length := by have := of_decide_eq_false c; omega
      subst e
      rw [List.take_length] at hj
      exact .ret ⟨ho, hj⟩
  rintro o ⟨ho, hoj⟩
  refine T.bind (P := fun Q => Q.Nodup ∧ ∀ x : Int, x ∈ Q ↔ ∃ i : Nat, x = i ∧ i < N ∧ sf o i = 0) ?_ ?_
  · refine T.loopK N (fun k s => k ≤ N ∧ s.1 = (k : Int) ∧ s.2.Nodup ∧ s.2.length ≤ k ∧ ∀ x : Int, x ∈ s.2 ↔ ∃ i : Nat, x = i ∧ i < k ∧ sf o i = 0) ⟨by omega, rfl, by simp, by simp, by simp⟩ ?_
    rintro k ⟨_, Q⟩ ⟨hk, rfl, hnd, hQl, hQ⟩
    dsimp only [grounded_build_l2] at hnd hQl hQ ⊢
    rw [hN]
    refine T.cond (fun c => ?_) fun c => ?_
    · have hk2 : k < N := by have := of_decide_eq_true c; omega
      rw [vidx_sf ho (by omega), some_bind, iadd1 (by omega)]
      refine T.cond (fun c2 => ?_) fun c2 => .ret ⟨hk2, hk2, rfl, hnd, by simp only; omega, fun x => ?_⟩
      · have hz : sf o k = 0 := eq_of_beq c2
        rw [appM_eq (by simp; omega), some_bind]
        refine .ret ⟨hk2, hk2, rfl, List.nodup_append.2 ⟨hnd, by simp, fun a ha b hb e => ?_⟩, by simp; omega, fun x => ?_⟩
        · rw [List.mem_singleton.1 hb] at e
          subst e
          obtain ⟨i, e, hi, _⟩ := (hQ _).1 ha
          omega
        · simp only [List.mem_append, List.mem_singleton, hQ]
          constructor
          · rintro (⟨i, e, hi, q⟩ | rfl)
            · exact ⟨i, e, by omega, q⟩
            · exact ⟨k, rfl, by omega, hz⟩
          · rintro ⟨i, e, hi, q⟩
            by_cases e2 : i = k
            · exact .inr (by omega)
            · exact .inl ⟨i, e, by omega, q⟩
      · simp only
        rw [hQ]
        constructor
        · rintro ⟨i, e, hi, q⟩; exact ⟨i, e, by omega, q⟩
        · rintro ⟨i, e, hi, q⟩
          refine ⟨i, e, ?_, q⟩
          by_cases e2 : i = k
          · subst e2; rw [q] at c2; cases c2
          · omega
    · have e : k = N := by have := of_decide_eq_false c; omega
      subst e
      exact .ret ⟨hnd, hQ⟩
  rintro Q ⟨hnd, hQ⟩
  have h3 : ∀ j, j < N → sf (List.replicate N 3) j = 3 := fun j hj => by simp [sf, hj]
  have op0 : ∀ j, j < N → sf o j = (opa g (sf (List.replicate N 3)) j : Int) := fun j hj => by
    rw [hoj j (by omega), pairs_count h]
    congr 1
    unfold opa
    rw [hN, Int.toNat_natCast]
    refine List.countP_congr fun a ha => ?_
    rw [decide_eq_true_iff, decide_eq_true_iff, h3 a (List.mem_range.1 ha)]
    exact ⟨fun h => ⟨h, by omega⟩, fun h => h.1⟩
  have H0 : Hdd g N ((0 : Nat) : Int) (List.replicate N 3) (List.replicate N 0) o Q := by
    refine ⟨⟨by simp, by simp, ho, fun i hi => .inr (.inr (h3 i hi)), ⟨fun q hq => ?_, hnd⟩, op0, fun j hj _ hz => (hQ _).2 ⟨j, rfl, hj, hz⟩, fun i hi => ⟨fun h1 => by rw [h3 i hi] at h1; omega, fun h1 => by rw [h3 i hi] at h1; omega⟩⟩, fun i hi h1 => by rw [h3 i hi] at h1; omega⟩
    obtain ⟨i, rfl, hi, hz⟩ := (hQ q).1 hq
    exact ⟨i, rfl, hi, h3 i hi, hz⟩
  have hc3 : ∀ l, c3 N l ≤ N := fun l => by unfold c3; exact Nat.le_trans List.countP_le_length (by simp)
  refine T.bind (P := fun q => AccG g q.1 q.2) ?_ fun q hq => .ret hq
  refine T.loopM (fun s => ∃ rd : Nat, s.1 = ((rd + 1 : Nat) : Int) ∧ rd + c3 N s.2.1 ≤ N ∧ Hdd g N (rd : Int) s.2.1 s.2.2.1 s.2.2.2.1 s.2.2.2.2) (fun s => c3 N s.2.1) ⟨0, rfl, by have := hc3 (List.replicate N 3); simpa using this, H0⟩ ?_
  rintro ⟨_, l, r, o, Q⟩ ⟨rd, rfl, hrd, H⟩
  dsimp only at hrd H
  by_cases hQ0 : Q = []
  · subst hQ0
    unfold grounded_build_l7
    dsimp only
    rw [decide_eq_false (by simp), cond_false]
    exact .ret (H.acc h hN)
  · refine (round_plain h hl hN (rd := rd) (by omega) H hQ0).mono ?_
    rintro s ⟨l', r', o', Q', rfl, H', hlt⟩
    exact ⟨⟨rd + 1, rfl, by simp only; omega, H'⟩, hlt⟩
end Go.Dc

namespace Go.Dc
open Go.Proofs Go.Sort
variable {g : T_api_Graph}

theorem idx_u {l : List Int} {x : Int} (h0 : 0 ≤ x) (h1 : x < l.length) : idxM l x = some (uOf l x) := by
 obtain ⟨n, rfl⟩ := Int.eq_ofNat_of_zero_le h0
 rw [uOf_nat]; exact idx_sf (by omega)

theorem cont1_plain {c r : List Int} {i : Int} (hc : c.length ≤ 1000) (hr : ∀ x ∈ c, 0 ≤ x ∧ x < r.length) (h0 : 0 ≤ i) (h1 : i < r.length) : slices_ContainsFunc_int_int_s1_m c r i = some (c.any fun k => decide (uOf r k ≥ uOf r i)) := by
 unfold slices_ContainsFunc_int_int_s1_m
 have h : T (slices_IndexFunc_int_int_s3_m c r i) fun q => 0 ≤ q ↔ (c.any fun k => decide (uOf r k ≥ uOf r i)) = true := by
  unfold slices_IndexFunc_int_int_s3_m
  refine indexf_loop (l := c) (fun j hj => ?_) ?_
  ·have h2 := hr _ (List.getElem_mem hj)
   unfold slices_IndexFunc_int_int_s3_l1 grounded_proved_1_m
   rw [show decide ((j : Int) < (c.length : Int)) = true by simp [hj], cond_true, idxM_nat hj, iadd64 (by omega) (by omega)]
   simp only [Option.bind_some]
   rw [idx_u h2.1 h2.2, some_bind, idx_u h0 h1, some_bind, some_bind]
   cases decide (uOf r c[j] ≥ uOf r i) <;> rfl
  ·unfold slices_IndexFunc_int_int_s3_l1; simp
 obtain ⟨q, q1, q2⟩ := h
 rw [q1]; exact cont_of q2
def wit (y r : List Int) (i k : Int) : Bool := uOf y k == 1 && (decide (uOf r k ≥ 1) && decide (uOf r k ≤ uOf r i))
theorem cont2_plain {c y r : List Int} {i : Int} (hc : c.length ≤ 1000) (hr : ∀ x ∈ c, 0 ≤ x ∧ x < r.length) (hy : y.length = r.length) (h0 : 0 ≤ i) (h1 : i < r.length) : slices_ContainsFunc_int_int_s2_m c y r i = some (c.any (wit y r i)) := by
 unfold slices_ContainsFunc_int_int_s2_m
 have h : T (slices_IndexFunc_int_int_s4_m c y r i) fun q => 0 ≤ q ↔ (c.any (wit y r i)) = true := by
  unfold slices_IndexFunc_int_int_s4_m
  refine indexf_loop (l := c) (fun j hj => ?_) ?_
  ·have h2 := hr _ (List.getElem_mem hj)
   unfold slices_IndexFunc_int_int_s4_l1 grounded_proved_2_m
   rw [show decide ((j : Int) < (c.length : Int)) = true by simp [hj], cond_true, idxM_nat hj, iadd64 (by omega) (by omega)]
   simp only [Option.bind_some]
   rw [idx_u h2.1 (by omega), some_bind, idx_u h2.1 h2.2, some_bind, some_bind, idx_u h0 h1, some_bind]
   unfold wit
   cases uOf y c[j] == 1 <;> cases decide (uOf r c[j] ≥ 1) <;> cases decide (uOf r c[j] ≤ uOf r i) <;> rfl
  ·unfold slices_IndexFunc_int_int_s4_l1; simp
 obtain ⟨q, q1, q2⟩ := h
 rw [q1]; exact cont_of q2

def PrvI (g : T_api_Graph) (y r : List Int) (i : Nat) : Prop :=
 (sf y i = 1 → 1 ≤ sf r i ∧ ∀ a : Nat, att g a i → sf r a < sf r i) ∧
 (sf y i = 2 → ∃ a : Nat, a < g.N.toNat ∧ att g a i ∧ sf y a = 1 ∧ 1 ≤ sf r a ∧ sf r a ≤ sf r i)
theorem att_lt' (h : GVal g) {a i : Nat} (ha : att g a i) : a < g.N.toNat := by have := (att_lt h ha).1; omega
theorem proved_plain (h : GVal g) (hg : g.L.length ≤ 100000) {y r : List Int} (hy : LOk g.N.toNat y) (hr : r.length = g.N.toNat) {i : Nat} (hi : i < g.N.toNat) : T (grounded_proved_m g y r (i : Int)) fun b => b = true ↔ PrvI g y r i := by
 have hyl := hy.len; have hal := attsP_len h (i := (i : Int)); have hrg := attsP_rng h (i := (i : Int)); have h40 := h.n1; have hn0 := h.n0
 have hc : ∀ x ∈ attsP g (i : Int), 0 ≤ x ∧ x < r.length := fun x hx => by have := hrg x hx; omega
 unfold grounded_proved_m
 rw [gAttackers_plain h hg (by omega), some_bind, idx_sf (by omega), some_bind]
 have hii : idxM r (i : Int) = some (sf r i) := idx_sf (by omega)
 refine T.cond (fun c => ?_) fun c => T.cond (fun c2 => ?_) fun c2 => ?_
 ·have e : sf y i = 1 := eq_of_beq c
  rw [hii, some_bind]
  refine T.cond (fun c3 => ?_) fun c3 => .ret ⟨fun h => (by cases h), fun hp => ?_⟩
  ·rw [cont1_plain (by omega) hc (by omega) (by omega), some_bind]
   refine .ret ?_
   rw [Bool.not_eq_true', List.any_eq_false]
   unfold PrvI
   constructor
   ·intro hh
    refine ⟨fun _ => ⟨of_decide_eq_true c3, fun a ha => ?_⟩, fun e2 => by omega⟩
    have := hh (a : Int) ((att_atts h).2 ⟨a, rfl, ha⟩)
    rw [uOf_nat, uOf_nat] at this
    simpa using this
   ·rintro ⟨hh, _⟩ a ha
    obtain ⟨b, rfl, hb⟩ := (att_atts h).1 ha
    have := (hh e).2 b hb
    rw [uOf_nat, uOf_nat]; simpa using this
  ·have := (hp.1 e).1
   have := of_decide_eq_false c3; omega
 ·have e : sf y i = 2 := eq_of_beq c2
  rw [cont2_plain (by omega) hc (by omega) (by omega) (by omega), some_bind]
  refine .ret ?_
  rw [List.any_eq_true]
  unfold PrvI wit
  constructor
  ·rintro ⟨a, ha, hw⟩
   obtain ⟨b, rfl, hb⟩ := (att_atts h).1 ha
   simp only [uOf_nat, Bool.and_eq_true, decide_eq_true_eq, beq_iff_eq] at hw
   exact ⟨fun e2 => by omega, fun _ => ⟨b, att_lt' h hb, hb, hw.1, hw.2.1, hw.2.2⟩⟩
  ·rintro ⟨_, hh⟩
   obtain ⟨a, _, a2, a3, a4, a5⟩ := hh e
   refine ⟨(a : Int), (att_atts h).2 ⟨a, rfl, a2⟩, ?_⟩
   simp only [uOf_nat, Bool.and_eq_true, decide_eq_true_eq, beq_iff_eq]
   exact ⟨a3, a4, a5⟩
 ·have e1 : sf y i ≠ 1 := fun e => by rw [e] at c; simp at c
  have e2 : sf y i ≠ 2 := fun e => by rw [e] at c2; simp at c2
  exact .ret ⟨fun _ => ⟨fun e => absurd e e1, fun e => absurd e e2⟩, fun _ => rfl⟩

theorem GCheck_plain (h : GVal g) (hg : g.L.length ≤ 100000) {y r : List Int} (hl : y.length ≤ 1000000) : T (grounded_Check_m g y r) fun x => x = 0 ↔ AccG g y r := by
 have hn0 := h.n0; have h40 := h.n1
 unfold grounded_Check_m
 rw [gValidate_plain h (by omega), some_bind, show ((0 : Int) != 0) = false from rfl, cond_false]
 refine T.join ?_
 refine T.bind (LValid_plain hn0 hl) fun b hb => ?_
 refine T.cond (fun c => .ret ⟨fun h => (by cases h), fun hh => ?_⟩) fun c => ?_
 ·rw [hb.2 hh.1] at c; cases c
 have hy := hb.1 (by simpa using c)
 cases hc : (((r.length : Int) : Int) != g.N) with
 | true => exact .ret ⟨fun h => (by cases h), fun hh => by have := hh.2.1; simp at hc; omega⟩
 | false =>
  have hr : r.length = g.N.toNat := by simp at hc; omega
  show T (Option.bind (labelling_IsComplete_m g y) _) _
  refine T.bind (LComplete_plain h hg hl) fun b2 hb2 => ?_
  refine T.cond (fun c2 => .ret ⟨fun h => (by cases h), fun hh => ?_⟩) fun c2 => ?_
  ·rw [hb2.2 ⟨hh.1, hh.2.2.1⟩] at c2; cases c2
  have hcomp := (hb2.1 (by simpa using c2)).2
  refine T.bind (P := fun q => match q with | .inl a => a ≠ 0 ∧ ¬ PrvP g y r | .inr _ => PrvP g y r) ?_ fun q hq => ?_
  ·refine T.loopK g.N.toNat (fun k s => k ≤ g.N.toNat ∧ s = (k : Int) ∧ ∀ i, i < k → PrvI g y r i) ⟨by omega, rfl, by simp⟩ ?_
   rintro k _ ⟨hk, rfl, hp⟩
   dsimp only [grounded_Check_l1]
   refine T.cond (fun c3 => ?_) fun c3 => .ret ?_
   ·have hk2 : k < g.N.toNat := by have := of_decide_eq_true c3; omega
    refine T.bind (proved_plain h hg hy hr hk2) fun p hpp => ?_
    rw [iadd1 (by omega)]
    refine T.cond (fun c4 => .ret ⟨by decide, fun hall => ?_⟩) fun c4 => .ret ⟨hk2, hk2, rfl, fun i hi => ?_⟩
    ·rw [hpp.2 (hall k hk2)] at c4; cases c4
    ·by_cases e : i = k
     ·subst e; exact hpp.1 (by simpa using c4)
     ·exact hp i (by omega)
   ·have e : k = g.N.toNat := by have := of_decide_eq_false c3; omega
    subst e
    exact hp
  ·cases q with
   | inl a => exact .ret ⟨fun h => absurd h hq.1, fun hh => absurd hh.2.2.2 hq.2⟩
   | inr a => exact .ret ⟨fun _ => ⟨hy, hr, hcomp, hq⟩, fun _ => rfl⟩

theorem Decide4_plain (h : GVal g) (hg : g.L.length ≤ 100000) {n : Nat} (hn : n < g.N.toNat) : T (verdict_Decide_m g 4 (n : Int)) fun r => r.2 = 0 ∧ ∃ L R, r.1 = ⟨sf L n == 1, L, R, []⟩ ∧ AccG g L R := by
 have hn0 := h.n0; have h40 := h.n1
 obtain ⟨⟨L, R⟩, e, hb⟩ := build_plain h hg (N := g.N.toNat) (by omega)
 have hLl := hb.1.len
 unfold verdict_Decide_m
 refine T.bind (asked_plain hg) fun r hr => ?_
 rcases hr with ⟨rfl, _, _, _⟩ | ⟨_, hb⟩
 case inr => exact absurd ⟨h, by omega, by omega⟩ hb
 rw [show ((0 : Int) != 0) = false from rfl, cond_false, show ((4 : Int) == 4) = true from rfl, cond_true]
 unfold grounded_Label_m grounded_Ranks_m
 rw [e, some_bind, some_bind, idx_sf (by omega), some_bind, some_bind, some_bind]
 exact .ret ⟨rfl, L, R, rfl, hb⟩
theorem VCheck4_plain (h : GVal g) (hg : g.L.length ≤ 100000) {n : Nat} (hn : n < g.N.toNat) {v : T_api_Verdict} (hl : v.Labels.length ≤ 1000000) :
  T (verdict_Check_m g 4 (n : Int) v) fun r => r = 0 ↔ v.Steps = [] ∧ AccG g v.Labels v.Ranks ∧ v.Holds = (sf v.Labels n == 1) := by
 have hn0 := h.n0; have h40 := h.n1
 unfold verdict_Check_m
 refine T.bind (asked_plain hg) fun r hr => ?_
 rcases hr with ⟨rfl, _, _, _⟩ | ⟨_, hb⟩
 case inr => exact absurd ⟨h, by omega, by omega⟩ hb
 rw [show ((0 : Int) != 0) = false from rfl, cond_false, show ((4 : Int) == 4) = true from rfl, cond_true]
 refine T.bind (P := fun r => r = 0 ↔ v.Steps = [] ∧ AccG g v.Labels v.Ranks ∧ v.Holds = (sf v.Labels n == 1)) ?_ fun r hr => .ret hr
 unfold verdict_ranked_m
 refine T.cond (fun c => .ret ⟨fun h => (by cases h), fun hh => by rw [hh.1] at c; simp at c⟩) fun c => ?_
 have hs := len_pos.1 c
 refine T.bind (GCheck_plain h hg hl) fun x hx => ?_
 refine T.cond (fun c2 => .ret ⟨fun h => (by cases h), fun hh => by rw [hx.2 hh.2.1] at c2; simp at c2⟩) fun c2 => ?_
 have ha := hx.1 (by simpa using c2)
 have hll := ha.1.len
 rw [idx_sf (by omega), some_bind]
 refine T.cond (fun c3 => .ret ⟨fun h => (by cases h), fun hh => by rw [hh.2.2] at c3; simp at c3⟩) fun c3 => .ret ⟨fun _ => ⟨hs, ha, ?_⟩, fun _ => rfl⟩
 simpa using c3
end Go.Dc

namespace Go.Dc
open Go.Proofs Go.Sort
variable {g : T_api_Graph}

def Cpl (g : T_api_Graph) (z : List Int) : Prop := LOk g.N.toNat z ∧ compP g z = true
theorem Cpl.at {z : List Int} (h : Cpl g z) {i : Nat} (hi : i < g.N.toNat) : legalP g z i = true := range_all.1 h.2 i hi

def code : Nat → List Int → Nat
 | 0, _ => 0
 | k + 1, z => code k z + if sf z k = 1 then 2 ^ k else 0
end Go.Dc

namespace Go.Dc
open Go.Proofs Go.Sort
variable {g : T_api_Graph}

def Adm (g : T_api_Graph) (A S : Nat → Prop) : Prop := (∀ a, S a → A a) ∧ (∀ a b : Nat, S a → S b → ¬ att g a b) ∧ ∀ a b : Nat, S a → A b → att g b a → ∃ c : Nat, S c ∧ att g c b
def Stb (g : T_api_Graph) (A S : Nat → Prop) : Prop := (∀ a, S a → A a) ∧ (∀ a b : Nat, S a → S b → ¬ att g a b) ∧ ∀ b : Nat, A b → ¬ S b → ∃ c : Nat, S c ∧ att g c b
def Clsd (g : T_api_Graph) (A S : Nat → Prop) : Prop := ∀ j : Nat, A j → (∀ b : Nat, A b → att g b j → ∃ c : Nat, S c ∧ A c ∧ att g c b) → S j
def Grd (g : T_api_Graph) (A : Nat → Prop) (i : Nat) : Prop := ∀ S, Clsd g A S → S i
def TruS (g : T_api_Graph) (A : Nat → Prop) (q : Int) (i : Nat) : Prop := if q = 1 then ∃ S, Adm g A S ∧ S i else if q = 2 then ∃ S, Stb g A S ∧ S i else if q = 3 then ∀ S, Stb g A S → S i else Grd g A i

structure Emb (g h : T_api_Graph) (A : Nat → Prop) (M : Nat) (φ : Nat → Nat) : Prop where
 inj : ∀ a b, a < M → b < M → φ a = φ b → a = b
 into : ∀ a, a < M → A (φ a)
 onto : ∀ x, A x → ∃ a, a < M ∧ φ a = x
 att : ∀ a b : Nat, a < M → b < M → (att h a b ↔ att g (φ a : Nat) (φ b : Nat))
theorem Emb.adm {h : T_api_Graph} {A : Nat → Prop} {M : Nat} {φ : Nat → Nat} (e : Emb g h A M φ) {i : Nat} (hi : i < M) : (∃ S, Adm g A S ∧ S (φ i)) ↔ ∃ S, Adm h (· < M) S ∧ S i := by
 constructor
 ·rintro ⟨S, ⟨h1, h2, h3⟩, h4⟩
  refine ⟨fun a => a < M ∧ S (φ a), ⟨fun a ha => ha.1, fun a b ha hb hab => h2 _ _ ha.2 hb.2 ((e.att a b ha.1 hb.1).1 hab), fun a b ha hb hab => ?_⟩, hi, h4⟩
  obtain ⟨c, hc, hcb⟩ := h3 (φ a) (φ b) ha.2 (e.into b hb) ((e.att b a hb ha.1).1 hab)
  obtain ⟨c', hc', rfl⟩ := e.onto c (h1 c hc)
  exact ⟨c', ⟨hc', hc⟩, (e.att c' b hc' hb).2 hcb⟩
 ·rintro ⟨S, ⟨h1, h2, h3⟩, h4⟩
  refine ⟨fun x => ∃ a, a < M ∧ φ a = x ∧ S a, ⟨?_, ?_, ?_⟩, i, hi, rfl, h4⟩
  ·rintro _ ⟨a, ha, rfl, _⟩; exact e.into a ha
  ·rintro _ _ ⟨a, ha, rfl, hsa⟩ ⟨b, hb, rfl, hsb⟩ hab; exact h2 a b hsa hsb ((e.att a b ha hb).2 hab)
  ·rintro _ x ⟨a, ha, rfl, hsa⟩ hx hab
   obtain ⟨b, hb, rfl⟩ := e.onto x hx
   obtain ⟨c, hc, hcb⟩ := h3 a b hsa hb ((e.att b a hb ha).2 hab)
   exact ⟨φ c, ⟨c, h1 c hc, rfl, hc⟩, (e.att c b (h1 c hc) hb).1 hcb⟩
theorem Emb.stb {h : T_api_Graph} {A : Nat → Prop} {M : Nat} {φ : Nat → Nat} (e : Emb g h A M φ) {S : Nat → Prop} (hs : Stb g A S) : Stb h (· < M) fun a => a < M ∧ S (φ a) := by
 obtain ⟨h1, h2, h3⟩ := hs
 refine ⟨fun a ha => ha.1, fun a b ha hb hab => h2 _ _ ha.2 hb.2 ((e.att a b ha.1 hb.1).1 hab), fun b hb hnb => ?_⟩
 obtain ⟨c, hc, hcb⟩ := h3 (φ b) (e.into b hb) fun hh => hnb ⟨hb, hh⟩
 obtain ⟨c', hc', rfl⟩ := e.onto c (h1 c hc)
 exact ⟨c', ⟨hc', hc⟩, (e.att c' b hc' hb).2 hcb⟩
theorem Emb.stb' {h : T_api_Graph} {A : Nat → Prop} {M : Nat} {φ : Nat → Nat} (e : Emb g h A M φ) {S : Nat → Prop} (hs : Stb h (· < M) S) : Stb g A fun x => ∃ a, a < M ∧ φ a = x ∧ S a := by
 obtain ⟨h1, h2, h3⟩ := hs
 refine ⟨?_, ?_, ?_⟩
 ·rintro _ ⟨a, ha, rfl, _⟩; exact e.into a ha
 ·rintro _ _ ⟨a, ha, rfl, hsa⟩ ⟨b, hb, rfl, hsb⟩ hab; exact h2 a b hsa hsb ((e.att a b ha hb).2 hab)
 ·rintro x hx hnx
  obtain ⟨b, hb, rfl⟩ := e.onto x hx
  obtain ⟨c, hc, hcb⟩ := h3 b hb fun hh => hnx ⟨b, hb, rfl, hh⟩
  exact ⟨φ c, ⟨c, h1 c hc, rfl, hc⟩, (e.att c b (h1 c hc) hb).1 hcb⟩
theorem Emb.back {h : T_api_Graph} {A : Nat → Prop} {M : Nat} {φ : Nat → Nat} (e : Emb g h A M φ) {S : Nat → Prop} {i : Nat} (hi : i < M) : (∃ a, a < M ∧ φ a = φ i ∧ S a) ↔ S i :=
 ⟨fun ⟨a, ha, h1, h2⟩ => by rwa [e.inj a i ha hi h1] at h2, fun h => ⟨i, hi, rfl, h⟩⟩
theorem Emb.grd {h : T_api_Graph} {A : Nat → Prop} {M : Nat} {φ : Nat → Nat} (e : Emb g h A M φ) {i : Nat} (hi : i < M) : Grd g A (φ i) ↔ Grd h (· < M) i := by
 constructor
 ·intro hg S hS
  refine (e.back hi).1 (hg (fun x => ∃ a, a < M ∧ φ a = x ∧ S a) fun x hx hd => ?_)
  obtain ⟨j, hj, rfl⟩ := e.onto x hx
  refine ⟨j, hj, rfl, hS j hj fun b hb hbj => ?_⟩
  obtain ⟨_, ⟨c, hc, rfl, hsc⟩, _, hcb⟩ := hd (φ b) (e.into b hb) ((e.att b j hb hj).1 hbj)
  exact ⟨c, hsc, hc, (e.att c b hc hb).2 hcb⟩
 ·intro hg S hS
  refine (hg (fun a => a < M ∧ S (φ a)) fun j hj hd => ⟨hj, hS (φ j) (e.into j hj) fun x hx hxj => ?_⟩).2
  obtain ⟨b, hb, rfl⟩ := e.onto x hx
  obtain ⟨c, hc, hcM, hcb⟩ := hd b hb ((e.att b j hb hj).2 hxj)
  exact ⟨φ c, hc.2, e.into c hcM, (e.att c b hcM hb).1 hcb⟩
theorem Emb.tru {h : T_api_Graph} {A : Nat → Prop} {M : Nat} {φ : Nat → Nat} (e : Emb g h A M φ) {q : Int} {i : Nat} (hi : i < M) : TruS g A q (φ i) ↔ TruS h (· < M) q i := by
 unfold TruS
 split
 ·exact e.adm hi
 ·split
  ·exact ⟨fun ⟨S, h1, h2⟩ => ⟨_, e.stb h1, hi, h2⟩, fun ⟨S, h1, h2⟩ => ⟨_, e.stb' h1, (e.back hi).2 h2⟩⟩
  ·split
   ·exact ⟨fun h1 S hS => (e.back hi).1 (h1 _ (e.stb' hS)), fun h1 S hS => (h1 _ (e.stb hS)).2⟩
   ·exact e.grd hi

theorem legal_in (h : GVal g) {z : List Int} {i : Nat} (hl : legalP g z i = true) (e : sf z i = 1) : ∀ a : Nat, att g a i → sf z a = 2 := fun a ha => by
 unfold legalP at hl
 rw [if_pos e] at hl
 have := eq_of_beq (List.all_eq_true.1 hl (a : Int) ((att_atts h).2 ⟨a, rfl, ha⟩))
 rwa [uOf_nat] at this
theorem legal_out (h : GVal g) {z : List Int} {i : Nat} (hl : legalP g z i = true) (e : sf z i = 2) : ∃ a : Nat, att g a i ∧ sf z a = 1 := by
 unfold legalP at hl
 rw [if_neg (by omega), if_pos e] at hl
 obtain ⟨a, ha, hb⟩ := List.any_eq_true.1 hl
 obtain ⟨b, rfl, hb2⟩ := (att_atts h).1 ha
 rw [uOf_nat] at hb
 exact ⟨b, hb2, eq_of_beq hb⟩
theorem legal_mk (h : GVal g) {z : List Int} {i : Nat} (h1 : sf z i = 1 → ∀ a : Nat, att g a i → sf z a = 2) (h2 : sf z i = 2 → ∃ a : Nat, att g a i ∧ sf z a = 1)
  (h3 : sf z i ≠ 1 → sf z i ≠ 2 → (∀ a : Nat, att g a i → sf z a ≠ 1) ∧ ∃ a : Nat, att g a i ∧ sf z a ≠ 2) : legalP g z i = true := by
 unfold legalP
 split
 ·rename_i e
  refine List.all_eq_true.2 fun a ha => ?_
  obtain ⟨b, rfl, hb⟩ := (att_atts h).1 ha
  rw [uOf_nat, h1 e b hb]; rfl
 ·rename_i e
  split
  ·rename_i e2
   obtain ⟨b, hb, hb1⟩ := h2 e2
   exact List.any_eq_true.2 ⟨b, (att_atts h).2 ⟨b, rfl, hb⟩, by rw [uOf_nat, hb1]; rfl⟩
  ·rename_i e2
   obtain ⟨g1, b, hb, hb2⟩ := h3 e e2
   simp only [Bool.and_eq_true, Bool.not_eq_true']
   refine ⟨List.any_eq_false.2 fun a ha hh => ?_, List.all_eq_false.2 ⟨b, (att_atts h).2 ⟨b, rfl, hb⟩, by rw [uOf_nat]; simpa using hb2⟩⟩
   obtain ⟨c, rfl, hc⟩ := (att_atts h).1 ha
   rw [uOf_nat] at hh
   exact g1 c hc (eq_of_beq hh)
open Classical in
noncomputable def labOf (g : T_api_Graph) (S : Nat → Prop) : List Int := (List.range g.N.toNat).map fun j => if S j then 1 else if ∃ c : Nat, S c ∧ att g c j then 2 else 3
open Classical in
theorem labOf_sf {S : Nat → Prop} {j : Nat} (hj : j < g.N.toNat) : sf (labOf g S) j = if S j then 1 else if ∃ c : Nat, S c ∧ att g c j then 2 else 3 := by
 unfold sf labOf; simp [List.getD, hj]
theorem labOf_ok {S : Nat → Prop} : LOk g.N.toNat (labOf g S) := ⟨by simp [labOf], fun x hx => by
 unfold labOf at hx
 obtain ⟨j, _, rfl⟩ := List.mem_map.1 hx
 split
 ·omega
 ·split <;> omega⟩
theorem att_ltN (h : GVal g) {a b : Nat} (hab : att g a b) : a < g.N.toNat ∧ b < g.N.toNat := by have := att_lt h hab; omega
theorem cpl_of (h : GVal g) {S : Nat → Prop} (hS : Adm g (· < g.N.toNat) S) (hd : ∀ j : Nat, j < g.N.toNat → (∀ b : Nat, att g b j → ∃ c : Nat, S c ∧ att g c b) → S j) : Cpl g (labOf g S) := by
 obtain ⟨h1, h2, h3⟩ := hS
 refine ⟨labOf_ok, range_all.2 fun i hi => legal_mk h (fun e a ha => ?_) (fun e => ?_) fun e1 e2 => ?_⟩
 ·have ha' := (att_ltN h ha).1
  rw [labOf_sf hi] at e
  have hSi : S i := Classical.byContradiction fun hn => by rw [if_neg hn] at e; split at e <;> cases e
  rw [labOf_sf ha', if_neg fun hSa => h2 a i hSa hSi ha, if_pos (h3 i a hSi ha' ha)]
 ·rw [labOf_sf hi] at e
  have hn : ¬ S i := fun hs => by rw [if_pos hs] at e; cases e
  rw [if_neg hn] at e
  have hc : ∃ c : Nat, S c ∧ att g c i := Classical.byContradiction fun hn => by rw [if_neg hn] at e; cases e
  obtain ⟨c, hc1, hc2⟩ := hc
  exact ⟨c, hc2, by rw [labOf_sf (h1 c hc1), if_pos hc1]⟩
 ·rw [labOf_sf hi] at e1 e2
  have hn : ¬ S i := fun hs => e1 (by rw [if_pos hs])
  rw [if_neg hn] at e2
  have hno : ¬ ∃ c : Nat, S c ∧ att g c i := fun hc => e2 (by rw [if_pos hc])
  refine ⟨fun a ha hh => ?_, ?_⟩
  ·rw [labOf_sf (att_ltN h ha).1] at hh
   have hSa : S a := Classical.byContradiction fun hn => by rw [if_neg hn] at hh; split at hh <;> cases hh
   exact hno ⟨a, hSa, ha⟩
  ·refine Classical.byContradiction fun hall => hn (hd i hi fun b hb => ?_)
   have hb2 : sf (labOf g S) b = 2 := Classical.byContradiction fun hne => hall ⟨b, hb, hne⟩
   rw [labOf_sf (att_ltN h hb).1] at hb2
   have hnb : ¬ S b := fun hs => by rw [if_pos hs] at hb2; cases hb2
   rw [if_neg hnb] at hb2
   exact Classical.byContradiction fun hn => by rw [if_neg hn] at hb2; cases hb2
theorem adm_add {N : Nat} {S : Nat → Prop} (hS : Adm g (· < N) S) {j : Nat} (hj : j < N) (hlt : ∀ a b : Nat, att g a b → a < N ∧ b < N) (hd : ∀ b : Nat, att g b j → ∃ c : Nat, S c ∧ att g c b) : Adm g (· < N) fun a => S a ∨ a = j := by
 obtain ⟨h1, h2, h3⟩ := hS
 have noSj : ∀ s, S s → ¬ att g s j := fun s hs hsj => by
  obtain ⟨c, hc, hcs⟩ := hd s hsj
  exact h2 c s hc hs hcs
 have nojS : ∀ s, S s → ¬ att g j s := fun s hs hjs => by
  obtain ⟨c, hc, hcj⟩ := h3 s j hs hj hjs
  exact noSj c hc hcj
 refine ⟨fun a ha => ha.elim (h1 a) fun e => e ▸ hj, fun a b ha hb hab => ?_, fun a b ha hb hab => ?_⟩
 ·rcases ha with ha | rfl <;> rcases hb with hb | rfl
  ·exact h2 a b ha hb hab
  ·exact noSj a ha hab
  ·exact nojS b hb hab
  ·obtain ⟨c, hc, hcj⟩ := hd _ hab
   exact noSj c hc hcj
 ·rcases ha with ha | rfl
  ·obtain ⟨c, hc, hcb⟩ := h3 a b ha hb hab; exact ⟨c, .inl hc, hcb⟩
  ·obtain ⟨c, hc, hcb⟩ := hd b hab; exact ⟨c, .inl hc, hcb⟩
open Classical in
noncomputable def cntP (N : Nat) (P : Nat → Prop) : Nat := (List.range N).countP fun a => decide (P a)
open Classical in
theorem adm_grow (h : GVal g) : ∀ (m : Nat) (S : Nat → Prop), Adm g (· < g.N.toNat) S → g.N.toNat - cntP g.N.toNat S ≤ m →
  ∃ S', Adm g (· < g.N.toNat) S' ∧ (∀ a, S a → S' a) ∧ ∀ j : Nat, j < g.N.toNat → (∀ b : Nat, att g b j → ∃ c : Nat, S' c ∧ att g c b) → S' j
 | m, S, hS, hm => by
  by_cases hc : ∀ j : Nat, j < g.N.toNat → (∀ b : Nat, att g b j → ∃ c : Nat, S c ∧ att g c b) → S j
  ·exact ⟨S, hS, fun _ h => h, hc⟩
  ·obtain ⟨j, hc⟩ := Classical.not_forall.1 hc
   simp only [Classical.not_imp] at hc
   obtain ⟨hj, hd, hn⟩ := hc
   have hA := adm_add hS hj (fun a b => att_ltN h) hd
   have hcnt : cntP g.N.toNat S < cntP g.N.toNat fun a => S a ∨ a = j :=
    countP_lt (fun x _ hx => by simp only [decide_eq_true_eq] at hx ⊢; exact .inl hx) ⟨j, List.mem_range.2 hj, by simp, by simpa using hn⟩
   have hle : cntP g.N.toNat (fun a => S a ∨ a = j) ≤ g.N.toNat := Nat.le_trans List.countP_le_length (by simp)
   obtain ⟨m', rfl⟩ : ∃ m', m = m' + 1 := ⟨m - 1, by omega⟩
   obtain ⟨S', q1, q2, q3⟩ := adm_grow h m' (fun a => S a ∨ a = j) hA (by omega)
   exact ⟨S', q1, fun a ha => q2 a (.inl ha), q3⟩
 termination_by m => m
theorem adm_iff (h : GVal g) {n : Nat} (hn : n < g.N.toNat) : (∃ S, Adm g (· < g.N.toNat) S ∧ S n) ↔ ∃ z, Cpl g z ∧ sf z n = 1 := by
 constructor
 ·rintro ⟨S, hS, hSn⟩
  obtain ⟨S', q1, q2, q3⟩ := adm_grow h _ S hS (Nat.le_refl _)
  exact ⟨_, cpl_of h q1 q3, by rw [labOf_sf hn, if_pos (q2 n hSn)]⟩
 ·rintro ⟨z, hz, hzn⟩
  refine ⟨fun a => a < g.N.toNat ∧ sf z a = 1, ⟨fun a ha => ha.1, fun a b ha hb hab => ?_, fun a b ha hb hab => ?_⟩, hn, hzn⟩
  ·have := legal_in h (hz.at hb.1) hb.2 a hab; have := ha.2; omega
  ·obtain ⟨c, hc, hc1⟩ := legal_out h (hz.at hb) (legal_in h (hz.at ha.1) ha.2 b hab)
   exact ⟨c, ⟨(att_ltN h hc).1, hc1⟩, hc⟩
theorem no_und {z : List Int} : (z.any fun x => x == 3) = false ↔ ∀ j, j < z.length → sf z j ≠ 3 := by
 rw [List.any_eq_false]
 constructor
 ·intro h j hj e
  have e2 : sf z j = z[j] := by unfold sf; simp [List.getD, hj]
  exact h _ (List.getElem_mem hj) (by rw [← e2, e]; rfl)
 ·intro h x hx hh
  obtain ⟨j, hj, rfl⟩ := List.getElem_of_mem hx
  have e2 : sf z j = z[j] := by unfold sf; simp [List.getD, hj]
  exact h j hj (by rw [e2]; exact eq_of_beq hh)
def CplS (g : T_api_Graph) (z : List Int) : Prop := Cpl g z ∧ ∀ j, j < g.N.toNat → sf z j ≠ 3
theorem stb_lab (h : GVal g) {S : Nat → Prop} (hS : Stb g (· < g.N.toNat) S) : CplS g (labOf g S) ∧ ∀ j, j < g.N.toNat → (sf (labOf g S) j = 1 ↔ S j) := by
 obtain ⟨h1, h2, h3⟩ := hS
 have hiff : ∀ j, j < g.N.toNat → (sf (labOf g S) j = 1 ↔ S j) := fun j hj => by
  rw [labOf_sf hj]
  exact ⟨fun e => Classical.byContradiction fun hn => by (rw [if_neg hn] at e; split at e <;> cases e), fun hs => by rw [if_pos hs]⟩
 refine ⟨⟨cpl_of h ⟨h1, h2, fun a b ha hb hab => h3 b hb fun hb' => h2 b a hb' ha hab⟩ fun j hj hd => Classical.byContradiction fun hn => ?_, fun j hj e => ?_⟩, hiff⟩
 ·obtain ⟨c, hc, hcj⟩ := h3 j hj hn
  obtain ⟨d, hd1, hd2⟩ := hd c hcj
  exact h2 d c hd1 hc hd2
 ·rw [labOf_sf hj] at e
  have hn : ¬ S j := fun hs => by rw [if_pos hs] at e; cases e
  rw [if_neg hn, if_pos (h3 j hj hn)] at e; cases e
theorem lab_stb (h : GVal g) {z : List Int} (hz : CplS g z) : Stb g (· < g.N.toNat) fun a => a < g.N.toNat ∧ sf z a = 1 := by
 refine ⟨fun a ha => ha.1, fun a b ha hb hab => ?_, fun b hb hnb => ?_⟩
 ·have := legal_in h (hz.1.at hb.1) hb.2 a hab; have := ha.2; omega
 ·have e2 : sf z b = 2 := by
   rcases hz.1.1.at hb with e | e | e
   ·exact absurd ⟨hb, e⟩ hnb
   ·exact e
   ·exact absurd e (hz.2 b hb)
  obtain ⟨c, hc, hc1⟩ := legal_out h (hz.1.at hb) e2
  exact ⟨c, ⟨(att_ltN h hc).1, hc1⟩, hc⟩
theorem stbS_iff (h : GVal g) {n : Nat} (hn : n < g.N.toNat) : (∃ S, Stb g (· < g.N.toNat) S ∧ S n) ↔ ∃ z, CplS g z ∧ sf z n = 1 :=
 ⟨fun ⟨S, h1, h2⟩ => ⟨_, (stb_lab h h1).1, ((stb_lab h h1).2 n hn).2 h2⟩, fun ⟨z, h1, h2⟩ => ⟨_, lab_stb h h1, hn, h2⟩⟩
theorem stbA_iff (h : GVal g) {n : Nat} (hn : n < g.N.toNat) : (∀ S, Stb g (· < g.N.toNat) S → S n) ↔ ∀ z, CplS g z → sf z n = 1 :=
 ⟨fun h1 z hz => (h1 _ (lab_stb h hz)).2, fun h1 S hS => ((stb_lab h hS).2 n hn).1 (h1 _ (stb_lab h hS).1)⟩

theorem prv_in (h : GVal g) {y r : List Int} (ha : AccG g y r) {S : Nat → Prop} (hS : Clsd g (· < g.N.toNat) S) : ∀ (m : Nat) (i : Nat), i < g.N.toNat → sf y i = 1 → sf r i ≤ (m : Int) → S i := by
 obtain ⟨hy, hr, hcy, hp⟩ := ha
 intro m
 induction m with
 | zero => intro i hi h1 hm; have := ((hp i hi).1 h1).1; omega
 | succ m ih =>
  intro i hi h1 hm
  obtain ⟨p1, p2⟩ := (hp i hi).1 h1
  refine hS i hi fun b hb hbi => ?_
  have h2 := legal_in h (range_all.1 hcy i hi) h1 b hbi
  obtain ⟨a, a1, a2, a3, a4, a5⟩ := (hp b hb).2 h2
  have := p2 b hbi
  exact ⟨a, ih a a1 a3 (by omega), a1, a2⟩
theorem in_clsd (h : GVal g) {y : List Int} (hy : Cpl g y) : Clsd g (· < g.N.toNat) fun a => a < g.N.toNat ∧ sf y a = 1 := fun j hj hd => by
 have out : ∀ b : Nat, att g b j → sf y b = 2 := fun b hb => by
  have hbN := (att_ltN h hb).1
  obtain ⟨c, ⟨hc, hc1⟩, _, hcb⟩ := hd b hbN hb
  rcases hy.1.at hbN with e | e | e
  ·have := legal_in h (hy.at hbN) e c hcb; omega
  ·exact e
  ·have hl := hy.at hbN
   unfold legalP at hl
   rw [if_neg (by omega), if_neg (by omega)] at hl
   simp only [Bool.and_eq_true, Bool.not_eq_true'] at hl
   have := List.any_eq_false.1 hl.1 (c : Int) ((att_atts h).2 ⟨c, rfl, hcb⟩)
   rw [uOf_nat, hc1] at this; exact absurd rfl this
 refine ⟨hj, ?_⟩
 rcases hy.1.at hj with e | e | e
 ·exact e
 ·obtain ⟨c, hc, hc1⟩ := legal_out h (hy.at hj) e
  have := out c hc; omega
 ·have hl := hy.at hj
  unfold legalP at hl
  rw [if_neg (by omega), if_neg (by omega)] at hl
  simp only [Bool.and_eq_true, Bool.not_eq_true'] at hl
  have : ((attsP g (j : Int)).all fun a => uOf y a == 2) = true := List.all_eq_true.2 fun a ha => by
   obtain ⟨b, rfl, hb⟩ := (att_atts h).1 ha
   rw [uOf_nat, out b hb]; rfl
  rw [this] at hl; cases hl.2
theorem grd_iff (h : GVal g) {y r : List Int} (ha : AccG g y r) {n : Nat} (hn : n < g.N.toNat) : sf y n = 1 ↔ Grd g (· < g.N.toNat) n :=
 ⟨fun h1 S hS => prv_in h ha hS (sf r n).toNat n hn h1 (by omega), fun hg => (hg _ (in_clsd h ⟨ha.1, ha.2.2.1⟩)).2⟩

theorem dec_tru (h : GVal g) {q : Int} (hq1 : 1 ≤ q) (hq3 : q ≤ 3) {n : Nat} (hn : n < g.N.toNat) {v : T_api_Verdict} (hd : DecR g q n v) : v.Holds = true ↔ TruS g (· < g.N.toNat) q n := by
 have hl : ∀ {z : List Int}, Cpl g z → ((z.any fun x => x == 3) = false ↔ ∀ j, j < g.N.toNat → sf z j ≠ 3) := fun {z} hz => by rw [no_und, hz.1.len]
 rcases (by omega : q = 1 ∨ q = 2 ∨ q = 3) with rfl | rfl | rfl
 ·have e : TruS g (· < g.N.toNat) 1 n ↔ ∃ z, Cpl g z ∧ sf z n = 1 := by unfold TruS; rw [if_pos rfl]; exact adm_iff h hn
  rw [e]
  rcases hd with ⟨y, rfl, hy, hf⟩ | ⟨st, rfl, _, hs⟩
  ·unfold forP at hf
   simp only [Bool.and_eq_true] at hf
   exact ⟨fun _ => ⟨y, ⟨hy, hf.1.1⟩, eq_of_beq (eq_of_beq hf.2)⟩, fun _ => rfl⟩
  ·refine ⟨(fun hh => by cases hh), fun ⟨z, hz, h1⟩ => ?_⟩
   have := no_both h hn hs hz.1
   unfold forP at this
   rw [hz.2, h1] at this; cases this
 ·have e : TruS g (· < g.N.toNat) 2 n ↔ ∃ z, CplS g z ∧ sf z n = 1 := by unfold TruS; rw [if_neg (by omega), if_pos rfl]; exact stbS_iff h hn
  rw [e]
  rcases hd with ⟨y, rfl, hy, hf⟩ | ⟨st, rfl, _, hs⟩
  ·unfold forP at hf
   simp only [Bool.and_eq_true] at hf
   have hc : Cpl g y := ⟨hy, hf.1.1⟩
   exact ⟨fun _ => ⟨y, ⟨hc, (hl hc).1 (by simpa using hf.1.2)⟩, eq_of_beq (eq_of_beq hf.2)⟩, fun _ => rfl⟩
  ·refine ⟨(fun hh => by cases hh), fun ⟨z, hz, h1⟩ => ?_⟩
   have := no_both h hn hs hz.1.1
   unfold forP at this
   rw [hz.1.2, h1, (hl hz.1).2 hz.2] at this; cases this
 ·have e : TruS g (· < g.N.toNat) 3 n ↔ ∀ z, CplS g z → sf z n = 1 := by unfold TruS; rw [if_neg (by omega), if_neg (by omega), if_pos rfl]; exact stbA_iff h hn
  rw [e]
  rcases hd with ⟨y, rfl, hy, hf⟩ | ⟨st, rfl, _, hs⟩
  ·unfold forP at hf
   simp only [Bool.and_eq_true] at hf
   have hc : Cpl g y := ⟨hy, hf.1.1⟩
   refine ⟨(fun hh => by cases hh), fun hall => ?_⟩
   have h2 := hall y ⟨hc, (hl hc).1 (by simpa using hf.1.2)⟩
   have h3 := eq_of_beq hf.2
   rw [h2] at h3; cases h3
  ·refine ⟨fun _ z hz => Classical.byContradiction fun hne => ?_, fun _ => rfl⟩
   have := no_both h hn hs hz.1.1
   unfold forP at this
   rw [hz.1.2, (hl hz.1).2 hz.2, beq_false_of_ne hne] at this; cases this
end Go.Dc

namespace Go.Dc
open Go.Proofs Go.Sort
variable {g : T_api_Graph}

open Classical in
theorem bits_of (N : Nat) (P : Nat → Prop) : ∃ s : Nat, ∀ i, s.testBit i = true ↔ i < N ∧ P i :=
 ⟨setOf ((List.range N).filter fun i => decide (P i)), fun i => by rw [setOf_bit, List.mem_filter, List.mem_range, decide_eq_true_iff]⟩

structure NetA (g : T_api_Graph) (A : Nat → Prop) (N : Nat) (n : Nt) : Prop where
 ok : NtOk N n
 all : ∀ i, n.all.testBit i = true ↔ A i
 at_ : ∀ i j, n.a i j ↔ att g i j ∧ A i ∧ A j

section
variable {A : Nat → Prop} {N : Nat} {n : Nt} (h : NetA g A N n)
include h
theorem NetA.lt {i : Nat} (hi : A i) : i < N := h.ok.al i ((h.all i).2 hi)
theorem NetA.adm {s : Nat} (hs : SubB s n.all) : AdmP n s ↔ Adm g A fun i => s.testBit i = true := by
 have hA : ∀ i, s.testBit i = true → A i := fun i hi => (h.all i).1 (hs i hi)
 constructor
 ·rintro ⟨h1, h2⟩
  refine ⟨hA, fun a b ha hb hab => h1 a b ha hb ((h.at_ a b).2 ⟨hab, hA a ha, hA b hb⟩), fun a b ha hb hab => ?_⟩
  obtain ⟨k, hk, hkb⟩ := h2 b a ha ((h.at_ b a).2 ⟨hab, hb, hA a ha⟩)
  exact ⟨k, hk, ((h.at_ k b).1 hkb).1⟩
 ·rintro ⟨_, h1, h2⟩
  refine ⟨fun i j hi hj hij => h1 i j hi hj ((h.at_ i j).1 hij).1, fun i j hj hij => ?_⟩
  obtain ⟨q1, q2, q3⟩ := (h.at_ i j).1 hij
  obtain ⟨c, hc, hcb⟩ := h2 j i hj q2 q1
  exact ⟨c, hc, (h.at_ c i).2 ⟨hcb, hA c hc, q2⟩⟩
theorem NetA.stb {s : Nat} (hs : SubB s n.all) : StbP n s ↔ Stb g A fun i => s.testBit i = true := by
 have hA : ∀ i, s.testBit i = true → A i := fun i hi => (h.all i).1 (hs i hi)
 constructor
 ·rintro ⟨h1, h2⟩
  refine ⟨hA, fun a b ha hb hab => h1 a b ha hb ((h.at_ a b).2 ⟨hab, hA a ha, hA b hb⟩), fun b hb hnb => ?_⟩
  obtain ⟨k, hk, hkb⟩ := h2 b ((h.all b).2 hb) (by simpa using hnb)
  exact ⟨k, hk, ((h.at_ k b).1 hkb).1⟩
 ·rintro ⟨_, h1, h2⟩
  refine ⟨fun i j hi hj hij => h1 i j hi hj ((h.at_ i j).1 hij).1, fun i hi hni => ?_⟩
  obtain ⟨c, hc, hcb⟩ := h2 i ((h.all i).1 hi) (by simp [hni])
  exact ⟨c, hc, (h.at_ c i).2 ⟨hcb, hA c hc, (h.all i).1 hi⟩⟩
theorem NetA.bits (S : Nat → Prop) (hS : ∀ i, S i → A i) : ∃ s, SubB s n.all ∧ (fun i => s.testBit i = true) = S := by
 obtain ⟨s, hs⟩ := bits_of N S
 have hs' : ∀ i, s.testBit i = true ↔ S i := fun i => (hs i).trans ⟨fun h => h.2, fun hi => ⟨h.lt (hS i hi), hi⟩⟩
 exact ⟨s, fun i hi => (h.all i).2 (hS i ((hs' i).1 hi)), funext fun i => propext (hs' i)⟩
theorem NetA.grd {G : Nat} (hG : GrdN n G) (i : Nat) : G.testBit i = true ↔ Grd g A i := by
 have hA : ∀ i, G.testBit i = true → A i := fun i hi => (h.all i).1 (hG.sub i hi)
 constructor
 ·intro hi S hS
  obtain ⟨s, h1, h2⟩ := h.bits (fun i => A i ∧ S i) fun i hi => hi.1
  have hbit : ∀ i, s.testBit i = true ↔ A i ∧ S i := fun i => by rw [show (A i ∧ S i) = (fun i => A i ∧ S i) i from rfl, ← h2]
  have hcls : ClsP n s := fun j hj hd => (hbit j).2 ⟨(h.all j).1 hj, hS j ((h.all j).1 hj) fun b hb hbj => by
   obtain ⟨m, hm, hmb⟩ := hd b ((h.at_ b j).2 ⟨hbj, hb, (h.all j).1 hj⟩)
   obtain ⟨q1, q2⟩ := (hbit m).1 hm
   exact ⟨m, q2, q1, ((h.at_ m b).1 hmb).1⟩⟩
  exact ((hbit i).1 (hG.least s hcls i hi)).2
 ·intro hi
  refine hi (fun i => G.testBit i = true) fun j hj hd => hG.cls j ((h.all j).2 hj) fun k hk => ?_
  obtain ⟨q1, q2, q3⟩ := (h.at_ k j).1 hk
  obtain ⟨c, hc, hcA, hck⟩ := hd k q2 q1
  exact ⟨c, hc, (h.at_ c k).2 ⟨hck, hcA, q2⟩⟩
theorem NetA.ans {q : Int} (hq1 : 1 ≤ q) (hq4 : q ≤ 4) {i : Nat} : ansP n q i ↔ TruS g A q i := by
 unfold ansP TruS
 rcases (by omega : q = 1 ∨ q = 2 ∨ q = 3 ∨ q = 4) with rfl | rfl | rfl | rfl
 ·rw [if_neg (by omega), if_pos rfl, if_pos rfl]
  constructor
  ·rintro ⟨y, h1, h2, h3⟩; exact ⟨_, (h.adm h1).1 h2, h3⟩
  ·rintro ⟨S, h1, h2⟩
   obtain ⟨s, q1, rfl⟩ := h.bits S h1.1
   exact ⟨s, q1, (h.adm q1).2 h1, h2⟩
 ·rw [if_neg (by omega), if_neg (by omega), if_neg (by omega), if_neg (by omega), if_pos rfl]
  constructor
  ·rintro ⟨y, h1, h2, h3⟩; exact ⟨_, (h.stb h1).1 h2, h3⟩
  ·rintro ⟨S, h1, h2⟩
   obtain ⟨s, q1, rfl⟩ := h.bits S h1.1
   exact ⟨s, q1, (h.stb q1).2 h1, h2⟩
 ·rw [if_neg (by omega), if_neg (by omega), if_pos rfl, if_neg (by omega), if_neg (by omega), if_pos rfl]
  constructor
  ·intro hh S h1
   obtain ⟨s, q1, rfl⟩ := h.bits S h1.1
   exact hh s q1 ((h.stb q1).2 h1)
  ·intro hh y h1 h2
   exact hh _ ((h.stb h1).1 h2)
 ·rw [if_pos rfl, if_neg (by omega), if_neg (by omega), if_neg (by omega)]
  exact h.grd (In_plain2 h.ok).2 i
end

open Classical in
theorem Answer_tru {A : Nat → Prop} {N : Nat} {n : Nt} (h : NetA g A N n) {q : Int} (hq1 : 1 ≤ q) (hq4 : q ≤ 4) {i : Nat} (hi : i < 64) : network_Net_Answer_m n.t q (i : Int) = some (decide (TruS g A q i)) := by
 rw [Answer_plain h.ok hi]
 congr 1
 exact decide_eq_decide.2 (h.ans hq1 hq4)

theorem New_net (h : GVal g) (hg : g.L.length ≤ 100000) : T (network_New_m g) fun t => ∃ n : Nt, t = n.t ∧ NetA g (· < g.N.toNat) g.N.toNat n := by
 obtain ⟨GN, L⟩ := g
 obtain ⟨N, rfl⟩ := Int.eq_ofNat_of_zero_le (show 0 ≤ GN from h.n0)
 have hv : ∀ p ∈ L, 0 ≤ p.From ∧ p.From < N ∧ 0 ≤ p.To ∧ p.To < N := h.v
 show T (network_New_m ⟨(N : Int), L⟩) fun t => ∃ n : Nt, t = n.t ∧ NetA ⟨(N : Int), L⟩ (· < N) N n
 refine (New_plain2 (N := N) (l := L) (by have : (N : Int) ≤ 40 := h.n1; omega) hv (by simp only at hg; omega)).mono ?_
 rintro _ ⟨n, rfl, h1, h2, h3⟩
 refine ⟨n, rfl, h1, h2, fun i j => ?_⟩
 rw [h3]
 constructor
 ·rintro ⟨p, hp, q1, q2⟩
  have := hv p hp
  exact ⟨⟨p, hp, q1, q2⟩, by omega, by omega⟩
 ·rintro ⟨⟨p, hp, q1, q2⟩, _⟩; exact ⟨p, hp, q1, q2⟩
theorem Within_net {A : Nat → Prop} {N : Nat} {n : Nt} (h : NetA g A N n) {s : Nat} (hs : s < 2 ^ 64) : T (network_Net_Within_m n.t (s : Int)) fun t => ∃ n' : Nt, t = n'.t ∧ NetA g (fun i => A i ∧ s.testBit i = true) N n' := by
 refine (Within_plain h.ok hs).mono ?_
 rintro _ ⟨n', rfl, h1, h2, h3⟩
 refine ⟨n', rfl, h1, fun i => by rw [h2, h.all], fun i j => ?_⟩
 rw [h3, h.at_]
 constructor
 ·rintro ⟨⟨a, b, c⟩, d, e⟩; exact ⟨a, ⟨b, d⟩, c, e⟩
 ·rintro ⟨a, ⟨b, d⟩, c, e⟩; exact ⟨⟨a, b, c⟩, d, e⟩

theorem nvs_le12 {L : List (List Int)} {n : Int} (hn : n ≤ 12) : nvs L n ≤ 12 := by
 unfold nvs
 rw [← List.countP_eq_length_filter]
 refine Nat.le_trans (List.countP_mono_left (q := fun v : Nat => decide (v ≤ 12)) fun v _ hv => ?_) (by decide +kernel)
 simp only [Bool.and_eq_true, decide_eq_true_eq] at hv ⊢
 omega
theorem Decide_tru (h : GVal g) (hg : g.L.length ≤ 100000) (h6 : g.N ≤ 6) {q : Int} (hq1 : 1 ≤ q) (hq4 : q ≤ 4) {n : Nat} (hn : n < g.N.toNat) :
  T (verdict_Decide_m g q (n : Int)) fun r => r.2 = 0 ∧ (r.1.Holds = true ↔ TruS g (· < g.N.toNat) q n) ∧ T (verdict_Check_m g q (n : Int) r.1) fun x => x = 0 := by
 by_cases e : q = 4
 ·subst e
  refine (Decide4_plain h hg hn).mono fun r hr => ?_
  obtain ⟨h0, L, R, e, hacc⟩ := hr
  have hLl := hacc.1.len; have h40 := h.n1
  refine ⟨h0, ?_, (VCheck4_plain h hg hn (by rw [e]; simp only; omega)).mono fun x hx => hx.2 (by rw [e]; exact ⟨rfl, hacc, rfl⟩)⟩
  rw [e]
  unfold TruS
  rw [if_neg (by omega), if_neg (by omega), if_neg (by omega), ← grd_iff h hacc hn]
  simp
 ·refine (Decide_plain h hg hq1 (by omega) hn).mono fun r hr => ?_
  rcases hr with ⟨h0, hd⟩ | ⟨_, hb⟩
  case inr => have := nvs_le12 (L := encP g q (n : Int)) (n := 2 * g.N) (by omega); omega
  have hll : r.1.Labels.length ≤ 1000000 := by
   rcases hd with ⟨y, e, hy, _⟩ | ⟨st, e, _⟩
   ·rw [e]; have := hy.len; have := h.n1; simp only; omega
   ·rw [e]; simp
  exact ⟨h0, dec_tru h hq1 (by omega) hn hd, (VCheck_plain h hg hq1 (by omega) hn hll).mono fun x hx => hx.2 (Dec_acc hd)⟩
end Go.Dc

namespace Go.Dc
open Go.Proofs Go.Sort
variable {g : T_api_Graph}

theorem ContS_plain {l : List Int} {x : Int} (hl : l.length ≤ 1000) : slices_Contains_int_int_s1_m l x = some (decide (x ∈ l)) := by
 rw [show slices_Contains_int_int_s1_m = slices_Contains_int_int_m from rfl]; exact Contains_plain hl
theorem IndexS_plain {l : List Int} {x : Int} (hl : l.length ≤ 1000) : T (slices_Index_int_int_s1_m l x) fun r => (r = -1 ∧ x ∉ l) ∨ ∃ k : Nat, r = (k : Int) ∧ k < l.length ∧ l.getD k 0 = x := by
 unfold slices_Index_int_int_s1_m
 refine T.bind (P := fun r => match r with | .inl r => ∃ k : Nat, r = (k : Int) ∧ k < l.length ∧ l.getD k 0 = x | .inr _ => x ∉ l) (T.loopK l.length (fun k s => s = (k : Int) ∧ x ∉ l.take k) ⟨rfl, by simp⟩ fun k s hs => ?_) fun r hr => ?_
 ·obtain ⟨rfl, hn⟩ := hs
  unfold slices_Index_int_int_s1_l1
  refine T.cond (fun h => ?_) fun h => .ret ?_
  ·simp only [decide_eq_true_eq] at h
   have hk : k < l.length := by omega
   rw [idxM_nat hk, iadd1 (by omega)]
   simp only [Option.bind_some]
   refine T.cond (fun h2 => .ret ⟨k, rfl, hk, ?_⟩) fun h2 => .ret ⟨hk, rfl, ?_⟩
   ·rw [eq_of_beq h2]; simp [List.getD, hk]
   ·rw [← List.take_append_getElem hk, List.mem_append, List.mem_singleton]
    rintro (h3 | h3)
    ·exact hn h3
    ·subst h3; simp at h2
  ·simp only [decide_eq_false_iff_not] at h
   rw [List.take_of_length_le (by omega)] at hn
   exact hn
 ·match r, hr with
  | .inl r, hr => exact .ret (.inr hr)
  | .inr u, hr => exact .ret (.inl ⟨rfl, hr⟩)

def ndsP (N : Nat) (p : Nat → Bool) : List Nat := (List.range N).filter p
theorem ndsP_succ {N : Nat} {p : Nat → Bool} : ndsP (N + 1) p = ndsP N p ++ (if p N then [N] else []) := by
 unfold ndsP
 rw [List.range_succ, List.filter_append]
 congr 1
 cases h : p N <;> simp [h]
theorem mem_nds {N i : Nat} {p : Nat → Bool} : i ∈ ndsP N p ↔ i < N ∧ p i = true := by unfold ndsP; rw [List.mem_filter, List.mem_range]
theorem nds_len {N : Nat} {p : Nat → Bool} : (ndsP N p).length ≤ N := by unfold ndsP; exact Nat.le_trans (List.length_filter_le _ _) (by simp)
theorem nds_asc {N : Nat} {p : Nat → Bool} : (ndsP N p).Pairwise (· < ·) := List.Pairwise.filter _ List.pairwise_lt_range
theorem nds_mono {N : Nat} {p : Nat → Bool} {a b : Nat} (hb : b < (ndsP N p).length) (hab : a < b) : (ndsP N p).getD a 0 < (ndsP N p).getD b 0 := by
 have ha : a < (ndsP N p).length := by omega
 have := List.pairwise_iff_getElem.1 (nds_asc (N := N) (p := p)) a b ha hb hab
 simpa [List.getD, ha, hb] using this
theorem nds_mem {N : Nat} {p : Nat → Bool} {a : Nat} (ha : a < (ndsP N p).length) : (ndsP N p).getD a 0 < N ∧ p ((ndsP N p).getD a 0) = true := by
 have : (ndsP N p).getD a 0 = (ndsP N p)[a] := by simp [List.getD, ha]
 rw [this]; exact mem_nds.1 (List.getElem_mem ha)
theorem nds_at {N i : Nat} {p : Nat → Bool} (hi : i < N) (hp : p i = true) : ∃ a, a < (ndsP N p).length ∧ (ndsP N p).getD a 0 = i := by
 obtain ⟨a, ha, e⟩ := List.getElem_of_mem (mem_nds.2 ⟨hi, hp⟩)
 exact ⟨a, ha, by simp [List.getD, ha, e]⟩

def RelP (l : List Nat) (a p : T_api_Pair) : Prop := 0 ≤ p.From ∧ p.From < l.length ∧ 0 ≤ p.To ∧ p.To < l.length ∧ ((l.getD p.From.toNat 0 : Nat) : Int) = a.From ∧ ((l.getD p.To.toNat 0 : Nat) : Int) = a.To

theorem getD_il {l : List Nat} {k : Nat} : (il l).getD k 0 = ((l.getD k 0 : Nat) : Int) := by
 unfold il
 rw [List.getD_eq_getElem?_getD, List.getD_eq_getElem?_getD, List.getElem?_map]
 cases l[k]? <;> rfl
theorem plt_rel {N : Nat} {P : Nat → Bool} {a b p q : T_api_Pair} (hab : plt a b) (hp : RelP (ndsP N P) a p) (hq : RelP (ndsP N P) b q) : plt p q := by
 obtain ⟨p1, p2, p3, p4, p5, p6⟩ := hp
 obtain ⟨q1, q2, q3, q4, q5, q6⟩ := hq
 have mono : ∀ x y : Int, 0 ≤ x → x < (ndsP N P).length → 0 ≤ y → y < (ndsP N P).length → ((ndsP N P).getD x.toNat 0 < (ndsP N P).getD y.toNat 0) → x < y := fun x y hx hx2 hy hy2 h => by
  refine Classical.byContradiction fun hn => ?_
  by_cases e : x = y
  ·subst e; omega
  ·have := nds_mono (N := N) (p := P) (a := y.toNat) (b := x.toNat) (by omega) (by omega); omega
 have inj : ∀ x y : Int, 0 ≤ x → x < (ndsP N P).length → 0 ≤ y → y < (ndsP N P).length → ((ndsP N P).getD x.toNat 0 = (ndsP N P).getD y.toNat 0) → x = y := fun x y hx hx2 hy hy2 h => by
  refine Classical.byContradiction fun hn => ?_
  rcases (by omega : x < y ∨ y < x) with e | e
  ·have := nds_mono (N := N) (p := P) (a := x.toNat) (b := y.toNat) (by omega) (by omega); omega
  ·have := nds_mono (N := N) (p := P) (a := y.toNat) (b := x.toNat) (by omega) (by omega); omega
 unfold plt at hab ⊢
 rcases hab with h | ⟨h1, h2⟩
 ·exact .inl (mono _ _ p1 p2 q1 q2 (by omega))
 ·exact .inr ⟨inj _ _ p1 p2 q1 q2 (by omega), mono _ _ p3 p4 q3 q4 (by omega)⟩

theorem Induced_plain (h : GVal g) (hg : g.L.length ≤ 100000) {nodes : List Int} (hn : nodes.length ≤ 1000) :
  T (graph_Induced_m g nodes) fun r => GVal r ∧ r.L.length ≤ g.L.length ∧ r.N = ((ndsP g.N.toNat fun k => decide ((k : Int) ∈ nodes)).length : Int) ∧
   ∀ p, p ∈ r.L ↔ ∃ a ∈ g.L, RelP (ndsP g.N.toNat fun k => decide ((k : Int) ∈ nodes)) a p := by
 have h40 := h.n1; have h0 := h.n0
 have hln := nds_len (N := g.N.toNat) (p := fun k => decide ((k : Int) ∈ nodes))
 unfold graph_Induced_m graph_proper_m
 rw [gValidate_plain h (by omega), some_bind, show ((0 : Int) != 0) = false from rfl, cond_false, some_bind]
 refine T.bind (P := fun q => q = il (ndsP g.N.toNat fun k => decide ((k : Int) ∈ nodes))) ?_ fun q hq => ?_
 ·refine T.loopK g.N.toNat (fun k s => k ≤ g.N.toNat ∧ s = ((k : Int), il (ndsP k fun k => decide ((k : Int) ∈ nodes)))) ⟨by omega, rfl⟩ ?_
  rintro k _ ⟨hk, rfl⟩
  dsimp only [graph_Induced_l1]
  refine T.cond (fun c => ?_) fun c => ?_
  ·have hk2 : k < g.N.toNat := by have := of_decide_eq_true c; omega
   have hl2 := nds_len (N := k) (p := fun k => decide ((k : Int) ∈ nodes))
   rw [ContS_plain hn, some_bind, iadd1 (by omega)]
   refine T.cond (fun c2 => ?_) fun c2 => ?_
   ·rw [appM_eq (by simp; omega), some_bind]
    refine .ret ⟨hk2, hk2, ?_⟩
    rw [ndsP_succ, c2, if_pos rfl]; simp [il]
   ·refine .ret ⟨hk2, hk2, ?_⟩
    rw [ndsP_succ, c2]; simp
  ·have e : k = g.N.toNat := by have := of_decide_eq_false c; omega
   subst e; exact .ret rfl
 ·subst hq
  generalize hl : (ndsP g.N.toNat fun k => decide ((k : Int) ∈ nodes)) = l at *
  refine T.bind (P := fun q : List T_api_Pair => q.length ≤ g.L.length ∧ q.Pairwise plt ∧ ∀ p, p ∈ q ↔ ∃ a ∈ g.L, RelP l a p) ?_ fun q ⟨q1, q2, q3⟩ => ?_
  ·refine T.loopK g.L.length (fun k s => k ≤ g.L.length ∧ s.1 = (k : Int) ∧ s.2.length ≤ k ∧ s.2.Pairwise plt ∧ ∀ p, p ∈ s.2 ↔ ∃ a ∈ g.L.take k, RelP l a p) ⟨by omega, rfl, by simp, by simp, by simp⟩ ?_
   rintro k ⟨_, out⟩ ⟨hk, rfl, hlen, hpw, hm⟩
   dsimp only at hlen hpw hm
   dsimp only [graph_Induced_l2]
   refine T.cond (fun c => ?_) fun c => ?_
   ·have hk2 : k < g.L.length := by simpa using c
    have tk : g.L.take (k + 1) = g.L.take k ++ [g.L[k]] := by rw [List.take_add_one, List.getElem?_eq_getElem hk2]; rfl
    have hilL : (il l).length ≤ 1000 := by simp; omega
    have no : ∀ {x : Int} {m : Int}, x ∉ il l → 0 ≤ m → m < l.length → ((l.getD m.toNat 0 : Nat) : Int) ≠ x := fun {x m} hx h1 h2 e => hx (by
     rw [← e]; unfold il
     have : m.toNat < l.length := by omega
     exact List.mem_map.2 ⟨l.getD m.toNat 0, by simp [List.getD, this], rfl⟩)
    have skip : (∀ p, ¬ RelP l g.L[k] p) → ∀ p, p ∈ out ↔ ∃ a ∈ g.L.take (k + 1), RelP l a p := fun hno p => by
     rw [hm, tk]
     constructor
     ·rintro ⟨a, ha, hr⟩; exact ⟨a, List.mem_append_left _ ha, hr⟩
     ·rintro ⟨a, ha, hr⟩
      rcases List.mem_append.1 ha with ha | ha
      ·exact ⟨a, ha, hr⟩
      ·rw [List.mem_singleton.1 ha] at hr; exact absurd hr (hno p)
    rw [idxM_nat hk2, some_bind, iadd1 (by omega)]
    refine T.bind (IndexS_plain hilL) fun f hf => T.bind (IndexS_plain hilL) fun t ht => T.join ?_
    rcases hf with ⟨rfl, hf⟩ | ⟨f, rfl, hf1, hf2⟩
    ·rw [show decide ((-1 : Int) ≥ 0) = false from rfl, cond_false]; dsimp only; rw [cond_false]
     exact .ret ⟨hk2, hk2, rfl, by simp only; omega, hpw, skip fun p hp => no hf hp.1 hp.2.1 hp.2.2.2.2.1⟩
    ·rw [show decide ((f : Int) ≥ 0) = true by simp, cond_true]
     rcases ht with ⟨rfl, ht⟩ | ⟨t, rfl, ht1, ht2⟩
     ·rw [show decide ((-1 : Int) ≥ 0) = false from rfl]; dsimp only; rw [cond_false]
      exact .ret ⟨hk2, hk2, rfl, by simp only; omega, hpw, skip fun p hp => no ht hp.2.2.1 hp.2.2.2.1 hp.2.2.2.2.2⟩
     ·rw [show decide ((t : Int) ≥ 0) = true by simp]; dsimp only; rw [cond_true, appM_eq (by simp; omega), some_bind]
      rw [getD_il] at hf2 ht2
      simp only [il_len] at hf1 ht1
      have hrel : RelP l g.L[k] ⟨(f : Int), (t : Int)⟩ := ⟨by simp, by simp only; omega, by simp, by simp only; omega, by simpa using hf2, by simpa using ht2⟩
      have huniq : ∀ p, RelP l g.L[k] p → p = ⟨(f : Int), (t : Int)⟩ := fun p hp => by
       refine plt_tri (fun hlt => ?_) fun hlt => ?_
       ·obtain ⟨a1, a2, a3, a4, a5, a6⟩ := hp
        unfold plt at hlt; simp only at hlt
        subst hl
        rcases hlt with e | ⟨e, e2⟩
        ·have := nds_mono (N := g.N.toNat) (p := fun k => decide ((k : Int) ∈ nodes)) (a := p.From.toNat) (b := f) hf1 (by omega); omega
        ·have := nds_mono (N := g.N.toNat) (p := fun k => decide ((k : Int) ∈ nodes)) (a := p.To.toNat) (b := t) ht1 (by omega); omega
       ·obtain ⟨a1, a2, a3, a4, a5, a6⟩ := hp
        unfold plt at hlt; simp only at hlt
        subst hl
        rcases hlt with e | ⟨e, e2⟩
        ·have := nds_mono (N := g.N.toNat) (p := fun k => decide ((k : Int) ∈ nodes)) (a := f) (b := p.From.toNat) (by omega) (by omega); omega
        ·have := nds_mono (N := g.N.toNat) (p := fun k => decide ((k : Int) ∈ nodes)) (a := t) (b := p.To.toNat) (by omega) (by omega); omega
      refine .ret ⟨hk2, hk2, rfl, by simp; omega, ?_, fun p => ?_⟩
      ·refine List.pairwise_append.2 ⟨hpw, by simp, fun p hp q hq => ?_⟩
       rw [List.mem_singleton.1 hq]
       obtain ⟨a, ha, hr⟩ := (hm p).1 hp
       obtain ⟨j, hj, rfl⟩ := List.getElem_of_mem ha
       rw [List.getElem_take] at hr
       have hjk : j < k := by simp at hj; omega
       have := List.pairwise_iff_getElem.1 h.s j k (by omega) hk2 hjk
       subst hl
       exact plt_rel this hr hrel
      ·rw [List.mem_append, hm, tk, List.mem_singleton]
       constructor
       ·rintro (⟨a, ha, hr⟩ | rfl)
        ·exact ⟨a, List.mem_append_left _ ha, hr⟩
        ·exact ⟨_, List.mem_append_right _ (by simp), hrel⟩
       ·rintro ⟨a, ha, hr⟩
        rcases List.mem_append.1 ha with ha | ha
        ·exact .inl ⟨a, ha, hr⟩
        ·rw [List.mem_singleton.1 ha] at hr; exact .inr (huniq p hr)
   ·have e : k = g.L.length := by have : ¬ (k : Int) < g.L.length := of_decide_eq_false c; omega
    subst e
    rw [List.take_length] at hm
    exact .ret ⟨hlen, hpw, hm⟩
  ·refine .ret ⟨⟨by simp, by simp; omega, fun p hp => ?_, q2⟩, q1, by simp, q3⟩
   obtain ⟨a, _, hr⟩ := (q3 p).1 hp
   simp only [il_len]
   exact ⟨hr.1, hr.2.1, hr.2.2.1, hr.2.2.2.1⟩

theorem Induced_emb (h : GVal g) (hg : g.L.length ≤ 100000) {nodes : List Int} (hn : nodes.length ≤ 1000) :
  T (graph_Induced_m g nodes) fun r => GVal r ∧ r.L.length ≤ g.L.length ∧ r.N = ((ndsP g.N.toNat fun k => decide ((k : Int) ∈ nodes)).length : Int) ∧
   Emb g r (fun i => i < g.N.toNat ∧ (i : Int) ∈ nodes) r.N.toNat fun a => (ndsP g.N.toNat fun k => decide ((k : Int) ∈ nodes)).getD a 0 := by
 refine (Induced_plain h hg hn).mono fun r ⟨h1, h2, h3, h4⟩ => ⟨h1, h2, h3, ?_⟩
 rw [h3, Int.toNat_natCast]
 refine ⟨fun a b ha hb e => ?_, fun a ha => ?_, fun x ⟨hx, hx2⟩ => nds_at hx (by simpa using hx2), fun a b ha hb => ?_⟩
 ·refine Classical.byContradiction fun hne => ?_
  rcases (by omega : a < b ∨ b < a) with hh | hh
  ·have := nds_mono (N := g.N.toNat) (p := fun k => decide ((k : Int) ∈ nodes)) hb hh; omega
  ·have := nds_mono (N := g.N.toNat) (p := fun k => decide ((k : Int) ∈ nodes)) ha hh; omega
 ·obtain ⟨q1, q2⟩ := nds_mem ha; exact ⟨q1, by simpa using q2⟩
 ·unfold att
  constructor
  ·rintro ⟨p, hp, e1, e2⟩
   obtain ⟨q, hq, hr⟩ := (h4 p).1 hp
   obtain ⟨a1, a2, a3, a4, a5, a6⟩ := hr
   rw [e1, Int.toNat_natCast] at a5
   rw [e2, Int.toNat_natCast] at a6
   exact ⟨q, hq, a5.symm, a6.symm⟩
  ·rintro ⟨q, hq, e1, e2⟩
   exact ⟨⟨(a : Int), (b : Int)⟩, (h4 _).2 ⟨q, hq, by simp, by simp only; omega, by simp, by simp only; omega, by simp [e1], by simp [e2]⟩, rfl, rfl⟩
end Go.Dc
