/- Part P52.World of a proof: lemmas. -/
import Derived.Test.YtkkgghdjclkknaaGreatDoorP52SortC
import Derived.Test.YtkkgghdjclkknaaGreatDoorLAWTEF
import Derived.Test.YtkkgghdjclkknaaGreatDoorP52KeyI
import Derived.Test.YtkkgghdjclkknaaGreatDoorLAWTEW
import Derived.KernelRfl
set_option linter.unusedVariables false
set_option maxHeartbeats 4000000
set_option linter.unusedSimpArgs false
set_option linter.unusedSectionVars false
namespace Go.Dc
abbrev FdR := Int × List Int × List (ByteArray × Int) × Int × Bool × List (List Int) × List aB
structure Post (n : Int) (L : List (List Int)) (V F : List Int) (u : Nat) (C : List (List Int)) (S : List aB) (nd : Int) (r : FdR) : Prop where
 inv : I8 n L r.2.2.2.2.2.1 r.2.2.1 r.2.2.2.2.2.2
 YG : (r.2.1.length : Int) = n
 nd0 : nd ≤ r.2.2.2.1
 Tc : r.2.2.2.1 + 1 ≤ nd + ((2 ^ (u + 1) : Nat) : Int)
 JJ : C.length ≤ r.2.2.2.2.2.1.length
 ext : ∀ i, i < C.length → r.2.2.2.2.2.1.getD i [] = C.getD i []
 NS : (r.2.2.2.2.2.2.length : Int) - S.length ≤ r.2.2.2.1 - nd
 sure : nd + ((2 ^ (u + 1) : Nat) : Int) ≤ 8192 → (S.length : Int) ≤ nd → QZ L n ≤ 12 → r.2.2.2.2.1 = false
 big : r.2.2.2.2.1 = false → r.2.2.2.1 ≤ 9000
 res : r.2.2.2.2.1 = false → (r.1 = -1 ∧ VV n r.2.1 ∧ ∀ c ∈ r.2.2.2.2.2.1, ∃ y ∈ c, fU r.2.1 y = 1) ∨
  (0 ≤ r.1 ∧ r.1 < r.2.2.2.2.2.1.length ∧ r.2.1 = V ∧ Du F (r.2.2.2.2.2.1.getD r.1.toNat []) ∧ ∀ i, i < r.2.2.2.2.2.1.length → r.2.2.2.2.2.1.getD i [] = [] → (i : Int) = r.1 ∧ i + 1 = r.2.2.2.2.2.1.length)
abbrev FindT := List Int → List (List Int) → List (ByteArray × Int) → List aB → Int → Bool → Option FdR
def Good (n : Int) (L : List (List Int)) (r : FindT) (u : Nat) : Prop :=
 ∀ V C K S nd, I8 n L C K S → VV n V → (∀ c ∈ C, c ≠ []) → 0 ≤ nd → nd ≤ 9000 → opn L V < u → T (r V C K S nd false) (Post n L V V (opn L V) C S nd)
theorem Mk {a b : Nat} (h : a ≤ b) : ((2 ^ a : Nat) : Int) ≤ ((2 ^ b : Nat) : Int) := by exact_mod_cast Nat.pow_le_pow_right (by decide) h
theorem Rz {a : Nat} : 1 ≤ ((2 ^ a : Nat) : Int) := by exact_mod_cast Nat.one_le_two_pow
theorem pow_two {a : Nat} : ((2 ^ (a + 1) : Nat) : Int) = 2 * ((2 ^ a : Nat) : Int) := by rw [Nat.pow_succ]; omega
section
variable {n : Int} {L : List (List Int)} {r : FindT}
theorem Post.UI {V F V3 : List Int} {u : Nat} {C : List (List Int)} {S : List aB} {nd : Int} {n2 : Int} {V2 : List Int} {K2 : List (ByteArray × Int)} {ZV : Int} {st2 : Bool} {C2 : List (List Int)} {S2 : List aB}
  (hq : Post n L F F u C S nd (n2, V2, K2, ZV, st2, C2, S2)) (h3 : (V3.length : Int) = n) (h4 : st2 = false → n2 = -1 → VV n V3 ∧ ∀ c ∈ C2, ∃ y ∈ c, fU V3 y = 1) (h5 : st2 = false → 0 ≤ n2 → V3 = V) :
  Post n L V F u C S nd (n2, V3, K2, ZV, st2, C2, S2) :=
 ⟨hq.inv, h3, hq.nd0, hq.Tc, hq.JJ, hq.ext, hq.NS, hq.sure, hq.big, fun hs => by
  rcases hq.res hs with ⟨a1, a2, a3⟩ | ⟨a1, a2, a3, a4, a5⟩
  ·exact .inl ⟨a1, h4 hs a1⟩
  ·exact .inr ⟨a1, a2, h5 hs a1, a4, a5⟩⟩
theorem U8 {V : List Int} {C : List (List Int)} {K : List (ByteArray × Int)} {S : List aB} {nd : Int} {u : Nat} (hr : Good n L r u) (hI : I8 n L C K S) (hV : VV n V) (hne : ∀ c ∈ C, c ≠ []) (Ys : 0 ≤ nd) (hd : nd ≤ 9000)
  (hu : opn L V ≤ u) {x : Int} (h0 : x ≠ 0) (h1 : -n ≤ x) (h2 : x ≤ n) (ho : ZL L x.natAbs = true) (hv : fU V x = 0) :
  T (cB r V C K S nd false x) (Post n L V (sC V x 1) (opn L (sC V x 1)) C S nd) := by
 have hn1 := hI.n1
 have hlt := TN hV.len hn1 h0 h1 h2 ho hv
 unfold cB
 rw [Oj hV.len hn1 h0 h1 h2 (.inr rfl), aj]
 refine T.bind (hr (sC V x 1) C K S nd hI (setP_VV hV (.inr rfl)) hne Ys hd (by omega)) fun q hq => ?_
 obtain ⟨n2, V2, K2, ZV, st2, C2, S2⟩ := q
 have C9 : eU V2 C2 K2 S2 ZV st2 x 0 = some (sC V2 x 0) := Oj hq.YG hn1 h0 h1 h2 (.inl rfl)
 have hl3 : ((sC V2 x 0).length : Int) = n := by rw [Rk]; exact hq.YG
 dsimp only
 refine T.cond (fun h => ?_) fun h => T.cond (fun h3 => ?_) fun h3 => .ret ?_
 ·rw [C9, aj]
  have h := of_decide_eq_true h
  refine .ret (hq.UI hl3 (fun _ e => by omega) fun hs _ => ?_)
  rcases hq.res hs with ⟨a1, _⟩ | ⟨a1, a2, a3, a4, a5⟩
  ·have a1 : n2 = -1 := a1; omega
  ·have a3 : V2 = sC V x 1 := a3
   rw [a3]; exact WN hV.len h0 h1 h2 hv
 ·rw [C9, aj]
  exact .ret (hq.UI hl3 (fun hs _ => by rw [h3] at hs; cases hs) fun hs _ => by rw [h3] at hs; cases hs)
 ·have h := of_decide_eq_false h
  refine hq.UI hq.YG (fun hs e => ?_) fun hs e => by omega
  rcases hq.res hs with ⟨a1, a2, a3⟩ | ⟨a1, _⟩
  ·exact ⟨a2, a3⟩
  ·have a1 : 0 ≤ n2 := a1; omega
theorem O0 {V : List Int} {c : List Int} {x : Int} (hl : (V.length : Int) = n) (h0 : x ≠ 0) (h1 : -n ≤ x) (h2 : x ≤ n) (hc : ∀ y ∈ c, y ≠ 0) (hF : Du (sC V x 1) c) : ∀ y ∈ c, y = -x ∨ fU V y = -1 := fun y hy => by
 have h3 := hF y hy
 rw [Y4 hl h0 h1 h2 (hc y hy)] at h3
 split at h3
 ·omega
 ·split at h3
  ·left; assumption
  ·right; exact h3
theorem KR {c : List Int} {x : Int} (hc : c.length ≤ 50) : bE c x = some (decide (x ∈ c)) := yN (by omega)
theorem core_T {V : List Int} {C : List (List Int)} {K : List (ByteArray × Int)} {S : List aB} {nd : Int} (hr : Good n L r (opn L V)) (hI : I8 n L C K S) (hV : VV n V) (hne : ∀ c ∈ C, c ≠ []) (Ys : 0 ≤ nd) (hd : nd + 1 ≤ 9000)
  {unit x : Int} (h0 : x ≠ 0) (hxc : ∃ c ∈ C, x ∈ c) (hv : fU V x = 0) (hun : unit = -1 ∨ 0 ≤ unit ∧ unit < C.length ∧ SX V (C.getD unit.toNat []) x) :
  T ((cB r V C K S (nd + 1) false x).bind fun aY =>
 bif decide (aY.1 < 0) then
 some ((aY.1, aY.2.1, aY.2.2.1, aY.2.2.2.1, aY.2.2.2.2.1, aY.2.2.2.2.2.1, aY.2.2.2.2.2.2))
 else
 bif aY.2.2.2.2.1 then
 some ((aY.1, aY.2.1, aY.2.2.1, aY.2.2.2.1, aY.2.2.2.2.1, aY.2.2.2.2.2.1, aY.2.2.2.2.2.2))
 else
(aL aY.2.2.2.2.2.1 aY.1).bind fun t12 =>
(bE t12 (pZ .i64 x)).bind fun t13 =>
 bif !t13 then
 some ((aY.1, aY.2.1, aY.2.2.1, aY.2.2.2.1, aY.2.2.2.2.1, aY.2.2.2.2.2.1, aY.2.2.2.2.2.2))
 else
 bif decide (unit < 0) then
(cB r aY.2.1 aY.2.2.2.2.2.1 aY.2.2.1 aY.2.2.2.2.2.2 aY.2.2.2.1 aY.2.2.2.2.1 (pZ .i64 x)).bind fun bq =>
 bif decide (bq.1 < 0) then
 some ((bq.1, bq.2.1, bq.2.2.1, bq.2.2.2.1, bq.2.2.2.2.1, bq.2.2.2.2.2.1, bq.2.2.2.2.2.2))
 else
 bif bq.2.2.2.2.1 then
 some ((bq.1, bq.2.1, bq.2.2.1, bq.2.2.2.1, bq.2.2.2.2.1, bq.2.2.2.2.2.1, bq.2.2.2.2.2.2))
 else
(aL bq.2.2.2.2.2.1 bq.1).bind fun t15 =>
(bE t15 x).bind fun t16 =>
 bif !t16 then
 some ((bq.1, bq.2.1, bq.2.2.1, bq.2.2.2.1, bq.2.2.2.2.1, bq.2.2.2.2.2.1, bq.2.2.2.2.2.2))
 else
(dU bq.2.1 bq.2.2.2.2.2.1 bq.2.2.1 bq.2.2.2.2.2.2 bq.2.2.2.1 bq.2.2.2.2.1 bq.1 aY.1 x).bind fun t17 =>
 some ((t17.1, bq.2.1, t17.2.1, t17.2.2.1, t17.2.2.2.1, t17.2.2.2.2.1, t17.2.2.2.2.2))
 else
(dU aY.2.1 aY.2.2.2.2.2.1 aY.2.2.1 aY.2.2.2.2.2.2 aY.2.2.2.1 aY.2.2.2.2.1 unit aY.1 x).bind fun t18 =>
 some ((t18.1, aY.2.1, t18.2.1, t18.2.2.1, t18.2.2.2.1, t18.2.2.2.2.1, t18.2.2.2.2.2))) (Post n L V V (opn L V) C S nd) := by
 have hn1 := hI.n1
 obtain ⟨cx, hcx, hxm⟩ := hxc
 have hxr := (hI.ok _ hcx).NJ x hxm
 have hxo := hI.oc _ hcx x hxm
 obtain ⟨_, h1, h2⟩ := hxr
 have hlt := TN hV.len hn1 h0 h1 h2 hxo hv
 have hp := Mk (show opn L (sC V x 1) + 1 ≤ opn L V by omega)
 have Yq := pow_two (a := opn L V)
 have hp1 := Rz (a := opn L V)
 refine T.bind (U8 hr hI hV hne (by omega) hd (Nat.le_refl _) h0 h1 h2 hxo hv) fun q hq => ?_
 obtain ⟨f, V1, K1, Tc, st1, C1, S1⟩ := q
 dsimp only
 have g1 : Tc + 1 ≤ nd + 1 + ((2 ^ (opn L (sC V x 1) + 1) : Nat) : Int) := hq.Tc
 have g0 : nd + 1 ≤ Tc := hq.nd0
 have gS : (S1.length : Int) - S.length ≤ Tc - (nd + 1) := hq.NS
 have gC : C.length ≤ C1.length := hq.JJ
 have gext : ∀ i, i < C.length → C1.getD i [] = C.getD i [] := hq.ext
 have qsure : nd + 1 + ((2 ^ (opn L (sC V x 1) + 1) : Nat) : Int) ≤ 8192 → (S.length : Int) ≤ nd + 1 → QZ L n ≤ 12 → st1 = false := hq.sure
 have gsure : nd + ((2 ^ (opn L V + 1) : Nat) : Int) ≤ 8192 → (S.length : Int) ≤ nd → QZ L n ≤ 12 → st1 = false := fun a b c => qsure (by omega) (by omega) c
 -- an answer that goes up
 have up : ∀ (hres : st1 = false → (f = -1 ∧ VV n V1 ∧ ∀ c ∈ C1, ∃ y ∈ c, fU V1 y = 1) ∨ (0 ≤ f ∧ f < C1.length ∧ V1 = V ∧ Du V (C1.getD f.toNat []) ∧ ∀ i, i < C1.length → C1.getD i [] = [] → (i : Int) = f ∧ i + 1 = C1.length)),
   Post n L V V (opn L V) C S nd (f, V1, K1, Tc, st1, C1, S1) := fun hres =>
  ⟨hq.inv, hq.YG, by dsimp only; omega, by dsimp only; omega, gC, hq.ext, by dsimp only; omega, gsure, hq.big, hres⟩
 refine T.cond (fun h => .ret (up fun hs => ?_)) fun h => T.cond (fun h3 => .ret (up fun hs => by rw [h3] at hs; cases hs)) fun h3 => ?_
 ·have h := of_decide_eq_true h
  rcases hq.res hs with a | ⟨a1, _⟩
  ·exact .inl a
  ·have a1 : 0 ≤ f := a1; omega
 have h := of_decide_eq_false h
 obtain ⟨a1, a2, a3, a4, a5⟩ : 0 ≤ f ∧ f < C1.length ∧ V1 = V ∧ Du (sC V x 1) (C1.getD f.toNat []) ∧ ∀ i, i < C1.length → C1.getD i [] = [] → (i : Int) = f ∧ i + 1 = C1.length := by
  rcases hq.res h3 with ⟨a1, _⟩ | a
  ·have a1 : f = -1 := a1; omega
  ·exact a
 subst a3
 have hfm : C1.getD f.toNat [] ∈ C1 := jQ (by omega)
 have hfok := hq.inv.ok _ hfm
 rw [Cd [] a1 a2, aj, pY (by omega) (by omega), KR hfok.len, aj]
 have hfal := O0 hV.len h0 h1 h2 (fun y hy => (hfok.NJ y hy).1) a4
 refine T.cond (fun h4 => .ret (up fun _ => .inr ⟨a1, a2, rfl, fun y hy => ?_, a5⟩)) fun h4 => ?_
 ·have h4 : ¬ (-x ∈ C1.getD f.toNat []) := by simpa using h4
  rcases hfal y hy with e | e
  ·subst e; exact absurd hy h4
  ·exact e
 have h4 : -x ∈ C1.getD f.toNat [] := by simpa using h4
 have hne1 : ∀ c ∈ C1, c ≠ [] := fun c hc e => by
  subst e
  obtain ⟨i, hi, ei⟩ := List.getElem_of_mem hc
  have hgi : C1.getD i [] = [] := by simp [List.getD, hi, ei]
  have h5 := (a5 i hi hgi).1
  have h6 : f.toNat = i := by omega
  rw [h6, hgi] at h4; simp at h4
 have hd1 : Tc ≤ 9000 := hq.big h3
 have h3' : st1 = false := h3
 subst h3'
 refine T.cond (fun h5 => ?_) fun h5 => ?_
 · -- both ways are tried
  have hvn : fU V1 (-x) = 0 := by rw [Rb h0, hv]; rfl
  have hlt2 := TN hV.len hn1 (show -x ≠ 0 by omega) (by omega) (by omega) (by rw [Int.natAbs_neg]; exact hxo) hvn
  have hp2 := Mk (show opn L (sC V1 (-x) 1) + 1 ≤ opn L V1 by omega)
  refine T.bind (U8 hr hq.inv hV hne1 (by omega) hd1 (Nat.le_refl _) (show -x ≠ 0 by omega) (by omega) (by omega) (by rw [Int.natAbs_neg]; exact hxo) hvn) fun q2 hu => ?_
  obtain ⟨un, V2, K2, ZV, st2, C2, S2⟩ := q2
  dsimp only
  have k1 : ZV + 1 ≤ Tc + ((2 ^ (opn L (sC V1 (-x) 1) + 1) : Nat) : Int) := hu.Tc
  have k0 : Tc ≤ ZV := hu.nd0
  have kS : (S2.length : Int) - S1.length ≤ ZV - Tc := hu.NS
  have kC : C1.length ≤ C2.length := hu.JJ
  have uext : ∀ i, i < C1.length → C2.getD i [] = C1.getD i [] := hu.ext
  have usure : Tc + ((2 ^ (opn L (sC V1 (-x) 1) + 1) : Nat) : Int) ≤ 8192 → (S1.length : Int) ≤ Tc → QZ L n ≤ 12 → st2 = false := hu.sure
  have kext : ∀ i, i < C.length → C2.getD i [] = C.getD i [] := fun i hi => (uext i (by omega)).trans (gext i hi)
  have ksure : nd + ((2 ^ (opn L V1 + 1) : Nat) : Int) ≤ 8192 → (S.length : Int) ≤ nd → QZ L n ≤ 12 → st2 = false := fun a b c => usure (by omega) (by omega) c
  have up2 : ∀ (hres : st2 = false → (un = -1 ∧ VV n V2 ∧ ∀ c ∈ C2, ∃ y ∈ c, fU V2 y = 1) ∨ (0 ≤ un ∧ un < C2.length ∧ V2 = V1 ∧ Du V1 (C2.getD un.toNat []) ∧ ∀ i, i < C2.length → C2.getD i [] = [] → (i : Int) = un ∧ i + 1 = C2.length)),
    Post n L V1 V1 (opn L V1) C S nd (un, V2, K2, ZV, st2, C2, S2) := fun hres =>
   ⟨hu.inv, hu.YG, by dsimp only; omega, by dsimp only; omega, by dsimp only; omega, kext, by dsimp only; omega, ksure, hu.big, hres⟩
  refine T.cond (fun h6 => .ret (up2 fun hs => ?_)) fun h6 => T.cond (fun h7 => .ret (up2 fun hs => by rw [h7] at hs; cases hs)) fun h7 => ?_
  ·have h6 := of_decide_eq_true h6
   rcases hu.res hs with a | ⟨b1, _⟩
   ·exact .inl a
   ·have b1 : 0 ≤ un := b1; omega
  have h6 := of_decide_eq_false h6
  obtain ⟨b1, b2, b3, b4, b5⟩ : 0 ≤ un ∧ un < C2.length ∧ V2 = V1 ∧ Du (sC V1 (-x) 1) (C2.getD un.toNat []) ∧ ∀ i, i < C2.length → C2.getD i [] = [] → (i : Int) = un ∧ i + 1 = C2.length := by
   rcases hu.res h7 with ⟨b1, _⟩ | b
   ·have b1 : un = -1 := b1; omega
   ·exact b
  subst b3
  have hum : C2.getD un.toNat [] ∈ C2 := jQ (by omega)
  have huok := hu.inv.ok _ hum
  rw [Cd [] b1 b2, aj, KR huok.len, aj]
  have hual := O0 hV.len (show -x ≠ 0 by omega) (by omega) (by omega) (fun y hy => (huok.NJ y hy).1) b4
  rw [Int.neg_neg] at hual
  refine T.cond (fun h8 => .ret (up2 fun _ => .inr ⟨b1, b2, rfl, fun y hy => ?_, b5⟩)) fun h8 => ?_
  ·have h8 : ¬ (x ∈ C2.getD un.toNat []) := by simpa using h8
   rcases hual y hy with e | e
   ·subst e; exact absurd hy h8
   ·exact e
  have h8 : x ∈ C2.getD un.toNat [] := by simpa using h8
  have hne2 : ∀ c ∈ C2, c ≠ [] := fun c hc e => by
   subst e
   obtain ⟨i, hi, ei⟩ := List.getElem_of_mem hc
   have hgi : C2.getD i [] = [] := by simp [List.getD, hi, ei]
   have h9 := (b5 i hi hgi).1
   have h10 : un.toNat = i := by omega
   rw [h10, hgi] at h8; simp at h8
  have h7' : st2 = false := h7
  subst h7'
  have hfe : C2.getD f.toNat [] = C1.getD f.toNat [] := uext f.toNat (by omega)
  refine T.bind (KF hu.inv hV hne2 h0 b1 b2 a1 (show f < ((C2.length : Nat) : Int) by omega) h8 (by rw [hfe]; exact h4) hual (by rw [hfe]; exact hfal)) fun l hl0 => .ret ?_
  have hl : LPost n L V2 C2 S2 ZV l := hl0
  have l1 := hl.nd
  have l2 := hl.NS
  have l3 := hl.JJ
  have hd2 : ZV ≤ 9000 := hu.big rfl
  refine ⟨hl.inv, hV.len, by dsimp only; omega, by dsimp only; omega, by dsimp only; omega, fun i hi => (hl.ext i (by omega)).trans (kext i hi), by dsimp only; omega, fun c1 c2 c3 => hl.sure (by omega) (by omega), fun _ => by dsimp only; omega, fun hs => .inr ?_⟩
  obtain ⟨m1, m2, m3, m4⟩ := hl.res hs
  exact ⟨m1, m2, rfl, m3, m4⟩
 ·have h5 := of_decide_eq_false h5
  obtain ⟨u1, u2, u3, u4, u5⟩ := hun.resolve_left (by omega)
  have hue : C1.getD unit.toNat [] = C.getD unit.toNat [] := gext unit.toNat (by omega)
  refine T.bind (KF hq.inv hV hne1 h0 u1 (show unit < ((C1.length : Nat) : Int) by omega) a1 a2 (by rw [hue]; exact u3) h4 (by rw [hue]; exact u5) hfal) fun l hl0 => .ret ?_
  have hl : LPost n L V1 C1 S1 Tc l := hl0
  have l1 := hl.nd
  have l2 := hl.NS
  have l3 := hl.JJ
  refine ⟨hl.inv, hV.len, by dsimp only; omega, by dsimp only; omega, by dsimp only; omega, fun i hi => (hl.ext i (by omega)).trans (gext i hi), by dsimp only; omega, fun c1 c2 c3 => hl.sure (by omega) (by omega), fun _ => by dsimp only; omega, fun hs => .inr ?_⟩
  obtain ⟨m1, m2, m3, m4⟩ := hl.res hs
  exact ⟨m1, m2, rfl, m3, m4⟩
end
end Go.Dc
namespace Go.Dc
section
variable {n : Int} {L : List (List Int)} {r : FindT}
theorem find_b_T {V : List Int} {C : List (List Int)} {K : List (ByteArray × Int)} {S : List aB} {nd : Int} (hr : Good n L r (opn L V)) (hI : I8 n L C K S) (hV : VV n V) (hne : ∀ c ∈ C, c ≠ []) (Ys : 0 ≤ nd) (hd : nd ≤ 9000) :
  T (eA r V C K S nd false) (Post n L V V (opn L V) C S nd) := by
 have hn1 := hI.n1
 have hlen : C.length ≤ 100000 := by have := hI.JJ; have := hI.lenL; have := hI.NS; omega
 have Yq := pow_two (a := opn L V)
 have hp1 := Rz (a := opn L V)
 have e1 : aN .i64 nd 1 = nd + 1 := iz (by omega) (by omega)
 unfold eA
 rw [e1]
 refine T.AV (P := fun j => j.1 = nd + 1 ∧ (j.2 = true ∧ 9000 < nd + 1 ∨ j.2 = false ∧ nd + 1 ≤ 9000)) ?_ ?_
 rotate_left
 ·intro k hk
  refine T.cond (fun h => hk _ ⟨rfl, .inl ⟨rfl, by simpa using h⟩⟩) fun h => hk _ ⟨rfl, .inr ⟨rfl, by simpa using h⟩⟩
 rintro ⟨nd', st'⟩ ⟨e, hs⟩
 dsimp only at e hs
 subst e
 rcases hs with ⟨rfl, h9⟩ | ⟨rfl, h9⟩
 ·rw [cond_true]
  exact .ret ⟨hI, hV.len, by dsimp only; omega, by dsimp only; omega, Nat.le_refl _, fun i hi => rfl, by dsimp only; omega, fun c1 _ _ => by omega, fun h => (by cases h), fun h => (by cases h)⟩
 rw [cond_false]
 refine T.bind (T2 hV hn1 hI.ok hlen) fun t ht => ?_
 obtain ⟨unit, x⟩ := t
 -- an answer that is clear now
 have now : ∀ res : Int, ((res = -1 ∧ VV n V ∧ ∀ c ∈ C, ∃ y ∈ c, fU V y = 1) ∨ (0 ≤ res ∧ res < C.length ∧ Du V (C.getD res.toNat []))) → Post n L V V (opn L V) C S nd (res, V, K, nd + 1, false, C, S) := fun res h =>
  ⟨hI, hV.len, by dsimp only; omega, by dsimp only; omega, Nat.le_refl _, fun i hi => rfl, by dsimp only; omega, fun _ _ _ => rfl, fun _ => by dsimp only; omega, fun _ => by
   rcases h with h | ⟨a1, a2, a3⟩
   ·exact .inl h
   ·exact .inr ⟨a1, a2, rfl, a3, fun i hi he => absurd he (hne _ (jQ hi))⟩⟩
 dsimp only
 refine T.AV (P := fun _ => unit = -1 ∧ x = 0 ∧ (∀ c ∈ C, OpnC V c) ∨ 0 ≤ unit ∧ unit < C.length ∧ x ≠ 0 ∧ SX V (C.getD unit.toNat []) x) ?_ ?_
 rotate_left
 ·intro k hk
  rcases ht with ⟨h1, h2, h3⟩ | ⟨h1, h2, h3⟩
  ·dsimp only at h1 h2
   subst h1
   rw [show decide ((-1 : Int) ≥ 0) = false from rfl, cond_false]
   exact hk _ (.inl ⟨rfl, h2, h3⟩)
  ·dsimp only at h1 h2 h3
   rw [show decide (unit ≥ 0) = true from decide_eq_true h1, cond_true]
   refine T.cond (fun h4 => .ret (now unit (.inr ⟨h1, h2, ?_⟩))) fun h4 => hk _ (.inr ⟨h1, h2, ?_⟩)
   ·have h4 := eq_of_beq h4
    rcases h3 with ⟨_, h5⟩ | ⟨h5, _⟩
    ·exact h5
    ·exact absurd h4 h5
   ·rcases h3 with ⟨h5, _⟩ | h5
    ·rw [h5] at h4; cases h4
    ·exact h5
 intro _ hux
 refine T.AV (P := fun j => j ≠ 0 ∧ (∃ c ∈ C, j ∈ c) ∧ fU V j = 0 ∧ (unit = -1 ∨ 0 ≤ unit ∧ unit < C.length ∧ SX V (C.getD unit.toNat []) j)) ?_ ?_
 ·rintro j ⟨j0, j1, j2, j3⟩
  exact core_T hr hI hV hne Ys h9 j0 j1 j2 j3
 ·intro k hk
  rcases hux with ⟨rfl, rfl, h3⟩ | ⟨h1, h2, h3, h4⟩
  ·rw [show decide ((-1 : Int) < 0) = true from rfl, cond_true]
   refine T.bind (QC hV hn1 hI.ok hlen h3) fun y hy => ?_
   rcases hy with ⟨rfl, h5⟩ | ⟨h5, h6, h7⟩
   ·exact .ret (now (-1) (.inl ⟨rfl, hV, h5⟩))
   ·rw [show (y == 0) = false from beq_false_of_ne h5, cond_false]
    exact hk _ ⟨h5, h7, h6, .inl rfl⟩
  ·rw [show decide (unit < 0) = false from decide_eq_false (by omega), cond_false]
   exact hk _ ⟨h3, ⟨_, jQ (by omega), h4.1⟩, h4.2.1, .inr ⟨h1, h2, h4⟩⟩
end
theorem Sd {n : Int} {L : List (List Int)} : ∀ u, Good n L (cV u) u
 | 0 => fun V C K S nd _ _ _ _ _ h => absurd h (by omega)
 | u + 1 => fun V C K S nd hI hV hne Ys hd hu => find_b_T (r := cV u) (fun V' C' K' S' nd' a b c d e f => Sd u V' C' K' S' nd' a b c d e (by omega)) hI hV hne Ys hd
theorem find_m_T {n : Int} {L : List (List Int)} {V : List Int} {C : List (List Int)} {K : List (ByteArray × Int)} {S : List aB} {nd : Int} (hI : I8 n L C K S) (hV : VV n V) (hne : ∀ c ∈ C, c ≠ []) (Ys : 0 ≤ nd) (hd : nd ≤ 9000) :
  T (pS V C K S nd false) (Post n L V V (opn L V) C S nd) := by
 obtain ⟨q, h1, h2⟩ := Sd (n := n) (L := L) (opn L V + 1) V C K S nd hI hV hne Ys hd (by omega)
 exact ⟨q, BQ h1, h2⟩
end Go.Dc
set_option maxHeartbeats 1000000
namespace Go.Dc
def SolR (n : Int) (l : List (List Int)) (r : bW × Int) : Prop :=
 r = (⟨false, [], []⟩, 2) ∧ 12 < QZ l n ∨
 r.2 = 0 ∧ r.1.Sat = true ∧ r.1.Steps = [] ∧ (r.1.Model.length : Int) = n ∧ Y6 l r.1.Model = true ∨
 r.2 = 0 ∧ r.1.Sat = false ∧ r.1.Model = [] ∧ r.1.Steps.length ≤ 20000 ∧ TF l r.1.Steps = true
theorem RL {V : List Int} {C : List (List Int)} {K : List (ByteArray × Int)} {S : List aB} {nd : Int} {st : Bool} (hl : V.length ≤ 200) : kG V C K S nd st = some (V.map fun v => decide (v > 0)) := by
 unfold kG
 have h : T (aI (nE V) (0, [])) (· = V.map fun v => decide (v > 0)) := by
  refine T.cS V.length (fun k s => s.1 = (k : Int) ∧ k ≤ V.length ∧ s.2 = (V.take k).map fun v => decide (v > 0)) ⟨rfl, by omega, rfl⟩ ?_
  rintro k ⟨i, o⟩ ⟨e, hk, ho⟩
  dsimp only at e ho
  subst e
  unfold nE
  dsimp only
  refine T.cond (fun h => ?_) fun h => .ret ?_
  ·have hk2 : k < V.length := by simpa using h
   have hol : o.length ≤ 200 := by rw [ho]; simp; omega
   rw [a_ hk2, aj, cL (by simp; omega), aj, cN (by omega)]
   refine .ret ⟨hk2, rfl, hk2, ?_⟩
   rw [← List.take_append_getElem hk2, List.map_append, ho]; rfl
  ·have : k = V.length := by simp at h; omega
   subst this
   rw [ho, List.take_length]
 rw [h.eq]; rfl
theorem aag {V : List Int} {x : Int} (h0 : x ≠ 0) (hx : (x.natAbs : Int) ≤ V.length) (h : fU V x = 1) : uD (V.map fun v => decide (v > 0)) x = true := by
 have hi : x.natAbs - 1 < V.length := by omega
 unfold uD
 rw [show (V.map fun v => decide (v > 0)).getD (x.natAbs - 1) false = decide (V.getD (x.natAbs - 1) 0 > 0) by simp [List.getD, hi]]
 unfold fU at h
 split at h
 ·rename_i hp
  rw [h]; simp [hp]
 ·rename_i hp
  have : V.getD (x.natAbs - 1) 0 = -1 := by omega
  rw [this]; simp; omega
theorem inv_run {n : Int} {L C : List (List Int)} {K : List (ByteArray × Int)} {S : List aB} (h : I8 n L C K S) : CY L S = some C := by
 have hl := h.JJ
 suffices hh : ∀ j, j ≤ S.length → CY L (S.take j) = some (C.take (L.length + j)) by
  have := hh S.length (Nat.le_refl _)
  rw [List.take_length, List.take_of_length_le (by omega)] at this
  exact this
 intro j
 induction j with
 | zero =>
  intro _
  simp only [List.take_zero, CY, Nat.add_zero]
  congr 1
  apply List.ext_getElem
  ·simp; omega
  ·intro i h1 h2
   have := h.pre i h1
   simp only [List.getD, List.getElem?_eq_getElem h1, List.getElem?_eq_getElem (show i < C.length by omega), Option.getD_some] at this
   rw [List.getElem_take]; exact this.symm
 | succ j ih =>
  intro hj
  rw [W0 hj (ih (by omega))]
  obtain ⟨q1, q2, q3, q4, q5⟩ := h.stp j hj
  have hlt : (C.take (L.length + j)).length = L.length + j := by simp; omega
  rw [YP q1 (by rw [hlt]; exact q2) q3 (by rw [hlt]; exact q4)]
  have hg : ∀ i, i < L.length + j → (C.take (L.length + j)).getD i [] = C.getD i [] := fun i hi => by
   simp [List.getD, List.getElem?_take, hi]
  rw [hg _ (by omega), hg _ (by omega), q5, if_pos rfl]
  congr 1
  have hlt2 : L.length + j < C.length := by omega
  have : C.getD (L.length + j) [] = C[L.length + j] := by simp [List.getD, hlt2]
  rw [this, show L.length + (j + 1) = L.length + j + 1 by omega, List.take_append_getElem hlt2]
theorem S0 {n : Int} {l : List (List Int)} : T (oZ n l) fun r => if EH n l = 0 then SolR n l r else r = (⟨false, [], []⟩, EH n l) := by
 unfold oZ
 rw [Ny, aj]
 by_cases hv : EH n l = 0
 rotate_left
 ·rw [show (EH n l != 0) = true by simp [hv], cond_true]
  exact .ret (by rw [if_neg hv])
 rw [hv, bne_self_eq_false, cond_false]
 obtain ⟨n0, n1, hlen, y8⟩ := Pf.1 hv
 simp only [if_true]
 rw [E3 (l := l) (fun c => if c.isEmpty = true then some ((⟨false, [], []⟩, 0) : bW × Int) else none) (fun i hi => by
  unfold sJ
  rw [show decide ((i : Int) < (l.length : Int)) = true by simp [hi], cond_true, a_ hi, iz (by omega) (by omega)]
  simp only [Option.bind_some]
  cases hq : l[i] with
  | nil => simp
  | cons y ys => simp; rw [show ((ys.length : Int) + 1 == 0) = false from beq_false_of_ne (by omega)]; rfl) (by unfold sJ; simp)]
 cases hf : l.findSome? (fun c => if c.isEmpty = true then some ((⟨false, [], []⟩, 0) : bW × Int) else none) with
 | some r =>
  obtain ⟨c, hc, hy⟩ := List.exists_of_findSome?_eq_some hf
  split at hy
  ·rename_i he
   cases hy
   refine .ret (.inr (.inr ⟨rfl, rfl, rfl, by simp, ?_⟩))
   unfold TF
   simp only [CY, if_true]
   exact List.any_eq_true.2 ⟨c, hc, he⟩
  ·cases hy
 | none =>
  rw [List.findSome?_eq_none_iff] at hf
  have hne : ∀ c ∈ l, c ≠ [] := fun c hc e => by have := hf c hc; rw [e] at this; simp at this
  obtain ⟨N, rfl⟩ := Int.eq_ofNat_of_zero_le n0
  have hmk : uB 8 0 (N : Int) = some (List.replicate N (0 : Int)) := Z6 (by omega)
  have hcn : b8 l = some l := by unfold b8; rw [cL (by simp; omega)]; rfl
  simp only [hmk, hcn, Option.bind_some, uC, qp]
  have hV : VV (N : Int) (List.replicate N 0) := ⟨by simp, fun i => .inr (.inr Ei)⟩
  have hI : I8 (N : Int) l l [] [] := ⟨n0, n1, hlen, by simp, by simp, fun i _ => rfl, y8, fun c hc x hx => occ_of hc hx, fun j hj => by simp at hj, fun p hp => by simp at hp⟩
  refine T.bind (find_m_T hI hV hne (by omega) (by omega)) fun q hq => ?_
  obtain ⟨f, V1, K1, Tc, st1, C1, S1⟩ := q
  dsimp only
  have hop : opn l (List.replicate N 0) ≤ QZ l (N : Int) := opn_le (by simp)
  have hsure : (0 : Int) + ((2 ^ (opn l (List.replicate N 0) + 1) : Nat) : Int) ≤ 8192 → (([] : List aB).length : Int) ≤ 0 → QZ l (N : Int) ≤ 12 → st1 = false := hq.sure
  refine T.cond (fun h => .ret (.inl ⟨rfl, ?_⟩)) fun h => ?_
  ·refine Nat.lt_of_not_le fun hle => ?_
   have hp := Mk (show opn l (List.replicate N 0) + 1 ≤ 13 by omega)
   have h13 : ((2 ^ 13 : Nat) : Int) = 8192 := by decide
   rw [h13] at hp
   have := hsure (by omega) (by simp) hle
   rw [this] at h; cases h
  have hpre : ∀ c ∈ l, c ∈ C1 := fun c hc => by
   obtain ⟨i, hi, rfl⟩ := List.getElem_of_mem hc
   have h1 : C1.getD i [] = l.getD i [] := hq.inv.pre i hi
   have h2 : l.getD i [] = l[i] := by simp [List.getD, hi]
   have h3 : l.length ≤ C1.length := hq.JJ
   rw [← h2, ← h1]; exact jQ (by omega)
  refine T.cond (fun h2 => ?_) fun h2 => .ret ?_
  ·have h2 := of_decide_eq_true h2
   rcases hq.res h with ⟨a1, a2, a3⟩ | ⟨a1, _⟩
   rotate_left
   ·have a1 : 0 ≤ f := a1; omega
   have a2 : VV (N : Int) V1 := a2
   have hvl := a2.len
   rw [RL (by omega), aj]
   refine .ret (.inr (.inl ⟨rfl, rfl, rfl, by simpa using hvl, ?_⟩))
   refine List.all_eq_true.2 fun c hc => ?_
   obtain ⟨y, hy, hyv⟩ := a3 c (hpre c hc)
   have hr := (y8 c hc).NJ y hy
   exact List.any_eq_true.2 ⟨y, hy, aag hr.1 (by omega) hyv⟩
  ·have h2 := of_decide_eq_false h2
   rcases hq.res h with ⟨a1, _⟩ | ⟨a1, a2, a3, a4, a5⟩
   ·have a1 : f = -1 := a1; omega
   have a1 : 0 ≤ f := a1
   have a2 : f < C1.length := a2
   have hinv : I8 (N : Int) l C1 K1 S1 := hq.inv
   have hfm : C1.getD f.toNat [] ∈ C1 := jQ (by omega)
   have hemp : C1.getD f.toNat [] = [] := by
    cases hc : C1.getD f.toNat [] with
    | nil => rfl
    | cons y ys =>
     have a4 : Du (List.replicate N 0) (C1.getD f.toNat []) := a4
     have := a4 y (by rw [hc]; simp)
     unfold fU at this
     rw [Ei] at this
     split at this <;> omega
   have hlast : ((f.toNat : Nat) : Int) = f ∧ f.toNat + 1 = C1.length := a5 f.toNat (by show f.toNat < C1.length; omega) hemp
   have hS : S1 ≠ [] := fun e => by
    subst e
    have h5 := hinv.JJ
    simp at h5
    have h6 := hinv.pre f.toNat (by omega)
    rw [hemp] at h6
    exact hne _ (jQ (z := []) (show f.toNat < l.length by omega)) h6.symm
   refine .inr (.inr ⟨rfl, rfl, rfl, hinv.NS, ?_⟩)
   dsimp only
   unfold TF
   rw [inv_run hinv]
   simp only [if_neg hS]
   rw [show C1.length - 1 = f.toNat by omega]
   have : C1.getD f.toNat [1] = C1.getD f.toNat [] := by simp [List.getD, show f.toNat < C1.length by omega]
   rw [this, hemp]; rfl
end Go.Dc
namespace Go.Dc
open Go.Proofs Go.Sort
theorem WO {l : List (List Int)} {m : List Bool} : NO m l = Y6 l m := rfl
theorem lit_neg {m : List Bool} {a : Nat} : uD m (-((a : Int) + 1)) = !m.getD a false := by
 unfold uD
 rw [show (-((a : Int) + 1)).natAbs - 1 = a by omega, show decide (-((a : Int) + 1) > 0) = false from decide_eq_false (by omega)]; simp
theorem Qg {N : Nat} (hN : N ≤ 40) {m : List Bool} (hm : m.length = 2 * N) (hno : ∀ j, j < N → (m.getD j false && m.getD (N + j) false) = false) : T (oT (N : Int) m) fun y => NF N y ∧ MOk N y m := by
 unfold oT
 refine T.bind (P := fun y => NF N y ∧ MOk N y m) ?_ fun y hy => .ret hy
 refine T.cS N (fun k s => k ≤ N ∧ s.1 = (k : Int) ∧ NF k s.2 ∧ ∀ j, j < k → m.getD j false = (sf s.2 j == 1) ∧ m.getD (N + j) false = (sf s.2 j == 2)) ⟨by omega, rfl, ⟨rfl, by simp⟩, by simp⟩ ?_
 rintro k ⟨_, y⟩ ⟨hk, rfl, hy, hj⟩
 dsimp only at hy hj
 have hyl := hy.len
 dsimp only [zb]
 refine T.cond (fun c => ?_) fun c => ?_
 ·have hk2 : k < N := by have := of_decide_eq_true c; omega
  have snoc : ∀ x : Int, 1 ≤ x → x ≤ 3 → NF (k + 1) (y ++ [x]) := fun x h1 h2 => ⟨by simp; omega, fun z hz => by
   rcases List.mem_append.1 hz with hz | hz
   ·exact hy.NJ z hz
   ·rw [List.mem_singleton.1 hz]; exact ⟨h1, h2⟩⟩
  have s1 : ∀ (x : Int) j, j < k → sf (y ++ [x]) j = sf y j := fun x j hj => by unfold sf; simp [List.getD, List.getElem?_append_left (show j < y.length by omega)]
  have s2 : ∀ x : Int, sf (y ++ [x]) k = x := fun x => by unfold sf; rw [← hyl]; simp [List.getD]
  have step : ∀ x : Int, 1 ≤ x → x ≤ 3 → m.getD k false = (x == 1) → m.getD (N + k) false = (x == 2) → NF (k + 1) (y ++ [x]) ∧ ∀ j, j < k + 1 → m.getD j false = (sf (y ++ [x]) j == 1) ∧ m.getD (N + j) false = (sf (y ++ [x]) j == 2) := fun x h1 h2 e1 e2 => ⟨snoc x h1 h2, fun j hjk => by
   by_cases e : j = k
   ·subst e; rw [s2]; exact ⟨e1, e2⟩
   ·rw [s1 x j (by omega)]; exact hj j (by omega)⟩
  have hn := hno k hk2
  rw [xD (z := false) (by omega), aj, cN (by omega), iz (by omega) (by omega), show (N : Int) + (k : Int) = ((N + k : Nat) : Int) by omega]
  refine T.cond (fun c1 => ?_) fun c1 => ?_
  ·rw [cL (by simp; omega), aj]
   have h2 : m.getD (N + k) false = false := by rw [c1] at hn; simpa using hn
   obtain ⟨q1, q2⟩ := step 1 (by omega) (by omega) c1 h2
   exact .ret ⟨hk2, hk2, rfl, q1, q2⟩
  ·rw [xD (z := false) (by omega), aj]
   refine T.cond (fun c2 => ?_) fun c2 => ?_
   ·rw [cL (by simp; omega), aj]
    obtain ⟨q1, q2⟩ := step 2 (by omega) (by omega) c1 c2
    exact .ret ⟨hk2, hk2, rfl, q1, q2⟩
   ·rw [cL (by simp; omega), aj]
    obtain ⟨q1, q2⟩ := step 3 (by omega) (by omega) c1 c2
    exact .ret ⟨hk2, hk2, rfl, q1, q2⟩
 ·have e : k = N := by have := of_decide_eq_false c; omega
  subst e
  exact .ret ⟨hy, hm, fun j hj' => (hj j hj').1, fun j hj' => (hj j hj').2⟩
def LD (N : Nat) (y : List Int) : List Bool := (List.range N).map (fun j => sf y j == 1) ++ (List.range N).map (fun j => sf y j == 2)
theorem TT {N : Nat} {y : List Int} : MOk N y (LD N y) := by
 refine ⟨by simp [LD]; omega, fun j hj => ?_, fun j hj => ?_⟩
 ·unfold LD
  simp only [List.getD_eq_getElem?_getD]
  rw [List.getElem?_append_left (by simpa using hj)]; simp [hj]
 ·unfold LD
  simp only [List.getD_eq_getElem?_getD]
  rw [List.getElem?_append_right (by simp)]; simp [hj]
theorem P7 {g : af} (h : cu g) {q : Int} {n : Nat} (hn : n < g.N.toNat) {st : List aB} (hr : TF (Ew g q (n : Int)) st = true) {y : List Int} (hy : NF g.N.toNat y) : Fp g q n y = false := by
 rw [← V9 h hy (TT (N := g.N.toNat) (y := y)) hn, WO]
 exact TE hr
theorem Sq {g : af} (h : cu g) {q : Int} {n : Nat} {m : List Bool} (hs : Y6 (Ew g q (n : Int)) m = true) : ∀ j, j < g.N.toNat → (m.getD j false && m.getD (g.N.toNat + j) false) = false := fun j hj => by
 have hn0 := h.n0
 have hc : [-((j : Int) + 1), -(g.N + (j : Int) + 1)] ∈ Ew g q (n : Int) := by
  unfold Ew uv
  refine List.mem_append_left _ (List.mem_flatMap.2 ⟨j, List.mem_range.2 hj, ?_⟩)
  unfold DY; simp
 have := List.all_eq_true.1 hs _ hc
 rw [show -(g.N + (j : Int) + 1) = -(((g.N.toNat + j : Nat) : Int) + 1) by omega] at this
 simp only [List.any_cons, List.any_nil, Bool.or_false, lit_neg] at this
 revert this
 cases m.getD j false <;> cases m.getD (g.N.toNat + j) false <;> simp
def DecR (g : af) (q : Int) (n : Nat) (v : aZ) : Prop :=
 (∃ y, v = ⟨q != 3, y, [], []⟩ ∧ NF g.N.toNat y ∧ Fp g q n y = true) ∨ (∃ st, v = ⟨q == 3, [], [], st⟩ ∧ st.length ≤ 20000 ∧ TF (Ew g q (n : Int)) st = true)
theorem QU {g : af} (h : cu g) (hg : g.L.length ≤ 100000) {q : Int} (hq1 : 1 ≤ q) (hq3 : q ≤ 3) {n : Nat} (hn : n < g.N.toNat) :
  T (lH g q (n : Int)) fun r => (r.2 = 0 ∧ DecR g q n r.1) ∨ (r = (⟨false, [], [], []⟩, 2) ∧ 12 < QZ (Ew g q (n : Int)) (2 * g.N)) := by
 have hn0 := h.n0; have hn1 := h.n1
 unfold lH
 refine T.bind (EE hg) fun r hr => ?_
 rcases hr with ⟨rfl, _, _, _⟩ | ⟨_, hb⟩
 case inr => exact absurd ⟨h, by omega, by omega⟩ hb
 rw [show ((0 : Int) != 0) = false from rfl, cond_false, show (q == 4) = false by simp; omega, cond_false]
 refine T.bind (QT hg) fun r hr => ?_
 have er : r = (2 * g.N, 0, Ew g q (n : Int)) := by
  rcases hr with ⟨_, _, _, _, _, hr⟩ | ⟨_, _, _, hc, _⟩ | ⟨hc, _⟩
  ·exact hr
  ·exact absurd ⟨hq1, hq3⟩ hc
  ·exact absurd ⟨h, by omega, by omega⟩ hc
 subst er
 dsimp only
 rw [show ((0 : Int) != 0) = false from rfl, cond_false]
 have hv := enc_ok h (q := q) (n := n) hn
 refine T.bind S0 fun s hs => ?_
 rw [if_pos (Pf.2 hv)] at hs
 rcases hs with ⟨rfl, hs⟩ | ⟨h0, h1, h2, h3, h4⟩ | ⟨h0, h1, h2, h3, h4⟩
 ·exact .ret (.inr ⟨rfl, hs⟩)
 ·rw [h0, show ((0 : Int) != 0) = false from rfl, cond_false, h1, cond_true]
  have hNN : g.N = (g.N.toNat : Int) := by omega
  rw [hNN]
  refine T.bind (Qg (N := g.N.toNat) (m := s.1.Model) (by omega) (by omega) (Sq h h4)) fun y ⟨hy, hm⟩ => .ret (.inl ⟨rfl, .inl ⟨y, rfl, hy, ?_⟩⟩)
  rw [← V9 h hy hm hn]; exact h4
 ·rw [h0, show ((0 : Int) != 0) = false from rfl, cond_false, h1, cond_false]
  exact .ret (.inl ⟨rfl, .inr ⟨s.1.Steps, rfl, h3, h4⟩⟩)
end Go.Dc
namespace Go.Dc
open Go.Proofs Go.Sort
open Classical
noncomputable def opa (g : af) (l : Nat → Int) (j : Nat) : Nat := (List.range g.N.toNat).countP fun a : Nat => decide (qe g a j ∧ l a ≠ 2)
variable {g : af} {N : Nat}
theorem att_lt (h : cu g) {a b : Nat} (hab : qe g a b) : (a : Int) < g.N ∧ (b : Int) < g.N := by
 obtain ⟨p, hp, h1, h2⟩ := hab
 have := h.v p hp
 omega
theorem RJ {Q : List Int} (h : Q.Nodup) (hb : ∀ q ∈ Q, 0 ≤ q ∧ q < (N : Int)) : Q.length ≤ N := by
 have h1 : (Q.map Int.toNat).Nodup := by
  unfold List.Nodup
  rw [List.pairwise_map]
  refine List.Pairwise.imp_of_mem ?_ h
  intro a b ha hb' hab e
  have := hb a ha; have := hb b hb'
  exact hab (by omega)
 have h2 : (Q.map Int.toNat) ⊆ List.range N := fun x hx => by
  obtain ⟨q, hq, rfl⟩ := List.mem_map.1 hx
  have := hb q hq
  exact List.mem_range.2 (by omega)
 have h3 : (Q.map Int.toNat).Perm ((List.range N).filter fun x => decide (x ∈ Q.map Int.toNat)) :=
  (List.perm_ext_iff_of_nodup h1 (List.Pairwise.filter _ List.nodup_range)).2 fun x => by
   rw [List.mem_filter, decide_eq_true_iff]
   exact ⟨fun hx => ⟨h2 hx, hx⟩, fun hx => hx.2⟩
 have h4 := h3.length_eq
 have h5 := List.length_filter_le (fun x => decide (x ∈ Q.map Int.toNat)) (List.range N)
 rw [List.length_map] at h4
 rw [List.length_range] at h5
 omega
theorem wT {d : List Int} {i : Nat} (hd : d.length = 40) (hi : i < 40) : lq 40 d (i : Int) = some (sf d i) := by
 unfold lq
 rw [if_pos hd, Ee (by omega)]
structure Nx (N : Nat) (l o Q : List Int) : Prop where
 ok : ∀ q ∈ Q, ∃ i : Nat, q = i ∧ i < N ∧ sf l i = 3 ∧ sf o i = 0
 nd : Q.Nodup
def RI (g : af) (N : Nat) (rd : Int) (l r : List Int) : Prop := ∀ i : Nat, i < N →
 (sf l i = 1 → 1 ≤ sf r i ∧ sf r i ≤ rd ∧ ∀ a : Nat, qe g a i → sf l a = 2 ∧ sf r a < sf r i) ∧
 (sf l i = 2 → sf r i ≤ rd ∧ ∃ a : Nat, a < N ∧ qe g a i ∧ sf l a = 1 ∧ 1 ≤ sf r a ∧ sf r a ≤ sf r i)
structure Md (g : af) (N : Nat) (rd : Int) (l r o nx : List Int) : Prop where
 ll : l.length = N
 rl : r.length = N
 lo : o.length = 40
 v : ∀ i, i < N → sf l i = 1 ∨ sf l i = 2 ∨ sf l i = 3
 nxt : Nx N l o nx
 op : ∀ j, j < N → sf o j = (opa g (sf l) j : Int)
 zero : ∀ j, j < N → sf l j = 3 → sf o j = 0 → (j : Int) ∈ nx
 ri : RI g N rd l r
end Go.Dc
namespace Go.Dc
open Go.Proofs Go.Sort
open Classical
variable {g : af} {N : Nat}
structure Hdd (g : af) (N : Nat) (rd : Int) (l r o Q : List Int) : Prop extends Md g N rd l r o Q where
 done : ∀ i, i < N → sf l i = 1 → ∀ k : Nat, qe g i k → sf l k ≠ 3
theorem O4 {α : Type} {p q : α → Bool} : ∀ {l : List α}, (∀ x ∈ l, p x = true → q x = true) → (∃ x ∈ l, q x = true ∧ p x = false) → l.countP p < l.countP q
 | [], _, h => by obtain ⟨x, hx, _⟩ := h; simp at hx
 | y :: l, h, hx => by
  have h1 : l.countP p ≤ l.countP q := by
   refine List.countP_mono_left fun x hx hp => h x (List.mem_cons_of_mem _ hx) hp
  rw [List.countP_cons, List.countP_cons]
  obtain ⟨x, hx, hq, hp⟩ := hx
  rcases List.mem_cons.1 hx with rfl | hx
  ·rw [hq, hp]; simp; omega
  ·have := O4 (fun x hx => h x (List.mem_cons_of_mem _ hx)) ⟨x, hx, hq, hp⟩
   cases hpy : p y with
   | false => simp; split <;> omega
   | true => rw [h y (by simp) hpy]; simp; exact this
def c3 (N : Nat) (l : List Int) : Nat := (List.range N).countP fun i => decide (sf l i = 3)
end Go.Dc
namespace Go.Dc
open Go.Proofs Go.Sort
open Classical
variable {g : af} {N : Nat}
theorem vP (h : cu g) {i : Nat} {a : Int} : a ∈ aK g (i : Int) ↔ ∃ b : Nat, a = b ∧ qe g b i := by
 rw [EU]
 constructor
 ·intro ha
  obtain ⟨p, hp, h1, h2⟩ := ha
  have := h.v p hp
  exact ⟨a.toNat, by omega, p, hp, by omega, h2⟩
 ·rintro ⟨b, rfl, hb⟩; exact hb
theorem qz {y : List Int} {b : Nat} : fA y (b : Int) = sf y b := by unfold fA; rw [Int.toNat_natCast]
end Go.Dc
namespace Go.Dc
open Go.Proofs Go.Sort
variable {g : af}
theorem Wg (h : cu g) {a i : Nat} (ha : qe g a i) : a < g.N.toNat := by have := (att_lt h ha).1; omega
end Go.Dc
namespace Go.Dc
open Go.Proofs Go.Sort
variable {g : af}
def Dv (g : af) (z : List Int) : Prop := NF g.N.toNat z ∧ O6 g z = true
theorem Dv.at {z : List Int} (h : Dv g z) {i : Nat} (hi : i < g.N.toNat) : jO g z i = true := xC.1 h.2 i hi
def code : Nat → List Int → Nat
 | 0, _ => 0
 | k + 1, z => code k z + if sf z k = 1 then 2 ^ k else 0
theorem LI : ∀ {k : Nat} {z : List Int}, code k z < 2 ^ k
 | 0, _ => by simp [code]
 | k + 1, z => by have := LI (k := k) (z := z); unfold code; rw [Nat.pow_succ]; split <;> omega
theorem Nh : ∀ {k : Nat} {z z' : List Int}, code k z = code k z' → ∀ i, i < k → (sf z i = 1 ↔ sf z' i = 1)
 | 0, _, _, _, i, hi => by omega
 | k + 1, z, z', h, i, hi => by
  have h1 := LI (k := k) (z := z); have h2 := LI (k := k) (z := z')
  unfold code at h
  by_cases c1 : sf z k = 1 <;> by_cases c2 : sf z' k = 1
  ·rw [if_pos c1, if_pos c2] at h
   by_cases e : i = k
   ·subst e; exact ⟨fun _ => c2, fun _ => c1⟩
   ·exact Nh (k := k) (by omega) i (by omega)
  ·rw [if_pos c1, if_neg c2] at h; omega
  ·rw [if_neg c1, if_pos c2] at h; omega
  ·rw [if_neg c1, if_neg c2] at h
   by_cases e : i = k
   ·subst e; exact ⟨fun h => absurd h c1, fun h => absurd h c2⟩
   ·exact Nh (k := k) (by omega) i (by omega)
theorem Wc (h : cu g) {z : List Int} (hz : Dv g z) {i : Nat} (hi : i < g.N.toNat) : sf z i = 2 ↔ ∃ a : Nat, qe g a i ∧ sf z a = 1 := by
 have hl := hz.at hi
 unfold jO at hl
 constructor
 ·intro e
  rw [if_neg (by omega), if_pos e, List.any_eq_true] at hl
  obtain ⟨a, ha, hh⟩ := hl
  obtain ⟨b, rfl, hb⟩ := (vP h).1 ha
  rw [qz] at hh
  exact ⟨b, hb, eq_of_beq hh⟩
 ·rintro ⟨a, ha, e⟩
  have hm := (vP h).2 ⟨a, rfl, ha⟩
  rcases hz.1.at hi with e1 | e1 | e1
  ·rw [if_pos e1, List.all_eq_true] at hl
   have := hl _ hm
   rw [qz, e] at this; cases this
  ·exact e1
  ·rw [if_neg (by omega), if_neg (by omega), Bool.and_eq_true, Bool.not_eq_true', List.any_eq_false] at hl
   have := hl.1 _ hm
   rw [qz, e] at this; exact absurd rfl this
theorem Tx {N : Nat} {z z' : List Int} (h : z.length = N) (h' : z'.length = N) (he : ∀ i, i < N → sf z i = sf z' i) : z = z' := by
 refine List.ext_getElem (by omega) fun i h1 h2 => ?_
 have := he i (by omega)
 unfold sf at this
 simpa [List.getD, h1, h2] using this
theorem VZ (h : cu g) (h7 : ∀ p ∈ g.L, p.To < 7) {z : List Int} (hz : Dv g z) {i : Nat} (hi : i < g.N.toNat) (hi7 : 7 ≤ i) : sf z i = 1 := by
 have hn : aK g (i : Int) = [] := by
  cases hc : aK g (i : Int) with
  | nil => rfl
  | cons a l =>
   obtain ⟨p, hp, _, e⟩ := EU.1 (show a ∈ aK g (i : Int) by rw [hc]; simp)
   have := h7 p hp; omega
 have hl := hz.at hi
 unfold jO at hl
 rw [hn] at hl
 rcases hz.1.at hi with e | e | e
 ·exact e
 ·rw [if_neg (by omega), if_pos e] at hl; cases hl
 ·rw [if_neg (by omega), if_neg (by omega)] at hl; cases hl
theorem cpl_inj (h : cu g) (h7 : ∀ p ∈ g.L, p.To < 7) {z z' : List Int} (hz : Dv g z) (R4 : Dv g z') (he : code 7 z = code 7 z') : z = z' := by
 have hin : ∀ i, i < g.N.toNat → (sf z i = 1 ↔ sf z' i = 1) := fun i hi => by
  by_cases h1 : i < 7
  ·exact Nh he i h1
  ·exact ⟨fun _ => VZ h h7 R4 hi (by omega), fun _ => VZ h h7 hz hi (by omega)⟩
 refine Tx hz.1.len R4.1.len fun i hi => ?_
 have o := Wc h hz hi; have o' := Wc h R4 hi
 have : sf z i = 2 ↔ sf z' i = 2 := by
  rw [o, o']
  constructor
  ·rintro ⟨a, ha, e⟩; exact ⟨a, ha, (hin a (Wg h ha)).1 e⟩
  ·rintro ⟨a, ha, e⟩; exact ⟨a, ha, (hin a (Wg h ha)).2 e⟩
 have h1 := hin i hi
 rcases hz.1.at hi with e | e | e <;> rcases R4.1.at hi with e' | e' | e' <;> omega
theorem Wd (h : cu g) (h7 : ∀ p ∈ g.L, p.To < 7) {F : List (List Int)} (hn : F.Nodup) (hF : ∀ z ∈ F, Dv g z) : F.length ≤ 128 := by
 have h1 : (F.map fun z => (code 7 z : Int)).Nodup := by
  unfold List.Nodup
  rw [List.pairwise_map]
  refine List.Pairwise.imp_of_mem (fun {a b} ha hb hab e => hab (cpl_inj h h7 (hF a ha) (hF b hb) (by omega))) hn
 have h2 := RJ (N := 128) h1 fun q hq => by
  obtain ⟨z, _, rfl⟩ := List.mem_map.1 hq
  have h3 := LI (k := 7) (z := z)
  have : (2 : Nat) ^ 7 = 128 := by decide
  omega
 simpa using h2
theorem sf_app {l t : List Int} {j : Nat} (hj : j < l.length) : sf (l ++ t) j = sf l j := by
 unfold sf; simp [List.getD, List.getElem?_append_left hj]
end Go.Dc
set_option maxRecDepth 100000
namespace Go.Dc
theorem xL {bG gj : Int → (List (List Int)) → (List Int) → (List (List Int)) → Bool → Option (Int × (List Int) × Bool × (List (List Int)))} (eo : ∀ a0 a1 a2 a3 a4, Le (bG a0 a1 a2 a3 a4) (gj a0 a1 a2 a3 a4)) {aQ : (List (List Int))} {t2 : (Bool × Int × (List Int) × Bool)} {t3 : (Int × (List Int))} {eZ : Int × Int × Bool × (List (List Int))} : Le (eL aQ t2 t3 bG eZ) (eL aQ t2 t3 gj eZ) := by
 unfold eL
 repeat' with_reducible (first | exact Le.refl _ | exact eo _ _ _ _ _ | refine Le.bind ?_ (fun _ => ?_) | refine Le.cond ?_ ?_)
theorem yW {bG gj : Int → (List (List Int)) → (List Int) → (List (List Int)) → Bool → Option (Int × (List Int) × Bool × (List (List Int)))} (eo : ∀ a0 a1 a2 a3 a4, Le (bG a0 a1 a2 a3 a4) (gj a0 a1 a2 a3 a4)) {mj : Int} {aQ : (List (List Int))} {jR : (List Int)} {bP : (List (List Int))} {dM : Bool} : Le (dR bG mj aQ jR bP dM) (dR gj mj aQ jR bP dM) := by
 unfold dR
 repeat' with_reducible (first | exact Le.refl _ | exact eo _ _ _ _ _ | refine Le.aI (fun _ => xL eo) | refine Le.bind ?_ (fun _ => ?_) | refine Le.cond ?_ ?_)
theorem pM : ∀ (n_ : Nat) a0 a1 a2 a3 a4, Le (cK n_ a0 a1 a2 a3 a4) (cK (n_ + 1) a0 a1 a2 a3 a4)
 | 0, _, _, _, _, _ => fun _ h => by cases h
 | n_ + 1, _, _, _, _, _ => yW (pM n_)
theorem Au {n_ : Nat} {mj : Int} {aQ : (List (List Int))} {jR : (List Int)} {bP : (List (List Int))} {dM : Bool} {r} (h : cK n_ mj aQ jR bP dM = some r) : vm mj aQ jR bP dM = some r :=
 (RU (m := fun n (a : Int × (List (List Int)) × (List Int) × (List (List Int)) × Bool) => cK n a.1 a.2.1 a.2.2.1 a.2.2.2.1 a.2.2.2.2) (fun n a r h => pM n _ _ _ _ _ r h)).2 ⟨n_, h⟩
end Go.Dc
namespace Go.Dc
open Go.Proofs Go.Sort
variable {g : af}
def dB (v x : Int) : Bool := v / 2 ^ x.toNat % 2 == 1
def Dm (v : Int) : Prop := 0 ≤ v ∧ v ≤ 14 ∧ v % 2 = 0
instance (v : Int) : Decidable (Dm v) := inferInstanceAs (Decidable (_ ∧ _ ∧ _))
def L3 (x : Int) : Prop := x = 1 ∨ x = 2 ∨ x = 3
theorem Dm.fin {v : Int} (h : Dm v) : ∃ a : Fin 8, v = 2 * (a.val : Int) := by
 obtain ⟨h0, h1, h2⟩ := h
 exact ⟨⟨(v / 2).toNat, by omega⟩, by simp only; omega⟩
theorem and_dm {v w : Int} (hv : Dm v) (hw : Dm w) : Dm (cE .i64 v w) ∧ ∀ x, L3 x → dB (cE .i64 v w) x = (dB v x && dB w x) := by
 obtain ⟨a, rfl⟩ := hv.fin; obtain ⟨b, rfl⟩ := hw.fin
 have h := (by decide +kernel : ∀ a b : Fin 8, (0 ≤ cE .i64 (2 * (a.val : Int)) (2 * (b.val : Int)) ∧ cE .i64 (2 * (a.val : Int)) (2 * (b.val : Int)) ≤ 14 ∧ cE .i64 (2 * (a.val : Int)) (2 * (b.val : Int)) % 2 = 0) ∧
  dB (cE .i64 (2 * (a.val : Int)) (2 * (b.val : Int))) 1 = (dB (2 * (a.val : Int)) 1 && dB (2 * (b.val : Int)) 1) ∧ dB (cE .i64 (2 * (a.val : Int)) (2 * (b.val : Int))) 2 = (dB (2 * (a.val : Int)) 2 && dB (2 * (b.val : Int)) 2) ∧
  dB (cE .i64 (2 * (a.val : Int)) (2 * (b.val : Int))) 3 = (dB (2 * (a.val : Int)) 3 && dB (2 * (b.val : Int)) 3)) a b
 refine ⟨h.1, fun x hx => ?_⟩
 rcases hx with rfl | rfl | rfl
 ·exact h.2.1
 ·exact h.2.2.1
 ·exact h.2.2.2
theorem Bt {v : Int} (hv : Dm v) : (cE .i64 v 2 != 0) = dB v 1 ∧ (cE .i64 v 4 != 0) = dB v 2 ∧ (cE .i64 v 8 != 0) = dB v 3 ∧ (cE .i64 v 12 != 0) = (dB v 2 || dB v 3) ∧ (cE .i64 v 0 != 0) = false := by
 obtain ⟨a, rfl⟩ := hv.fin
 exact (by decide +kernel : ∀ a : Fin 8, (cE .i64 (2 * (a.val : Int)) 2 != 0) = dB (2 * (a.val : Int)) 1 ∧ (cE .i64 (2 * (a.val : Int)) 4 != 0) = dB (2 * (a.val : Int)) 2 ∧ (cE .i64 (2 * (a.val : Int)) 8 != 0) = dB (2 * (a.val : Int)) 3 ∧
  (cE .i64 (2 * (a.val : Int)) 12 != 0) = (dB (2 * (a.val : Int)) 2 || dB (2 * (a.val : Int)) 3) ∧ (cE .i64 (2 * (a.val : Int)) 0 != 0) = false) a
def SbF (v w : Int) : Prop := ∀ x, L3 x → dB v x = true → dB w x = true
theorem SbF.refl (v : Int) : SbF v v := fun _ _ h => h
theorem SbF.trans {u v w : Int} (h : SbF u v) (k : SbF v w) : SbF u w := fun x hx e => k x hx (h x hx e)
theorem sb_le {v w : Int} (hv : Dm v) (hw : Dm w) (h : SbF v w) : v ≤ w := by
 obtain ⟨a, rfl⟩ := hv.fin; obtain ⟨b, rfl⟩ := hw.fin
 refine (by decide +kernel : ∀ a b : Fin 8, (dB (2 * (a.val : Int)) 1 = true → dB (2 * (b.val : Int)) 1 = true) → (dB (2 * (a.val : Int)) 2 = true → dB (2 * (b.val : Int)) 2 = true) → (dB (2 * (a.val : Int)) 3 = true → dB (2 * (b.val : Int)) 3 = true) → 2 * (a.val : Int) ≤ 2 * (b.val : Int)) a b (h 1 (.inl rfl)) (h 2 (.inr (.inl rfl))) (h 3 (.inr (.inr rfl)))
theorem Wa {v : Int} (hv : Dm v) : v = 0 ↔ ∀ x, L3 x → dB v x = false := by
 obtain ⟨a, rfl⟩ := hv.fin
 have h := (by decide +kernel : ∀ a : Fin 8, (2 * (a.val : Int) = 0 ↔ dB (2 * (a.val : Int)) 1 = false ∧ dB (2 * (a.val : Int)) 2 = false ∧ dB (2 * (a.val : Int)) 3 = false)) a
 rw [h]
 exact ⟨fun ⟨h1, h2, h3⟩ x hx => by rcases hx with rfl | rfl | rfl <;> assumption, fun h => ⟨h 1 (.inl rfl), h 2 (.inr (.inl rfl)), h 3 (.inr (.inr rfl))⟩⟩
def bt (x : Int) : Int := if x = 1 then 2 else if x = 2 then 4 else 8
theorem Wf (x : Int) : Dm (bt x) := by
 unfold bt Dm
 split
 ·decide
 ·split <;> decide
theorem O9 {x y : Int} (hx : L3 x) (hy : L3 y) : dB (bt x) y = decide (x = y) := by
 rcases hx with rfl | rfl | rfl <;> rcases hy with rfl | rfl | rfl <;> decide
structure Pm (N : Nat) (d : List Int) : Prop where
 len : d.length = 40
 dm : ∀ i, i < N → Dm (sf d i)
theorem Pm.set {N : Nat} {d : List Int} (h : Pm N d) {i : Nat} (hi : i < 40) {v : Int} (hv : Dm v) : Pm N (d.set i v) := by
 refine ⟨by rw [List.length_set]; exact h.len, fun j hj => ?_⟩
 rw [mw (by rw [h.len]; exact hi)]
 split
 ·exact hv
 ·exact h.dm j hj
def KS (N : Nat) (z d : List Int) : Prop := ∀ i, i < N → dB (sf d i) (sf z i) = true
structure Kp (g : af) (d d' : List Int) : Prop where
 ok : Pm g.N.toNat d'
 sb : ∀ i, i < g.N.toNat → SbF (sf d' i) (sf d i)
 out : ∀ i, g.N.toNat ≤ i → sf d' i = sf d i
 kp : ∀ z, Dv g z → KS g.N.toNat z d → KS g.N.toNat z d'
theorem Kp.refl {d : List Int} (h : Pm g.N.toNat d) : Kp g d d := ⟨h, fun _ _ => .refl _, fun _ _ => rfl, fun _ _ h => h⟩
theorem Kp.trans {a b c : List Int} (h : Kp g a b) (k : Kp g b c) : Kp g a c :=
 ⟨k.ok, fun i hi => (k.sb i hi).trans (h.sb i hi), fun i hi => (k.out i hi).trans (h.out i hi), fun z hz hc => k.kp z hz (h.kp z hz hc)⟩
theorem Kp.le {d d' : List Int} (hd : Pm g.N.toNat d) (h : Kp g d d') (i : Nat) : sf d' i ≤ sf d i := by
 by_cases hi : i < g.N.toNat
 ·exact sb_le (h.ok.dm i hi) (hd.dm i hi) (h.sb i hi)
 ·rw [h.out i (by omega)]; exact Int.le_refl _
theorem Kp.anti {d d' : List Int} (hd : Pm g.N.toNat d) (h : Kp g d d') (k : ∀ i, sf d i ≤ sf d' i) : d' = d :=
 Tx h.ok.len hd.len fun i _ => Int.le_antisymm (h.le hd i) (k i)
theorem Kp.cut {d : List Int} (hd : Pm g.N.toNat d) {i : Nat} (hi : i < g.N.toNat) (Te : g.N.toNat ≤ 40) {w : Int} (hw : Dm w) (hk : ∀ z, Dv g z → KS g.N.toNat z d → dB w (sf z i) = true) : Kp g d (d.set i (cE .i64 (sf d i) w)) := by
 have hl : i < d.length := by rw [hd.len]; omega
 obtain ⟨h1, h2⟩ := and_dm (hd.dm i hi) hw
 refine ⟨hd.set (by omega) h1, fun j hj x hx e => ?_, fun j hj => ?_, fun z hz hc j hj => ?_⟩
 ·rw [mw hl] at e
  split at e
  ·rename_i e1; subst e1; rw [h2 x hx] at e; simp only [Bool.and_eq_true] at e; exact e.1
  ·exact e
 ·rw [mw hl, if_neg (by omega)]
 ·rw [mw hl]
  split
  ·rename_i e1; subst e1
   rw [h2 _ (hz.1.at hi), hc i hi, hk z hz hc]; rfl
  ·exact hc j hj
theorem O8 {n : Int} {A found : List (List Int)} {d nodes : List Int} {full : Bool} {lb : Int} (hd : d.length = 40) (hn : nodes.length ≤ 1000) (hr : ∀ a ∈ nodes, 0 ≤ a ∧ a < 40) :
  cU n A d found full nodes lb = some (nodes.filter fun a => cE .i64 (fA d a) lb != 0) := by
 refine T.eq ?_
 unfold cU
 refine T.bind (P := fun q => q = nodes.filter fun a => cE .i64 (fA d a) lb != 0) ?_ fun q hq => .ret hq
 refine T.cS nodes.length (fun k s => k ≤ nodes.length ∧ s = ((k : Int), (nodes.take k).filter fun a => cE .i64 (fA d a) lb != 0)) ⟨by omega, by simp⟩ ?_
 rintro k _ ⟨hk, rfl⟩
 dsimp only [vp]
 refine T.cond (fun c => ?_) fun c => ?_
 ·have hk2 : k < nodes.length := by simpa using c
  have tk : nodes.take (k + 1) = nodes.take k ++ [nodes[k]] := by rw [List.take_add_one, List.getElem?_eq_getElem hk2]; rfl
  obtain ⟨h0, h1⟩ := hr _ (List.getElem_mem hk2)
  obtain ⟨b, hb⟩ := Int.eq_ofNat_of_zero_le h0
  rw [a_ hk2, aj, cN (by omega), tk, List.filter_append, hb, wT hd (by omega), aj]
  have hf : ([(b : Int)].filter fun a => cE .i64 (fA d a) lb != 0) = if (cE .i64 (sf d b) lb != 0) = true then [(b : Int)] else [] := by
   rw [List.filter_cons, qz]; simp
  rw [hf]
  refine T.cond (fun c2 => ?_) fun c2 => ?_
  ·rw [cL (by have := List.length_filter_le (fun a => cE .i64 (fA d a) lb != 0) (nodes.take k); simp at this ⊢; omega), aj, if_pos c2]
   exact .ret ⟨hk2, hk2, rfl⟩
  ·rw [if_neg (by rw [c2]; simp), List.append_nil]
   exact .ret ⟨hk2, hk2, rfl⟩
 ·have e : k = nodes.length := by have : ¬ (k : Int) < nodes.length := of_decide_eq_false c; omega
  subst e
  exact .ret (by simp)
def KY (g : af) (d : List Int) (i : Nat) : Int :=
 (if (aK g (i : Int)).all (fun a => dB (fA d a) 2) = true then 2 else 0) + (if (aK g (i : Int)).any (fun a => dB (fA d a) 1) = true then 4 else 0) +
 (if (aK g (i : Int)).all (fun a => dB (fA d a) 2 || dB (fA d a) 3) = true ∧ (aK g (i : Int)).any (fun a => dB (fA d a) 3) = true then 8 else 0)
theorem Ly {d : List Int} {i : Nat} : Dm (KY g d i) ∧ dB (KY g d i) 1 = (aK g (i : Int)).all (fun a => dB (fA d a) 2) ∧ dB (KY g d i) 2 = (aK g (i : Int)).any (fun a => dB (fA d a) 1) ∧
  dB (KY g d i) 3 = ((aK g (i : Int)).all (fun a => dB (fA d a) 2 || dB (fA d a) 3) && (aK g (i : Int)).any fun a => dB (fA d a) 3) := by
 unfold KY Dm
 generalize (aK g (i : Int)).all (fun a => dB (fA d a) 2) = b1
 generalize (aK g (i : Int)).any (fun a => dB (fA d a) 1) = b2
 generalize (aK g (i : Int)).all (fun a => dB (fA d a) 2 || dB (fA d a) 3) = b3
 generalize (aK g (i : Int)).any (fun a => dB (fA d a) 3) = b4
 cases b1 <;> cases b2 <;> cases b3 <;> cases b4 <;> decide
theorem mV (h : cu g) {i : Int} {a : Int} (ha : a ∈ aK g i) : 0 ≤ a ∧ a < 40 ∧ a.toNat < g.N.toNat := by
 have h1 := uP h a ha; have := h.n1; omega
theorem M_ {α : Type} {l : List α} {p : α → Bool} : ((l.filter p).length < l.length) ↔ l.all p = false := by
 rw [List.all_eq_false]
 constructor
 ·intro h
  refine Classical.byContradiction fun hn => ?_
  have : l.filter p = l := List.filter_eq_self.2 fun a ha => Classical.byContradiction fun hp => hn ⟨a, ha, hp⟩
  rw [this] at h; omega
 ·rintro ⟨a, ha, hp⟩
  refine Nat.lt_of_le_of_ne (List.length_filter_le _ _) fun e => ?_
  have := List.length_filter_eq_length_iff.1 e a ha
  exact hp this
theorem filter_nil {α : Type} {l : List α} {p : α → Bool} : ((l.filter p).length = 0) ↔ l.any p = false := by
 rw [List.length_eq_zero_iff, List.filter_eq_nil_iff, List.any_eq_false]
theorem all_c {l : List Int} {p q : Int → Bool} (h : ∀ a ∈ l, p a = q a) : l.all p = l.all q := QJ h
theorem any_c {l : List Int} {p q : Int → Bool} (h : ∀ a ∈ l, p a = q a) : l.any p = l.any q := QI h
theorem Ml (h : cu g) {n : Int} {A found : List (List Int)} {d : List Int} {full : Bool} (hA : ∀ i : Nat, i < g.N.toNat → aL A (i : Int) = some (aK g (i : Int))) (hd : Pm g.N.toNat d) {i : Nat} (hi : i < g.N.toNat) :
  eO n A d found full (i : Int) = some (KY g d i) := by
 have hal := pF h (i := (i : Int))
 have hr : ∀ a ∈ aK g (i : Int), 0 ≤ a ∧ a < 40 := fun a ha => ⟨(mV h ha).1, (mV h ha).2.1⟩
 have hdm : ∀ a ∈ aK g (i : Int), Dm (fA d a) := fun a ha => hd.dm _ (mV h ha).2.2
 unfold eO
 simp only [hA i hi, aj, qp, O8 hd.len (by omega : (aK g (i : Int)).length ≤ 1000) hr]
 have l1 : decide ((((aK g (i : Int)).filter fun a => cE .i64 (fA d a) 4 != 0).length : Int) < ((aK g (i : Int)).length : Int)) = !(aK g (i : Int)).all (fun a => dB (fA d a) 2) := by
  rw [← all_c (p := fun a => cE .i64 (fA d a) 4 != 0) fun a ha => (Bt (hdm a ha)).2.1]
  have := M_ (l := aK g (i : Int)) (p := fun a => cE .i64 (fA d a) 4 != 0)
  cases hb : (aK g (i : Int)).all fun a => cE .i64 (fA d a) 4 != 0 with
  | true => rw [hb] at this; simp only [Bool.not_true, decide_eq_false_iff_not]; intro h1; have := this.1 (by omega); cases this
  | false => rw [hb] at this; simp only [Bool.not_false, decide_eq_true_eq]; have := this.2 rfl; omega
 have l2 : ((((aK g (i : Int)).filter fun a => cE .i64 (fA d a) 2 != 0).length : Int) == 0) = !(aK g (i : Int)).any (fun a => dB (fA d a) 1) := by
  rw [← any_c (p := fun a => cE .i64 (fA d a) 2 != 0) fun a ha => (Bt (hdm a ha)).1]
  have := filter_nil (l := aK g (i : Int)) (p := fun a => cE .i64 (fA d a) 2 != 0)
  cases hb : (aK g (i : Int)).any fun a => cE .i64 (fA d a) 2 != 0 with
  | true => rw [hb] at this; simp only [Bool.not_true, beq_eq_false_iff_ne]; intro h1; have := this.1 (by omega); cases this
  | false => rw [hb] at this; simp only [Bool.not_false, beq_iff_eq]; have := this.2 rfl; omega
 have l3 : decide ((((aK g (i : Int)).filter fun a => cE .i64 (fA d a) 12 != 0).length : Int) < ((aK g (i : Int)).length : Int)) = !(aK g (i : Int)).all (fun a => dB (fA d a) 2 || dB (fA d a) 3) := by
  rw [← all_c (p := fun a => cE .i64 (fA d a) 12 != 0) fun a ha => (Bt (hdm a ha)).2.2.2.1]
  have := M_ (l := aK g (i : Int)) (p := fun a => cE .i64 (fA d a) 12 != 0)
  cases hb : (aK g (i : Int)).all fun a => cE .i64 (fA d a) 12 != 0 with
  | true => rw [hb] at this; simp only [Bool.not_true, decide_eq_false_iff_not]; intro h1; have := this.1 (by omega); cases this
  | false => rw [hb] at this; simp only [Bool.not_false, decide_eq_true_eq]; have := this.2 rfl; omega
 have l4 : ((((aK g (i : Int)).filter fun a => cE .i64 (fA d a) 8 != 0).length : Int) == 0) = !(aK g (i : Int)).any (fun a => dB (fA d a) 3) := by
  rw [← any_c (p := fun a => cE .i64 (fA d a) 8 != 0) fun a ha => (Bt (hdm a ha)).2.2.1]
  have := filter_nil (l := aK g (i : Int)) (p := fun a => cE .i64 (fA d a) 8 != 0)
  cases hb : (aK g (i : Int)).any fun a => cE .i64 (fA d a) 8 != 0 with
  | true => rw [hb] at this; simp only [Bool.not_true, beq_eq_false_iff_ne]; intro h1; have := this.1 (by omega); cases this
  | false => rw [hb] at this; simp only [Bool.not_false, beq_iff_eq]; have := this.2 rfl; omega
 rw [l1, l2, l3, l4]
 unfold KY
 generalize (aK g (i : Int)).all (fun a => dB (fA d a) 2) = b1
 generalize (aK g (i : Int)).any (fun a => dB (fA d a) 1) = b2
 generalize (aK g (i : Int)).all (fun a => dB (fA d a) 2 || dB (fA d a) 3) = b3
 generalize (aK g (i : Int)).any (fun a => dB (fA d a) 3) = b4
 cases b1 <;> cases b2 <;> cases b3 <;> cases b4 <;> rfl
theorem Xo (h : cu g) {z d : List Int} (hz : Dv g z) (hc : KS g.N.toNat z d) {i : Nat} (hi : i < g.N.toNat) : dB (KY g d i) (sf z i) = true := by
 obtain ⟨_, p1, p2, p3⟩ := Ly (g := g) (d := d) (i := i)
 have hl := hz.at hi
 have cz : ∀ a ∈ aK g (i : Int), dB (fA d a) (fA z a) = true := fun a ha => hc _ (mV h ha).2.2
 have lz : ∀ a ∈ aK g (i : Int), L3 (fA z a) := fun a ha => hz.1.at (mV h ha).2.2
 unfold jO at hl
 rcases hz.1.at hi with e | e | e
 ·rw [e, if_pos rfl] at hl
  rw [e, p1]
  exact List.all_eq_true.2 fun a ha => by have := cz a ha; rw [eq_of_beq (List.all_eq_true.1 hl a ha)] at this; exact this
 ·rw [e, if_neg (by omega), if_pos rfl] at hl
  obtain ⟨a, ha, hb⟩ := List.any_eq_true.1 hl
  rw [e, p2]
  exact List.any_eq_true.2 ⟨a, ha, by have := cz a ha; rw [eq_of_beq hb] at this; exact this⟩
 ·rw [e, if_neg (by omega), if_neg (by omega)] at hl
  simp only [Bool.and_eq_true, Bool.not_eq_true'] at hl
  obtain ⟨h1, h2⟩ := hl
  rw [e, p3]
  have no1 : ∀ a ∈ aK g (i : Int), fA z a ≠ 1 := fun a ha he => by have := List.any_eq_false.1 h1 a ha; rw [he] at this; exact this rfl
  rw [Bool.and_eq_true]
  refine ⟨List.all_eq_true.2 fun a ha => ?_, ?_⟩
  ·rcases lz a ha with e1 | e1 | e1
   ·exact absurd e1 (no1 a ha)
   ·have := cz a ha; rw [e1] at this; rw [this]; rfl
   ·have := cz a ha; rw [e1] at this; rw [this, Bool.or_true]
  ·obtain ⟨a, ha, hb⟩ := List.all_eq_false.1 h2
   refine List.any_eq_true.2 ⟨a, ha, ?_⟩
   rcases lz a ha with e1 | e1 | e1
   ·exact absurd e1 (no1 a ha)
   ·rw [e1] at hb; exact absurd rfl hb
   ·have := cz a ha; rw [e1] at this; exact this
theorem Xc (h : cu g) {z d : List Int} (hd : ∀ i, i < g.N.toNat → sf d i = bt (sf z i)) (hz : NF g.N.toNat z) {i : Nat} (hi : i < g.N.toNat) (hp : dB (KY g d i) (sf z i) = true) : jO g z i = true := by
 obtain ⟨_, p1, p2, p3⟩ := Ly (g := g) (d := d) (i := i)
 have dz : ∀ a ∈ aK g (i : Int), ∀ x, L3 x → dB (fA d a) x = decide (fA z a = x) := fun a ha x hx => by
  unfold fA
  rw [hd _ (mV h ha).2.2, O9 (hz.at (mV h ha).2.2) hx]
 unfold jO
 rcases hz.at hi with e | e | e
 ·rw [e, if_pos rfl]
  rw [e, p1] at hp
  exact List.all_eq_true.2 fun a ha => by have := List.all_eq_true.1 hp a ha; rw [dz a ha 2 (.inr (.inl rfl))] at this; simpa using this
 ·rw [e, if_neg (by omega), if_pos rfl]
  rw [e, p2] at hp
  obtain ⟨a, ha, hb⟩ := List.any_eq_true.1 hp
  rw [dz a ha 1 (.inl rfl)] at hb
  exact List.any_eq_true.2 ⟨a, ha, by simpa using hb⟩
 ·rw [e, if_neg (by omega), if_neg (by omega)]
  rw [e, p3] at hp
  simp only [Bool.and_eq_true] at hp
  obtain ⟨h1, h2⟩ := hp
  simp only [Bool.and_eq_true, Bool.not_eq_true']
  refine ⟨List.any_eq_false.2 fun a ha hb => ?_, ?_⟩
  ·have h3 := List.all_eq_true.1 h1 a ha
   have e1 : fA z a = 1 := eq_of_beq hb
   rw [dz a ha 2 (.inr (.inl rfl)), dz a ha 3 (.inr (.inr rfl)), e1] at h3
   exact absurd h3 (by decide)
  ·obtain ⟨a, ha, hb⟩ := List.any_eq_true.1 h2
   rw [dz a ha 3 (.inr (.inr rfl))] at hb
   refine List.all_eq_false.2 ⟨a, ha, ?_⟩
   rw [of_decide_eq_true hb]; decide
end Go.Dc
namespace Go.Dc
open Go.Proofs Go.Sort
variable {g : af}
theorem KS.up {d d' z : List Int} (hz : Dv g z) (h : Kp g d d') (hc : KS g.N.toNat z d') : KS g.N.toNat z d := fun i hi => h.sb i hi _ (hz.1.at hi) (hc i hi)
theorem SA (h : cu g) {f : Int × List Int → Option (Sum (List Int) (Int × List Int))} {d nodes : List Int} {w : Int} (hw : Dm w) (hd : Pm g.N.toNat d) (hn : nodes.length ≤ 1000) (hr : ∀ a ∈ nodes, 0 ≤ a ∧ a.toNat < g.N.toNat)
  (hk : ∀ z, Dv g z → KS g.N.toNat z d → ∀ a ∈ nodes, dB w (fA z a) = true)
  (hf : ∀ s : Int × List Int, f s = bif decide (s.1 < ((nodes.length : Int))) then (aL nodes s.1).bind fun t39 => (lq 40 s.2 t39).bind fun t40 => (lq 40 s.2 t39).bind fun t41 =>
   some (Sum.inr ((aN .i64 s.1 1, s.2.set (Int.toNat t39) (cE .i64 t40 w)))) else some (Sum.inl s.2)) : T (aI f (0, d)) fun d' => Kp g d d' := by
 have Te := h.n1
 refine T.cS nodes.length (fun k s => k ≤ nodes.length ∧ s.1 = (k : Int) ∧ Kp g d s.2) ⟨by omega, rfl, .refl hd⟩ ?_
 rintro k ⟨_, e⟩ ⟨hk1, rfl, he⟩
 dsimp only at he
 rw [hf]
 dsimp only
 refine T.cond (fun c => ?_) fun c => .ret he
 have hk2 : k < nodes.length := by simpa using c
 obtain ⟨h0, h1⟩ := hr _ (List.getElem_mem hk2)
 obtain ⟨b, hb⟩ := Int.eq_ofNat_of_zero_le h0
 have hbN : b < g.N.toNat := by rw [hb] at h1; simpa using h1
 rw [a_ hk2, aj, hb, wT he.ok.len (by omega), aj, aj, cN (by omega), Int.toNat_natCast]
 refine .ret ⟨hk2, hk2, rfl, he.trans (.cut he.ok hbN (by omega) hw fun z hz hc => ?_)⟩
 have := hk z hz (hc.up hz he) _ (List.getElem_mem hk2)
 rw [hb, qz] at this; exact this
theorem and_bt {v y : Int} (hv : Dm v) (hy : L3 y) : (cE .i64 v (bt y) != 0) = dB v y := by
 obtain ⟨h1, h2, h3, _⟩ := Bt hv
 rcases hy with rfl | rfl | rfl
 ·exact h1
 ·exact h2
 ·exact h3
theorem EW (h : cu g) {n : Int} {A found : List (List Int)} {d : List Int} {full : Bool} {al : Int} (hd : Pm g.N.toNat d) {i : Nat} (hi : i < g.N.toNat)
  (ha : al = 0 ∨ ∃ y, L3 y ∧ al = bt y ∧ ∀ z, Dv g z → KS g.N.toNat z d → ∃ a ∈ aK g (i : Int), fA z a = y) :
  T ((cU n A d found full (aK g (i : Int)) al).bind fun l25 => bif ((l25.length : Int) : Int) == 1 then (aL l25 0).bind fun t26 => (lq 40 d t26).bind fun t27 => (lq 40 d t26).bind fun t28 =>
   some ((n, d.set (Int.toNat t26) (cE .i64 t27 al), full)) else some ((n, d, full))) fun r => ∃ d', r = (n, d', full) ∧ Kp g d d' := by
 have Te := h.n1
 have hal := pF h (i := (i : Int))
 have hr : ∀ a ∈ aK g (i : Int), 0 ≤ a ∧ a < 40 := fun a ha => ⟨(mV h ha).1, (mV h ha).2.1⟩
 have hdm : ∀ a ∈ aK g (i : Int), Dm (fA d a) := fun a ha => hd.dm _ (mV h ha).2.2
 rw [O8 hd.len (by omega : (aK g (i : Int)).length ≤ 1000) hr, aj]
 refine T.cond (fun c => ?_) fun c => .ret ⟨d, rfl, .refl hd⟩
 have hl1 : ((aK g (i : Int)).filter fun a => cE .i64 (fA d a) al != 0).length = 1 := by have := eq_of_beq c; omega
 obtain ⟨b, hb⟩ := List.length_eq_one_iff.1 hl1
 have hbm : b ∈ (aK g (i : Int)).filter fun a => cE .i64 (fA d a) al != 0 := by rw [hb]; simp
 obtain ⟨hba, hbv⟩ := List.mem_filter.1 hbm
 obtain ⟨b0, b1, b2⟩ := mV h hba
 obtain ⟨m, rfl⟩ := Int.eq_ofNat_of_zero_le b0
 rw [Int.toNat_natCast] at b2
 rcases ha with rfl | ⟨y, hy, rfl, hz⟩
 ·rw [(Bt (hdm _ hba)).2.2.2.2] at hbv; cases hbv
 rw [hb, show aL [(m : Int)] 0 = some (m : Int) from rfl, aj, wT hd.len (by omega), aj, aj, Int.toNat_natCast]
 refine .ret ⟨_, rfl, .cut hd b2 (by omega) (Wf y) fun z hcz hc => ?_⟩
 obtain ⟨a, haa, hay⟩ := hz z hcz hc
 have hin : a ∈ (aK g (i : Int)).filter fun a => cE .i64 (fA d a) (bt y) != 0 := List.mem_filter.2 ⟨haa, by
  rw [and_bt (hdm a haa) hy, ← hay]
  exact hc _ (mV h haa).2.2⟩
 rw [hb, List.mem_singleton] at hin
 subst hin
 rw [qz] at hay
 rw [hay, O9 hy hy]; simp
theorem Qx {x y : Int} (hx : L3 x) (hy : L3 y) (h : dB (bt x) y = true) : y = x := by rw [O9 hx hy] at h; exact (of_decide_eq_true h).symm
theorem RT (h : cu g) {n : Int} {A found : List (List Int)} {d : List Int} {full : Bool} (hA : ∀ i : Nat, i < g.N.toNat → aL A (i : Int) = some (aK g (i : Int))) (hd : Pm g.N.toNat d) {i : Nat} (hi : i < g.N.toNat) :
  T (jS n A d found full (i : Int)) fun r => ∃ d', r = (n, d', full) ∧ Kp g d d' := by
 have Te := h.n1
 have hal := pF h (i := (i : Int))
 unfold jS
 simp only [hA i hi, aj, qp, wT hd.len (show i < 40 by omega)]
 have zl : ∀ y, L3 y → sf d i = bt y → ∀ z, Dv g z → KS g.N.toNat z d → sf z i = y := fun y hy e z hz hc => by
  have := hc i hi; rw [e] at this
  exact Qx hy (hz.1.at hi) this
 have hr : ∀ a ∈ aK g (i : Int), 0 ≤ a ∧ a.toNat < g.N.toNat := fun a ha => ⟨(mV h ha).1, (mV h ha).2.2⟩
 refine T.cond (fun c => ?_) fun c => T.cond (fun c => ?_) fun c => T.cond (fun c => ?_) fun c => ?_
 ·have e : sf d i = bt 1 := eq_of_beq c
  refine T.bind (SA h (w := 4) (by decide) hd (by omega) hr (fun z hz hc a ha => ?_) fun s => rfl) fun d1 h1 => ?_
  ·have hl := hz.at hi
   unfold jO at hl
   rw [if_pos (zl 1 (.inl rfl) e z hz hc)] at hl
   rw [eq_of_beq (List.all_eq_true.1 hl a ha)]; rfl
  ·exact (EW h h1.ok hi (.inl rfl)).mono fun r ⟨d', e1, h2⟩ => ⟨d', e1, h1.trans h2⟩
 ·have e : sf d i = bt 2 := eq_of_beq c
  refine EW h hd hi (.inr ⟨1, .inl rfl, rfl, fun z hz hc => ?_⟩)
  have hl := hz.at hi
  unfold jO at hl
  rw [if_neg (by rw [zl 2 (.inr (.inl rfl)) e z hz hc]; decide), if_pos (zl 2 (.inr (.inl rfl)) e z hz hc)] at hl
  obtain ⟨a, ha, hb⟩ := List.any_eq_true.1 hl
  exact ⟨a, ha, eq_of_beq hb⟩
 ·have e : sf d i = bt 3 := eq_of_beq c
  have leg : ∀ z, Dv g z → KS g.N.toNat z d → (∀ a ∈ aK g (i : Int), fA z a = 2 ∨ fA z a = 3) ∧ ∃ a ∈ aK g (i : Int), fA z a = 3 := fun z hz hc => by
   have hl := hz.at hi
   unfold jO at hl
   rw [if_neg (by rw [zl 3 (.inr (.inr rfl)) e z hz hc]; decide), if_neg (by rw [zl 3 (.inr (.inr rfl)) e z hz hc]; decide)] at hl
   simp only [Bool.and_eq_true, Bool.not_eq_true'] at hl
   obtain ⟨h1, h2⟩ := hl
   have no1 : ∀ a ∈ aK g (i : Int), fA z a = 2 ∨ fA z a = 3 := fun a ha => by
    rcases hz.1.at (mV h ha).2.2 with e1 | e1 | e1
    ·exact absurd (List.any_eq_false.1 h1 a ha) (by rw [show fA z a = 1 from e1]; simp)
    ·exact .inl e1
    ·exact .inr e1
   refine ⟨no1, ?_⟩
   obtain ⟨a, ha, hb⟩ := List.all_eq_false.1 h2
   exact ⟨a, ha, (no1 a ha).resolve_left fun e1 => by rw [e1] at hb; exact hb rfl⟩
  refine T.bind (SA h (w := 12) (by decide) hd (by omega) hr (fun z hz hc a ha => ?_) fun s => rfl) fun d1 h1 => ?_
  ·rcases (leg z hz hc).1 a ha with e1 | e1 <;> rw [e1] <;> rfl
  ·exact (EW h h1.ok hi (.inr ⟨3, .inr (.inr rfl), rfl, fun z hz hc => (leg z hz (hc.up hz h1)).2⟩)).mono fun r ⟨d', e1, h2⟩ => ⟨d', e1, h1.trans h2⟩
 ·exact EW h hd hi (.inl rfl)
def Fix (g : af) (d : List Int) : Prop := ∀ i, i < g.N.toNat → SbF (sf d i) (KY g d i)
theorem NN (h : cu g) {A found : List (List Int)} (hA : ∀ i : Nat, i < g.N.toNat → aL A (i : Int) = some (aK g (i : Int))) {s : Int × List Int × Bool} (hn : s.1 = g.N) (hd : Pm g.N.toNat s.2.1) :
  T (aI (lM A found s) (0, s.1, s.2.1, s.2.2)) fun r => match r with
   | .inl b => b.1 = false ∧ b.2.1 = g.N ∧ b.2.2.2 = s.2.2 ∧ ∀ z, Dv g z → ¬ KS g.N.toNat z s.2.1
   | .inr q => q.1 = g.N ∧ q.2.2 = s.2.2 ∧ Kp g s.2.1 q.2.1 ∧ (q.2.1 = s.2.1 → Fix g s.2.1) := by
 have Te := h.n1; have hn0 := h.n0
 refine T.cS g.N.toNat (fun k t => k ≤ g.N.toNat ∧ t.1 = (k : Int) ∧ t.2.1 = g.N ∧ t.2.2.2 = s.2.2 ∧ Kp g s.2.1 t.2.2.1 ∧ (t.2.2.1 = s.2.1 → ∀ i, i < k → SbF (sf s.2.1 i) (KY g s.2.1 i))) ⟨by omega, rfl, hn, rfl, .refl hd, fun _ i hi => by omega⟩ ?_
 rintro k ⟨_, n, d, full⟩ ⟨hk, rfl, e1, e2, hr, MZ⟩
 dsimp only at e1 e2 hr MZ
 subst e1; subst e2
 dsimp only [lM]
 refine T.cond (fun c => ?_) fun c => ?_
 ·have hkN : k < g.N.toNat := by rw [hn] at c; have := of_decide_eq_true c; omega
  have hl : k < d.length := by rw [hr.ok.len]; omega
  have R7 := Kp.cut hr.ok hkN (by omega) (Ly (g := g) (d := d) (i := k)).1 fun z hz hc => Xo h hz hc hkN
  simp only [qp, uC]
  rw [wT hr.ok.len (by omega), aj, Ml h hA hr.ok hkN, aj, aj, Int.toNat_natCast, wT R7.ok.len (by omega), aj, mw hl, if_pos rfl]
  refine T.cond (fun c2 => .ret ⟨rfl, rfl, rfl, fun z hz hc => ?_⟩) fun c2 => ?_
  ·have h1 := R7.kp z hz (hr.kp z hz hc) k hkN
   rw [mw hl, if_pos rfl, eq_of_beq c2] at h1
   have := (Wa (v := 0) (by decide)).1 rfl _ (hz.1.at hkN)
   rw [this] at h1; cases h1
  ·refine T.bind (RT h hA R7.ok hkN) fun r ⟨d2, er, h2⟩ => ?_
   subst er
   rw [cN (by omega)]
   refine .ret ⟨hkN, hkN, rfl, rfl, rfl, hr.trans (R7.trans h2), fun e i hi => ?_⟩
   dsimp only at e
   have ed : d = s.2.1 := Kp.anti hd hr fun j => by
    have h3 := h2.le R7.ok j; have h4 := R7.le hr.ok j
    rw [e] at h3; omega
   by_cases hik : i = k
   ·subst hik
    have h3 := h2.le R7.ok i
    rw [e, mw hl, if_pos rfl, ed] at h3
    have h5 := R7.le hr.ok i
    rw [mw hl, if_pos rfl, ed] at h5
    have h6 : cE .i64 (sf s.2.1 i) (KY g s.2.1 i) = sf s.2.1 i := by omega
    intro x hx hb
    rw [← h6, (and_dm (hd.dm i hkN) (Ly (g := g) (d := s.2.1) (i := i)).1).2 x hx] at hb
    simp only [Bool.and_eq_true] at hb; exact hb.2
   ·exact MZ ed i (by omega)
 ·have e : k = g.N.toNat := by rw [hn] at c; have := of_decide_eq_false c; omega
  subst e
  exact .ret ⟨rfl, rfl, hr, MZ⟩
theorem SB {n : Int} {A found : List (List Int)} {d : List Int} {full : Bool} (hd : d.length = 40) {N : Nat} (hN : N ≤ 40) : T (eT n A d found full (N : Int) 0) fun b => b = true ↔ ∃ i, i < N ∧ sf d i = 0 := by
 unfold eT j6
 refine T.bind (P := fun r : Int => (0 ≤ r ↔ ∃ i, i < N ∧ sf d i = 0)) ?_ fun r hr => .ret (by rw [decide_eq_true_eq]; exact hr)
 refine T.bind (P := fun r => match r with | .inl (a : Int) => 0 ≤ a ∧ ∃ i, i < N ∧ sf d i = 0 | .inr (_ : Unit) => ¬ ∃ i, i < N ∧ sf d i = 0) ?_ fun r hr => ?_
 ·refine T.cS N (fun k s => k ≤ N ∧ s = (k : Int) ∧ ∀ i, i < k → sf d i ≠ 0) ⟨by omega, rfl, fun i hi => by omega⟩ ?_
  rintro k _ ⟨hk, rfl, hno⟩
  dsimp only [og]
  rw [Int.toNat_natCast]
  refine T.cond (fun c => ?_) fun c => ?_
  ·have hkN : k < N := by have := of_decide_eq_true c; omega
   have hv : Jd 40 d (N : Int) (k : Int) = some (sf d k) := by
    unfold Jd
    rw [if_pos hd, Int.toNat_natCast, Ee (by simp; omega)]
    unfold sf; simp [List.getD, List.getElem?_take_of_lt hkN]
   rw [hv, aj, cN (by omega)]
   refine T.cond (fun c2 => .ret ⟨by omega, k, hkN, (eq_of_beq c2).symm⟩) fun c2 => .ret ⟨hkN, hkN, rfl, fun i hi => ?_⟩
   by_cases e : i = k
   ·subst e; intro h0; rw [h0] at c2; cases c2
   ·exact hno i (by omega)
  ·have e : k = N := by have := of_decide_eq_false c; omega
   subst e
   exact .ret fun ⟨i, hi, h0⟩ => hno i hi h0
 ·match r, hr with
  | .inl a, ⟨h0, h1⟩ => exact .ret ⟨fun _ => h1, fun _ => h0⟩
  | .inr _, h0 => exact .ret ⟨fun h1 => by omega, fun h1 => absurd h1 h0⟩
def wt (d : List Int) : Nat := (d.map Int.toNat).sum
theorem Yz : ∀ {a b : List Int}, a.length = b.length → (∀ i, sf a i ≤ sf b i) → wt a ≤ wt b
 | [], [], _, _ => Nat.le_refl _
 | x :: a, y :: b, h, h1 => by
  have h2 : x ≤ y := h1 0
  have := Yz (a := a) (b := b) (by simpa using h) fun i => h1 (i + 1)
  simp only [wt, List.map_cons, List.sum_cons] at this ⊢
  omega
 | [], _ :: _, h, _ => by simp at h
 | _ :: _, [], h, _ => by simp at h
theorem U2 : ∀ {a b : List Int}, a.length = b.length → (∀ i, sf a i ≤ sf b i) → (∃ i, i < a.length ∧ 0 ≤ sf a i ∧ sf a i < sf b i) → wt a < wt b
 | [], [], _, _, ⟨i, hi, _⟩ => by simp at hi
 | x :: a, y :: b, h, h1, ⟨i, hi, h3, h4⟩ => by
  have h2 : x ≤ y := h1 0
  have hl : a.length = b.length := by simpa using h
  cases i with
  | zero =>
   have h3 : 0 ≤ x := h3
   have h4 : x < y := h4
   have := Yz hl fun i => h1 (i + 1)
   simp only [wt, List.map_cons, List.sum_cons] at this ⊢
   omega
  | succ i =>
   have := U2 hl (fun i => h1 (i + 1)) ⟨i, by simpa using hi, h3, h4⟩
   simp only [wt, List.map_cons, List.sum_cons] at this ⊢
   omega
 | [], _ :: _, h, _, _ => by simp at h
 | _ :: _, [], h, _, _ => by simp at h
theorem Kp.wt {d d' : List Int} (hd : Pm g.N.toNat d) (h : Kp g d d') (hne : d' ≠ d) : wt d' < wt d := by
 refine U2 (h.ok.len.trans hd.len.symm) (h.le hd) (Classical.byContradiction fun hno => hne (Kp.anti hd h fun i => ?_))
 refine Classical.byContradiction fun hlt => hno ?_
 by_cases hi : i < g.N.toNat
 ·refine ⟨i, ?_, (h.ok.dm i hi).1, by omega⟩
  refine Classical.byContradiction fun hl => ?_
  have e1 : sf d i = 0 := by unfold sf; rw [List.getD, List.getElem?_eq_none (by rw [hd.len, ← h.ok.len]; omega)]; rfl
  have := (h.ok.dm i hi).1
  omega
 ·have := h.out i (by omega); omega
theorem PI (h : cu g) {A found : List (List Int)} (hA : ∀ i : Nat, i < g.N.toNat → aL A (i : Int) = some (aK g (i : Int))) {d : List Int} (hd : Pm g.N.toNat d) {full : Bool} :
  T (jh g.N A d found full) fun r => r.2.1 = g.N ∧ r.2.2.2 = full ∧ ((r.1 = false ∧ ∀ z, Dv g z → ¬ KS g.N.toNat z d) ∨ (r.1 = true ∧ Kp g d r.2.2.1 ∧ Fix g r.2.2.1 ∧ ∀ i, i < g.N.toNat → sf r.2.2.1 i ≠ 0)) := by
 have Te := h.n1; have hn0 := h.n0
 unfold jh
 refine T.bind (P := fun r : Bool × Int × List Int × Bool => r.2.1 = g.N ∧ r.2.2.2 = full ∧ ((r.1 = false ∧ ∀ z, Dv g z → ¬ KS g.N.toNat z d) ∨ (r.1 = true ∧ Kp g d r.2.2.1 ∧ Fix g r.2.2.1 ∧ ∀ i, i < g.N.toNat → sf r.2.2.1 i ≠ 0))) ?_ fun r hr => .ret hr
 refine T.loopM (fun s => s.1 = g.N ∧ s.2.2 = full ∧ Kp g d s.2.1) (fun s => wt s.2.1) ⟨rfl, rfl, .refl hd⟩ ?_
 rintro ⟨n, e, fl⟩ ⟨e1, e2, he⟩
 dsimp only at e1 e2 he
 subst e1; subst e2
 dsimp only [rA]
 refine T.bind (NN h hA (s := (g.N, e, fl)) rfl he.ok) fun r hr => ?_
 match r, hr with
 | .inl b, ⟨h1, h2, h3, h4⟩ => exact .ret ⟨h2, h3, .inl ⟨h1, fun z hz hc => h4 z hz (he.kp z hz hc)⟩⟩
 | .inr q, ⟨h1, h2, h3, h4⟩ =>
  obtain ⟨qn, q2, qf⟩ := q
  dsimp only at h1 h2 h3 h4
  subst h1; subst h2
  rw [LY]
  dsimp only
  obtain ⟨N, hN⟩ : ∃ N : Nat, g.N = (N : Int) := ⟨g.N.toNat, by omega⟩
  have hNt : g.N.toNat = N := by omega
  rw [show vsM 40 g.N = some g.N from by unfold vsM; rw [if_pos ⟨hn0, by omega⟩], aj]
  refine T.bind (P := fun b => b = true ↔ ∃ i, i < N ∧ sf q2 i = 0) (by rw [hN]; exact SB h3.ok.len (by omega)) fun b hb => ?_
  refine T.cond (fun c => .ret ⟨rfl, rfl, .inl ⟨rfl, fun z hz hc => ?_⟩⟩) fun c => ?_
  ·obtain ⟨i, hi, h0⟩ := hb.1 c
   have h5 := h3.kp z hz (he.kp z hz hc) i (by omega)
   rw [h0, (Wa (v := 0) (by decide)).1 rfl _ (hz.1.at (by omega))] at h5; cases h5
  ·have hno : ∀ i, i < g.N.toNat → sf q2 i ≠ 0 := fun i hi h0 => by rw [hb.2 ⟨i, by omega, h0⟩] at c; cases c
   rw [show Tk 40 q2 e = some (decide (q2 = e)) from by unfold Tk; rw [if_pos ⟨h3.ok.len, he.ok.len⟩], aj]
   refine T.cond (fun c2 => .ret ⟨rfl, rfl, .inr ⟨rfl, he.trans h3, ?_, hno⟩⟩) fun c2 => .ret ⟨⟨rfl, rfl, he.trans h3⟩, h3.wt he.ok (of_decide_eq_false c2)⟩
   have e3 := of_decide_eq_true c2
   have := h4 e3
   rw [e3]; exact this
theorem MJ (h : cu g) {A found : List (List Int)} {d : List Int} (hd : Pm g.N.toNat d) {full : Bool} :
  T (ji g.N A d found full) fun r => (r.1 = -1 ∧ r.2.length = g.N.toNat ∧ ∀ i, i < g.N.toNat → L3 (sf r.2 i) ∧ sf d i = bt (sf r.2 i)) ∨ (∃ i : Nat, i < g.N.toNat ∧ r.1 = (i : Int) ∧ ∀ x, L3 x → sf d i ≠ bt x) := by
 have Te := h.n1; have hn0 := h.n0
 unfold ji
 refine T.bind (P := fun r => match r with
  | .inl (a : Int × List Int) => ∃ i : Nat, i < g.N.toNat ∧ a.1 = (i : Int) ∧ ∀ x, L3 x → sf d i ≠ bt x
  | .inr (l : List Int) => l.length = g.N.toNat ∧ ∀ i, i < g.N.toNat → L3 (sf l i) ∧ sf d i = bt (sf l i)) ?_ fun r hr => ?_
 ·refine T.cS g.N.toNat (fun k s => k ≤ g.N.toNat ∧ s.1 = (k : Int) ∧ s.2.length = k ∧ ∀ i, i < k → L3 (sf s.2 i) ∧ sf d i = bt (sf s.2 i)) ⟨by omega, rfl, rfl, fun i hi => by omega⟩ ?_
  rintro k ⟨_, l⟩ ⟨hk, rfl, hl, hi⟩
  dsimp only at hl hi
  dsimp only [rC]
  refine T.cond (fun c => ?_) fun c => ?_
  ·have hkN : k < g.N.toNat := by have := of_decide_eq_true c; omega
   have go : ∀ x : Int, L3 x → sf d k = bt x → T ((dh 8 l [x]).bind fun l18 => (some (Sum.inr (aN .i64 (k : Int) 1, l18)) : Option (Sum (Sum (Int × List Int) (List Int)) (Int × List Int)))) (onO (fun r => match r with
     | .inl (a : Int × List Int) => ∃ i : Nat, i < g.N.toNat ∧ a.1 = (i : Int) ∧ ∀ x, L3 x → sf d i ≠ bt x
     | .inr (l : List Int) => l.length = g.N.toNat ∧ ∀ i, i < g.N.toNat → L3 (sf l i) ∧ sf d i = bt (sf l i)) fun s => k < g.N.toNat ∧ k + 1 ≤ g.N.toNat ∧ s.1 = ((k + 1 : Nat) : Int) ∧ s.2.length = k + 1 ∧ ∀ i, i < k + 1 → L3 (sf s.2 i) ∧ sf d i = bt (sf s.2 i)) := fun x hx e => by
    rw [cL (by simp; omega), aj, cN (by omega)]
    refine .ret ⟨hkN, hkN, rfl, by simp [hl], fun i hik => ?_⟩
    by_cases e1 : i = k
    ·subst e1
     have e2 : sf (l ++ [x]) i = x := by unfold sf; rw [← hl]; simp [List.getD]
     dsimp only
     rw [e2]; exact ⟨hx, e⟩
    ·dsimp only
     rw [sf_app (by omega)]; exact hi i (by omega)
   rw [wT hd.len (by omega), aj]
   refine T.cond (fun c1 => go 1 (.inl rfl) (eq_of_beq c1)) fun c1 => T.cond (fun c2 => go 2 (.inr (.inl rfl)) (eq_of_beq c2)) fun c2 => T.cond (fun c3 => go 3 (.inr (.inr rfl)) (eq_of_beq c3)) fun c3 => .ret ⟨k, hkN, rfl, fun x hx e => ?_⟩
   rcases hx with rfl | rfl | rfl
   ·rw [e] at c1; exact absurd c1 (by decide)
   ·rw [e] at c2; exact absurd c2 (by decide)
   ·rw [e] at c3; exact absurd c3 (by decide)
  ·have e : k = g.N.toNat := by have := of_decide_eq_false c; omega
   subst e
   exact .ret ⟨hl, hi⟩
 ·match r, hr with
  | .inl a, h1 => exact .ret (.inr h1)
  | .inr l, h1 => exact .ret (.inl ⟨rfl, h1⟩)
end Go.Dc
namespace Go.Dc
open Go.Proofs Go.Sort
variable {g : af}
theorem bt_sb {v x : Int} (hv : Dm v) (hx : L3 x) (h : dB v x = true) : SbF (bt x) v := fun y hy e => by rw [Qx hx hy e]; exact h
theorem cmp_set {d z : List Int} (hd : Pm g.N.toNat d) (hz : Dv g z) {o : Nat} (ho : o < g.N.toNat) (Te : g.N.toNat ≤ 40) {x : Int} (hx : L3 x) (hb : dB (sf d o) x = true) : KS g.N.toNat z (d.set o (bt x)) ↔ KS g.N.toNat z d ∧ sf z o = x := by
 have hl : o < d.length := by rw [hd.len]; omega
 constructor
 ·intro hc
  have h1 := hc o ho
  rw [mw hl, if_pos rfl] at h1
  have e := Qx hx (hz.1.at ho) h1
  refine ⟨fun i hi => ?_, e⟩
  have h2 := hc i hi
  rw [mw hl] at h2
  split at h2
  ·rename_i e1; subst e1; rw [e]; exact hb
  ·exact h2
 ·rintro ⟨hc, e⟩ i hi
  rw [mw hl]
  split
  ·rename_i e1; subst e1; rw [e, O9 hx hx]; simp
  ·exact hc i hi
def FindE (g : af) (A : List (List Int)) (rc : Int → List (List Int) → List Int → List (List Int) → Bool → Option (Int × List Int × Bool × List (List Int))) (m : Nat) : Prop :=
 ∀ d F, Pm g.N.toNat d → wt d ≤ m → F.Nodup → (∀ z ∈ F, Dv g z) → (∀ z ∈ F, ¬ KS g.N.toNat z d) →
  T (rc g.N A d F false) fun r => r.1 = g.N ∧ r.2.2.1 = false ∧ r.2.2.2.Nodup ∧ ∀ z, z ∈ r.2.2.2 ↔ z ∈ F ∨ (Dv g z ∧ KS g.N.toNat z d)
theorem Uv (h : cu g) {A : List (List Int)} {m o : Nat} {rc : Int → List (List Int) → List Int → List (List Int) → Bool → Option (Int × List Int × Bool × List (List Int))} (hrc : FindE g A rc m)
  {d : List Int} (hd : Pm g.N.toNat d) (hwt : wt d ≤ m + 1) (ho : o < g.N.toNat) (hne : ∀ x, L3 x → sf d o ≠ bt x) {F : List (List Int)} (hF : F.Nodup) (hFc : ∀ z ∈ F, Dv g z) (hFp : ∀ z ∈ F, ¬ KS g.N.toNat z d)
  {t2 : Bool × Int × List Int × Bool} (ht2 : t2.2.2.1 = d) {t3 : Int × List Int} (ht3 : t3.1 = (o : Int)) :
  T (aI (eL A t2 t3 rc) (0, g.N, false, F)) fun r => r.1 = g.N ∧ r.2.1 = false ∧ r.2.2.Nodup ∧ ∀ z, z ∈ r.2.2 ↔ z ∈ F ∨ (Dv g z ∧ KS g.N.toNat z d) := by
 have Te := h.n1
 have hol : o < d.length := by rw [hd.len]; omega
 refine T.cS 3 (fun k s => k ≤ 3 ∧ s.1 = (k : Int) ∧ s.2.1 = g.N ∧ s.2.2.1 = false ∧ s.2.2.2.Nodup ∧ ∀ z, z ∈ s.2.2.2 ↔ z ∈ F ∨ (Dv g z ∧ KS g.N.toNat z d ∧ sf z o ≤ (k : Int))) ⟨by omega, rfl, rfl, rfl, hF, fun z => ⟨.inl, fun hz => hz.elim id fun ⟨hz, _, h1⟩ => by rcases hz.1.at ho with e | e | e <;> omega⟩⟩ ?_
 rintro k ⟨_, _, _, B⟩ ⟨hk, rfl, rfl, rfl, hB, hBm⟩
 dsimp only at hB hBm
 dsimp only [eL]
 refine T.cond (fun c => ?_) fun c => ?_
 ·have hk3 : k < 3 := by have : (k : Int) < 3 := of_decide_eq_true c; omega
  have hx : L3 ((k : Int) + 1) := by unfold L3; omega
  have e1 : aL [2, 4, 8] (k : Int) = some (bt ((k : Int) + 1)) := by
   rcases (by omega : k = 0 ∨ k = 1 ∨ k = 2) with rfl | rfl | rfl <;> rfl
  rw [e1, aj, ht2, ht3, wT hd.len (by omega), aj, cN (by omega), and_bt (hd.dm o ho) hx, Int.toNat_natCast, aj]
  have upd : ∀ C : List (List Int), (∀ z, z ∈ C ↔ z ∈ B ∨ (Dv g z ∧ KS g.N.toNat z d ∧ sf z o = (k : Int) + 1)) → ∀ z, z ∈ C ↔ z ∈ F ∨ (Dv g z ∧ KS g.N.toNat z d ∧ sf z o ≤ ((k + 1 : Nat) : Int)) := fun C hC z => by
   rw [hC, hBm]
   constructor
   ·rintro ((h1 | ⟨h1, h2, h3⟩) | ⟨h1, h2, h3⟩)
    ·exact .inl h1
    ·exact .inr ⟨h1, h2, by omega⟩
    ·exact .inr ⟨h1, h2, by omega⟩
   ·rintro (h1 | ⟨h1, h2, h3⟩)
    ·exact .inl (.inl h1)
    ·by_cases e : sf z o = (k : Int) + 1
     ·exact .inr ⟨h1, h2, e⟩
     ·exact .inl (.inr ⟨h1, h2, by omega⟩)
  refine T.cond (fun c2 => ?_) fun c2 => .ret ⟨hk3, hk3, rfl, rfl, rfl, hB, upd B fun z => ⟨.inl, fun hz => hz.elim id fun ⟨hz, hc, e⟩ => ?_⟩⟩
  ·have hd2 := hd.set (i := o) (by omega) (Wf ((k : Int) + 1))
   have hsb := bt_sb (hd.dm o ho) hx c2
   have hlt : bt ((k : Int) + 1) < sf d o := by have := sb_le (Wf _) (hd.dm o ho) hsb; have := hne _ hx; omega
   have hle : ∀ i, sf (d.set o (bt ((k : Int) + 1))) i ≤ sf d i := fun i => by
    rw [mw hol]
    split
    ·rename_i e; subst e; omega
    ·exact Int.le_refl _
   have K7 : wt (d.set o (bt ((k : Int) + 1))) < wt d := U2 (by simp) hle ⟨o, by simpa using hol, by rw [mw hol, if_pos rfl]; exact (Wf _).1, by rw [mw hol, if_pos rfl]; exact hlt⟩
   have hcs := fun z (hz : Dv g z) => cmp_set hd hz ho (by omega) hx c2
   refine T.bind (hrc _ B hd2 (by omega) hB (fun z hz => ?_) fun z hz hc => ?_) fun r ⟨r1, r2, r3, r4⟩ => .ret ⟨hk3, hk3, rfl, r1, r2, r3, upd _ fun z => ?_⟩
   ·rcases (hBm z).1 hz with h1 | ⟨h1, _⟩
    ·exact hFc z h1
    ·exact h1
   ·rcases (hBm z).1 hz with h1 | ⟨h1, h2, h3⟩
    ·exact hFp z h1 ((hcs z (hFc z h1)).1 hc).1
    ·have := ((hcs z h1).1 hc).2; omega
   ·rw [r4]
    constructor
    ·rintro (h1 | ⟨h1, h2⟩)
     ·exact .inl h1
     ·exact .inr ⟨h1, (hcs z h1).1 h2⟩
    ·rintro (h1 | ⟨h1, h2⟩)
     ·exact .inl h1
     ·exact .inr ⟨h1, (hcs z h1).2 h2⟩
  ·have h1 := hc o ho
   rw [e, c2] at h1; cases h1
 ·have e : k = 3 := by have : ¬ (k : Int) < 3 := of_decide_eq_false c; omega
  subst e
  refine .ret ⟨rfl, rfl, hB, fun z => ?_⟩
  dsimp only
  rw [hBm]
  constructor
  ·rintro (h1 | ⟨h1, h2, _⟩)
   ·exact .inl h1
   ·exact .inr ⟨h1, h2⟩
  ·rintro (h1 | ⟨h1, h2⟩)
   ·exact .inl h1
   ·exact .inr ⟨h1, h2, by rcases h1.1.at ho with e | e | e <;> omega⟩
theorem M8 (h : cu g) (h7 : ∀ p ∈ g.L, p.To < 7) {A : List (List Int)} (hA : ∀ i : Nat, i < g.N.toNat → aL A (i : Int) = some (aK g (i : Int))) : ∀ m, FindE g A (cK (m + 1)) m
 | m, d, F, hd, hw, hF, hFc, hFp => by
  have Te := h.n1; have hn0 := h.n0
  have hfew := Wd h h7 hF hFc
  show T (dR (cK m) g.N A d F false) _
  unfold dR
  rw [cond_false]
  refine T.bind (PI h hA hd) fun t2 ⟨e1, e2, ht⟩ => ?_
  rcases ht with ⟨e3, hno⟩ | ⟨e3, hr, MZ, hnz⟩
  ·rw [e3, show (!false) = true from rfl, cond_true]
   exact .ret ⟨e1, e2, hF, fun z => ⟨.inl, fun hz => hz.elim id fun ⟨h1, h2⟩ => absurd h2 (hno z h1)⟩⟩
  rw [e3, show (!true) = false from rfl, cond_false, e1, e2]
  have hcmp : ∀ z, Dv g z → (KS g.N.toNat z d ↔ KS g.N.toNat z t2.2.2.1) := fun z hz => ⟨hr.kp z hz, fun hc => hc.up hz hr⟩
  refine T.bind (MJ h hr.ok) fun t3 ht3 => ?_
  rcases ht3 with ⟨e4, hl, hi⟩ | ⟨o, ho, e4, hne⟩
  ·rw [e4, show decide ((-1 : Int) < 0) = true from rfl, cond_true, cL (by simp; omega), aj]
   have hlok : NF g.N.toNat t3.2 := ⟨hl, fun x hx => by
    obtain ⟨i, NK, rfl⟩ := List.getElem_of_mem hx
    have e : sf t3.2 i = t3.2[i] := by unfold sf; simp [List.getD, NK]
    have := (hi i (by omega)).1
    rw [e] at this; unfold L3 at this; omega⟩
   have y8 : Dv g t3.2 := ⟨hlok, xC.2 fun i hi' => Xc h (fun j hj => (hi j hj).2) hlok hi' (MZ i hi' _ (hi i hi').1 (by rw [(hi i hi').2, O9 (hi i hi').1 (hi i hi').1]; simp))⟩
   have hcc : KS g.N.toNat t3.2 t2.2.2.1 := fun i hi' => by rw [(hi i hi').2, O9 (hi i hi').1 (hi i hi').1]; simp
   refine .ret ⟨rfl, beq_eq_false_iff_ne.2 (by omega), List.nodup_append.2 ⟨hF, by simp, fun a ha b hb e => ?_⟩, fun z => ?_⟩
   ·rw [List.mem_singleton.1 hb] at e
    subst e
    exact hFp _ ha ((hcmp _ y8).2 hcc)
   ·dsimp only
    rw [List.mem_append, List.mem_singleton]
    constructor
    ·rintro (h1 | rfl)
     ·exact .inl h1
     ·exact .inr ⟨y8, (hcmp _ y8).2 hcc⟩
    ·rintro (h1 | ⟨h1, h2⟩)
     ·exact .inl h1
     ·refine .inr (Tx h1.1.len hl fun i hi' => ?_)
      have h3 := (hcmp z h1).1 h2 i hi'
      rw [(hi i hi').2] at h3
      exact Qx (hi i hi').1 (h1.1.at hi') h3
  ·rw [e4, decide_eq_false (by omega : ¬ (o : Int) < 0), cond_false]
   have hwr : wt t2.2.2.1 ≤ wt d := Yz (hr.ok.len.trans hd.len.symm) (hr.le hd)
   have hpos : 0 < wt t2.2.2.1 := by
    refine Nat.lt_of_le_of_lt (Nat.zero_le _) (U2 (a := t2.2.2.1.set o 0) (by simp) (fun i => ?_) ⟨o, by rw [List.length_set, hr.ok.len]; omega, ?_, ?_⟩)
    ·rw [mw (by rw [hr.ok.len]; omega)]
     split
     ·rename_i e; subst e; exact (hr.ok.dm o ho).1
     ·exact Int.le_refl _
    ·rw [mw (by rw [hr.ok.len]; omega), if_pos rfl]; exact Int.le_refl _
    ·rw [mw (by rw [hr.ok.len]; omega), if_pos rfl]; have := (hr.ok.dm o ho).1; have := hnz o ho; omega
   obtain ⟨m', rfl⟩ : ∃ m', m = m' + 1 := ⟨m - 1, by omega⟩
   refine T.bind (Uv h (M8 h h7 hA m') hr.ok (by omega) ho hne hF hFc (fun z hz hc => hFp z hz ((hcmp z (hFc z hz)).2 hc)) rfl e4) fun r ⟨r1, r2, r3, r4⟩ => .ret ⟨r1, r2, r3, fun z => ?_⟩
   dsimp only
   rw [r4]
   constructor
   ·rintro (h1 | ⟨h1, h2⟩)
    ·exact .inl h1
    ·exact .inr ⟨h1, (hcmp z h1).2 h2⟩
   ·rintro (h1 | ⟨h1, h2⟩)
    ·exact .inl h1
    ·exact .inr ⟨h1, (hcmp z h1).1 h2⟩
 termination_by m => m
theorem Lq (h : cu g) (hg : g.L.length ≤ 100000) (h7 : ∀ p ∈ g.L, p.To < 7) : T (eF g) fun r => r.1 = 0 ∧ r.2.Nodup ∧ ∀ z, z ∈ r.2 ↔ Dv g z := by
 have Te := h.n1; have hn0 := h.n0
 unfold eF
 refine T.bind (zX (by omega)) fun e he => ?_
 have e0 := he.2 h
 subst e0
 rw [show ((0 : Int) != 0) = false from rfl, cond_false]
 refine T.bind (P := fun q => q.1.length = 40 ∧ (∀ i, sf q.1 i = if i < g.N.toNat then 14 else 0) ∧ q.2.1 = (List.range g.N.toNat).map (fun i : Nat => aK g (i : Int)) ∧ q.2.2 = []) ?_ fun q ⟨hq1, Yq, hq3, hq4⟩ => ?_
 ·refine T.cS g.N.toNat (fun k s => k ≤ g.N.toNat ∧ s.1 = (k : Int) ∧ s.2.1.length = 40 ∧ (∀ i, sf s.2.1 i = if i < k then 14 else 0) ∧ s.2.2.1 = (List.range k).map (fun i : Nat => aK g (i : Int)) ∧ s.2.2.2 = []) ⟨by omega, rfl, by simp, fun i => by rw [if_neg (by omega)]; exact Ei, rfl, rfl⟩ ?_
  rintro k ⟨_, d, A, F⟩ ⟨hk, rfl, hd, hdi, rfl, rfl⟩
  dsimp only at hd hdi
  dsimp only [xM]
  refine T.cond (fun c => ?_) fun c => ?_
  ·have hkN : k < g.N.toNat := by have := of_decide_eq_true c; omega
   rw [uI h hg (by omega), aj, cL (by simp; omega), aj, wT hd (by omega), aj, cN (by omega), Int.toNat_natCast]
   refine .ret ⟨hkN, hkN, rfl, by simpa using hd, fun i => ?_, by rw [List.range_succ, List.map_append]; rfl, rfl⟩
   dsimp only
   rw [mw (by omega), hdi]
   by_cases e : k = i
   ·subst e; rw [if_pos rfl, if_pos (by omega)]
   ·rw [if_neg e]
    by_cases e2 : i < k
    ·rw [if_pos e2, if_pos (by omega)]
    ·rw [if_neg e2, if_neg (by omega)]
  ·have e : k = g.N.toNat := by have := of_decide_eq_false c; omega
   subst e
   exact .ret ⟨hd, hdi, rfl, rfl⟩
 ·obtain ⟨d, A, F⟩ := q
  dsimp only at hq1 Yq hq3 hq4
  subst hq3; subst hq4
  have hA : ∀ i : Nat, i < g.N.toNat → aL ((List.range g.N.toNat).map fun i : Nat => aK g (i : Int)) (i : Int) = some (aK g (i : Int)) := fun i hi => by
   rw [a_ (by simpa using hi)]; simp
  have hd : Pm g.N.toNat d := ⟨hq1, fun i hi => by rw [Yq, if_pos hi]; decide⟩
  dsimp only
  obtain ⟨r, er, hr⟩ := M8 h h7 hA (wt d) d [] hd (Nat.le_refl _) (by simp) (by simp) (by simp)
  obtain ⟨r1, r2, r3, r4⟩ := hr
  rw [Au er, aj, r2, cond_false]
  refine .ret ⟨rfl, r3, fun z => ?_⟩
  dsimp only
  rw [r4]
  constructor
  ·rintro (h1 | ⟨h1, _⟩)
   ·simp at h1
   ·exact h1
  ·intro h1
   refine .inr ⟨h1, fun i hi => ?_⟩
   rw [Yq, if_pos hi]
   rcases h1.1.at hi with e | e | e <;> rw [e] <;> rfl
end Go.Dc
namespace Go.Dc
theorem awake : nw = some true := Jj (k_ := 1000) true (by kernel_rfl)
end Go.Dc
namespace Go.Dc
open Go.Proofs Go.Sort
variable {g : af}
def jC (y : List Int) (x : Int) : List Int := ((List.range y.length).filter fun i => sf y i == x).map fun i : Nat => (i : Int)
theorem EJ {y : List Int} {x : Int} : (jC y x).length ≤ y.length := by
 unfold jC; rw [List.length_map]; exact Nat.le_trans (List.length_filter_le _ _) (by simp)
theorem ET {y : List Int} {x : Int} {j : Int} : j ∈ jC y x ↔ ∃ i : Nat, j = i ∧ i < y.length ∧ sf y i = x := by
 unfold jC
 simp only [List.mem_map, List.mem_filter, List.mem_range, beq_iff_eq]
 exact ⟨fun ⟨i, ⟨h1, h2⟩, h3⟩ => ⟨i, h3.symm, h1, h2⟩, fun ⟨i, h3, h1, h2⟩ => ⟨i, ⟨h1, h2⟩, h3.symm⟩⟩
theorem Kn {y : List Int} {x : Int} (hl : y.length ≤ 1000000) : b9 y x = some (jC y x) := by
 refine T.eq ?_
 unfold b9
 refine T.bind (P := fun r => r = jC y x) ?_ fun r hr => .ret hr
 refine T.cS y.length (fun k s => k ≤ y.length ∧ s = ((k : Int), ((List.range k).filter fun i => sf y i == x).map fun i : Nat => (i : Int))) ⟨by omega, rfl⟩ ?_
 rintro k _ ⟨hk, rfl⟩
 dsimp only [sW]
 refine T.cond (fun c => ?_) fun c => ?_
 ·have hk2 : k < y.length := by simpa using c
  rw [Ee hk2, aj, cN (by omega), List.range_succ, List.filter_append, List.map_append]
  refine T.cond (fun c2 => ?_) fun c2 => .ret ⟨hk2, hk2, ?_⟩
  ·rw [cL (by have := List.length_filter_le (fun i => sf y i == x) (List.range k); simp at this ⊢; omega), aj]
   refine .ret ⟨hk2, hk2, ?_⟩
   rw [List.filter_cons, if_pos c2]; rfl
  ·rw [List.filter_cons, if_neg (by rw [c2]; simp)]; simp
 ·have e : k = y.length := by have : ¬ (k : Int) < y.length := of_decide_eq_false c; omega
  subst e
  exact .ret rfl
theorem BT {y : List Int} {x : Int} (hl : y.length ≤ 1000000) : gH y [x] = some (jC y x) := by
 have hw := EJ (y := y) (x := x)
 refine T.eq ?_
 unfold gH
 refine T.bind (P := fun r => r = jC y x) ?_ fun r hr => .ret hr
 refine T.cS 1 (fun k s => k ≤ 1 ∧ s = ((k : Int), if k = 0 then [] else jC y x)) ⟨by omega, rfl⟩ ?_
 rintro k _ ⟨hk, rfl⟩
 dsimp only [wL]
 refine T.cond (fun c => ?_) fun c => ?_
 ·have hk2 : k < 1 := by have : (k : Int) < 1 := of_decide_eq_true c; omega
  obtain rfl : k = 0 := by omega
  rw [show aL [x] ((0 : Nat) : Int) = some x from rfl, aj, Kn hl, aj, if_pos rfl, cL (by simp; omega), aj]
  exact .ret ⟨by omega, by omega, rfl⟩
 ·have e : k = 1 := by have : ¬ (k : Int) < 1 := of_decide_eq_false c; omega
  subst e
  exact .ret rfl
theorem cont_s2 {s : List Int} {v : Int} (hl : s.length ≤ 1000000) : eS s v = some (s.any fun y => v == y) := by
 unfold eS
 have h : T (ga s v) fun r => 0 ≤ r ↔ (s.any fun y => v == y) = true := by
  unfold ga
  refine vF (l := s) (fun i hi => ?_) ?_
  ·unfold jF
   rw [show decide ((i : Int) < (s.length : Int)) = true by simp [hi], cond_true, a_ hi, iz (by omega) (by omega)]
   simp only [Option.bind_some]
   cases v == s[i] <;> rfl
  ·unfold jF; simp
 obtain ⟨r, h1, h2⟩ := h
 rw [h1]; exact IN h2
theorem contf_s4 {s p : List Int} (hl : s.length ≤ 1000000) (hp : p.length ≤ 1000000) : dK s p = some (s.any fun x => !(p.any fun y => x == y)) := by
 unfold dK
 have h : T (eD s p) fun r => 0 ≤ r ↔ (s.any fun x => !(p.any fun y => x == y)) = true := by
  unfold eD
  refine vF (l := s) (fun i hi => ?_) ?_
  ·unfold gy oM
   rw [show decide ((i : Int) < (s.length : Int)) = true by simp [hi], cond_true, a_ hi, iz (by omega) (by omega)]
   simp only [Option.bind_some]
   rw [cont_s2 hp, aj, aj]
   cases !(p.any fun y => s[i] == y) <;> rfl
  ·unfold gy; simp
 obtain ⟨r, h1, h2⟩ := h
 rw [h1]; exact IN h2
def YC (a b : List Int) : Bool := decide (a.length < b.length) && !(a.any fun x => !(b.any fun y => x == y))
theorem NL {a b : List Int} (ha : a.length ≤ 1000000) (hb : b.length ≤ 1000000) : mM a b = some (YC a b) := by
 unfold mM YC
 have e : decide ((a.length : Int) < (b.length : Int)) = decide (a.length < b.length) := by rw [decide_eq_decide]; omega
 rw [e]
 cases decide (a.length < b.length) with
 | false => rfl
 | true => rw [cond_true, contf_s4 ha hb, aj, Bool.true_and]
def prf (y x : List Int) : Bool := YC (jC x 1) (jC y 1)
theorem TJ {x y : List Int} (hx : x.length ≤ 1000000) (hy : y.length ≤ 1000000) : mN y x = some (prf y x) := by
 have h1 := EJ (y := y) (x := 1); have h2 := EJ (y := x) (x := 1)
 unfold mN lV
 rw [BT hx, aj, BT hy, aj, NL (by omega) (by omega), aj, aj]; rfl
theorem Tp {x y : List Int} (hx : x.length ≤ 1000000) : jW y x = some (x.any fun z => z == 3) := by
 unfold jW oO
 rw [BT hx, aj, aj]
 congr 1
 rw [Bool.eq_iff_iff, decide_eq_true_eq, List.any_eq_true]
 constructor
 ·intro h
  obtain ⟨j, hj⟩ := List.exists_mem_of_length_pos (show 0 < (jC x 3).length by omega)
  obtain ⟨i, _, hi, h3⟩ := ET.1 hj
  have e : sf x i = x[i] := by unfold sf; simp [List.getD, hi]
  exact ⟨x[i], List.getElem_mem hi, by rw [← e, h3]; rfl⟩
 ·rintro ⟨z, hz, h3⟩
  obtain ⟨i, hi, rfl⟩ := List.getElem_of_mem hz
  have e : sf x i = x[i] := by unfold sf; simp [List.getD, hi]
  have : (i : Int) ∈ jC x 3 := ET.2 ⟨i, rfl, hi, by rw [e]; exact eq_of_beq h3⟩
  have := List.length_pos_of_mem this
  omega
theorem UD {s : List (List Int)} {x : List Int} (hl : s.length ≤ 1000000) (hs : ∀ y ∈ s, y.length ≤ 1000000) (hx : x.length ≤ 1000000) : dZ s x = some (s.any fun y => prf y x) := by
 unfold dZ
 have h : T (fm s x) fun r => 0 ≤ r ↔ (s.any fun y => prf y x) = true := by
  unfold fm
  refine vF (l := s) (fun i hi => ?_) ?_
  ·unfold iM
   rw [show decide ((i : Int) < (s.length : Int)) = true by simp [hi], cond_true, a_ hi, iz (by omega) (by omega)]
   simp only [Option.bind_some]
   rw [TJ hx (hs _ (List.getElem_mem hi)), aj]
   cases prf s[i] x <;> rfl
  ·unfold iM; simp
 obtain ⟨r, h1, h2⟩ := h
 rw [h1]; exact IN h2
theorem UC {s : List (List Int)} {x : List Int} (hl : s.length ≤ 1000000) (hx : x.length ≤ 1000000) : dI s x = some (s.any fun _ => x.any fun z => z == 3) := by
 unfold dI
 have h : T (dY s x) fun r => 0 ≤ r ↔ (s.any fun _ => x.any fun z => z == 3) = true := by
  unfold dY
  refine vF (l := s) (fun i hi => ?_) ?_
  ·unfold fW
   rw [show decide ((i : Int) < (s.length : Int)) = true by simp [hi], cond_true, a_ hi, iz (by omega) (by omega)]
   simp only [Option.bind_some]
   rw [Tp hx, aj]
   cases x.any (fun z => z == 3) <;> rfl
  ·unfold fW; simp
 obtain ⟨r, h1, h2⟩ := h
 rw [h1]; exact IN h2
theorem OS {s : List (List Int)} {p : List Int → Bool} (hl : s.length ≤ 1000000) {f : Int × List (List Int) → Option (Sum (List (List Int)) (Int × List (List Int)))}
  (hf : ∀ q : Int × List (List Int), f q = bif decide (q.1 < ((s.length : Int))) then (aL s q.1).bind fun t15 => (some (p t15)).bind fun t16 => bif !t16 then (dh 24 q.2 [t15]).bind fun oz => some (Sum.inr ((aN .i64 q.1 1, oz)))
   else some (Sum.inr ((aN .i64 q.1 1, q.2))) else some (Sum.inl q.2)) : aI f (0, []) = some (s.filter fun x => !p x) := by
 refine T.eq (T.cS s.length (fun k q => k ≤ s.length ∧ q = ((k : Int), (s.take k).filter fun x => !p x)) ⟨by omega, by simp⟩ ?_)
 rintro k _ ⟨hk, rfl⟩
 rw [hf]
 dsimp only
 refine T.cond (fun c => ?_) fun c => ?_
 ·have hk2 : k < s.length := by simpa using c
  have tk : s.take (k + 1) = s.take k ++ [s[k]] := by rw [List.take_add_one, List.getElem?_eq_getElem hk2]; rfl
  rw [a_ hk2, aj, aj, cN (by omega), tk, List.filter_append]
  refine T.cond (fun c2 => ?_) fun c2 => .ret ⟨hk2, hk2, ?_⟩
  ·rw [cL (by have := List.length_filter_le (fun x => !p x) (s.take k); simp at this ⊢; omega), aj]
   refine .ret ⟨hk2, hk2, ?_⟩
   rw [List.filter_cons, if_pos c2]; rfl
  ·rw [List.filter_cons, if_neg (by rw [c2]; simp)]; simp
 ·have e : k = s.length := by have : ¬ (k : Int) < s.length := of_decide_eq_false c; omega
  subst e
  exact .ret (by simp)
theorem max_of {α : Type} {l : List α} (f : α → Nat) (h : l ≠ []) : ∃ y ∈ l, ∀ w ∈ l, f w ≤ f y := by
 induction l with
 | nil => exact absurd rfl h
 | cons a l ih =>
  by_cases hl : l = []
  ·subst hl; exact ⟨a, by simp, by simp⟩
  ·obtain ⟨y, hy, hm⟩ := ih hl
   by_cases hc : f y ≤ f a
   ·exact ⟨a, by simp, fun w hw => by rcases List.mem_cons.1 hw with rfl | hw; exact Nat.le_refl _; exact Nat.le_trans (hm w hw) hc⟩
   ·exact ⟨y, by simp [hy], fun w hw => by rcases List.mem_cons.1 hw with rfl | hw; omega; exact hm w hw⟩
theorem YB {a b : List Int} : YC a b = true ↔ a.length < b.length ∧ ∀ x ∈ a, x ∈ b := by
 unfold YC
 rw [Bool.and_eq_true, decide_eq_true_eq, Bool.not_eq_true', List.any_eq_false]
 refine and_congr_right fun _ => ⟨fun h x hx => ?_, fun h x hx => ?_⟩
 ·have := h x hx
  simp only [Bool.not_eq_true', Bool.not_eq_false, List.any_eq_true, beq_iff_eq] at this
  obtain ⟨y, hy, e⟩ := this
  rw [e]; exact hy
 ·simp only [Bool.not_eq_true', Bool.not_eq_false, List.any_eq_true, beq_iff_eq]
  exact ⟨x, h x hx, rfl⟩
end Go.Dc
namespace Go.Dc
theorem zo {s n : Nat} (hs : s < 2 ^ 64) (hn : n < 64) : cO (s : Int) (n : Int) = some ((s ||| 2 ^ n : Nat) : Int) := by
 unfold cO Ed
 rw [LQ (by omega), if_neg (by omega), aj, aat hn, VP hs (Nat.pow_lt_pow_right (by decide) hn)]
theorem Pj {s n : Nat} (hs : s < 2 ^ 64) (hn : n < 64) : bD (s : Int) (n : Int) = some (s.testBit n) := by
 unfold bD KH
 rw [LQ (by omega), if_neg (by omega), aj, ishr_u (by omega)]
 have h1 : s >>> n < 2 ^ 64 := Nat.lt_of_le_of_lt (Nat.shiftRight_le _ _) hs
 have h2 := MU (a := s >>> n) (b := 1) h1 (by decide)
 rw [show ((1 : Nat) : Int) = 1 from rfl] at h2
 rw [h2]
 congr 1
 rw [Bool.eq_iff_iff]
 simp only [beq_iff_eq, Nat.testBit, bne_iff_ne]
 have : s >>> n &&& 1 = (s >>> n) % 2 := Nat.and_one_is_mod _
 rw [Nat.and_comm 1, this]
 omega
theorem Hq {s : Nat} (hs : s < 2 ^ 64) : cQ (s : Int) = some (il (fD s)) := by
 rw [show cQ = td from rfl]; exact MH hs
def l8 (l : List Nat) : Nat := orL (fun i => 2 ^ i) l
theorem ny {l : List Nat} {j : Nat} : (l8 l).testBit j = true ↔ j ∈ l := by
 unfold l8
 rw [PY]
 constructor
 ·rintro ⟨i, hi, hb⟩; rw [Nat.testBit_two_pow] at hb; have : i = j := by simpa using hb
  rw [← this]; exact hi
 ·intro h; exact ⟨j, h, by rw [Nat.testBit_two_pow]; simp⟩
theorem L6 {l : List Nat} {n : Nat} (h : ∀ x ∈ l, x < n) : l8 l < 2 ^ n := oG fun j hj => h j (ny.1 hj)
theorem NB {l : List Nat} (h : ∀ x ∈ l, x < 64) (hl : l.length ≤ 1000000) : dW (il l) = some ((l8 l : Nat) : Int) := by
 unfold dW
 have := (OZ (l := l) (f := gF (il l)) (b0 := ((0 : Nat) : Int)) (fun (b : Int) (i : Nat) => ((b.toNat ||| 2 ^ i : Nat) : Int)) (fun b : Int => b) (fun b => ∃ n : Nat, b = (n : Int) ∧ n < 2 ^ 64) ⟨0, rfl, by decide⟩ ?_ ?_)
 ·have e0 : aI (gF (il l)) (0, 0) = _ := this.1
  rw [e0, aj]
  congr 1
  have hh : ∀ (l : List Nat) (a : Nat), l.foldl (fun (b : Int) (i : Nat) => ((b.toNat ||| 2 ^ i : Nat) : Int)) (a : Int) = ((l.foldl (fun a i => a ||| 2 ^ i) a : Nat) : Int) := by
   intro l
   induction l with
   | nil => intro a; rfl
   | cons x l ih => intro a; rw [List.foldl_cons, List.foldl_cons, Int.toNat_natCast, ih]
  exact hh l 0
 ·rintro b i hi ⟨n, rfl, hn⟩
  unfold gF
  have hx : l[i] < 64 := h _ (List.getElem_mem hi)
  rw [show decide ((i : Int) < ((il l).length : Int)) = true from decide_eq_true (by simp; omega)]
  simp only [cond_true]
  rw [s6 hi, aj]
  have e : l.getD i 0 = l[i] := by simp [List.getD, hi]
  rw [e, zo hn hx, aj, cN (by omega), Int.toNat_natCast]
  exact ⟨rfl, _, rfl, Vw hn (Nat.pow_lt_pow_right (by decide) hx)⟩
 ·rintro b ⟨n, rfl, hn⟩
  unfold gF
  rw [show decide ((l.length : Int) < ((il l).length : Int)) = false from decide_eq_false (by simp)]; rfl
structure Nt where
 all : Nat
 by_ : List Nat
 out : List Nat
def Nt.t (n : Nt) : av := ⟨(n.all : Int), il n.by_, il n.out⟩
def Nt.a (n : Nt) (i j : Nat) : Prop := (n.out.getD i 0).testBit j = true
structure NC (N : Nat) (n : Nt) : Prop where
 hN : N ≤ 40
 lb : n.by_.length = N
 lo : n.out.length = N
 al : ∀ i, n.all.testBit i = true → i < N
 ab : ∀ i j, n.a i j → n.all.testBit i = true ∧ n.all.testBit j = true
 sy : ∀ i j, (n.by_.getD j 0).testBit i = true ↔ n.a i j
section
variable {N : Nat} {n : Nt} (h : NC N n)
include h
theorem NC.allLt : n.all < 2 ^ 64 := GL (oG h.al) (by have := h.hN; omega)
theorem NC.sub {s : Nat} (hs : Lp s n.all) : s < 2 ^ 64 := GL (oG fun j hj => h.al j (hs j hj)) (by have := h.hN; omega)
theorem NC.ZG (i : Nat) : n.out.getD i 0 < 2 ^ 64 := GL (oG fun j hj => h.al j (h.ab i j hj).2) (by have := h.hN; omega)
theorem NC.byLt (i : Nat) : n.by_.getD i 0 < 2 ^ 64 := GL (oG fun j hj => h.al j (h.ab j i ((h.sy j i).1 hj)).1) (by have := h.hN; omega)
end
def hit (n : Nt) (s : Nat) : Nat := orL (fun i => n.out.getD i 0) (fD s)
def atk (n : Nt) (s : Nat) : Nat := orL (fun i => n.by_.getD i 0) (fD s)
section
variable {N : Nat} {n : Nt} (h : NC N n) {s : Nat} (hs : Lp s n.all)
include h hs
theorem zy {j : Nat} : (hit n s).testBit j = true ↔ ∃ i, s.testBit i = true ∧ n.a i j := by
 unfold hit
 rw [PY]
 exact ⟨fun ⟨i, h1, h2⟩ => ⟨i, (o8 (h.sub hs)).1 h1, h2⟩, fun ⟨i, h1, h2⟩ => ⟨i, (o8 (h.sub hs)).2 h1, h2⟩⟩
theorem QE {j : Nat} : (atk n s).testBit j = true ↔ ∃ i, s.testBit i = true ∧ n.a j i := by
 unfold atk
 rw [PY]
 exact ⟨fun ⟨i, h1, h2⟩ => ⟨i, (o8 (h.sub hs)).1 h1, (h.sy j i).1 h2⟩, fun ⟨i, h1, h2⟩ => ⟨i, (o8 (h.sub hs)).2 h1, (h.sy j i).2 h2⟩⟩
theorem VW : Lp (hit n s) n.all := fun j hj => by obtain ⟨i, _, h2⟩ := (zy h hs).1 hj; exact (h.ab i j h2).2
theorem atk_sub : Lp (atk n s) n.all := fun j hj => by obtain ⟨i, _, h2⟩ := (QE h hs).1 hj; exact (h.ab j i h2).1
theorem Vx {f : Int × Int → Option (Sum Int (Int × Int))} {L : List Nat} {g : Nat → Nat} (hg : ∀ i, g i < 2 ^ 64)
  (hf : ∀ (a i : Nat) (hi : i < L.length), a < 2 ^ 64 → f ((a : Int), (i : Int)) = some (.inr (((a ||| g L[i] : Nat) : Int), ((i + 1 : Nat) : Int)))) (he : ∀ a : Nat, f ((a : Int), (L.length : Int)) = some (.inl (a : Int))) :
  aI f (0, 0) = some ((orL g L : Nat) : Int) := by
 have := (OZ (l := L) (f := f) (b0 := ((0 : Nat) : Int)) (fun (b : Int) (i : Nat) => ((b.toNat ||| g i : Nat) : Int)) (fun b : Int => b) (fun b => ∃ n : Nat, b = (n : Int) ∧ n < 2 ^ 64) ⟨0, rfl, by decide⟩ ?_ ?_)
 ·refine (show aI f (0, 0) = _ from this.1).trans ?_
  congr 1
  have hh : ∀ (l : List Nat) (a : Nat), l.foldl (fun (b : Int) (i : Nat) => ((b.toNat ||| g i : Nat) : Int)) (a : Int) = ((l.foldl (fun a i => a ||| g i) a : Nat) : Int) := by
   intro l
   induction l with
   | nil => intro a; rfl
   | cons x l ih => intro a; rw [List.foldl_cons, List.foldl_cons, Int.toNat_natCast, ih]
  exact hh L 0
 ·rintro b i hi ⟨n, rfl, hn⟩
  rw [hf n i hi hn, Int.toNat_natCast]
  exact ⟨rfl, _, rfl, Vw hn (hg _)⟩
 ·rintro b ⟨n, rfl, hn⟩
  exact he n
theorem E_ : dn n.t (s : Int) = some ((hit n s : Nat) : Int) := by
 unfold dn
 rw [Hq (h.sub hs), aj]
 have hb := uO (s := s)
 rw [Vx h hs (L := fD s) (g := fun i => n.out.getD i 0) (fun i => h.ZG i) (fun a i hi ha => ?_) (fun a => ?_)]
 ·rfl
 ·unfold jM
  have hx : (fD s)[i] < N := h.al _ (hs _ ((o8 (h.sub hs)).1 (List.getElem_mem hi)))
  rw [show decide ((i : Int) < ((il (fD s)).length : Int)) = true from decide_eq_true (by simp; omega)]
  simp only [cond_true]
  rw [s6 hi, aj, show (fD s).getD i 0 = (fD s)[i] by simp [List.getD, hi]]
  rw [show n.t.Out = il n.out from rfl, s6 (by rw [h.lo]; exact hx), aj, VP ha (h.ZG _), cN (by omega)]
 ·unfold jM
  rw [show decide (((fD s).length : Int) < ((il (fD s)).length : Int)) = false from decide_eq_false (by simp)]; rfl
theorem Lt : dP n.t (s : Int) = some ((atk n s : Nat) : Int) := by
 unfold dP
 rw [Hq (h.sub hs), aj]
 have hb := uO (s := s)
 rw [Vx h hs (L := fD s) (g := fun i => n.by_.getD i 0) (fun i => h.byLt i) (fun a i hi ha => ?_) (fun a => ?_)]
 ·rfl
 ·unfold eP
  have hx : (fD s)[i] < N := h.al _ (hs _ ((o8 (h.sub hs)).1 (List.getElem_mem hi)))
  rw [show decide ((i : Int) < ((il (fD s)).length : Int)) = true from decide_eq_true (by simp; omega)]
  simp only [cond_true]
  rw [s6 hi, aj, show (fD s).getD i 0 = (fD s)[i] by simp [List.getD, hi]]
  rw [show n.t.By = il n.by_ from rfl, s6 (by rw [h.lb]; exact hx), aj, VP ha (h.byLt _), cN (by omega)]
 ·unfold eP
  rw [show decide (((fD s).length : Int) < ((il (fD s)).length : Int)) = false from decide_eq_false (by simp)]; rfl
end
def S7 (n : Nt) (s : Nat) : Prop := ∀ i j, s.testBit i = true → s.testBit j = true → ¬ n.a i j
def AdmP (n : Nt) (s : Nat) : Prop := S7 n s ∧ ∀ i j, s.testBit j = true → n.a i j → ∃ k, s.testBit k = true ∧ n.a k i
def StbP (n : Nt) (s : Nat) : Prop := S7 n s ∧ ∀ i, n.all.testBit i = true → s.testBit i = false → ∃ k, s.testBit k = true ∧ n.a k i
section
open Classical
variable {N : Nat} {n : Nt} (h : NC N n) {s : Nat} (hs : Lp s n.all)
include h hs
theorem NG : eX n.t (s : Int) = some (decide (S7 n s)) := by
 unfold eX
 rw [E_ h hs, aj, MU (h.sub (VW h hs)) (h.sub hs)]
 congr 1
 rw [Bool.eq_iff_iff, beq_iff_eq, decide_eq_true_eq, show (((hit n s &&& s : Nat) : Int) = 0 ↔ hit n s &&& s = 0) by omega, Jc]
 constructor
 ·intro h0 i j hi hj ha
  have := h0 j
  rw [Nat.testBit_and, hj, (zy h hs).2 ⟨i, hi, ha⟩] at this
  cases this
 ·intro hf j
  rw [Nat.testBit_and]
  cases h1 : (hit n s).testBit j
  ·rfl
  ·cases h2 : s.testBit j
   ·rfl
   ·obtain ⟨i, hi, ha⟩ := (zy h hs).1 h1
    exact absurd ha (hf i j hi h2)
theorem Ks : cR n.t (s : Int) = some (decide (AdmP n s)) := by
 unfold cR
 rw [NG h hs, aj]
 by_cases hf : S7 n s
 ·rw [decide_eq_true hf, cond_true, Lt h hs, aj, E_ h hs, aj, Qq]
  congr 1
  rw [Bool.eq_iff_iff, beq_iff_eq, decide_eq_true_eq, show (((Lm (atk n s) (hit n s) : Nat) : Int) = 0 ↔ Lm (atk n s) (hit n s) = 0) by omega, Jc]
  have ha := h.sub (atk_sub h hs)
  constructor
  ·intro h0
   refine ⟨hf, fun i j hj hij => ?_⟩
   have h1 := h0 i
   rw [Bs ha, (QE h hs).2 ⟨j, hj, hij⟩] at h1
   exact (zy h hs).1 (by simpa using h1)
  ·rintro ⟨_, hd⟩ i
   rw [Bs ha]
   cases h1 : (atk n s).testBit i
   ·rfl
   ·obtain ⟨j, hj, hij⟩ := (QE h hs).1 h1
    rw [(zy h hs).2 (hd i j hj hij)]; rfl
 ·rw [decide_eq_false hf, cond_false]
  congr 1
  symm
  exact decide_eq_false fun h1 => hf h1.1
theorem QK : dr n.t (s : Int) = some (decide (StbP n s)) := by
 unfold dr
 rw [NG h hs, aj]
 by_cases hf : S7 n s
 ·rw [decide_eq_true hf, cond_true, E_ h hs, aj, show n.t.All = (n.all : Int) from rfl, Qq, Qq]
  congr 1
  rw [Bool.eq_iff_iff, beq_iff_eq, decide_eq_true_eq, show (((Lm (Lm n.all s) (hit n s) : Nat) : Int) = 0 ↔ Lm (Lm n.all s) (hit n s) = 0) by omega, Jc]
  constructor
  ·intro h0
   refine ⟨hf, fun i hi hns => ?_⟩
   have h1 := h0 i
   rw [Bs Wp, Bs h.allLt, hi, hns] at h1
   exact (zy h hs).1 (by simpa using h1)
  ·rintro ⟨_, hd⟩ i
   rw [Bs Wp, Bs h.allLt]
   cases h1 : n.all.testBit i
   ·rfl
   ·cases h2 : s.testBit i
    ·rw [(zy h hs).2 (hd i h1 h2)]; rfl
    ·rfl
 ·rw [decide_eq_false hf, cond_false]
  congr 1
  symm
  exact decide_eq_false fun h1 => hf h1.1
end
end Go.Dc
namespace Go.Dc
def DefP (n : Nt) (s i : Nat) : Prop := ∀ k, n.a k i → ∃ m, s.testBit m = true ∧ n.a m k
def ClsP (n : Nt) (s : Nat) : Prop := ∀ i, n.all.testBit i = true → DefP n s i → s.testBit i = true
structure GrdN (n : Nt) (G : Nat) : Prop where
 sub : Lp G n.all
 adm : AdmP n G
 cls : ClsP n G
 least : ∀ S, ClsP n S → Lp G S
def growF (n : Nt) (s a i : Nat) : Nat := if Lm (n.by_.getD i 0) (hit n s) = 0 then a ||| 2 ^ i else a
def grow (n : Nt) (s : Nat) : Nat := (fD n.all).foldl (growF n s) s
section
variable {N : Nat} {n : Nt} (h : NC N n) {s : Nat} (hs : Lp s n.all)
include h hs
end
section
variable {N : Nat} {n : Nt} (h : NC N n)
include h
end
end Go.Dc
namespace Go.Dc
abbrev Pr := ah
def atL (l : List Pr) (i j : Nat) : Prop := ∃ p ∈ l, p.bw = (i : Int) ∧ p.To = (j : Int)
theorem OY {l : List Nat} {i j x : Nat} (h : i < l.length) : (l.set i x).getD j 0 = if i = j then x else l.getD j 0 := A5 h
theorem UZ {N : Nat} {l : List Pr} (hN : N ≤ 40) (hv : ∀ p ∈ l, 0 ≤ p.bw ∧ p.bw < N ∧ 0 ≤ p.To ∧ p.To < N) (hl : l.length ≤ 1000000) :
  T (dX ⟨(N : Int), l⟩) fun t => ∃ n : Nt, t = n.t ∧ NC N n ∧ (∀ i, n.all.testBit i = true ↔ i < N) ∧ ∀ i j, n.a i j ↔ atL l i j := by
 unfold dX
 have hmk : uB 8 (0 : Int) (N : Int) = some (List.replicate N 0) := Z6 (by omega)
 simp only [qp, hmk, aj, uC]
 rw [show List.replicate N (0 : Int) = il (List.replicate N 0) by simp [il]]
 refine T.bind (P := fun q : Int => ∃ a : Nat, q = (a : Int) ∧ ∀ i, a.testBit i = true ↔ i < N) ?_ ?_
 ·refine T.cS N (fun k s => k ≤ N ∧ s.1 = (k : Int) ∧ ∃ a : Nat, s.2 = (a : Int) ∧ ∀ i, a.testBit i = true ↔ i < k) ⟨by omega, rfl, 0, rfl, fun i => by simp⟩ ?_
  rintro k ⟨_, _⟩ ⟨hk, rfl, a, rfl, ha⟩
  dsimp only [sP] at *
  refine T.cond (fun g => ?_) fun g => ?_
  ·simp at g
   have ha64 : a < 2 ^ 64 := GL (n := 40) (oG fun j hj => by have := (ha j).1 hj; omega) (by omega)
   rw [zo ha64 (by omega), aj, cN (by omega)]
   refine .ret ⟨g, by omega, rfl, _, rfl, fun i => ?_⟩
   rw [Nat.testBit_or, Nat.testBit_two_pow]
   simp only [Bool.or_eq_true, ha i, decide_eq_true_eq]; omega
  ·simp at g
   have e : k = N := by omega
   exact .ret ⟨a, rfl, e ▸ ha⟩
 ·rintro _ ⟨al, rfl, hal⟩
  refine T.bind (P := fun q : List Int × List Int => ∃ b o : List Nat, q = (il b, il o) ∧ b.length = N ∧ o.length = N ∧ (∀ i j, (b.getD j 0).testBit i = true ↔ atL l i j) ∧ ∀ i j, (o.getD i 0).testBit j = true ↔ atL l i j) ?_ ?_
  ·refine T.cS l.length (fun k s => k ≤ l.length ∧ s.1 = (k : Int) ∧ ∃ b o : List Nat, s.2 = (il b, il o) ∧ b.length = N ∧ o.length = N ∧ (∀ i j, (b.getD j 0).testBit i = true ↔ atL (l.take k) i j) ∧ ∀ i j, (o.getD i 0).testBit j = true ↔ atL (l.take k) i j)
    ⟨by omega, rfl, List.replicate N 0, List.replicate N 0, rfl, by simp, by simp, fun i j => by rw [Ei]; simp [atL], fun i j => by rw [Ei]; simp [atL]⟩ ?_
   rintro k ⟨_, _, _⟩ ⟨hk, rfl, b, o, he, hb, ho, rQ, ho2⟩
   cases he
   dsimp only [sO] at *
   refine T.cond (fun g => ?_) fun g => ?_
   ·simp at g
    have hp := hv _ (List.getElem_mem g)
    have Qr : l.take (k + 1) = l.take k ++ [l[k]] := by rw [List.take_add_one, List.getElem?_eq_getElem g]; rfl
    rw [a_ g, aj]
    generalize hgp : l[k] = p at *
    obtain ⟨F, hF⟩ := Int.eq_ofNat_of_zero_le hp.1
    obtain ⟨U, hU⟩ := Int.eq_ofNat_of_zero_le hp.2.2.1
    have hFN : F < N := by have := hp.2.1; rw [hF] at this; omega
    have hUN : U < N := by have := hp.2.2.2; rw [hU] at this; omega
    have atk : ∀ i j, atL (l.take (k + 1)) i j ↔ atL (l.take k) i j ∨ i = F ∧ j = U := fun i j => by
     unfold atL
     rw [Qr]
     constructor
     ·rintro ⟨q, hq, h1, h2⟩
      rcases List.mem_append.1 hq with hq | hq
      ·exact .inl ⟨q, hq, h1, h2⟩
      ·rw [List.mem_singleton.1 hq] at h1 h2; rw [hF] at h1; rw [hU] at h2; exact .inr ⟨by omega, by omega⟩
     ·rintro (⟨q, hq, h1, h2⟩ | ⟨rfl, rfl⟩)
      ·exact ⟨q, List.mem_append_left _ hq, h1, h2⟩
      ·exact ⟨p, List.mem_append_right _ (by simp), hF, hU⟩
    have lb : ∀ j, b.getD j 0 < 2 ^ 64 := fun j => GL (n := 40) (oG fun i hi => by
     obtain ⟨q, hq, h1, h2⟩ := (rQ i j).1 hi
     have := hv q (List.mem_of_mem_take hq); omega) (by omega)
    have lo : ∀ i, o.getD i 0 < 2 ^ 64 := fun i => GL (n := 40) (oG fun j hj => by
     obtain ⟨q, hq, h1, h2⟩ := (ho2 i j).1 hj
     have := hv q (List.mem_of_mem_take hq); omega) (by omega)
    rw [hF, hU]
    simp only [Int.toNat_natCast]
    rw [s6 (by omega), aj, zo (lb U) (by omega), aj, aj, s6 (by omega), aj, zo (lo F) (by omega), aj, aj, aaz, aaz, cN (by omega)]
    refine .ret ⟨g, by omega, rfl, _, _, rfl, by simpa using hb, by simpa using ho, fun i j => ?_, fun i j => ?_⟩
    ·rw [OY (by omega), atk]
     by_cases e : U = j
     ·subst e
      rw [if_pos rfl, Nat.testBit_or, Nat.testBit_two_pow, Bool.or_eq_true, rQ, decide_eq_true_eq]
      simp [eq_comm]
     ·rw [if_neg e, rQ]
      simp [show ¬ j = U from fun h => e h.symm]
    ·rw [OY (by omega), atk]
     by_cases e : F = i
     ·subst e
      rw [if_pos rfl, Nat.testBit_or, Nat.testBit_two_pow, Bool.or_eq_true, ho2, decide_eq_true_eq]
      simp [eq_comm]
     ·rw [if_neg e, ho2]
      simp [show ¬ i = F from fun h => e h.symm]
   ·simp at g
    have e : k = l.length := by omega
    rw [e, List.take_length] at rQ ho2
    exact .ret ⟨b, o, rfl, hb, ho, rQ, ho2⟩
  ·rintro _ ⟨b, o, rfl, hb, ho, rQ, ho2⟩
   refine .ret ⟨⟨al, b, o⟩, rfl, ⟨hN, hb, ho, fun i hi => (hal i).1 hi, fun i j hij => ?_, fun i j => ?_⟩, hal, fun i j => ho2 i j⟩
   ·obtain ⟨p, hp, h1, h2⟩ := (ho2 i j).1 hij
    have := hv p hp
    exact ⟨(hal i).2 (by omega), (hal j).2 (by omega)⟩
   ·exact (rQ i j).trans (ho2 i j).symm
end Go.Dc
