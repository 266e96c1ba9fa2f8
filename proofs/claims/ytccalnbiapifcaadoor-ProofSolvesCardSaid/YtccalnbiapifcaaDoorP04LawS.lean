/- Part P04.LawS of a proof: lemmas. -/
import Derived.Test.YtccalnbiapifcaaDoorMFuelM
import Derived.Test.YtccalnbiapifcaaDoorLAW04F
set_option linter.unusedVariables false
set_option maxHeartbeats 4000000
set_option linter.unusedSimpArgs false
set_option linter.unusedSectionVars false
/-! The search. -/
namespace Go.Dc

abbrev FdR := Int × List Int × List (ByteArray × Int) × Int × Bool × List (List Int) × List T_api_Step
/-- an answer of the search: a model, or a clause that is false under F -/
structure Post (n : Int) (L : List (List Int)) (V F : List Int) (u : Nat) (C : List (List Int)) (S : List T_api_Step) (nd : Int) (r : FdR) : Prop where
  inv : CInv n L r.2.2.2.2.2.1 r.2.2.1 r.2.2.2.2.2.2
  vlen : (r.2.1.length : Int) = n
  nd0 : nd ≤ r.2.2.2.1
  nd1 : r.2.2.2.1 + 1 ≤ nd + ((2 ^ (u + 1) : Nat) : Int)
  lenC : C.length ≤ r.2.2.2.2.2.1.length
  ext : ∀ i, i < C.length → r.2.2.2.2.2.1.getD i [] = C.getD i []
  lenS : (r.2.2.2.2.2.2.length : Int) - S.length ≤ r.2.2.2.1 - nd
  sure : nd + ((2 ^ (u + 1) : Nat) : Int) ≤ 8192 → (S.length : Int) ≤ nd → nvs L n ≤ 12 → r.2.2.2.2.1 = false
  big : r.2.2.2.2.1 = false → r.2.2.2.1 ≤ 9000
  res : r.2.2.2.2.1 = false → (r.1 = -1 ∧ VV n r.2.1 ∧ ∀ c ∈ r.2.2.2.2.2.1, ∃ y ∈ c, valP r.2.1 y = 1) ∨
    (0 ≤ r.1 ∧ r.1 < r.2.2.2.2.2.1.length ∧ r.2.1 = V ∧ FalC F (r.2.2.2.2.2.1.getD r.1.toNat []) ∧ ∀ i, i < r.2.2.2.2.2.1.length → r.2.2.2.2.2.1.getD i [] = [] → (i : Int) = r.1 ∧ i + 1 = r.2.2.2.2.2.1.length)

abbrev FindT := List Int → List (List Int) → List (ByteArray × Int) → List T_api_Step → Int → Bool → Option FdR

/-- what is expected of the search behind a call -/
def Good (n : Int) (L : List (List Int)) (r : FindT) (u : Nat) : Prop :=
  ∀ V C K S nd, CInv n L C K S → VV n V → (∀ c ∈ C, c ≠ []) → 0 ≤ nd → nd ≤ 9000 → opn L V < u → T (r V C K S nd false) (Post n L V V (opn L V) C S nd)

theorem pow_mono {a b : Nat} (h : a ≤ b) : ((2 ^ a : Nat) : Int) ≤ ((2 ^ b : Nat) : Int) := by exact_mod_cast Nat.pow_le_pow_right (by decide) h
theorem pow_pos' {a : Nat} : 1 ≤ ((2 ^ a : Nat) : Int) := by exact_mod_cast Nat.one_le_two_pow
theorem pow_two {a : Nat} : ((2 ^ (a + 1) : Nat) : Int) = 2 * ((2 ^ a : Nat) : Int) := by rw [Nat.pow_succ]; omega

section
variable {n : Int} {L : List (List Int)} {r : FindT}

theorem Post.chg {V F V3 : List Int} {u : Nat} {C : List (List Int)} {S : List T_api_Step} {nd : Int} {n2 : Int} {V2 : List Int} {K2 : List (ByteArray × Int)} {nd2 : Int} {st2 : Bool} {C2 : List (List Int)} {S2 : List T_api_Step}
    (hq : Post n L F F u C S nd (n2, V2, K2, nd2, st2, C2, S2)) (h3 : (V3.length : Int) = n) (h4 : st2 = false → n2 = -1 → VV n V3 ∧ ∀ c ∈ C2, ∃ y ∈ c, valP V3 y = 1) (h5 : st2 = false → 0 ≤ n2 → V3 = V) :
    Post n L V F u C S nd (n2, V3, K2, nd2, st2, C2, S2) :=
  ⟨hq.inv, h3, hq.nd0, hq.nd1, hq.lenC, hq.ext, hq.lenS, hq.sure, hq.big, fun hs => by
    rcases hq.res hs with ⟨a1, a2, a3⟩ | ⟨a1, a2, a3, a4, a5⟩
    · exact .inl ⟨a1, h4 hs a1⟩
    · exact .inr ⟨a1, a2, h5 hs a1, a4, a5⟩⟩

theorem under_T {V : List Int} {C : List (List Int)} {K : List (ByteArray × Int)} {S : List T_api_Step} {nd : Int} {u : Nat} (hr : Good n L r u) (hI : CInv n L C K S) (hV : VV n V) (hne : ∀ c ∈ C, c ≠ []) (hd0 : 0 ≤ nd) (hd : nd ≤ 9000)
    (hu : opn L V ≤ u) {x : Int} (h0 : x ≠ 0) (h1 : -n ≤ x) (h2 : x ≤ n) (ho : occ L x.natAbs = true) (hv : valP V x = 0) :
    T (proof_search_under_m r V C K S nd false x) (Post n L V (setP V x 1) (opn L (setP V x 1)) C S nd) := by
  have hn1 := hI.n1
  have hlt := opn_lt hV.len hn1 h0 h1 h2 ho hv
  unfold proof_search_under_m
  rw [set_plain hV.len hn1 h0 h1 h2 (.inr rfl), some_bind]
  refine T.bind (hr (setP V x 1) C K S nd hI (setP_VV hV (.inr rfl)) hne hd0 hd (by omega)) fun q hq => ?_
  obtain ⟨n2, V2, K2, nd2, st2, C2, S2⟩ := q
  have hset : proof_search_set_m V2 C2 K2 S2 nd2 st2 x 0 = some (setP V2 x 0) := set_plain hq.vlen hn1 h0 h1 h2 (.inl rfl)
  have hl3 : ((setP V2 x 0).length : Int) = n := by rw [setP_len]; exact hq.vlen
  dsimp only
  refine T.cond (fun h => ?_) fun h => T.cond (fun h3 => ?_) fun h3 => .ret ?_
  · rw [hset, some_bind]
    have h := of_decide_eq_true h
    refine .ret (hq.chg hl3 (fun _ e => by omega) fun hs _ => ?_)
    rcases hq.res hs with ⟨a1, _⟩ | ⟨a1, a2, a3, a4, a5⟩
    · have a1 : n2 = -1 := a1; omega
    · have a3 : V2 = setP V x 1 := a3
      rw [a3]; exact setP_back hV.len h0 h1 h2 hv
  · rw [hset, some_bind]
    exact .ret (hq.chg hl3 (fun hs _ => by rw [h3] at hs; cases hs) fun hs _ => by rw [h3] at hs; cases hs)
  · have h := of_decide_eq_false h
    refine hq.chg hq.vlen (fun hs e => ?_) fun hs e => by omega
    rcases hq.res hs with ⟨a1, a2, a3⟩ | ⟨a1, _⟩
    · exact ⟨a2, a3⟩
    · have a1 : 0 ≤ n2 := a1; omega

/-- a clause that is false with x made true is false, or has x's complement beside what is false -/
theorem fal_under {V : List Int} {c : List Int} {x : Int} (hl : (V.length : Int) = n) (h0 : x ≠ 0) (h1 : -n ≤ x) (h2 : x ≤ n) (hc : ∀ y ∈ c, y ≠ 0) (hF : FalC (setP V x 1) c) : ∀ y ∈ c, y = -x ∨ valP V y = -1 := fun y hy => by
  have h3 := hF y hy
  rw [setP_val hl h0 h1 h2 (hc y hy)] at h3
  split at h3
  · omega
  · split at h3
    · left; assumption
    · right; exact h3

theorem Contains_of {c : List Int} {x : Int} (hc : c.length ≤ 50) : slices_Contains_int_int_m c x = some (decide (x ∈ c)) := Contains_plain (by omega)

theorem core_T {V : List Int} {C : List (List Int)} {K : List (ByteArray × Int)} {S : List T_api_Step} {nd : Int} (hr : Good n L r (opn L V)) (hI : CInv n L C K S) (hV : VV n V) (hne : ∀ c ∈ C, c ≠ []) (hd0 : 0 ≤ nd) (hd : nd + 1 ≤ 9000)
    {unit x : Int} (h0 : x ≠ 0) (hxc : ∃ c ∈ C, x ∈ c) (hv : valP V x = 0) (hun : unit = -1 ∨ 0 ≤ unit ∧ unit < C.length ∧ UniC V (C.getD unit.toNat []) x) :
    T (Option.bind (proof_search_under_m r V C K S (nd + 1) false x) fun first9 =>
 bif decide (first9.1 < 0) then
 some ((first9.1, first9.2.1, first9.2.2.1, first9.2.2.2.1, first9.2.2.2.2.1, first9.2.2.2.2.2.1, first9.2.2.2.2.2.2))
 else
 bif first9.2.2.2.2.1 then
 some ((first9.1, first9.2.1, first9.2.2.1, first9.2.2.2.1, first9.2.2.2.2.1, first9.2.2.2.2.2.1, first9.2.2.2.2.2.2))
 else
 Option.bind (idxM first9.2.2.2.2.2.1 first9.1) fun t12 =>
 Option.bind (slices_Contains_int_int_m t12 (ineg .i64 x)) fun t13 =>
 bif !t13 then
 some ((first9.1, first9.2.1, first9.2.2.1, first9.2.2.2.1, first9.2.2.2.2.1, first9.2.2.2.2.2.1, first9.2.2.2.2.2.2))
 else
 bif decide (unit < 0) then
 Option.bind (proof_search_under_m r first9.2.1 first9.2.2.2.2.2.1 first9.2.2.1 first9.2.2.2.2.2.2 first9.2.2.2.1 first9.2.2.2.2.1 (ineg .i64 x)) fun unit14 =>
 bif decide (unit14.1 < 0) then
 some ((unit14.1, unit14.2.1, unit14.2.2.1, unit14.2.2.2.1, unit14.2.2.2.2.1, unit14.2.2.2.2.2.1, unit14.2.2.2.2.2.2))
 else
 bif unit14.2.2.2.2.1 then
 some ((unit14.1, unit14.2.1, unit14.2.2.1, unit14.2.2.2.1, unit14.2.2.2.2.1, unit14.2.2.2.2.2.1, unit14.2.2.2.2.2.2))
 else
 Option.bind (idxM unit14.2.2.2.2.2.1 unit14.1) fun t15 =>
 Option.bind (slices_Contains_int_int_m t15 x) fun t16 =>
 bif !t16 then
 some ((unit14.1, unit14.2.1, unit14.2.2.1, unit14.2.2.2.1, unit14.2.2.2.2.1, unit14.2.2.2.2.2.1, unit14.2.2.2.2.2.2))
 else
 Option.bind (proof_search_learn_m unit14.2.1 unit14.2.2.2.2.2.1 unit14.2.2.1 unit14.2.2.2.2.2.2 unit14.2.2.2.1 unit14.2.2.2.2.1 unit14.1 first9.1 x) fun t17 =>
 some ((t17.1, unit14.2.1, t17.2.1, t17.2.2.1, t17.2.2.2.1, t17.2.2.2.2.1, t17.2.2.2.2.2))
 else
 Option.bind (proof_search_learn_m first9.2.1 first9.2.2.2.2.2.1 first9.2.2.1 first9.2.2.2.2.2.2 first9.2.2.2.1 first9.2.2.2.2.1 unit first9.1 x) fun t18 =>
 some ((t18.1, first9.2.1, t18.2.1, t18.2.2.1, t18.2.2.2.1, t18.2.2.2.2.1, t18.2.2.2.2.2))) (Post n L V V (opn L V) C S nd) := by
  have hn1 := hI.n1
  obtain ⟨cx, hcx, hxm⟩ := hxc
  have hxr := (hI.ok _ hcx).rng x hxm
  have hxo := hI.oc _ hcx x hxm
  obtain ⟨_, h1, h2⟩ := hxr
  have hlt := opn_lt hV.len hn1 h0 h1 h2 hxo hv
  have hp := pow_mono (show opn L (setP V x 1) + 1 ≤ opn L V by omega)
  have hq2 := pow_two (a := opn L V)
  have hp1 := pow_pos' (a := opn L V)
  refine T.bind (under_T hr hI hV hne (by omega) hd (Nat.le_refl _) h0 h1 h2 hxo hv) fun q hq => ?_
  obtain ⟨f, V1, K1, nd1, st1, C1, S1⟩ := q
  dsimp only
  have g1 : nd1 + 1 ≤ nd + 1 + ((2 ^ (opn L (setP V x 1) + 1) : Nat) : Int) := hq.nd1
  have g0 : nd + 1 ≤ nd1 := hq.nd0
  have gS : (S1.length : Int) - S.length ≤ nd1 - (nd + 1) := hq.lenS
  have gC : C.length ≤ C1.length := hq.lenC
  have gext : ∀ i, i < C.length → C1.getD i [] = C.getD i [] := hq.ext
  have qsure : nd + 1 + ((2 ^ (opn L (setP V x 1) + 1) : Nat) : Int) ≤ 8192 → (S.length : Int) ≤ nd + 1 → nvs L n ≤ 12 → st1 = false := hq.sure
  have gsure : nd + ((2 ^ (opn L V + 1) : Nat) : Int) ≤ 8192 → (S.length : Int) ≤ nd → nvs L n ≤ 12 → st1 = false := fun a b c => qsure (by omega) (by omega) c
  -- an answer that goes up
  have up : ∀ (hres : st1 = false → (f = -1 ∧ VV n V1 ∧ ∀ c ∈ C1, ∃ y ∈ c, valP V1 y = 1) ∨ (0 ≤ f ∧ f < C1.length ∧ V1 = V ∧ FalC V (C1.getD f.toNat []) ∧ ∀ i, i < C1.length → C1.getD i [] = [] → (i : Int) = f ∧ i + 1 = C1.length)),
      Post n L V V (opn L V) C S nd (f, V1, K1, nd1, st1, C1, S1) := fun hres =>
    ⟨hq.inv, hq.vlen, by dsimp only; omega, by dsimp only; omega, gC, hq.ext, by dsimp only; omega, gsure, hq.big, hres⟩
  refine T.cond (fun h => .ret (up fun hs => ?_)) fun h => T.cond (fun h3 => .ret (up fun hs => by rw [h3] at hs; cases hs)) fun h3 => ?_
  · have h := of_decide_eq_true h
    rcases hq.res hs with a | ⟨a1, _⟩
    · exact .inl a
    · have a1 : 0 ≤ f := a1; omega
  have h := of_decide_eq_false h
  obtain ⟨a1, a2, a3, a4, a5⟩ : 0 ≤ f ∧ f < C1.length ∧ V1 = V ∧ FalC (setP V x 1) (C1.getD f.toNat []) ∧ ∀ i, i < C1.length → C1.getD i [] = [] → (i : Int) = f ∧ i + 1 = C1.length := by
    rcases hq.res h3 with ⟨a1, _⟩ | a
    · have a1 : f = -1 := a1; omega
    · exact a
  subst a3
  have hfm : C1.getD f.toNat [] ∈ C1 := getD_mem (by omega)
  have hfok := hq.inv.ok _ hfm
  rw [idxM_getD' [] a1 a2, some_bind, ineg64 (by omega) (by omega), Contains_of hfok.len, some_bind]
  have hfal := fal_under hV.len h0 h1 h2 (fun y hy => (hfok.rng y hy).1) a4
  refine T.cond (fun h4 => .ret (up fun _ => .inr ⟨a1, a2, rfl, fun y hy => ?_, a5⟩)) fun h4 => ?_
  · have h4 : ¬ (-x ∈ C1.getD f.toNat []) := by simpa using h4
    rcases hfal y hy with e | e
    · subst e; exact absurd hy h4
    · exact e
  have h4 : -x ∈ C1.getD f.toNat [] := by simpa using h4
  have hne1 : ∀ c ∈ C1, c ≠ [] := fun c hc e => by
    subst e
    obtain ⟨i, hi, ei⟩ := List.getElem_of_mem hc
    have hgi : C1.getD i [] = [] := by simp [List.getD, hi, ei]
    have h5 := (a5 i hi hgi).1
    have h6 : f.toNat = i := by omega
    rw [h6, hgi] at h4; simp at h4
  have hd1 : nd1 ≤ 9000 := hq.big h3
  have h3' : st1 = false := h3
  subst h3'
  refine T.cond (fun h5 => ?_) fun h5 => ?_
  · -- both ways are tried
    have hvn : valP V1 (-x) = 0 := by rw [valP_neg h0, hv]; rfl
    have hlt2 := opn_lt hV.len hn1 (show -x ≠ 0 by omega) (by omega) (by omega) (by rw [Int.natAbs_neg]; exact hxo) hvn
    have hp2 := pow_mono (show opn L (setP V1 (-x) 1) + 1 ≤ opn L V1 by omega)
    refine T.bind (under_T hr hq.inv hV hne1 (by omega) hd1 (Nat.le_refl _) (show -x ≠ 0 by omega) (by omega) (by omega) (by rw [Int.natAbs_neg]; exact hxo) hvn) fun q2 hu => ?_
    obtain ⟨un, V2, K2, nd2, st2, C2, S2⟩ := q2
    dsimp only
    have k1 : nd2 + 1 ≤ nd1 + ((2 ^ (opn L (setP V1 (-x) 1) + 1) : Nat) : Int) := hu.nd1
    have k0 : nd1 ≤ nd2 := hu.nd0
    have kS : (S2.length : Int) - S1.length ≤ nd2 - nd1 := hu.lenS
    have kC : C1.length ≤ C2.length := hu.lenC
    have uext : ∀ i, i < C1.length → C2.getD i [] = C1.getD i [] := hu.ext
    have usure : nd1 + ((2 ^ (opn L (setP V1 (-x) 1) + 1) : Nat) : Int) ≤ 8192 → (S1.length : Int) ≤ nd1 → nvs L n ≤ 12 → st2 = false := hu.sure
    have kext : ∀ i, i < C.length → C2.getD i [] = C.getD i [] := fun i hi => (uext i (by omega)).trans (gext i hi)
    have ksure : nd + ((2 ^ (opn L V1 + 1) : Nat) : Int) ≤ 8192 → (S.length : Int) ≤ nd → nvs L n ≤ 12 → st2 = false := fun a b c => usure (by omega) (by omega) c
    have up2 : ∀ (hres : st2 = false → (un = -1 ∧ VV n V2 ∧ ∀ c ∈ C2, ∃ y ∈ c, valP V2 y = 1) ∨ (0 ≤ un ∧ un < C2.length ∧ V2 = V1 ∧ FalC V1 (C2.getD un.toNat []) ∧ ∀ i, i < C2.length → C2.getD i [] = [] → (i : Int) = un ∧ i + 1 = C2.length)),
        Post n L V1 V1 (opn L V1) C S nd (un, V2, K2, nd2, st2, C2, S2) := fun hres =>
      ⟨hu.inv, hu.vlen, by dsimp only; omega, by dsimp only; omega, by dsimp only; omega, kext, by dsimp only; omega, ksure, hu.big, hres⟩
    refine T.cond (fun h6 => .ret (up2 fun hs => ?_)) fun h6 => T.cond (fun h7 => .ret (up2 fun hs => by rw [h7] at hs; cases hs)) fun h7 => ?_
    · have h6 := of_decide_eq_true h6
      rcases hu.res hs with a | ⟨b1, _⟩
      · exact .inl a
      · have b1 : 0 ≤ un := b1; omega
    have h6 := of_decide_eq_false h6
    obtain ⟨b1, b2, b3, b4, b5⟩ : 0 ≤ un ∧ un < C2.length ∧ V2 = V1 ∧ FalC (setP V1 (-x) 1) (C2.getD un.toNat []) ∧ ∀ i, i < C2.length → C2.getD i [] = [] → (i : Int) = un ∧ i + 1 = C2.length := by
      rcases hu.res h7 with ⟨b1, _⟩ | b
      · have b1 : un = -1 := b1; omega
      · exact b
    subst b3
    have hum : C2.getD un.toNat [] ∈ C2 := getD_mem (by omega)
    have huok := hu.inv.ok _ hum
    rw [idxM_getD' [] b1 b2, some_bind, Contains_of huok.len, some_bind]
    have hual := fal_under hV.len (show -x ≠ 0 by omega) (by omega) (by omega) (fun y hy => (huok.rng y hy).1) b4
    rw [Int.neg_neg] at hual
    refine T.cond (fun h8 => .ret (up2 fun _ => .inr ⟨b1, b2, rfl, fun y hy => ?_, b5⟩)) fun h8 => ?_
    · have h8 : ¬ (x ∈ C2.getD un.toNat []) := by simpa using h8
      rcases hual y hy with e | e
      · subst e; exact absurd hy h8
      · exact e
    have h8 : x ∈ C2.getD un.toNat [] := by simpa using h8
    have hne2 : ∀ c ∈ C2, c ≠ [] := fun c hc e => by
      subst e
      obtain ⟨i, hi, ei⟩ := List.getElem_of_mem hc
      have hgi : C2.getD i [] = [] := by simp [List.getD, hi, ei]
      have h9 := (b5 i hi hgi).1
      have h10 : un.toNat = i := by omega
      rw [h10, hgi] at h8; simp at h8
    have h7' : st2 = false := h7
    subst h7'
    have hfe : C2.getD f.toNat [] = C1.getD f.toNat [] := uext f.toNat (by omega)
    refine T.bind (learn_plain hu.inv hV hne2 h0 b1 b2 a1 (show f < ((C2.length : Nat) : Int) by omega) h8 (by rw [hfe]; exact h4) hual (by rw [hfe]; exact hfal)) fun l hl0 => .ret ?_
    have hl : LPost n L V2 C2 S2 nd2 l := hl0
    have l1 := hl.nd
    have l2 := hl.lenS
    have l3 := hl.lenC
    have hd2 : nd2 ≤ 9000 := hu.big rfl
    refine ⟨hl.inv, hV.len, by dsimp only; omega, by dsimp only; omega, by dsimp only; omega, fun i hi => (hl.ext i (by omega)).trans (kext i hi), by dsimp only; omega, fun c1 c2 c3 => hl.sure (by omega) (by omega), fun _ => by dsimp only; omega, fun hs => .inr ?_⟩
    obtain ⟨m1, m2, m3, m4⟩ := hl.res hs
    exact ⟨m1, m2, rfl, m3, m4⟩
  · have h5 := of_decide_eq_false h5
    obtain ⟨u1, u2, u3, u4, u5⟩ := hun.resolve_left (by omega)
    have hue : C1.getD unit.toNat [] = C.getD unit.toNat [] := gext unit.toNat (by omega)
    refine T.bind (learn_plain hq.inv hV hne1 h0 u1 (show unit < ((C1.length : Nat) : Int) by omega) a1 a2 (by rw [hue]; exact u3) h4 (by rw [hue]; exact u5) hfal) fun l hl0 => .ret ?_
    have hl : LPost n L V1 C1 S1 nd1 l := hl0
    have l1 := hl.nd
    have l2 := hl.lenS
    have l3 := hl.lenC
    refine ⟨hl.inv, hV.len, by dsimp only; omega, by dsimp only; omega, by dsimp only; omega, fun i hi => (hl.ext i (by omega)).trans (gext i hi), by dsimp only; omega, fun c1 c2 c3 => hl.sure (by omega) (by omega), fun _ => by dsimp only; omega, fun hs => .inr ?_⟩
    obtain ⟨m1, m2, m3, m4⟩ := hl.res hs
    exact ⟨m1, m2, rfl, m3, m4⟩
end
end Go.Dc

set_option linter.unusedVariables false
set_option maxHeartbeats 4000000
set_option linter.unusedSimpArgs false
set_option linter.unusedSectionVars false
/-! The search, whole. -/
namespace Go.Dc
section
variable {n : Int} {L : List (List Int)} {r : FindT}

theorem find_b_T {V : List Int} {C : List (List Int)} {K : List (ByteArray × Int)} {S : List T_api_Step} {nd : Int} (hr : Good n L r (opn L V)) (hI : CInv n L C K S) (hV : VV n V) (hne : ∀ c ∈ C, c ≠ []) (hd0 : 0 ≤ nd) (hd : nd ≤ 9000) :
    T (proof_search_find_b r V C K S nd false) (Post n L V V (opn L V) C S nd) := by
  have hn1 := hI.n1
  have hlen : C.length ≤ 100000 := by have := hI.lenC; have := hI.lenL; have := hI.lenS; omega
  have hq2 := pow_two (a := opn L V)
  have hp1 := pow_pos' (a := opn L V)
  have e1 : iadd .i64 nd 1 = nd + 1 := iadd64 (by omega) (by omega)
  unfold proof_search_find_b
  rw [e1]
  refine T.joinP (P := fun j => j.1 = nd + 1 ∧ (j.2 = true ∧ 9000 < nd + 1 ∨ j.2 = false ∧ nd + 1 ≤ 9000)) ?_ ?_
  rotate_left
  · intro k hk
    refine T.cond (fun h => hk _ ⟨rfl, .inl ⟨rfl, by simpa using h⟩⟩) fun h => hk _ ⟨rfl, .inr ⟨rfl, by simpa using h⟩⟩
  rintro ⟨nd', st'⟩ ⟨e, hs⟩
  dsimp only at e hs
  subst e
  rcases hs with ⟨rfl, h9⟩ | ⟨rfl, h9⟩
  · rw [cond_true]
    exact .ret ⟨hI, hV.len, by dsimp only; omega, by dsimp only; omega, Nat.le_refl _, fun i hi => rfl, by dsimp only; omega, fun c1 _ _ => by omega, fun h => (by cases h), fun h => (by cases h)⟩
  rw [cond_false]
  refine T.bind (look_plain hV hn1 hI.ok hlen) fun t ht => ?_
  obtain ⟨unit, x⟩ := t
  -- an answer that is clear now
  have now : ∀ res : Int, ((res = -1 ∧ VV n V ∧ ∀ c ∈ C, ∃ y ∈ c, valP V y = 1) ∨ (0 ≤ res ∧ res < C.length ∧ FalC V (C.getD res.toNat []))) → Post n L V V (opn L V) C S nd (res, V, K, nd + 1, false, C, S) := fun res h =>
    ⟨hI, hV.len, by dsimp only; omega, by dsimp only; omega, Nat.le_refl _, fun i hi => rfl, by dsimp only; omega, fun _ _ _ => rfl, fun _ => by dsimp only; omega, fun _ => by
      rcases h with h | ⟨a1, a2, a3⟩
      · exact .inl h
      · exact .inr ⟨a1, a2, rfl, a3, fun i hi he => absurd he (hne _ (getD_mem hi))⟩⟩
  dsimp only
  refine T.joinP (P := fun _ => unit = -1 ∧ x = 0 ∧ (∀ c ∈ C, OpnC V c) ∨ 0 ≤ unit ∧ unit < C.length ∧ x ≠ 0 ∧ UniC V (C.getD unit.toNat []) x) ?_ ?_
  rotate_left
  · intro k hk
    rcases ht with ⟨h1, h2, h3⟩ | ⟨h1, h2, h3⟩
    · dsimp only at h1 h2
      subst h1
      rw [show decide ((-1 : Int) ≥ 0) = false from rfl, cond_false]
      exact hk _ (.inl ⟨rfl, h2, h3⟩)
    · dsimp only at h1 h2 h3
      rw [show decide (unit ≥ 0) = true from decide_eq_true h1, cond_true]
      refine T.cond (fun h4 => .ret (now unit (.inr ⟨h1, h2, ?_⟩))) fun h4 => hk _ (.inr ⟨h1, h2, ?_⟩)
      · have h4 := eq_of_beq h4
        rcases h3 with ⟨_, h5⟩ | ⟨h5, _⟩
        · exact h5
        · exact absurd h4 h5
      · rcases h3 with ⟨h5, _⟩ | h5
        · rw [h5] at h4; cases h4
        · exact h5
  intro _ hux
  refine T.joinP (P := fun j => j ≠ 0 ∧ (∃ c ∈ C, j ∈ c) ∧ valP V j = 0 ∧ (unit = -1 ∨ 0 ≤ unit ∧ unit < C.length ∧ UniC V (C.getD unit.toNat []) j)) ?_ ?_
  · rintro j ⟨j0, j1, j2, j3⟩
    exact core_T hr hI hV hne hd0 h9 j0 j1 j2 j3
  · intro k hk
    rcases hux with ⟨rfl, rfl, h3⟩ | ⟨h1, h2, h3, h4⟩
    · rw [show decide ((-1 : Int) < 0) = true from rfl, cond_true]
      refine T.bind (branch_plain hV hn1 hI.ok hlen h3) fun y hy => ?_
      rcases hy with ⟨rfl, h5⟩ | ⟨h5, h6, h7⟩
      · exact .ret (now (-1) (.inl ⟨rfl, hV, h5⟩))
      · rw [show (y == 0) = false from beq_false_of_ne h5, cond_false]
        exact hk _ ⟨h5, h7, h6, .inl rfl⟩
    · rw [show decide (unit < 0) = false from decide_eq_false (by omega), cond_false]
      exact hk _ ⟨h3, ⟨_, getD_mem (by omega), h4.1⟩, h4.2.1, .inr ⟨h1, h2, h4⟩⟩
end

theorem find_n_T {n : Int} {L : List (List Int)} : ∀ u, Good n L (proof_search_find_n u) u
  | 0 => fun V C K S nd _ _ _ _ _ h => absurd h (by omega)
  | u + 1 => fun V C K S nd hI hV hne hd0 hd hu => find_b_T (r := proof_search_find_n u) (fun V' C' K' S' nd' a b c d e f => find_n_T u V' C' K' S' nd' a b c d e (by omega)) hI hV hne hd0 hd

theorem find_m_T {n : Int} {L : List (List Int)} {V : List Int} {C : List (List Int)} {K : List (ByteArray × Int)} {S : List T_api_Step} {nd : Int} (hI : CInv n L C K S) (hV : VV n V) (hne : ∀ c ∈ C, c ≠ []) (hd0 : 0 ≤ nd) (hd : nd ≤ 9000) :
    T (proof_search_find_m V C K S nd false) (Post n L V V (opn L V) C S nd) := by
  obtain ⟨q, h1, h2⟩ := find_n_T (n := n) (L := L) (opn L V + 1) V C K S nd hI hV hne hd0 hd (by omega)
  exact ⟨q, proof_search_find_m_at h1, h2⟩
end Go.Dc

namespace Go.Dc
theorem awake04 : law04_awake_m = some true := law04_awake_f_le (k_ := 60) _ (by decide +kernel)
end Go.Dc

set_option linter.unusedVariables false
set_option linter.unusedSimpArgs false
set_option linter.unusedSectionVars false
namespace Go.Dc

/-! ### truths -/
/-- an element of a clause is true -/
def litT (m : List Bool) (x : Int) : Bool := m.getD (x.natAbs - 1) false == decide (x > 0)
theorem Satisfied_plain {m : List Bool} {c : List Int} (hc : c.length ≤ 1000) (hr : ∀ x ∈ c, x ≠ 0 ∧ (x.natAbs : Int) ≤ m.length) (hm : m.length ≤ 1000) : ref04_Satisfied_m m c = some (c.any (litT m)) := by
  unfold ref04_Satisfied_m
  rw [any_bind (l := c) (p := litT m) (fun i hi => by
    have h1 := hr _ (List.getElem_mem hi)
    unfold ref04_Satisfied_l1
    rw [show decide ((i : Int) < (c.length : Int)) = true by simp [hi], cond_true, idxM_nat hi, iadd64 (by omega) (by omega), rabs_eq]
    simp only [Option.bind_some]
    rw [abs_plain (by omega) (by omega), some_bind, isub64 (by omega) (by omega), show (c[i].natAbs : Int) - 1 = ((c[i].natAbs - 1 : Nat) : Int) by omega, idxM_getD (z := false) (by omega), some_bind]
    show (bif litT m c[i] then _ else _) = _
    cases litT m c[i] <;> rfl) (by unfold ref04_Satisfied_l1; simp)]

end Go.Dc

set_option linter.unusedVariables false
set_option maxHeartbeats 1000000
set_option linter.unusedSimpArgs false
set_option linter.unusedSectionVars false
/-! Answers that are looked at. -/
namespace Go.Dc

def satP (l : List (List Int)) (m : List Bool) : Bool := l.all fun c => c.any (litT m)
def stepP (all : List (List Int)) (s : T_api_Step) : Option (List (List Int)) :=
  if s.Left < 0 ∨ (all.length : Int) ≤ s.Left ∨ s.Right < 0 ∨ (all.length : Int) ≤ s.Right then none else
  if (ResolveP (all.getD s.Left.toNat []) (all.getD s.Right.toNat []) s.Pivot).1 = true then some (all ++ [(ResolveP (all.getD s.Left.toNat []) (all.getD s.Right.toNat []) s.Pivot).2]) else none
def runP : List (List Int) → List T_api_Step → Option (List (List Int))
  | all, [] => some all
  | all, s :: r => (stepP all s).bind fun a => runP a r
def refP (l : List (List Int)) (steps : List T_api_Step) : Bool := match runP l steps with
  | none => false
  | some all => if steps = [] then l.any List.isEmpty else (all.getD (all.length - 1) [1]).isEmpty
def CheckP (n : Int) (l : List (List Int)) (x : T_api_Answer) : Int :=
  if ValidP n l ≠ 0 then ValidP n l else
  if x.Sat = true then (if x.Steps ≠ [] ∨ (x.Model.length : Int) ≠ n then 4 else if satP l x.Model = true then 0 else 11) else
  if x.Model ≠ [] then 4 else if 20000 < x.Steps.length then 2 else if refP l x.Steps = true then 0 else 11

theorem stepP_len {all : List (List Int)} {s : T_api_Step} {a : List (List Int)} (h : stepP all s = some a) : a.length = all.length + 1 := by
  unfold stepP at h
  split at h
  · cases h
  · split at h
    · cases h; simp
    · cases h
theorem runP_len : ∀ {steps : List T_api_Step} {all a : List (List Int)}, runP all steps = some a → a.length = all.length + steps.length
  | [], all, a, h => by cases h; simp
  | s :: r, all, a, h => by
    simp only [runP, Option.bind_eq_some_iff] at h
    obtain ⟨b, h1, h2⟩ := h
    have := stepP_len h1
    have := runP_len h2
    simp; omega
theorem runP_app : ∀ {x y : List T_api_Step} {all : List (List Int)}, runP all (x ++ y) = (runP all x).bind fun a => runP a y
  | [], y, all => rfl
  | s :: r, y, all => by
    simp only [List.cons_append, runP, Option.bind_assoc]
    cases stepP all s with
    | none => rfl
    | some a => simp only [Option.bind_some]; exact runP_app
theorem runP_snoc {l all : List (List Int)} {steps : List T_api_Step} {k : Nat} (hk : k < steps.length) (h : runP l (steps.take k) = some all) : runP l (steps.take (k + 1)) = stepP all steps[k] := by
  rw [← List.take_append_getElem hk, runP_app, h]
  simp only [Option.bind_some, runP]
  cases stepP all steps[k] <;> rfl
theorem runP_none {l : List (List Int)} {steps : List T_api_Step} {k : Nat} (hk : k ≤ steps.length) (h : runP l (steps.take k) = none) : runP l steps = none := by
  rw [← List.take_append_drop k steps, runP_app, h]; rfl

/-- one step of a check -/
theorem stepP_of {all : List (List Int)} {s : T_api_Step} (h0 : 0 ≤ s.Left) (h1 : s.Left < all.length) (h2 : 0 ≤ s.Right) (h3 : s.Right < all.length) :
    stepP all s = if (ResolveP (all.getD s.Left.toNat []) (all.getD s.Right.toNat []) s.Pivot).1 = true then some (all ++ [(ResolveP (all.getD s.Left.toNat []) (all.getD s.Right.toNat []) s.Pivot).2]) else none := by
  unfold stepP; rw [if_neg (by omega)]

theorem rrun_plain {l : List (List Int)} {x : T_api_Answer} (hl : l.length ≤ 4000) (hs : x.Steps.length ≤ 20000) :
    loopC (ref04_Check_l2 x) (0, l) = some (match runP l x.Steps with | none => .inl 11 | some a => .inr a) := by
  refine T.eq (T.loopK x.Steps.length (fun k s => s.1 = (k : Int) ∧ k ≤ x.Steps.length ∧ runP l (x.Steps.take k) = some s.2) ⟨rfl, by omega, rfl⟩ ?_)
  rintro k ⟨i, all⟩ ⟨e, hk, hI⟩
  dsimp only at e hI
  subst e
  have hal := runP_len hI
  simp only [List.length_take] at hal
  unfold ref04_Check_l2
  dsimp only
  refine T.cond (fun h => ?_) fun h => .ret ?_
  · have hk2 : k < x.Steps.length := by simpa using h
    rw [idxM_nat hk2, some_bind, iadd1 (by omega)]
    have hsn := runP_snoc hk2 hI
    generalize x.Steps[k] = s at hsn ⊢
    have bad : stepP all s = none → T (some (Sum.inl (Sum.inl 11)) : Option (Sum (Sum Int (List (List Int))) (Int × List (List Int)))) (onO (fun o => o = match runP l x.Steps with | none => .inl 11 | some a => .inr a) fun s' => k < x.Steps.length ∧ s'.1 = ((k + 1 : Nat) : Int) ∧ k + 1 ≤ x.Steps.length ∧ runP l (x.Steps.take (k + 1)) = some s'.2) := fun hn => by
      refine .ret ?_
      rw [hn] at hsn
      show _ = _
      rw [runP_none (by omega) hsn]
    refine T.cond (fun h1 => bad ?_) fun h1 => T.cond (fun h2 => bad ?_) fun h2 => T.cond (fun h3 => bad ?_) fun h3 => T.cond (fun h4 => bad ?_) fun h4 => ?_
    · have := of_decide_eq_true h1; unfold stepP; rw [if_pos (by omega)]
    · have := of_decide_eq_true h2; unfold stepP; rw [if_pos (by omega)]
    · have := of_decide_eq_true h3; unfold stepP; rw [if_pos (by omega)]
    · have := of_decide_eq_true h4; unfold stepP; rw [if_pos (by omega)]
    have h1 := of_decide_eq_false h1
    have h2 := of_decide_eq_false h2
    have h3 := of_decide_eq_false h3
    have h4 := of_decide_eq_false h4
    rw [idxM_getD' [] (by omega) (by omega), some_bind, idxM_getD' [] (by omega) (by omega), some_bind, rResolve_plain, some_bind]
    have hst := stepP_of (all := all) (s := s) (by omega) (by omega) (by omega) (by omega)
    refine T.cond (fun h5 => bad ?_) fun h5 => ?_
    · rw [hst, if_neg (by simpa using h5)]
    · rw [hst, if_pos (by simpa using h5)] at hsn
      rw [appM_eq (by simp; omega), some_bind]
      exact .ret ⟨hk2, rfl, hk2, hsn⟩
  · have : k = x.Steps.length := by simp at h; omega
    subst this
    rw [List.take_length] at hI
    show _ = _
    rw [hI]

theorem satP_any {l : List (List Int)} {m : List Bool} {n : Int} (hl : ∀ c ∈ l, COk n c) (hm : (m.length : Int) = n) (hn : n ≤ 200) {c : List Int} (hc : c ∈ l) : ref04_Satisfied_m m c = some (c.any (litT m)) :=
  Satisfied_plain (by have := (hl c hc).len; omega) (fun x hx => by have := (hl c hc).rng x hx; omega) (by omega)
theorem Satisfied_s1_eq : @ref04_Satisfied_s1_m = @ref04_Satisfied_m := rfl

theorem rCheck_plain {n : Int} {l : List (List Int)} {x : T_api_Answer} : ref04_Check_m n l x = some (CheckP n l x) := by
  unfold ref04_Check_m CheckP
  rw [rValidate_plain, some_bind]
  by_cases hv : ValidP n l = 0
  rotate_left
  · rw [if_pos hv, show (ValidP n l != 0) = true by simp [hv]]; rfl
  rw [if_neg (by simp [hv]), hv, bne_self_eq_false, cond_false]
  obtain ⟨n0, n1, hlen, hcl⟩ := ValidP_ok.1 hv
  cases hS : x.Sat with
  | true =>
    rw [cond_true, if_pos rfl]
    by_cases h1 : x.Steps = []
    rotate_left
    · rw [if_pos (.inl h1), show decide ((x.Steps.length : Int) > 0) = true by simp; exact List.length_pos_iff.2 h1]; rfl
    rw [h1, show decide ((([] : List T_api_Step).length : Int) > 0) = false by simp, cond_false]
    by_cases h2 : (x.Model.length : Int) = n
    rotate_left
    · rw [if_pos (.inr h2), show ((x.Model.length : Int) != n) = true by simp [h2]]; rfl
    rw [if_neg (by simp [h2]), show ((x.Model.length : Int) != n) = false by simp [h2], cond_false]
    rw [find_bind (l := l) (fun c => if c.any (litT x.Model) = true then none else some 11) (fun i hi => by
      unfold ref04_Check_l1
      rw [show decide ((i : Int) < (l.length : Int)) = true by simp [hi], cond_true, idxM_nat hi, iadd64 (by omega) (by omega)]
      simp only [Option.bind_some]
      rw [Satisfied_s1_eq, satP_any hcl h2 n1 (List.getElem_mem hi), some_bind]
      cases l[i].any (litT x.Model) <;> rfl) (by unfold ref04_Check_l1; simp)]
    unfold satP
    by_cases h3 : (l.all fun c => c.any (litT x.Model)) = true
    · rw [if_pos h3]
      have : (l.findSome? fun c => if c.any (litT x.Model) = true then none else some (11 : Int)) = none := by
        rw [List.findSome?_eq_none_iff]; intro c hc; rw [if_pos (List.all_eq_true.1 h3 c hc)]
      rw [this]
    · rw [if_neg h3]
      obtain ⟨c, hc, hc2⟩ := List.all_eq_false.1 (Bool.eq_false_iff.2 h3)
      cases hf : (l.findSome? fun c => if c.any (litT x.Model) = true then none else some (11 : Int)) with
      | none => rw [List.findSome?_eq_none_iff] at hf; have := hf c hc; rw [if_neg hc2] at this; cases this
      | some r =>
        obtain ⟨y, _, hy⟩ := List.exists_of_findSome?_eq_some hf
        split at hy
        · cases hy
        · cases hy; rfl
  | false =>
    rw [cond_false, if_neg (by simp)]
    by_cases h1 : x.Model = []
    rotate_left
    · rw [if_pos h1, show decide ((x.Model.length : Int) > 0) = true by simp; exact List.length_pos_iff.2 h1]; rfl
    rw [if_neg (by simp [h1]), h1, show decide ((([] : List Bool).length : Int) > 0) = false by simp, cond_false]
    by_cases h2 : 20000 < x.Steps.length
    · rw [if_pos h2, show decide ((x.Steps.length : Int) > 20000) = true by simp; omega]; rfl
    rw [if_neg h2, show decide ((x.Steps.length : Int) > 20000) = false by simp; omega, cond_false, appM_eq (by simp; omega), some_bind, List.nil_append, rrun_plain hlen (by omega)]
    simp only [Option.bind_some]
    cases hr : runP l x.Steps with
    | none =>
      have e : refP l x.Steps = false := by unfold refP; rw [hr]
      rw [e]; rfl
    | some a =>
      have hal := runP_len hr
      simp only [sumK_inr]
      by_cases h3 : x.Steps = []
      · have e : refP l x.Steps = l.any List.isEmpty := by unfold refP; rw [hr]; simp [h3]
        rw [e, h3, show decide ((([] : List T_api_Step).length : Int) > 0) = false by simp, cond_false]
        rw [find_bind (l := l) (fun c => if c.isEmpty = true then some 0 else none) (fun i hi => by
          unfold ref04_Check_l3
          rw [show decide ((i : Int) < (l.length : Int)) = true by simp [hi], cond_true, idxM_nat hi, iadd64 (by omega) (by omega)]
          simp only [Option.bind_some]
          cases hq : l[i] with
          | nil => simp
          | cons y ys => simp; rw [show ((ys.length : Int) + 1 == 0) = false from beq_false_of_ne (by omega)]; rfl) (by unfold ref04_Check_l3; simp)]
        by_cases h4 : l.any List.isEmpty = true
        · rw [if_pos h4]
          obtain ⟨c, hc, hc2⟩ := List.any_eq_true.1 h4
          cases hf : (l.findSome? fun c => if c.isEmpty = true then some (0 : Int) else none) with
          | none => rw [List.findSome?_eq_none_iff] at hf; have := hf c hc; rw [if_pos hc2] at this; cases this
          | some r =>
            obtain ⟨y, _, hy⟩ := List.exists_of_findSome?_eq_some hf
            split at hy
            · cases hy; rfl
            · cases hy
        · rw [if_neg h4]
          have : (l.findSome? fun c => if c.isEmpty = true then some (0 : Int) else none) = none := by
            rw [List.findSome?_eq_none_iff]; intro c hc; rw [if_neg fun h => h4 (List.any_eq_true.2 ⟨c, hc, h⟩)]
          rw [this]
      · have hp := List.length_pos_iff.2 h3
        have e : refP l x.Steps = (a.getD (a.length - 1) [1]).isEmpty := by unfold refP; rw [hr]; simp [h3]
        rw [e, show decide ((x.Steps.length : Int) > 0) = true by simp; exact hp, cond_true, isub64 (by omega) (by omega), show (a.length : Int) - 1 = ((a.length - 1 : Nat) : Int) by omega, idxM_getD (z := [1]) (by omega), some_bind]
        cases a.getD (a.length - 1) [1] with
        | nil => rfl
        | cons y ys => simp

/-! ### the program's own check -/
end Go.Dc

set_option linter.unusedVariables false
set_option maxHeartbeats 1000000
set_option linter.unusedSimpArgs false
set_option linter.unusedSectionVars false
/-! What Solve answers. -/
namespace Go.Dc

/-- a model, a refutation, or what is too much -/
def SolR (n : Int) (l : List (List Int)) (r : T_api_Answer × Int) : Prop :=
  r = (⟨false, [], []⟩, 2) ∧ 12 < nvs l n ∨
  r.2 = 0 ∧ r.1.Sat = true ∧ r.1.Steps = [] ∧ (r.1.Model.length : Int) = n ∧ satP l r.1.Model = true ∨
  r.2 = 0 ∧ r.1.Sat = false ∧ r.1.Model = [] ∧ r.1.Steps.length ≤ 20000 ∧ refP l r.1.Steps = true

theorem model_plain {V : List Int} {C : List (List Int)} {K : List (ByteArray × Int)} {S : List T_api_Step} {nd : Int} {st : Bool} (hl : V.length ≤ 200) : proof_search_model_m V C K S nd st = some (V.map fun v => decide (v > 0)) := by
  unfold proof_search_model_m
  have h : T (loopC (proof_search_model_l1 V) (0, [])) (· = V.map fun v => decide (v > 0)) := by
    refine T.loopK V.length (fun k s => s.1 = (k : Int) ∧ k ≤ V.length ∧ s.2 = (V.take k).map fun v => decide (v > 0)) ⟨rfl, by omega, rfl⟩ ?_
    rintro k ⟨i, o⟩ ⟨e, hk, ho⟩
    dsimp only at e ho
    subst e
    unfold proof_search_model_l1
    dsimp only
    refine T.cond (fun h => ?_) fun h => .ret ?_
    · have hk2 : k < V.length := by simpa using h
      have hol : o.length ≤ 200 := by rw [ho]; simp; omega
      rw [idxM_nat hk2, some_bind, appM_eq (by simp; omega), some_bind, iadd1 (by omega)]
      refine .ret ⟨hk2, rfl, hk2, ?_⟩
      rw [← List.take_append_getElem hk2, List.map_append, ho]; rfl
    · have : k = V.length := by simp at h; omega
      subst this
      rw [ho, List.take_length]
  rw [h.eq]; rfl

theorem litT_val {V : List Int} {x : Int} (h0 : x ≠ 0) (hx : (x.natAbs : Int) ≤ V.length) (h : valP V x = 1) : litT (V.map fun v => decide (v > 0)) x = true := by
  have hi : x.natAbs - 1 < V.length := by omega
  unfold litT
  rw [show (V.map fun v => decide (v > 0)).getD (x.natAbs - 1) false = decide (V.getD (x.natAbs - 1) 0 > 0) by simp [List.getD, hi]]
  unfold valP at h
  split at h
  · rename_i hp
    rw [h]; simp [hp]
  · rename_i hp
    have : V.getD (x.natAbs - 1) 0 = -1 := by omega
    rw [this]; simp; omega

/-- steps that were learned are a refutation -/
theorem inv_run {n : Int} {L C : List (List Int)} {K : List (ByteArray × Int)} {S : List T_api_Step} (h : CInv n L C K S) : runP L S = some C := by
  have hl := h.lenC
  suffices hh : ∀ j, j ≤ S.length → runP L (S.take j) = some (C.take (L.length + j)) by
    have := hh S.length (Nat.le_refl _)
    rw [List.take_length, List.take_of_length_le (by omega)] at this
    exact this
  intro j
  induction j with
  | zero =>
    intro _
    simp only [List.take_zero, runP, Nat.add_zero]
    congr 1
    apply List.ext_getElem
    · simp; omega
    · intro i h1 h2
      have := h.pre i h1
      simp only [List.getD, List.getElem?_eq_getElem h1, List.getElem?_eq_getElem (show i < C.length by omega), Option.getD_some] at this
      rw [List.getElem_take]; exact this.symm
  | succ j ih =>
    intro hj
    rw [runP_snoc hj (ih (by omega))]
    obtain ⟨q1, q2, q3, q4, q5⟩ := h.stp j hj
    have hlt : (C.take (L.length + j)).length = L.length + j := by simp; omega
    rw [stepP_of q1 (by rw [hlt]; exact q2) q3 (by rw [hlt]; exact q4)]
    have hg : ∀ i, i < L.length + j → (C.take (L.length + j)).getD i [] = C.getD i [] := fun i hi => by
      simp [List.getD, List.getElem?_take, hi]
    rw [hg _ (by omega), hg _ (by omega), q5, if_pos rfl]
    congr 1
    have hlt2 : L.length + j < C.length := by omega
    have : C.getD (L.length + j) [] = C[L.length + j] := by simp [List.getD, hlt2]
    rw [this, show L.length + (j + 1) = L.length + j + 1 by omega, List.take_append_getElem hlt2]

theorem Solve_plain {n : Int} {l : List (List Int)} : T (proof_Solve_m n l) fun r => if ValidP n l = 0 then SolR n l r else r = (⟨false, [], []⟩, ValidP n l) := by
  unfold proof_Solve_m
  rw [Validate_plain, some_bind]
  by_cases hv : ValidP n l = 0
  rotate_left
  · rw [show (ValidP n l != 0) = true by simp [hv], cond_true]
    exact .ret (by rw [if_neg hv])
  rw [hv, bne_self_eq_false, cond_false]
  obtain ⟨n0, n1, hlen, hcl⟩ := ValidP_ok.1 hv
  simp only [if_true]
  rw [find_bind (l := l) (fun c => if c.isEmpty = true then some ((⟨false, [], []⟩, 0) : T_api_Answer × Int) else none) (fun i hi => by
    unfold proof_Solve_l1
    rw [show decide ((i : Int) < (l.length : Int)) = true by simp [hi], cond_true, idxM_nat hi, iadd64 (by omega) (by omega)]
    simp only [Option.bind_some]
    cases hq : l[i] with
    | nil => simp
    | cons y ys => simp; rw [show ((ys.length : Int) + 1 == 0) = false from beq_false_of_ne (by omega)]; rfl) (by unfold proof_Solve_l1; simp)]
  cases hf : l.findSome? (fun c => if c.isEmpty = true then some ((⟨false, [], []⟩, 0) : T_api_Answer × Int) else none) with
  | some r =>
    obtain ⟨c, hc, hy⟩ := List.exists_of_findSome?_eq_some hf
    split at hy
    · rename_i he
      cases hy
      refine .ret (.inr (.inr ⟨rfl, rfl, rfl, by simp, ?_⟩))
      unfold refP
      simp only [runP, if_true]
      exact List.any_eq_true.2 ⟨c, hc, he⟩
    · cases hy
  | none =>
    rw [List.findSome?_eq_none_iff] at hf
    have hne : ∀ c ∈ l, c ≠ [] := fun c hc e => by have := hf c hc; rw [e] at this; simp at this
    obtain ⟨N, rfl⟩ := Int.eq_ofNat_of_zero_le n0
    have hmk : mkM 8 0 (N : Int) = some (List.replicate N (0 : Int)) := mkM_T (by omega)
    have hcn : slices_Clone_int_int_m l = some l := by unfold slices_Clone_int_int_m; rw [appM_eq (by simp; omega)]; rfl
    simp only [hmk, hcn, Option.bind_some, meetO_self, joinM_eq]
    have hV : VV (N : Int) (List.replicate N 0) := ⟨by simp, fun i => .inr (.inr getD_rep)⟩
    have hI : CInv (N : Int) l l [] [] := ⟨n0, n1, hlen, by simp, by simp, fun i _ => rfl, hcl, fun c hc x hx => occ_of hc hx, fun j hj => by simp at hj, fun p hp => by simp at hp⟩
    refine T.bind (find_m_T hI hV hne (by omega) (by omega)) fun q hq => ?_
    obtain ⟨f, V1, K1, nd1, st1, C1, S1⟩ := q
    dsimp only
    have hop : opn l (List.replicate N 0) ≤ nvs l (N : Int) := opn_le (by simp)
    have hsure : (0 : Int) + ((2 ^ (opn l (List.replicate N 0) + 1) : Nat) : Int) ≤ 8192 → (([] : List T_api_Step).length : Int) ≤ 0 → nvs l (N : Int) ≤ 12 → st1 = false := hq.sure
    refine T.cond (fun h => .ret (.inl ⟨rfl, ?_⟩)) fun h => ?_
    · refine Nat.lt_of_not_le fun hle => ?_
      have hp := pow_mono (show opn l (List.replicate N 0) + 1 ≤ 13 by omega)
      have h13 : ((2 ^ 13 : Nat) : Int) = 8192 := by decide
      rw [h13] at hp
      have := hsure (by omega) (by simp) hle
      rw [this] at h; cases h
    have hpre : ∀ c ∈ l, c ∈ C1 := fun c hc => by
      obtain ⟨i, hi, rfl⟩ := List.getElem_of_mem hc
      have h1 : C1.getD i [] = l.getD i [] := hq.inv.pre i hi
      have h2 : l.getD i [] = l[i] := by simp [List.getD, hi]
      have h3 : l.length ≤ C1.length := hq.lenC
      rw [← h2, ← h1]; exact getD_mem (by omega)
    refine T.cond (fun h2 => ?_) fun h2 => .ret ?_
    · have h2 := of_decide_eq_true h2
      rcases hq.res h with ⟨a1, a2, a3⟩ | ⟨a1, _⟩
      rotate_left
      · have a1 : 0 ≤ f := a1; omega
      have a2 : VV (N : Int) V1 := a2
      have hvl := a2.len
      rw [model_plain (by omega), some_bind]
      refine .ret (.inr (.inl ⟨rfl, rfl, rfl, by simpa using hvl, ?_⟩))
      refine List.all_eq_true.2 fun c hc => ?_
      obtain ⟨y, hy, hyv⟩ := a3 c (hpre c hc)
      have hr := (hcl c hc).rng y hy
      exact List.any_eq_true.2 ⟨y, hy, litT_val hr.1 (by omega) hyv⟩
    · have h2 := of_decide_eq_false h2
      rcases hq.res h with ⟨a1, _⟩ | ⟨a1, a2, a3, a4, a5⟩
      · have a1 : f = -1 := a1; omega
      have a1 : 0 ≤ f := a1
      have a2 : f < C1.length := a2
      have hinv : CInv (N : Int) l C1 K1 S1 := hq.inv
      have hfm : C1.getD f.toNat [] ∈ C1 := getD_mem (by omega)
      have hemp : C1.getD f.toNat [] = [] := by
        cases hc : C1.getD f.toNat [] with
        | nil => rfl
        | cons y ys =>
          have a4 : FalC (List.replicate N 0) (C1.getD f.toNat []) := a4
          have := a4 y (by rw [hc]; simp)
          unfold valP at this
          rw [getD_rep] at this
          split at this <;> omega
      have hlast : ((f.toNat : Nat) : Int) = f ∧ f.toNat + 1 = C1.length := a5 f.toNat (by show f.toNat < C1.length; omega) hemp
      have hS : S1 ≠ [] := fun e => by
        subst e
        have h5 := hinv.lenC
        simp at h5
        have h6 := hinv.pre f.toNat (by omega)
        rw [hemp] at h6
        exact hne _ (getD_mem (z := []) (show f.toNat < l.length by omega)) h6.symm
      refine .inr (.inr ⟨rfl, rfl, rfl, hinv.lenS, ?_⟩)
      dsimp only
      unfold refP
      rw [inv_run hinv]
      simp only [if_neg hS]
      rw [show C1.length - 1 = f.toNat by omega]
      have : C1.getD f.toNat [1] = C1.getD f.toNat [] := by simp [List.getD, show f.toNat < C1.length by omega]
      rw [this, hemp]; rfl

/-- the answer is right -/
theorem SolR_check {n : Int} {l : List (List Int)} {r : T_api_Answer × Int} (hv : ValidP n l = 0) (h : SolR n l r) (h0 : r.2 = 0) : CheckP n l r.1 = 0 := by
  unfold CheckP
  rw [if_neg (by simp [hv])]
  rcases h with ⟨e, _⟩ | ⟨_, h1, h2, h3, h4⟩ | ⟨_, h1, h2, h3, h4⟩
  · rw [e] at h0; cases h0
  · rw [if_pos h1, if_neg (by simp [h2, h3]), if_pos h4]
  · rw [if_neg (by simp [h1]), if_neg (by simp [h2]), if_neg (by omega), if_pos h4]
end Go.Dc

set_option linter.unusedVariables false
set_option maxHeartbeats 1000000
set_option linter.unusedSimpArgs false
set_option linter.unusedSectionVars false
/-! Variables, and models by trying them all. -/
namespace Go.Dc

/-- the truths of a number -/
def bitsM (n m : Nat) : List Bool := (List.range n).map fun i => m.testBit i
def numM : List Bool → Nat
  | [] => 0
  | b :: l => b.toNat + 2 * numM l
theorem Variables_plain {n : Int} {l : List (List Int)} (n0 : 0 ≤ n) (n1 : n ≤ 200) (hlen : l.length ≤ 4000) (hcl : ∀ c ∈ l, c.length ≤ 1000) : ref04_Variables_m n l = some (nvs l n : Int) := by
  unfold ref04_Variables_m
  have hinner : ∀ (s : Int × Int) (v : Nat), s.2 = (v : Int) → v ≤ 1000 → loopC (ref04_Variables_l1 l s) (false, 0) = some (occ l v) := by
    rintro ⟨a, v'⟩ v e hv
    dsimp only at e
    subst e
    have hocc : ∀ k, k < l.length → occ (l.take (k + 1)) v = (occ (l.take k) v || occ [l.getD k []] v) := fun k hk => by
      have : l.getD k [] = l[k] := by simp [List.getD, hk]
      rw [this]
      unfold occ
      rw [← List.take_append_getElem hk, List.any_append]
    refine T.eq (T.loopK l.length (fun k s => s.2 = (k : Int) ∧ k ≤ l.length ∧ s.1 = occ (l.take k) v) ⟨rfl, by omega, rfl⟩ ?_)
    rintro k ⟨b, i⟩ ⟨e, hk, hb⟩
    dsimp only at e hb
    subst e
    unfold ref04_Variables_l1
    dsimp only
    refine T.cond (fun h => ?_) fun h => .ret ?_
    · have hk2 : k < l.length := by simpa using h
      have hc := hcl _ (List.getElem_mem hk2)
      have hg : l.getD k [] = l[k] := by simp [List.getD, hk2]
      have h1 := hocc k hk2
      rw [hg] at h1
      rw [iadd1 (by omega)]
      refine T.cond (fun hbt => .ret ⟨hk2, rfl, hk2, ?_⟩) fun hbf => ?_
      · rw [h1, ← hb, hbt]; rfl
      · rw [idxM_nat hk2, some_bind, in_plain (by omega), some_bind, some_bind, ineg64 (by omega) (by omega), in_plain (by omega)]
        rw [hbf] at hb
        have h2 : occ [l[k]] v = (decide ((v : Int) ∈ l[k]) || decide (-(v : Int) ∈ l[k])) := by
          unfold occ; simp
        rw [← hb, h2, Bool.false_or] at h1
        refine T.cond (fun h3 => .ret ⟨hk2, rfl, hk2, ?_⟩) fun h3 => .ret ⟨hk2, rfl, hk2, ?_⟩
        · rw [h1, h3]; rfl
        · rw [h1, h3]; rfl
    · have : k = l.length := by simp at h; omega
      subst this
      show b = _
      rw [hb, List.take_length]
  have houter : loopC (ref04_Variables_l2 n l) (0, 1) = some (nvs l n : Int) := by
    refine T.eq (T.loopK n.toNat (fun k s => s.2 = ((k + 1 : Nat) : Int) ∧ (k : Int) ≤ n ∧ s.1 = (((List.range' 1 k).filter fun v : Nat => decide ((v : Int) ≤ n) && occ l v).length : Int)) ⟨rfl, by omega, rfl⟩ ?_)
    rintro k ⟨a, i⟩ ⟨e, hk, hb⟩
    dsimp only at e hb
    subst e
    unfold ref04_Variables_l2
    dsimp only
    have hal : a ≤ 200 ∧ 0 ≤ a := by
      have := List.length_filter_le (fun v : Nat => decide ((v : Int) ≤ n) && occ l v) (List.range' 1 k)
      simp only [List.length_range'] at this
      omega
    refine T.cond (fun h => ?_) fun h => .ret ?_
    · have h := of_decide_eq_true h
      rw [hinner _ (k + 1) rfl (by omega), some_bind, iadd1 (by omega)]
      have er : List.range' 1 (k + 1) = List.range' 1 k ++ [k + 1] := by rw [List.range'_concat, Nat.add_comm 1]; simp [Nat.add_comm]
      have hf : (((List.range' 1 (k + 1)).filter fun v : Nat => decide ((v : Int) ≤ n) && occ l v).length : Int) = a + if occ l (k + 1) = true then 1 else 0 := by
        rw [er, List.filter_append, List.length_append, hb]
        rw [show ((k + 1 : Nat) : Int) = (k : Int) + 1 by omega] at h
        cases ho : occ l (k + 1) with
        | true => simp [ho, h]
        | false => simp [ho]
      refine T.cond (fun h2 => .ret ⟨by omega, rfl, by omega, ?_⟩) fun h2 => .ret ⟨by omega, rfl, by omega, ?_⟩
      · rw [hf, if_pos h2, iadd64 (by omega) (by omega)]
      · rw [hf, if_neg (by rw [h2]; simp)]; simp
    · have hkn : (k : Int) = n := by have := of_decide_eq_false h; omega
      show a = _
      rw [hb]
      unfold nvs
      congr 2
      have hsp : List.range' 1 200 = List.range' 1 k ++ List.range' (1 + k) (200 - k) := by
        rw [List.range'_append_1]; congr 1; omega
      rw [hsp, List.filter_append]
      have : (List.range' (1 + k) (200 - k)).filter (fun v : Nat => decide ((v : Int) ≤ n) && occ l v) = [] := by
        rw [List.filter_eq_nil_iff]
        intro v hv
        have := List.mem_range'_1.1 hv
        simp; intro h3; omega
      rw [this, List.append_nil]
  rw [houter]; rfl
end Go.Dc

set_option linter.unusedVariables false
set_option maxHeartbeats 1000000
set_option linter.unusedSimpArgs false
set_option linter.unusedSectionVars false
namespace Go.Dc

theorem law04_ProofSolves_plain (n : Int) (raw : List (List Int)) (l : List Int) {p0 q p2 : Prop} (_ : p0) (hraw : raw.length ≤ maxLen ∧ q) (_ : p2) : law04_ProofSolves_m n raw l = some true := by
  refine T.eq ?_
  have hm : raw.length ≤ 9223372036854775807 := by have := hraw.1; unfold maxLen at this; omega
  unfold law04_ProofSolves_m
  refine T.bind (SmallLists_plain (by omega) (by omega) hm) fun b hb => T.cond (fun _ => .ret rfl) fun h => ?_
  refine T.bind New_plain fun s3 hs3 => T.bind (N_plain hs3 (by omega)) fun t4 ht4 => ?_
  have hk := ht4.2 (by omega)
  have e1 : iadd .i64 1 t4.1 = 1 + t4.1 := iadd64 (by omega) (by omega)
  rw [e1]
  refine T.bind (Clauses_plain ht4.1 (by omega) (by omega) (by omega) (by omega)) fun good hg => ?_
  have hsml : Sml 40 good.2 := ⟨by have := hg.2.2; omega, fun c hc => by have := (hg.2.1 c hc).2; omega⟩
  refine T.bind (spoilt_plain hg.1 hsml (by omega)) fun t6 ht6 => ?_
  refine T.bind (Clauses_plain ht6.1 (by omega) (by omega) (by omega) (by omega)) fun t7 ht7 => ?_
  refine T.bind (P := fun o => o = .inr ()) ?_ fun o ho => by subst ho; rw [sumK_inr, awake04, some_bind]; exact .ret rfl
  refine T.loopK 4 (fun k s => s = (k : Int) ∧ k ≤ 4) ⟨rfl, by omega⟩ ?_
  rintro k _ ⟨rfl, hk3⟩
  unfold law04_ProofSolves_l2
  refine T.cond (fun h => ?_) fun h => .ret rfl
  have hk2 : k < 4 := by simp at h; omega
  rw [idxM_nat (show k < [raw, good.2, t6.2, t7.2].length from hk2), some_bind, iadd1 (by omega)]
  generalize [raw, good.2, t6.2, t7.2][k] = x
  refine T.bind (P := fun o => o = .inr ()) ?_ fun o ho => by subst ho; exact .ret ⟨hk2, rfl, by omega⟩
  refine T.loopK 2 (fun j s => s = (j : Int) ∧ j ≤ 2) ⟨rfl, by omega⟩ ?_
  rintro j _ ⟨rfl, hj3⟩
  unfold law04_ProofSolves_l1
  refine T.cond (fun h => ?_) fun h => .ret rfl
  have hj2 : j < 2 := by simp at h; omega
  rw [e1, idxM_nat (show j < [n, 1 + t4.1].length from hj2), some_bind]
  generalize [n, 1 + t4.1][j] = m
  have next : T (some (Sum.inr (iadd .i64 (j : Int) 1)) : Option (Sum (Sum Bool Unit) Int)) (onO (fun o => o = .inr ()) fun s' => j < 2 ∧ s' = ((j + 1 : Nat) : Int) ∧ j + 1 ≤ 2) := by
    rw [iadd1 (by omega)]; exact .ret ⟨hj2, rfl, by omega⟩
  obtain ⟨r, er, hr⟩ := Solve_plain (n := m) (l := x)
  rw [er, some_bind, some_bind]
  simp only [bne_self_eq_false, beq_self_eq_true, Bool.not_true, cond_false]
  rw [rValidate_plain, some_bind]
  by_cases hv : ValidP m x = 0
  · rw [if_pos hv] at hr
    rw [hv, bne_self_eq_false, cond_false]
    obtain ⟨v0, v1, v2, v3⟩ := ValidP_ok.1 hv
    rw [rCheck_plain, some_bind]
    by_cases h0 : r.2 = 0
    · rw [h0, bne_self_eq_false, cond_false, show ((0 : Int) == 0) = true from rfl, cond_true, SolR_check hv hr h0, bne_self_eq_false, cond_false]
      exact next
    · have h12 : r.2 = 2 ∧ 12 < nvs x m := by
        rcases hr with ⟨e, h⟩ | ⟨e, _⟩ | ⟨e, _⟩
        · exact ⟨by rw [e], h⟩
        · exact absurd e h0
        · exact absurd e h0
      rw [h12.1, show ((2 : Int) != 0) = true from rfl, cond_true, bne_self_eq_false, cond_false, Variables_plain v0 v1 v2 (fun c hc => by have := (v3 c hc).len; omega), some_bind]
      rw [show decide ((nvs x m : Int) ≤ 12) = false by simp; omega, cond_false, show ((2 : Int) == 0) = false from rfl, cond_false]
      exact next
  · rw [if_neg hv] at hr
    rw [show (ValidP m x != 0) = true by simp [hv], cond_true, hr]
    simp only [bne_self_eq_false, cond_false]
    exact next

end Go.Dc
