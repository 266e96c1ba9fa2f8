/- Part P23A.RWorlds of a proof: lemmas. -/
import Derived.Test.YtkcaadcoagimdaaDoorP23AValid
set_option linter.unusedVariables false
set_option linter.unusedSimpArgs false
set_option linter.unusedSectionVars false
/-! The reference's worlds. -/
namespace Go.Dc

/-! ### fractions in lowest terms -/
def redF (f : Fr) : Fr := rd f.Num.toNat f.Den.toNat

theorem redF_parts {f : Fr} (h : FrOk f) : ∃ n d k : Nat, redF f = ⟨(n : Int), (d : Int)⟩ ∧ 0 < k ∧ f.Num = ((k * n : Nat) : Int) ∧ f.Den = ((k * d : Nat) : Int) ∧ 0 < d ∧ n ≤ d ∧ d ≤ 12 ∧ (n = 0 → d = 1) ∧ (n = d → d = 1) := by
  have h1 := h.d1; have h2 := h.d2; have h3 := h.n0; have h4 := h.n1
  obtain ⟨a, ha⟩ := Int.eq_ofNat_of_zero_le h3
  obtain ⟨b, hb⟩ := Int.eq_ofNat_of_zero_le (show 0 ≤ f.Den by omega)
  have hb0 : 0 < b := by omega
  have hg : 0 < Nat.gcd a b := Nat.gcd_pos_of_pos_right a hb0
  have e1 : Nat.gcd a b * (a / Nat.gcd a b) = a := Nat.mul_div_cancel' (Nat.gcd_dvd_left a b)
  have e2 : Nat.gcd a b * (b / Nat.gcd a b) = b := Nat.mul_div_cancel' (Nat.gcd_dvd_right a b)
  have hd : 0 < b / Nat.gcd a b := Nat.div_pos (Nat.le_of_dvd hb0 (Nat.gcd_dvd_right a b)) hg
  refine ⟨a / Nat.gcd a b, b / Nat.gcd a b, Nat.gcd a b, ?_, hg, by rw [e1]; exact ha, by rw [e2]; exact hb, hd, ?_, ?_, ?_, ?_⟩
  · unfold redF rd
    rw [show f.Num.toNat = a by omega, show f.Den.toNat = b by omega]
  · exact Nat.div_le_div_right (by omega)
  · exact Nat.le_trans (Nat.div_le_self _ _) (by omega)
  · intro hn
    have ha0 : a = 0 := by rw [← e1, hn]; simp
    subst ha0
    rw [Nat.gcd_zero_left]; exact Nat.div_self hb0
  · intro hn
    have hab : a = b := by
      have e3 := e1
      rw [hn] at e3
      exact e3.symm.trans e2
    subst hab
    rw [Nat.gcd_self]; exact Nat.div_self hb0

/-- in lowest terms -/
structure FrR (f : Fr) : Prop where
  ok : FrOk f
  c : cert f = true → f = ⟨0, 1⟩ ∨ f = ⟨1, 1⟩

theorem redF_ok {f : Fr} (h : FrOk f) : FrR (redF f) ∧ cert (redF f) = cert f := by
  obtain ⟨n, d, k, e, hk, hn, hd, hd0, hnd, hd12, hz, ho⟩ := redF_parts h
  have hc : cert (redF f) = true ↔ n = 0 ∨ n = d := by
    rw [e]; unfold cert
    rw [Bool.or_eq_true, beq_iff_eq, beq_iff_eq]
    simp only; omega
  have hc2 : cert f = true ↔ n = 0 ∨ n = d := by
    unfold cert
    rw [Bool.or_eq_true, beq_iff_eq, beq_iff_eq, hn, hd]
    constructor
    · rintro (h1 | h1)
      · left
        have : k * n = 0 := by omega
        rcases Nat.mul_eq_zero.1 this with h2 | h2
        · omega
        · exact h2
      · right
        have : k * n = k * d := by omega
        exact Nat.eq_of_mul_eq_mul_left hk this
    · rintro (h1 | h1)
      · left; rw [h1]; simp
      · right; rw [h1]
  refine ⟨⟨?_, fun h1 => ?_⟩, by rw [Bool.eq_iff_iff, hc, hc2]⟩
  · rw [e]; exact ⟨by simp only; omega, by simp only; omega, by simp only; omega, by simp only; omega⟩
  · rcases hc.1 h1 with h2 | h2
    · left; rw [e, h2, hz h2]; rfl
    · right
      have := ho h2
      rw [e, h2, this]; rfl

theorem J_red {l : List Fr} (h : ∀ f ∈ l, FrOk f) : ∃ K : Nat, 0 < K ∧ ∀ c, J l c = K * J (l.map redF) c := by
  induction l with
  | nil => exact ⟨1, by decide, fun c => by simp [J]⟩
  | cons f r ih =>
    obtain ⟨K, hK, hJ⟩ := ih fun g hg => h g (by simp [hg])
    have hf := h f (by simp)
    have hc := (redF_ok hf).2
    obtain ⟨n, d, k, e, hk, hn, hd, hd0, hnd, hd12, hz, ho⟩ := redF_parts hf
    cases hcf : cert f with
    | true =>
      refine ⟨K, hK, fun c => ?_⟩
      rw [List.map_cons, J, J, if_pos hcf, if_pos (by rw [hc]; exact hcf), hJ]
      have : ((redF f).Num != 0) = (f.Num != 0) := by
        rw [e, Bool.eq_iff_iff, bne_iff_ne, bne_iff_ne, hn]
        simp only
        constructor
        · intro h1 h2
          have : k * n = 0 := by omega
          rcases Nat.mul_eq_zero.1 this with h3 | h3 <;> omega
        · intro h1 h2
          have : n = 0 := by omega
          rw [this] at h1; simp at h1
      rw [this]
    | false =>
      refine ⟨k * K, Nat.mul_pos hk hK, fun c => ?_⟩
      rw [List.map_cons, J, J, if_neg (by rw [hcf]; simp), if_neg (by rw [hc, hcf]; simp), hJ, hJ, e]
      have e1 : f.Num.toNat = k * n := by omega
      have e2 : (f.Den - f.Num).toNat = k * (d - n) := by rw [Nat.mul_sub]; omega
      have e3 : ((d : Int) - (n : Int)).toNat = d - n := by omega
      rw [e1, e2, e3, Int.toNat_natCast, Nat.mul_add]
      congr 1 <;> ac_rfl

/-! ### worlds, one after another -/
def pstep (P : List (List Bool × Nat)) (f : Fr) : List (List Bool × Nat) :=
  P.flatMap fun p => (if 0 < f.Num then [(p.1 ++ [true], p.2 * f.Num.toNat)] else []) ++ (if f.Num < f.Den then [(p.1 ++ [false], p.2 * (f.Den - f.Num).toNat)] else [])
def pfold (l : List Fr) : List (List Bool × Nat) := l.foldl pstep [([], 1)]
def pJ (P : List (List Bool × Nat)) (r : List Fr) (c : List Bool → Bool) : Nat := (P.map fun p => p.2 * J r (fun t => c (p.1 ++ t))).sum
def psum (P : List (List Bool × Nat)) (c : List Bool → Bool) : Nat := (P.map fun p => if c p.1 then p.2 else 0).sum

theorem pJ_step {f : Fr} (hf : FrR f) {r : List Fr} {c : List Bool → Bool} : ∀ P, pJ (pstep P f) r c = pJ P (f :: r) c := by
  intro P
  induction P with
  | nil => rfl
  | cons p P ih =>
    have e : pstep (p :: P) f = ((if 0 < f.Num then [(p.1 ++ [true], p.2 * f.Num.toNat)] else []) ++ (if f.Num < f.Den then [(p.1 ++ [false], p.2 * (f.Den - f.Num).toNat)] else [])) ++ pstep P f := by
      unfold pstep; rw [List.flatMap_cons]
    have e2 : ∀ A B, pJ (A ++ B) r c = pJ A r c + pJ B r c := fun A B => by unfold pJ; rw [List.map_append, List.sum_append]
    have e3 : pJ (p :: P) (f :: r) c = p.2 * J (f :: r) (fun t => c (p.1 ++ t)) + pJ P (f :: r) c := by unfold pJ; rw [List.map_cons, List.sum_cons]
    rw [e, e2, e3, ih]
    congr 1
    rw [J]
    cases hc : cert f with
    | true =>
      rcases hf.c hc with e | e
      · subst e; simp [pJ]
      · subst e; simp [pJ]
    | false =>
      have h0 := hf.ok.n0; have h1 := hf.ok.n1
      unfold cert at hc
      rw [Bool.or_eq_false_iff, beq_eq_false_iff_ne, beq_eq_false_iff_ne] at hc
      rw [if_pos (by omega), if_pos (by omega), if_neg (by simp)]
      simp only [pJ, List.map_append, List.map_cons, List.map_nil, List.sum_append, List.sum_cons, List.sum_nil, List.append_assoc, List.singleton_append, Nat.add_zero]
      rw [Nat.mul_add, Nat.mul_assoc, Nat.mul_assoc]

theorem pJ_fold {c : List Bool → Bool} : ∀ (r : List Fr) (P : List (List Bool × Nat)), (∀ f ∈ r, FrR f) → pJ (r.foldl pstep P) [] c = pJ P r c := by
  intro r
  induction r with
  | nil => intro P _; rfl
  | cons f r ih =>
    intro P h
    rw [List.foldl_cons, ih _ fun g hg => h g (by simp [hg]), pJ_step (h f (by simp))]

theorem psum_fold {l : List Fr} (h : ∀ f ∈ l, FrR f) {c : List Bool → Bool} : psum (pfold l) c = J l c := by
  have h1 := pJ_fold (c := c) l [([], 1)] h
  have h2 : pJ [([], 1)] l c = J l c := by simp [pJ]
  rw [h2] at h1
  rw [← h1]
  unfold psum pfold pJ
  congr 1
  refine List.map_congr_left fun p _ => ?_
  simp only [J, List.append_nil]
  cases c p.1 <;> simp

theorem psum_take {P : List (List Bool × Nat)} {c : List Bool → Bool} {k : Nat} : psum (P.take k) c ≤ psum P fun _ => true := by
  induction P generalizing k with
  | nil => simp [psum]
  | cons p P ih =>
    cases k with
    | zero => simp [psum]
    | succ k =>
      have := ih (k := k)
      unfold psum at this ⊢
      rw [List.take_succ_cons, List.map_cons, List.map_cons, List.sum_cons, List.sum_cons]
      have h1 : (if c p.1 then p.2 else 0) ≤ p.2 := by split <;> omega
      simp only [if_true] at this ⊢
      omega
theorem psum_snoc {P : List (List Bool × Nat)} {c : List Bool → Bool} {k : Nat} (hk : k < P.length) : psum (P.take (k + 1)) c = psum (P.take k) c + (if c P[k].1 then P[k].2 else 0) := by
  have htk : P.take (k + 1) = P.take k ++ [P[k]] := by rw [List.take_add_one, List.getElem?_eq_getElem hk]; rfl
  unfold psum
  rw [htk, List.map_append, List.sum_append]; simp

/-- a world of the reference -/
structure RW (N : Nat) (L : List Pr) (h : List Bool) (w : Nat) (x : T_deliberationref23_world) : Prop where
  num : x.num = (w : Int)
  n : x.g.N = (N : Int)
  ll : x.g.L.length ≤ h.length
  lg : x.gone.length ≤ min h.length N
  l : ∀ p, p ∈ x.g.L ↔ ∃ k, N + k < h.length ∧ h.getD (N + k) false = true ∧ L.getD k default = p
  g : ∀ i : Nat, (i : Int) ∈ x.gone ↔ i < N ∧ i < h.length ∧ h.getD i false = false

def RWs (N : Nat) (L : List Pr) : List (List Bool × Nat) → List T_deliberationref23_world → Prop
  | [], [] => True
  | p :: P, x :: X => RW N L p.1 p.2 x ∧ RWs N L P X
  | _, _ => False

theorem RWs.len {N : Nat} {L : List Pr} : ∀ {P : List (List Bool × Nat)} {X : List T_deliberationref23_world}, RWs N L P X → X.length = P.length
  | [], [], _ => rfl
  | _ :: _, _ :: _, ⟨_, h⟩ => by simp [h.len]
  | [], _ :: _, h => h.elim
  | _ :: _, [], h => h.elim
theorem RWs.get {N : Nat} {L : List Pr} : ∀ {P : List (List Bool × Nat)} {X : List T_deliberationref23_world}, RWs N L P X → ∀ {k : Nat} (h1 : k < P.length) (h2 : k < X.length), RW N L P[k].1 P[k].2 X[k]
  | _ :: _, _ :: _, ⟨h, _⟩, 0, _, _ => h
  | _ :: _, _ :: _, ⟨_, h⟩, k + 1, h1, h2 => h.get (by simpa using h1) (by simpa using h2)
  | [], [], _, k, h1, _ => by simp at h1
  | [], _ :: _, h, _, _, _ => h.elim
  | _ :: _, [], h, _, _, _ => h.elim
theorem RWs.append {N : Nat} {L : List Pr} : ∀ {P Q : List (List Bool × Nat)} {X Y : List T_deliberationref23_world}, RWs N L P X → RWs N L Q Y → RWs N L (P ++ Q) (X ++ Y)
  | [], _, [], _, _, h => h
  | _ :: _, _, _ :: _, _, ⟨h, h1⟩, h2 => ⟨h, h1.append h2⟩
  | [], _, _ :: _, _, h, _ => h.elim
  | _ :: _, _, [], _, h, _ => h.elim

theorem getD_snoc {h : List Bool} {b : Bool} {i : Nat} : (h ++ [b]).getD i false = if i < h.length then h.getD i false else if i = h.length then b else false := by
  by_cases h1 : i < h.length
  · rw [if_pos h1]; simp [List.getD, List.getElem?_append_left h1]
  · rw [if_neg h1]
    by_cases h2 : i = h.length
    · subst h2; simp [List.getD]
    · rw [if_neg h2]
      simp [List.getD, List.getElem?_append_right (by omega : h.length ≤ i), show i - h.length ≠ 0 by omega]

section
variable {N : Nat} {L : List Pr} {h : List Bool} {w w' : Nat} {x : T_deliberationref23_world} (hx : RW N L h w x)
include hx
/-- a node more -/
theorem RW.node (hi : h.length < N) : RW N L (h ++ [true]) w' ⟨x.g, x.gone, (w' : Int)⟩ ∧ RW N L (h ++ [false]) w' ⟨x.g, x.gone ++ [((h.length : Nat) : Int)], (w' : Int)⟩ := by
  have hl : ∀ b p, p ∈ x.g.L ↔ ∃ k, N + k < (h ++ [b]).length ∧ (h ++ [b]).getD (N + k) false = true ∧ L.getD k default = p := fun b p => by
    rw [hx.l]
    constructor
    · rintro ⟨k, h1, _⟩; omega
    · rintro ⟨k, h1, _⟩; simp at h1; omega
  have hll := hx.ll; have hlg := hx.lg
  refine ⟨⟨rfl, hx.n, by simp; omega, by simp; omega, hl true, fun i => ?_⟩, ⟨rfl, hx.n, by simp; omega, by simp; omega, hl false, fun i => ?_⟩⟩
  · simp only
    rw [hx.g, getD_snoc, List.length_append, List.length_singleton]
    by_cases h1 : i < h.length
    · rw [if_pos h1]; exact ⟨fun ⟨a, b, c⟩ => ⟨a, by omega, c⟩, fun ⟨a, _, c⟩ => ⟨a, h1, c⟩⟩
    · rw [if_neg h1]
      by_cases h2 : i = h.length
      · rw [if_pos h2]; exact ⟨fun ⟨_, b, _⟩ => absurd b h1, fun ⟨_, _, c⟩ => by cases c⟩
      · rw [if_neg h2]; exact ⟨fun ⟨_, b, _⟩ => absurd b h1, fun ⟨_, b, _⟩ => by omega⟩
  · simp only
    rw [List.mem_append, hx.g, getD_snoc, List.length_append, List.mem_singleton, List.length_singleton]
    by_cases h1 : i < h.length
    · rw [if_pos h1]; exact ⟨fun hh => hh.elim (fun ⟨a, b, c⟩ => ⟨a, by omega, c⟩) (fun e => by omega), fun ⟨a, _, c⟩ => .inl ⟨a, h1, c⟩⟩
    · rw [if_neg h1]
      by_cases h2 : i = h.length
      · rw [if_pos h2]; exact ⟨fun _ => ⟨by omega, by omega, rfl⟩, fun _ => .inr (by omega)⟩
      · rw [if_neg h2]; exact ⟨fun hh => hh.elim (fun ⟨_, b, _⟩ => absurd b h1) (fun e => by omega), fun ⟨_, b, _⟩ => by omega⟩
/-- an attack more -/
theorem RW.att {p0 : Pr} (hi : N ≤ h.length) (hp : L.getD (h.length - N) default = p0) : RW N L (h ++ [true]) w' ⟨⟨(N : Int), x.g.L ++ [p0]⟩, x.gone, (w' : Int)⟩ ∧ RW N L (h ++ [false]) w' ⟨x.g, x.gone, (w' : Int)⟩ := by
  have hg : ∀ (b : Bool) (i : Nat), (i : Int) ∈ x.gone ↔ i < N ∧ i < (h ++ [b]).length ∧ (h ++ [b]).getD i false = false := fun b i => by
    rw [hx.g, getD_snoc, List.length_append, List.length_singleton]
    by_cases h1 : i < h.length
    · rw [if_pos h1]; exact ⟨fun ⟨a, b, c⟩ => ⟨a, by omega, c⟩, fun ⟨a, _, c⟩ => ⟨a, h1, c⟩⟩
    · rw [if_neg h1]
      constructor
      · rintro ⟨_, h2, _⟩; omega
      · rintro ⟨h2, _⟩; omega
  have hll := hx.ll; have hlg := hx.lg
  refine ⟨⟨rfl, rfl, by simp; omega, by simp; omega, fun p => ?_, hg true⟩, ⟨rfl, hx.n, by simp; omega, by simp; omega, fun p => ?_, hg false⟩⟩
  · simp only
    rw [List.mem_append, hx.l, List.mem_singleton]
    constructor
    · rintro (⟨k, h1, h2, h3⟩ | rfl)
      · exact ⟨k, by simp; omega, by rw [getD_snoc, if_pos h1]; exact h2, h3⟩
      · exact ⟨h.length - N, by simp; omega, by rw [getD_snoc, if_neg (by omega), if_pos (by omega)], hp⟩
    · rintro ⟨k, h1, h2, h3⟩
      rw [List.length_append, List.length_singleton] at h1
      rw [getD_snoc] at h2
      by_cases h4 : N + k < h.length
      · rw [if_pos h4] at h2; exact .inl ⟨k, h4, h2, h3⟩
      · have : k = h.length - N := by omega
        subst this
        exact .inr (h3.symm.trans hp)
  · simp only
    rw [hx.l]
    constructor
    · rintro ⟨k, h1, h2, h3⟩
      exact ⟨k, by simp; omega, by rw [getD_snoc, if_pos h1]; exact h2, h3⟩
    · rintro ⟨k, h1, h2, h3⟩
      rw [List.length_append, List.length_singleton] at h1
      rw [getD_snoc] at h2
      by_cases h4 : N + k < h.length
      · rw [if_pos h4] at h2; exact ⟨k, h4, h2, h3⟩
      · rw [if_neg h4] at h2
        split at h2 <;> cases h2
end
end Go.Dc
