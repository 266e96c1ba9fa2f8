/- Part P52.Enf13 of a proof: lemmas. -/
import Derived.Test.YtkkgghdjclkknaaGreatDoorP52World
import Derived.Test.YtkkgghdjclkknaaGreatDoorP52SortC
import Derived.Test.YtkkgghdjclkknaaGreatDoorP52KeyI
set_option linter.unusedVariables false
set_option linter.unusedSimpArgs false
set_option linter.unusedSectionVars false
namespace Go.Dc
open Go.Proofs Go.Sort
variable {g : af}
def Yv (g : af) (A S : Nat → Prop) : Prop := (∀ a, S a → A a) ∧ (∀ a b : Nat, S a → S b → ¬ qe g a b) ∧ ∀ a b : Nat, S a → A b → qe g b a → ∃ c : Nat, S c ∧ qe g c b
def Stb (g : af) (A S : Nat → Prop) : Prop := (∀ a, S a → A a) ∧ (∀ a b : Nat, S a → S b → ¬ qe g a b) ∧ ∀ b : Nat, A b → ¬ S b → ∃ c : Nat, S c ∧ qe g c b
def Clsd (g : af) (A S : Nat → Prop) : Prop := ∀ j : Nat, A j → (∀ b : Nat, A b → qe g b j → ∃ c : Nat, S c ∧ A c ∧ qe g c b) → S j
def Grd (g : af) (A : Nat → Prop) (i : Nat) : Prop := ∀ S, Clsd g A S → S i
def Ln (g : af) (A : Nat → Prop) (q : Int) (i : Nat) : Prop := if q = 1 then ∃ S, Yv g A S ∧ S i else if q = 2 then ∃ S, Stb g A S ∧ S i else if q = 3 then ∀ S, Stb g A S → S i else Grd g A i
structure Emb (g h : af) (A : Nat → Prop) (M : Nat) (φ : Nat → Nat) : Prop where
 inj : ∀ a b, a < M → b < M → φ a = φ b → a = b
 into : ∀ a, a < M → A (φ a)
 onto : ∀ x, A x → ∃ a, a < M ∧ φ a = x
 qe : ∀ a b : Nat, a < M → b < M → (qe h a b ↔ qe g (φ a : Nat) (φ b : Nat))
theorem MI (h : cu g) {z : List Int} {i : Nat} (hl : jO g z i = true) (e : sf z i = 1) : ∀ a : Nat, qe g a i → sf z a = 2 := fun a ha => by
 unfold jO at hl
 rw [if_pos e] at hl
 have := eq_of_beq (List.all_eq_true.1 hl (a : Int) ((vP h).2 ⟨a, rfl, ha⟩))
 rwa [qz] at this
theorem OP (h : cu g) {z : List Int} {i : Nat} (hl : jO g z i = true) (e : sf z i = 2) : ∃ a : Nat, qe g a i ∧ sf z a = 1 := by
 unfold jO at hl
 rw [if_neg (by omega), if_pos e] at hl
 obtain ⟨a, ha, hb⟩ := List.any_eq_true.1 hl
 obtain ⟨b, rfl, rQ⟩ := (vP h).1 ha
 rw [qz] at hb
 exact ⟨b, rQ, eq_of_beq hb⟩
theorem aai (h : cu g) {z : List Int} {i : Nat} (h1 : sf z i = 1 → ∀ a : Nat, qe g a i → sf z a = 2) (h2 : sf z i = 2 → ∃ a : Nat, qe g a i ∧ sf z a = 1)
  (h3 : sf z i ≠ 1 → sf z i ≠ 2 → (∀ a : Nat, qe g a i → sf z a ≠ 1) ∧ ∃ a : Nat, qe g a i ∧ sf z a ≠ 2) : jO g z i = true := by
 unfold jO
 split
 ·rename_i e
  refine List.all_eq_true.2 fun a ha => ?_
  obtain ⟨b, rfl, hb⟩ := (vP h).1 ha
  rw [qz, h1 e b hb]; rfl
 ·rename_i e
  split
  ·rename_i e2
   obtain ⟨b, hb, Q5⟩ := h2 e2
   exact List.any_eq_true.2 ⟨b, (vP h).2 ⟨b, rfl, hb⟩, by rw [qz, Q5]; rfl⟩
  ·rename_i e2
   obtain ⟨g1, b, hb, rQ⟩ := h3 e e2
   simp only [Bool.and_eq_true, Bool.not_eq_true']
   refine ⟨List.any_eq_false.2 fun a ha hh => ?_, List.all_eq_false.2 ⟨b, (vP h).2 ⟨b, rfl, hb⟩, by rw [qz]; simpa using rQ⟩⟩
   obtain ⟨c, rfl, hc⟩ := (vP h).1 ha
   rw [qz] at hh
   exact g1 c hc (eq_of_beq hh)
open Classical in
noncomputable def F9 (g : af) (S : Nat → Prop) : List Int := (List.range g.N.toNat).map fun j => if S j then 1 else if ∃ c : Nat, S c ∧ qe g c j then 2 else 3
open Classical in
theorem oJ {S : Nat → Prop} {j : Nat} (hj : j < g.N.toNat) : sf (F9 g S) j = if S j then 1 else if ∃ c : Nat, S c ∧ qe g c j then 2 else 3 := by
 unfold sf F9; simp [List.getD, hj]
theorem MK {S : Nat → Prop} : NF g.N.toNat (F9 g S) := ⟨by simp [F9], fun x hx => by
 unfold F9 at hx
 obtain ⟨j, _, rfl⟩ := List.mem_map.1 hx
 split
 ·omega
 ·split <;> omega⟩
theorem Cs (h : cu g) {a b : Nat} (hab : qe g a b) : a < g.N.toNat ∧ b < g.N.toNat := by have := att_lt h hab; omega
theorem UB (h : cu g) {S : Nat → Prop} (hS : Yv g (· < g.N.toNat) S) (hd : ∀ j : Nat, j < g.N.toNat → (∀ b : Nat, qe g b j → ∃ c : Nat, S c ∧ qe g c b) → S j) : Dv g (F9 g S) := by
 obtain ⟨h1, h2, h3⟩ := hS
 refine ⟨MK, xC.2 fun i hi => aai h (fun e a ha => ?_) (fun e => ?_) fun e1 e2 => ?_⟩
 ·have ha' := (Cs h ha).1
  rw [oJ hi] at e
  have hSi : S i := Classical.byContradiction fun hn => by rw [if_neg hn] at e; split at e <;> cases e
  rw [oJ ha', if_neg fun hSa => h2 a i hSa hSi ha, if_pos (h3 i a hSi ha' ha)]
 ·rw [oJ hi] at e
  have hn : ¬ S i := fun hs => by rw [if_pos hs] at e; cases e
  rw [if_neg hn] at e
  have hc : ∃ c : Nat, S c ∧ qe g c i := Classical.byContradiction fun hn => by rw [if_neg hn] at e; cases e
  obtain ⟨c, hc1, hc2⟩ := hc
  exact ⟨c, hc2, by rw [oJ (h1 c hc1), if_pos hc1]⟩
 ·rw [oJ hi] at e1 e2
  have hn : ¬ S i := fun hs => e1 (by rw [if_pos hs])
  rw [if_neg hn] at e2
  have hno : ¬ ∃ c : Nat, S c ∧ qe g c i := fun hc => e2 (by rw [if_pos hc])
  refine ⟨fun a ha hh => ?_, ?_⟩
  ·rw [oJ (Cs h ha).1] at hh
   have hSa : S a := Classical.byContradiction fun hn => by rw [if_neg hn] at hh; split at hh <;> cases hh
   exact hno ⟨a, hSa, ha⟩
  ·refine Classical.byContradiction fun hall => hn (hd i hi fun b hb => ?_)
   have rQ : sf (F9 g S) b = 2 := Classical.byContradiction fun hne => hall ⟨b, hb, hne⟩
   rw [oJ (Cs h hb).1] at rQ
   have hnb : ¬ S b := fun hs => by rw [if_pos hs] at rQ; cases rQ
   rw [if_neg hnb] at rQ
   exact Classical.byContradiction fun hn => by rw [if_neg hn] at rQ; cases rQ
theorem adm_add {N : Nat} {S : Nat → Prop} (hS : Yv g (· < N) S) {j : Nat} (hj : j < N) (hlt : ∀ a b : Nat, qe g a b → a < N ∧ b < N) (hd : ∀ b : Nat, qe g b j → ∃ c : Nat, S c ∧ qe g c b) : Yv g (· < N) fun a => S a ∨ a = j := by
 obtain ⟨h1, h2, h3⟩ := hS
 have noSj : ∀ s, S s → ¬ qe g s j := fun s hs hsj => by
  obtain ⟨c, hc, hcs⟩ := hd s hsj
  exact h2 c s hc hs hcs
 have nojS : ∀ s, S s → ¬ qe g j s := fun s hs Ul => by
  obtain ⟨c, hc, hcj⟩ := h3 s j hs hj Ul
  exact noSj c hc hcj
 refine ⟨fun a ha => ha.elim (h1 a) fun e => e ▸ hj, fun a b ha hb hab => ?_, fun a b ha hb hab => ?_⟩
 ·rcases ha with ha | rfl <;> rcases hb with hb | rfl
  ·exact h2 a b ha hb hab
  ·exact noSj a ha hab
  ·exact nojS b hb hab
  ·obtain ⟨c, hc, hcj⟩ := hd _ hab
   exact noSj c hc hcj
 ·rcases ha with ha | rfl
  ·obtain ⟨c, hc, hcb⟩ := h3 a b ha hb hab; exact ⟨c, .inl hc, hcb⟩
  ·obtain ⟨c, hc, hcb⟩ := hd b hab; exact ⟨c, .inl hc, hcb⟩
open Classical in
noncomputable def cntP (N : Nat) (P : Nat → Prop) : Nat := (List.range N).countP fun a => decide (P a)
open Classical in
theorem Nw (h : cu g) : ∀ (m : Nat) (S : Nat → Prop), Yv g (· < g.N.toNat) S → g.N.toNat - cntP g.N.toNat S ≤ m →
  ∃ S', Yv g (· < g.N.toNat) S' ∧ (∀ a, S a → S' a) ∧ ∀ j : Nat, j < g.N.toNat → (∀ b : Nat, qe g b j → ∃ c : Nat, S' c ∧ qe g c b) → S' j
 | m, S, hS, hm => by
  by_cases hc : ∀ j : Nat, j < g.N.toNat → (∀ b : Nat, qe g b j → ∃ c : Nat, S c ∧ qe g c b) → S j
  ·exact ⟨S, hS, fun _ h => h, hc⟩
  ·obtain ⟨j, hc⟩ := Classical.not_forall.1 hc
   simp only [Classical.not_imp] at hc
   obtain ⟨hj, hd, hn⟩ := hc
   have hA := adm_add hS hj (fun a b => Cs h) hd
   have hcnt : cntP g.N.toNat S < cntP g.N.toNat fun a => S a ∨ a = j :=
    O4 (fun x _ hx => by simp only [decide_eq_true_eq] at hx ⊢; exact .inl hx) ⟨j, List.mem_range.2 hj, by simp, by simpa using hn⟩
   have hle : cntP g.N.toNat (fun a => S a ∨ a = j) ≤ g.N.toNat := Nat.le_trans List.countP_le_length (by simp)
   obtain ⟨m', rfl⟩ : ∃ m', m = m' + 1 := ⟨m - 1, by omega⟩
   obtain ⟨S', q1, q2, q3⟩ := Nw h m' (fun a => S a ∨ a = j) hA (by omega)
   exact ⟨S', q1, fun a ha => q2 a (.inl ha), q3⟩
 termination_by m => m
theorem adm_iff (h : cu g) {n : Nat} (hn : n < g.N.toNat) : (∃ S, Yv g (· < g.N.toNat) S ∧ S n) ↔ ∃ z, Dv g z ∧ sf z n = 1 := by
 constructor
 ·rintro ⟨S, hS, hSn⟩
  obtain ⟨S', q1, q2, q3⟩ := Nw h _ S hS (Nat.le_refl _)
  exact ⟨_, UB h q1 q3, by rw [oJ hn, if_pos (q2 n hSn)]⟩
 ·rintro ⟨z, hz, hzn⟩
  refine ⟨fun a => a < g.N.toNat ∧ sf z a = 1, ⟨fun a ha => ha.1, fun a b ha hb hab => ?_, fun a b ha hb hab => ?_⟩, hn, hzn⟩
  ·have := MI h (hz.at hb.1) hb.2 a hab; have := ha.2; omega
  ·obtain ⟨c, hc, hc1⟩ := OP h (hz.at hb) (MI h (hz.at ha.1) ha.2 b hab)
   exact ⟨c, ⟨(Cs h hc).1, hc1⟩, hc⟩
theorem ZO {z : List Int} : (z.any fun x => x == 3) = false ↔ ∀ j, j < z.length → sf z j ≠ 3 := by
 rw [List.any_eq_false]
 constructor
 ·intro h j hj e
  have e2 : sf z j = z[j] := by unfold sf; simp [List.getD, hj]
  exact h _ (List.getElem_mem hj) (by rw [← e2, e]; rfl)
 ·intro h x hx hh
  obtain ⟨j, hj, rfl⟩ := List.getElem_of_mem hx
  have e2 : sf z j = z[j] := by unfold sf; simp [List.getD, hj]
  exact h j hj (by rw [e2]; exact eq_of_beq hh)
def Yg (g : af) (z : List Int) : Prop := Dv g z ∧ ∀ j, j < g.N.toNat → sf z j ≠ 3
theorem HF (h : cu g) {S : Nat → Prop} (hS : Stb g (· < g.N.toNat) S) : Yg g (F9 g S) ∧ ∀ j, j < g.N.toNat → (sf (F9 g S) j = 1 ↔ S j) := by
 obtain ⟨h1, h2, h3⟩ := hS
 have hiff : ∀ j, j < g.N.toNat → (sf (F9 g S) j = 1 ↔ S j) := fun j hj => by
  rw [oJ hj]
  exact ⟨fun e => Classical.byContradiction fun hn => by (rw [if_neg hn] at e; split at e <;> cases e), fun hs => by rw [if_pos hs]⟩
 refine ⟨⟨UB h ⟨h1, h2, fun a b ha hb hab => h3 b hb fun hb' => h2 b a hb' ha hab⟩ fun j hj hd => Classical.byContradiction fun hn => ?_, fun j hj e => ?_⟩, hiff⟩
 ·obtain ⟨c, hc, hcj⟩ := h3 j hj hn
  obtain ⟨d, hd1, hd2⟩ := hd c hcj
  exact h2 d c hd1 hc hd2
 ·rw [oJ hj] at e
  have hn : ¬ S j := fun hs => by rw [if_pos hs] at e; cases e
  rw [if_neg hn, if_pos (h3 j hj hn)] at e; cases e
theorem VN (h : cu g) {z : List Int} (hz : Yg g z) : Stb g (· < g.N.toNat) fun a => a < g.N.toNat ∧ sf z a = 1 := by
 refine ⟨fun a ha => ha.1, fun a b ha hb hab => ?_, fun b hb hnb => ?_⟩
 ·have := MI h (hz.1.at hb.1) hb.2 a hab; have := ha.2; omega
 ·have e2 : sf z b = 2 := by
   rcases hz.1.1.at hb with e | e | e
   ·exact absurd ⟨hb, e⟩ hnb
   ·exact e
   ·exact absurd e (hz.2 b hb)
  obtain ⟨c, hc, hc1⟩ := OP h (hz.1.at hb) e2
  exact ⟨c, ⟨(Cs h hc).1, hc1⟩, hc⟩
theorem YQ (h : cu g) {n : Nat} (hn : n < g.N.toNat) : (∃ S, Stb g (· < g.N.toNat) S ∧ S n) ↔ ∃ z, Yg g z ∧ sf z n = 1 :=
 ⟨fun ⟨S, h1, h2⟩ => ⟨_, (HF h h1).1, ((HF h h1).2 n hn).2 h2⟩, fun ⟨z, h1, h2⟩ => ⟨_, VN h h1, hn, h2⟩⟩
theorem YR (h : cu g) {n : Nat} (hn : n < g.N.toNat) : (∀ S, Stb g (· < g.N.toNat) S → S n) ↔ ∀ z, Yg g z → sf z n = 1 :=
 ⟨fun h1 z hz => (h1 _ (VN h hz)).2, fun h1 S hS => ((HF h hS).2 n hn).1 (h1 _ (HF h hS).1)⟩
theorem dec_tru (h : cu g) {q : Int} (hq1 : 1 ≤ q) (hq3 : q ≤ 3) {n : Nat} (hn : n < g.N.toNat) {v : aZ} (hd : DecR g q n v) : v.Holds = true ↔ Ln g (· < g.N.toNat) q n := by
 have hl : ∀ {z : List Int}, Dv g z → ((z.any fun x => x == 3) = false ↔ ∀ j, j < g.N.toNat → sf z j ≠ 3) := fun {z} hz => by rw [ZO, hz.1.len]
 rcases (by omega : q = 1 ∨ q = 2 ∨ q = 3) with rfl | rfl | rfl
 ·have e : Ln g (· < g.N.toNat) 1 n ↔ ∃ z, Dv g z ∧ sf z n = 1 := by unfold Ln; rw [if_pos rfl]; exact adm_iff h hn
  rw [e]
  rcases hd with ⟨y, rfl, hy, hf⟩ | ⟨st, rfl, _, hs⟩
  ·unfold Fp at hf
   simp only [Bool.and_eq_true] at hf
   exact ⟨fun _ => ⟨y, ⟨hy, hf.1.1⟩, eq_of_beq (eq_of_beq hf.2)⟩, fun _ => rfl⟩
  ·refine ⟨(fun hh => by cases hh), fun ⟨z, hz, h1⟩ => ?_⟩
   have := P7 h hn hs hz.1
   unfold Fp at this
   rw [hz.2, h1] at this; cases this
 ·have e : Ln g (· < g.N.toNat) 2 n ↔ ∃ z, Yg g z ∧ sf z n = 1 := by unfold Ln; rw [if_neg (by omega), if_pos rfl]; exact YQ h hn
  rw [e]
  rcases hd with ⟨y, rfl, hy, hf⟩ | ⟨st, rfl, _, hs⟩
  ·unfold Fp at hf
   simp only [Bool.and_eq_true] at hf
   have hc : Dv g y := ⟨hy, hf.1.1⟩
   exact ⟨fun _ => ⟨y, ⟨hc, (hl hc).1 (by simpa using hf.1.2)⟩, eq_of_beq (eq_of_beq hf.2)⟩, fun _ => rfl⟩
  ·refine ⟨(fun hh => by cases hh), fun ⟨z, hz, h1⟩ => ?_⟩
   have := P7 h hn hs hz.1.1
   unfold Fp at this
   rw [hz.1.2, h1, (hl hz.1).2 hz.2] at this; cases this
 ·have e : Ln g (· < g.N.toNat) 3 n ↔ ∀ z, Yg g z → sf z n = 1 := by unfold Ln; rw [if_neg (by omega), if_neg (by omega), if_pos rfl]; exact YR h hn
  rw [e]
  rcases hd with ⟨y, rfl, hy, hf⟩ | ⟨st, rfl, _, hs⟩
  ·unfold Fp at hf
   simp only [Bool.and_eq_true] at hf
   have hc : Dv g y := ⟨hy, hf.1.1⟩
   refine ⟨(fun hh => by cases hh), fun hall => ?_⟩
   have h2 := hall y ⟨hc, (hl hc).1 (by simpa using hf.1.2)⟩
   have h3 := eq_of_beq hf.2
   rw [h2] at h3; cases h3
  ·refine ⟨fun _ z hz => Classical.byContradiction fun hne => ?_, fun _ => rfl⟩
   have := P7 h hn hs hz.1.1
   unfold Fp at this
   rw [hz.1.2, (hl hz.1).2 hz.2, beq_false_of_ne hne] at this; cases this
end Go.Dc
namespace Go.Dc
open Go.Proofs Go.Sort
variable {g : af}
structure Yb (g : af) (A : Nat → Prop) (N : Nat) (n : Nt) : Prop where
 ok : NC N n
 all : ∀ i, n.all.testBit i = true ↔ A i
 at_ : ∀ i j, n.a i j ↔ qe g i j ∧ A i ∧ A j
section
variable {A : Nat → Prop} {N : Nat} {n : Nt} (h : Yb g A N n)
include h
theorem Yb.adm {s : Nat} (hs : Lp s n.all) : AdmP n s ↔ Yv g A fun i => s.testBit i = true := by
 have hA : ∀ i, s.testBit i = true → A i := fun i hi => (h.all i).1 (hs i hi)
 constructor
 ·rintro ⟨h1, h2⟩
  refine ⟨hA, fun a b ha hb hab => h1 a b ha hb ((h.at_ a b).2 ⟨hab, hA a ha, hA b hb⟩), fun a b ha hb hab => ?_⟩
  obtain ⟨k, hk, hkb⟩ := h2 b a ha ((h.at_ b a).2 ⟨hab, hb, hA a ha⟩)
  exact ⟨k, hk, ((h.at_ k b).1 hkb).1⟩
 ·rintro ⟨_, h1, h2⟩
  refine ⟨fun i j hi hj hij => h1 i j hi hj ((h.at_ i j).1 hij).1, fun i j hj hij => ?_⟩
  obtain ⟨q1, q2, q3⟩ := (h.at_ i j).1 hij
  obtain ⟨c, hc, hcb⟩ := h2 j i hj q2 q1
  exact ⟨c, hc, (h.at_ c i).2 ⟨hcb, hA c hc, q2⟩⟩
theorem Yb.stb {s : Nat} (hs : Lp s n.all) : StbP n s ↔ Stb g A fun i => s.testBit i = true := by
 have hA : ∀ i, s.testBit i = true → A i := fun i hi => (h.all i).1 (hs i hi)
 constructor
 ·rintro ⟨h1, h2⟩
  refine ⟨hA, fun a b ha hb hab => h1 a b ha hb ((h.at_ a b).2 ⟨hab, hA a ha, hA b hb⟩), fun b hb hnb => ?_⟩
  obtain ⟨k, hk, hkb⟩ := h2 b ((h.all b).2 hb) (by simpa using hnb)
  exact ⟨k, hk, ((h.at_ k b).1 hkb).1⟩
 ·rintro ⟨_, h1, h2⟩
  refine ⟨fun i j hi hj hij => h1 i j hi hj ((h.at_ i j).1 hij).1, fun i hi hni => ?_⟩
  obtain ⟨c, hc, hcb⟩ := h2 i ((h.all i).1 hi) (by simp [hni])
  exact ⟨c, hc, (h.at_ c i).2 ⟨hcb, hA c hc, (h.all i).1 hi⟩⟩
end
theorem Wx (h : cu g) (hg : g.L.length ≤ 100000) : T (dX g) fun t => ∃ n : Nt, t = n.t ∧ Yb g (· < g.N.toNat) g.N.toNat n := by
 obtain ⟨GN, L⟩ := g
 obtain ⟨N, rfl⟩ := Int.eq_ofNat_of_zero_le (show 0 ≤ GN from h.n0)
 have hv : ∀ p ∈ L, 0 ≤ p.bw ∧ p.bw < N ∧ 0 ≤ p.To ∧ p.To < N := h.v
 show T (dX ⟨(N : Int), L⟩) fun t => ∃ n : Nt, t = n.t ∧ Yb ⟨(N : Int), L⟩ (· < N) N n
 refine (UZ (N := N) (l := L) (by have : (N : Int) ≤ 40 := h.n1; omega) hv (by simp only at hg; omega)).mono ?_
 rintro _ ⟨n, rfl, h1, h2, h3⟩
 refine ⟨n, rfl, h1, h2, fun i j => ?_⟩
 rw [h3]
 constructor
 ·rintro ⟨p, hp, q1, q2⟩
  have := hv p hp
  exact ⟨⟨p, hp, q1, q2⟩, by omega, by omega⟩
 ·rintro ⟨⟨p, hp, q1, q2⟩, _⟩; exact ⟨p, hp, q1, q2⟩
theorem ZM {L : List (List Int)} {n : Int} (hn : n ≤ 12) : QZ L n ≤ 12 := by
 unfold QZ
 rw [← List.countP_eq_length_filter]
 refine Nat.le_trans (List.countP_mono_left (q := fun v : Nat => decide (v ≤ 12)) fun v _ hv => ?_) (by decide +kernel)
 simp only [Bool.and_eq_true, decide_eq_true_eq] at hv ⊢
 omega
end Go.Dc
namespace Go.Dc
open Go.Proofs Go.Sort
variable {g : af}
theorem UT (h : cu g) (hg : g.L.length ≤ 100000) {q : Int} (hq1 : 1 ≤ q) (Yq : q ≤ 2) {n : Nat} (hn : n < g.N.toNat) {y : List Int} (hl : y.length ≤ 1000000) (hy : NF g.N.toNat y ∧ Fp g q n y = true) :
  mY g q (n : Int) ⟨q != 3, y, [], []⟩ = some 0 := by
 have hn0 := h.n0; have hn1 := h.n1
 refine T.eq ?_
 unfold mY
 refine T.bind (EE hg) fun r hr => ?_
 rcases hr with ⟨rfl, _, _, _⟩ | ⟨_, hb⟩
 case inr => exact absurd ⟨h, by omega, by omega⟩ hb
 rw [show ((0 : Int) != 0) = false from rfl, cond_false, show (q == 4) = false by simp; omega, cond_false]
 have key : T (bif (q != 3) == ((q : Int) != 3) then (mq g q (n : Int) ⟨q != 3, y, [], []⟩).bind fun t6 => some t6 else (sk g q (n : Int) ⟨q != 3, y, [], []⟩).bind fun t7 => some t7) fun r => r = 0 := by
  rw [beq_self_eq_true, cond_true]
  refine T.bind (P := fun r => r = 0) ?_ fun r hr => .ret hr
  unfold mq
  refine T.join ?_
  show T ((mX g q (n : Int) y).bind fun t3 => bif !t3 then some (11 : Int) else some 0) _
  refine T.bind (Rj h hg hl hn) fun b hb => ?_
  rw [hb.2 hy]
  exact .ret rfl
 simp only [qp]
 by_cases h1 : q = 1
 ·subst h1; exact key
 ·have h2 : q = 2 := by omega
  subst h2; exact key
theorem U0 (h : cu g) (hg : g.L.length ≤ 100000) (h6 : g.N ≤ 6) {q : Int} (hq1 : 1 ≤ q) (Yq : q ≤ 2) {n : Nat} (hn : n < g.N.toNat) (hT : Ln g (· < g.N.toNat) q n) :
  T (lH g q (n : Int)) fun r => r.2 = 0 ∧ r.1.Holds = true ∧ mY g q (n : Int) r.1 = some 0 := by
 refine (QU h hg hq1 (by omega) hn).mono fun r hr => ?_
 rcases hr with ⟨h0, hd⟩ | ⟨_, hb⟩
 case inr => have := ZM (L := Ew g q (n : Int)) (n := 2 * g.N) (by omega); omega
 have hh := (dec_tru h hq1 (by omega) hn hd).2 hT
 refine ⟨h0, hh, ?_⟩
 rcases hd with ⟨y, e, hy⟩ | ⟨st, e, _⟩
 ·rw [e]; exact UT h hg hq1 Yq hn (by have := hy.1.len; have := h.n1; omega) hy
 ·rw [e] at hh
  have : q = 3 := eq_of_beq hh
  omega
end Go.Dc
namespace Go.Dc
open Go.Proofs Go.Sort
variable {g : af} {S : List Nat} {kind : Int}
structure gu (g : af) (S : List Nat) : Prop where
 asc : S.Pairwise (· < ·)
 lt : ∀ i ∈ S, i < g.N.toNat
theorem gu.GL (h : cu g) (hS : gu g S) : ∀ i ∈ S, i < 64 := fun i hi => by have := hS.lt i hi; have := h.n1; omega
theorem QF : ∀ {S : List Nat} {a n : Nat}, S.Pairwise (· < ·) → (∀ i ∈ S, a ≤ i ∧ i < n) → S.length + a ≤ max n a
 | [], a, n, _, _ => by simp; omega
 | x :: S, a, n, h, hl => by
  obtain ⟨h1, h2⟩ := List.pairwise_cons.1 h
  have hx := hl x (by simp)
  have := QF (a := x + 1) (n := n) h2 fun i hi => ⟨h1 i hi, (hl i (by simp [hi])).2⟩
  simp only [List.length_cons]; omega
theorem gu.len (h : cu g) (hS : gu g S) : S.length ≤ 40 := by
 have := QF (a := 0) (n := g.N.toNat) hS.asc fun i hi => ⟨Nat.zero_le _, hS.lt i hi⟩
 have := h.n1; omega
def inner (g : af) (S : List Nat) : List Pr := g.L.filter fun p => decide (p.bw.toNat ∈ S) && decide (p.To.toNat ∈ S)
def QM (g : af) (S : List Nat) (kind : Int) (a : Nat) : Prop := a ∉ S ∧ (¬ ∃ i ∈ S, qe g i a) ∧ (kind = 1 → ∃ i ∈ S, qe g a i)
structure Ls (g : af) (S : List Nat) (kind : Int) (a : Nat) (l : List Pr) : Prop where
 len : l.length ≤ 200
 nd : a ∉ S → l.Nodup
 mem : ∀ p : Pr, p ∈ l ↔ (p.To = (a : Int) ∧ ∃ i ∈ S, p.bw = (i : Int)) ∨ (kind = 1 ∧ p.bw = (a : Int) ∧ ∃ i ∈ S, p.To = (i : Int) ∧ qe g a i)
open Classical in
noncomputable def eu (g : af) (S : List Nat) (kind : Int) (n : Nat) : List Nat := (List.range n).filter fun a => decide (QM g S kind a)
theorem ku {n a : Nat} : a ∈ eu g S kind n ↔ a < n ∧ QM g S kind a := by unfold eu; simp
theorem B3 {k : Nat} : eu g S kind (k + 1) = eu g S kind k ++ if decide (QM g S kind k) (h := Classical.propDecidable _) then [k] else [] := by
 unfold eu
 rw [List.range_succ, List.filter_append]
 congr 1
 rw [List.filter_cons]; rfl
theorem XI (h : cu g) (hS : gu g S) {x : Int} (h0 : 0 ≤ x) (h1 : x < 64) : bD ((l8 S : Nat) : Int) x = some (decide (x.toNat ∈ S)) := by
 obtain ⟨n, rfl⟩ := Int.eq_ofNat_of_zero_le h0
 rw [Pj (Nat.lt_of_lt_of_le (L6 (gu.GL h hS)) (Nat.le_refl _)) (by omega)]
 congr 1
 rw [Bool.eq_iff_iff, ny, decide_eq_true_iff]; rfl
theorem dut_l1 (h : cu g) (hg : g.L.length ≤ 100000) (hS : gu g S) {A : Int} {B C : List Int} :
  aI (kR g (((l8 S : Nat) : Int), A, B, C)) (0, []) = some ((inner g S).map fun p => [p]) := by
 refine T.eq ?_
 refine T.cS g.L.length (fun k s => s = ((k : Int), ((g.L.take k).filter fun p => decide (p.bw.toNat ∈ S) && decide (p.To.toNat ∈ S)).map fun p => [p]) ∧ k ≤ g.L.length) ⟨rfl, by omega⟩ ?_
 rintro k _ ⟨rfl, hk⟩
 unfold kR
 dsimp only
 refine T.cond (fun gd => ?_) fun gd => ?_
 ·have hk2 : k < g.L.length := by have := of_decide_eq_true gd; omega
  have hv := h.v _ (List.getElem_mem hk2)
  have Te := h.n1
  rw [a_ hk2, aj, cN (by omega)]
  have hlen : (((g.L.take k).filter fun p => decide (p.bw.toNat ∈ S) && decide (p.To.toNat ∈ S)).map fun p : Pr => [p]).length ≤ 100000 := by
   rw [List.length_map]; exact Nat.le_trans (List.length_filter_le _ _) (by simp; omega)
  have ht : g.L.take (k + 1) = g.L.take k ++ [g.L[k]] := by rw [List.take_add_one, List.getElem?_eq_getElem hk2]; rfl
  refine T.AV (fun j => j = (decide (g.L[k].bw.toNat ∈ S) && decide (g.L[k].To.toNat ∈ S))) (fun j hj => ?_) fun kk hkk => ?_
  ·subst hj
   rw [ht, List.filter_append, List.map_append]
   refine T.cond (fun e => ?_) fun e => ?_
   ·rw [cL (by simp at hlen ⊢; omega), aj]
    exact .ret ⟨hk2, by rw [List.filter_cons, if_pos e]; rfl, hk2⟩
   ·exact .ret ⟨hk2, by rw [List.filter_cons, if_neg (by rw [e]; decide)]; simp, hk2⟩
  ·rw [XI h hS hv.1 (by omega), aj]
   refine T.cond (fun e => ?_) fun e => hkk _ (by rw [e]; rfl)
   rw [XI h hS hv.2.2.1 (by omega), aj]
   exact hkk _ (by rw [e]; rfl)
 ·have hk2 : k = g.L.length := by have := of_decide_eq_false gd; omega
  subst hk2
  exact .ret (by rw [List.take_length]; rfl)
theorem Oy {α : Type} {l : List α} {e : α → Pr} {acc : List Pr} {f : Int × List Pr → Option (Sum (List Pr) (Int × List Pr))}
  (h : ∀ k (hk : k < l.length) (r : List Pr), r.length ≤ 1000 → f ((k : Int), r) = some (.inr (((k + 1 : Nat) : Int), r ++ [e l[k]]))) (hend : ∀ r, f ((l.length : Int), r) = some (.inl r)) (hl : l.length + acc.length ≤ 1000) :
  aI f (0, acc) = some (acc ++ l.map e) := by
 refine T.eq ?_
 refine T.cS l.length (fun k s => s = ((k : Int), acc ++ (l.take k).map e) ∧ k ≤ l.length) ⟨by simp, by omega⟩ ?_
 rintro k _ ⟨rfl, hk⟩
 by_cases hk2 : k < l.length
 ·rw [h k hk2 _ (by simp; omega)]
  refine .ret ⟨hk2, ?_, hk2⟩
  rw [List.take_add_one, List.getElem?_eq_getElem hk2, List.map_append, List.append_assoc]; rfl
 ·have : k = l.length := by omega
  subst this
  rw [hend, List.take_length]
  exact .ret rfl
end Go.Dc
namespace Go.Dc
open Go.Proofs Go.Sort
variable {g : af} {S : List Nat} {kind : Int}
def QL (g : af) (S : List Nat) (kind : Int) (D : List (List Pr)) : Prop :=
 ∃ f : Nat → List Pr, D = ((inner g S).map fun p => [p]) ++ (eu g S kind g.N.toNat).map f ∧ ∀ a ∈ eu g S kind g.N.toNat, Ls g S kind a (f a)
def PN (S : List Nat) (kind : Int) (a : Nat) (o : Nat) : List Pr := (S.map fun i : Nat => (⟨(i : Int), (a : Int)⟩ : Pr)) ++ if kind = 1 then (fD (o &&& l8 S)).map fun j : Nat => (⟨(a : Int), (j : Int)⟩ : Pr) else []
theorem raw_dut (h : cu g) (hS : gu g S) {n : Nt} (hn : Yb g (· < g.N.toNat) g.N.toNat n) {a : Nat} (ha : a < g.N.toNat) {r : List Pr} (hp : r.Perm (PN S kind a (n.out.getD a 0))) : Ls g S kind a r := by
 have hl := gu.len h hS
 have hs64 := L6 (gu.GL h hS)
 have hbit : ∀ j, j ∈ fD (n.out.getD a 0 &&& l8 S) ↔ j ∈ S ∧ qe g a j := fun j => by
  rw [o8 (Nat.lt_of_le_of_lt Nat.and_le_right hs64), Nat.testBit_and, Bool.and_eq_true, ny]
  constructor
  ·rintro ⟨q1, q2⟩; exact ⟨q2, ((hn.at_ a j).1 q1).1⟩
  ·rintro ⟨q1, q2⟩; exact ⟨(hn.at_ a j).2 ⟨q2, ha, hS.lt j q1⟩, q1⟩
 refine ⟨?_, fun hna => ?_, fun p => ?_⟩
 rotate_left
 ·rw [hp.nodup_iff]
  unfold PN
  rw [List.nodup_append]
  refine ⟨?_, ?_, ?_⟩
  ·refine List.Pairwise.map _ ?_ hS.asc
   intro x y hxy e
   have e2 : (x : Int) = y := congrArg ah.bw e
   omega
  ·split
   ·refine List.Pairwise.map (S := (· ≠ ·)) _ ?_ (List.Pairwise.filter _ List.nodup_range)
    intro x y hxy e
    have e2 : (x : Int) = y := congrArg ah.To e
    exact hxy (by omega)
   ·exact List.nodup_nil
  ·rintro p h1 q h2 rfl
   obtain ⟨i, hi, rfl⟩ := List.mem_map.1 h1
   split at h2
   ·obtain ⟨j, hj, e⟩ := List.mem_map.1 h2
    have e2 : (a : Int) = i := congrArg ah.bw e
    have : a = i := by omega
    exact hna (this ▸ hi)
   ·cases h2
 rotate_left
 ·rw [hp.length_eq]
  unfold PN
  rw [List.length_append, List.length_map]
  split
  ·rw [List.length_map]
   have := uO (s := n.out.getD a 0 &&& l8 S)
   omega
  ·simp; omega
 ·rw [hp.mem_iff]
  unfold PN
  rw [List.mem_append, List.mem_map]
  refine or_congr ?_ ?_
  ·constructor
   ·rintro ⟨i, hi, rfl⟩; exact ⟨rfl, i, hi, rfl⟩
   ·rintro ⟨h1, i, hi, h2⟩; exact ⟨i, hi, by cases p; simp_all⟩
  ·by_cases hk : kind = 1
   ·rw [if_pos hk, List.mem_map]
    constructor
    ·rintro ⟨j, hj, rfl⟩
     obtain ⟨q1, q2⟩ := (hbit j).1 hj
     exact ⟨hk, rfl, j, q1, rfl, q2⟩
    ·rintro ⟨_, h1, j, hj, h2, h3⟩
     exact ⟨j, (hbit j).2 ⟨hj, h3⟩, by cases p; simp_all⟩
   ·rw [if_neg hk]
    simp [hk]
theorem zero_and {S : List Nat} (hn : ∀ j ∈ S, j < 64) {o : Nat} : (((o &&& l8 S : Nat) : Int) == 0) = !(S.any fun j => o.testBit j) := by
 rw [Bool.eq_iff_iff, beq_iff_eq, Bool.not_eq_true', List.any_eq_false]
 constructor
 ·intro h j hj hb
  have h0 : o &&& l8 S = 0 := by omega
  have := congrArg (fun x : Nat => x.testBit j) h0
  simp only [Nat.testBit_and, hb, ny.2 hj, Nat.zero_testBit] at this
  cases this
 ·intro h
  have : o &&& l8 S = 0 := Nat.eq_of_testBit_eq fun i => by
   rw [Nat.zero_testBit, Nat.testBit_and]
   cases h1 : (l8 S).testBit i
   ·rw [Bool.and_false]
   ·have := h i (ny.1 h1)
    rw [Bool.and_true]; simpa using this
  omega
theorem sortE {l : List Pr} (hl : l.length ≤ 100000) : ∃ r, gX bN l = some r ∧ r.Perm l ∧ r.Pairwise fun x y => zi x y ∨ x = y := by rw [KK]; exact L4 hl
theorem Sw (h : cu g) (hg : g.L.length ≤ 100000) (hS : gu g S) (xk : kind = 1 ∨ kind = 2) : T (cW g (il S) kind) (QL g S kind) := by
 have hl := gu.len h hS
 have Te := h.n1
 have h00 := h.n0
 have hs64 : l8 S < 2 ^ 64 := L6 (gu.GL h hS)
 unfold cW
 simp only [qp, uC]
 rw [NB (gu.GL h hS) (by omega), aj]
 refine T.bind (Wx h hg) fun t ht => ?_
 obtain ⟨n, rfl, hn⟩ := ht
 have hsub : Lp (l8 S) n.all := fun i hi => (hn.all i).2 (hS.lt i (ny.1 hi))
 rw [dut_l1 h hg hS, aj]
 have hnt : av.mk n.t.All n.t.By n.t.Out = n.t := rfl
 rw [hnt, E_ hn.ok hsub, aj]
 have hhit : ∀ a : Nat, (hit n (l8 S)).testBit a = true ↔ ∃ i ∈ S, qe g i a := fun a => by
  rw [zy hn.ok hsub]
  constructor
  ·rintro ⟨i, h1, h2⟩; exact ⟨i, ny.1 h1, ((hn.at_ i a).1 h2).1⟩
  ·rintro ⟨i, h1, h2⟩; exact ⟨i, ny.2 h1, (hn.at_ i a).2 ⟨h2, hS.lt i h1, (Cs h h2).2⟩⟩
 have hhlt : hit n (l8 S) < 2 ^ 64 := hn.ok.sub (VW hn.ok hsub)
 refine T.bind (P := QL g S kind) ?_ fun q hq => .ret hq
 refine T.cS g.N.toNat (fun k s => ∃ f : Nat → List Pr, s = ((k : Int), ((inner g S).map fun p => [p]) ++ (eu g S kind k).map f) ∧ k ≤ g.N.toNat ∧ ∀ a ∈ eu g S kind k, Ls g S kind a (f a)) ⟨fun _ => [], by simp [eu], by omega, by simp [eu]⟩ ?_
 rintro k _ ⟨f, rfl, hk, hf⟩
 unfold nW
 dsimp only
 refine T.cond (fun gd => ?_) fun gd => ?_
 ·have hk2 : k < g.N.toNat := by have := of_decide_eq_true gd; omega
  have hno : ¬ QM g S kind k → (((k + 1 : Nat) : Int), ((inner g S).map fun p => [p]) ++ (eu g S kind k).map f) = (((k + 1 : Nat) : Int), ((inner g S).map fun p => [p]) ++ (eu g S kind (k + 1)).map f) := fun q => by
   rw [B3]; simp [q]
  have hno2 : ¬ QM g S kind k → ∀ a ∈ eu g S kind (k + 1), Ls g S kind a (f a) := fun q a ha => by
   rw [B3] at ha
   simp [q] at ha
   exact hf a ha
  have hins : (inner g S).length ≤ 100000 := Nat.le_trans (List.length_filter_le _ _) hg
  have hne : (eu g S kind k).length ≤ 40 := by
   unfold eu
   exact Nat.le_trans (List.length_filter_le _ _) (by simp; omega)
  have hout : aL n.t.Out (k : Int) = some ((n.out.getD k 0 : Nat) : Int) := s6 (by rw [hn.ok.lo]; exact hk2)
  have holt : n.out.getD k 0 < 2 ^ 64 := hn.ok.ZG k
  rw [cN (by omega)]
  have Wo : (S.any fun j => (n.out.getD k 0).testBit j) = true ↔ ∃ i ∈ S, qe g k i := by
   rw [List.any_eq_true]
   constructor
   ·rintro ⟨i, h1, h2⟩; exact ⟨i, h1, ((hn.at_ k i).1 h2).1⟩
   ·rintro ⟨i, h1, h2⟩; exact ⟨i, h1, (hn.at_ k i).2 ⟨h2, hk2, hS.lt i h1⟩⟩
  refine T.AV (fun _ => QM g S kind k) (fun j hN => ?_) fun kk hkk => ?_
  ·have hS2 : aI (fL (il S) ((k : Int), ((inner g S).map fun p => [p]) ++ (eu g S kind k).map f)) (0, []) = some (S.map fun i : Nat => (⟨(i : Int), (k : Int)⟩ : Pr)) := by
    have := Oy (l := S) (acc := []) (e := fun i : Nat => (⟨(i : Int), (k : Int)⟩ : Pr)) (f := fL (il S) ((k : Int), ((inner g S).map fun p => [p]) ++ (eu g S kind k).map f)) (fun m hm r hr => by
     unfold fL
     dsimp only
     rw [decide_eq_true (by rw [zW]; omega), cond_true, s6 hm, aj, cL (by simp; omega), aj, cN (by omega)]
     simp [List.getD, hm]) (fun r => by
     unfold fL
     rw [decide_eq_false (by dsimp only; rw [zW]; omega), cond_false]) (by simp; omega)
    simpa using this
   rw [hS2, aj]
   have done : ∀ l : List Pr, l.length ≤ 1000 → l.Perm (PN S kind k (n.out.getD k 0)) → T ((gX bN l).bind fun t207 => (dh 24 (((inner g S).map fun p => [p]) ++ (eu g S kind k).map f) [t207]).bind fun Mr => some (Sum.inr (((k + 1 : Nat) : Int), Mr)))
     (onO (QL g S kind) fun s' => k < g.N.toNat ∧ ∃ f : Nat → List Pr, s' = (((k + 1 : Nat) : Int), ((inner g S).map fun p => [p]) ++ (eu g S kind (k + 1)).map f) ∧ k + 1 ≤ g.N.toNat ∧ ∀ a ∈ eu g S kind (k + 1), Ls g S kind a (f a)) := fun l hll hpl => by
    obtain ⟨r, r1, r2, r3⟩ := sortE (l := l) (by omega)
    rw [r1, aj, cL (by simp; omega), aj]
    have Uk : k ∉ eu g S kind k := fun q => by have := (ku.1 q).1; omega
    have hfk : ∀ a ∈ eu g S kind k, (if a = k then r else f a) = f a := fun a ha => if_neg fun e : a = k => Uk (e ▸ ha)
    refine .ret ⟨hk2, fun a => if a = k then r else f a, ?_, hk2, fun a ha => ?_⟩
    ·rw [B3, List.map_append, List.map_congr_left hfk]
     simp [hN]
    ·rw [B3, List.mem_append] at ha
     rcases ha with ha | ha
     ·dsimp only; rw [hfk a ha]; exact hf a ha
     ·have : a = k := by simp [hN] at ha; exact ha
      subst this
      dsimp only
      rw [if_pos rfl]
      exact raw_dut h hS hn hk2 (r2.trans hpl)
   rcases xk with e1 | e2
   ·subst e1
    rw [show ((1 : Int) == 1) = true from rfl, cond_true, hout, aj, MU holt hs64, Hq (and_lt holt), aj]
    have hS3 : aI (fK ((k : Int), ((inner g S).map fun p => [p]) ++ (eu g S 1 k).map f) (il (fD (n.out.getD k 0 &&& l8 S)))) (0, S.map fun i : Nat => (⟨(i : Int), (k : Int)⟩ : Pr)) = some (PN S 1 k (n.out.getD k 0)) := by
     have hb := uO (s := n.out.getD k 0 &&& l8 S)
     have := Oy (l := fD (n.out.getD k 0 &&& l8 S)) (acc := S.map fun i : Nat => (⟨(i : Int), (k : Int)⟩ : Pr)) (e := fun i : Nat => (⟨(k : Int), (i : Int)⟩ : Pr)) (f := fK ((k : Int), ((inner g S).map fun p => [p]) ++ (eu g S 1 k).map f) (il (fD (n.out.getD k 0 &&& l8 S)))) (fun m hm r hr => by
      unfold fK
      dsimp only
      rw [decide_eq_true (by rw [zW]; omega), cond_true, s6 hm, aj, cL (by simp; omega), aj, cN (by omega)]
      have hg0 : (fD (n.out.getD k 0 &&& l8 S)).getD m 0 = (fD (n.out.getD k 0 &&& l8 S))[m] := by rw [List.getD_eq_getElem?_getD, List.getElem?_eq_getElem hm]; rfl
      rw [hg0]) (fun r => by
      unfold fK
      rw [decide_eq_false (by dsimp only; rw [zW]; omega), cond_false]) (by rw [List.length_map]; omega)
     rw [this]; unfold PN; rw [if_pos rfl]
    rw [hS3, aj]
    refine done _ ?_ (List.Perm.refl _)
    have hb := uO (s := n.out.getD k 0 &&& l8 S)
    unfold PN
    rw [if_pos rfl, List.length_append, List.length_map, List.length_map]; omega
   ·subst e2
    rw [show ((2 : Int) == 1) = false from rfl, cond_false]
    refine done _ (by simp; omega) ?_
    unfold PN
    rw [if_neg (by decide), List.append_nil]
  ·rw [XI h hS (by omega) (by omega), aj, show Int.toNat (k : Int) = k from rfl]
   refine T.cond (fun e => ?_) fun e => ?_
   ·have VT : ¬ QM g S kind k := fun q => q.1 (of_decide_eq_true e)
    exact .ret ⟨hk2, f, hno VT, hk2, hno2 VT⟩
   have e := of_decide_eq_false e
   rw [Pj hhlt (by omega), aj]
   refine T.cond (fun e3 => ?_) fun e3 => ?_
   ·have VT : ¬ QM g S kind k := fun q => q.2.1 ((hhit k).1 e3)
    exact .ret ⟨hk2, f, hno VT, hk2, hno2 VT⟩
   have e3 : ¬ ∃ i ∈ S, qe g i k := fun q => by rw [(hhit k).2 q] at e3; cases e3
   rcases xk with e1 | e2
   ·subst e1
    rw [show ((1 : Int) == 1) = true from rfl, cond_true, hout, aj, MU holt hs64, zero_and (gu.GL h hS)]
    refine T.cond (fun e4 => ?_) fun e4 => ?_
    ·have VT : ¬ QM g S 1 k := fun q => by
      have := Wo.2 (q.2.2 rfl)
      rw [this] at e4; cases e4
     exact .ret ⟨hk2, f, hno VT, hk2, hno2 VT⟩
    ·exact hkk _ ⟨e, e3, fun _ => Wo.1 (by simpa using e4)⟩
   ·subst e2
    rw [show ((2 : Int) == 1) = false from rfl, cond_false]
    exact hkk _ ⟨e, e3, fun q => by cases q⟩
 ·have hk2 : k = g.N.toNat := by have := of_decide_eq_false gd; omega
  subst hk2
  exact .ret ⟨f, rfl, hf⟩
end Go.Dc
namespace Go.Dc
open Go.Proofs Go.Sort
variable {g : af} {S : List Nat} {kind : Int}
def UI (S : List Nat) (p : Pr) : Pr := if p.bw.toNat ∈ S ∧ p.To.toNat ∈ S then p else if p.To.toNat ∈ S then ⟨((S.headD 0 : Nat) : Int), p.bw⟩ else ⟨((S.headD 0 : Nat) : Int), p.To⟩
def StrP (g : af) (S : List Nat) (kind : Int) (e : aJ) : Prop :=
 e.Set = il S ∧ QL g S kind e.aS ∧ e.jt = inner g S ++ (eu g S kind g.N.toNat).map fun a : Nat => (⟨((S.headD 0 : Nat) : Int), (a : Int)⟩ : Pr)
theorem SK {l : List Int} (h : l.length ≤ 100000) : cI l = some l := by
 unfold cI; rw [cL (by simp; omega)]; rfl
theorem JD {n : Nat} : (eu g S kind n).length ≤ n := by
 unfold eu
 exact Nat.le_trans (List.length_filter_le _ _) (by simp)
theorem dut_ne (hne : S ≠ []) {a : Nat} {l : List Pr} (h : Ls g S kind a l) : l ≠ [] := by
 obtain ⟨x, hx⟩ := List.exists_mem_of_ne_nil S hne
 exact List.ne_nil_of_mem ((h.mem ⟨(x : Int), (a : Int)⟩).2 (.inl ⟨rfl, x, hx, rfl⟩))
theorem JT (h : cu g) {p : Pr} (hp : p ∈ inner g S) : 0 ≤ p.bw ∧ p.bw < 64 ∧ 0 ≤ p.To ∧ p.To < 64 ∧ p.bw.toNat ∈ S ∧ p.To.toNat ∈ S := by
 obtain ⟨h1, h2⟩ := List.mem_filter.1 hp
 have hv := h.v p h1
 have := h.n1
 simp only [Bool.and_eq_true, decide_eq_true_eq] at h2
 exact ⟨hv.1, by omega, hv.2.2.1, by omega, h2.1, h2.2⟩
theorem dut_val (h : cu g) (hS : gu g S) {a : Nat} (ha : a < g.N.toNat) {l : List Pr} (hd : Ls g S kind a l) {p : Pr} (hp : p ∈ l) : 0 ≤ p.bw ∧ p.bw < 64 ∧ 0 ≤ p.To ∧ p.To < 64 := by
 have := h.n1
 rcases (hd.mem p).1 hp with ⟨e, i, hi, e2⟩ | ⟨_, e, i, hi, e2, _⟩
 ·have := hS.lt i hi; omega
 ·have := hS.lt i hi; omega
theorem XX {p : Pr} (hp : p ∈ inner g S) : UI S p = p := by
 obtain ⟨_, h2⟩ := List.mem_filter.1 hp
 simp only [Bool.and_eq_true, decide_eq_true_eq] at h2
 unfold UI; rw [if_pos h2]
theorem chg_need {a : Nat} (ha : a ∉ S) {l : List Pr} (hd : Ls g S kind a l) {p : Pr} (hp : p ∈ l) : UI S p = ⟨((S.headD 0 : Nat) : Int), (a : Int)⟩ := by
 unfold UI
 rcases (hd.mem p).1 hp with ⟨e, i, hi, e2⟩ | ⟨_, e, i, hi, e2, _⟩
 ·have e3 : p.To.toNat = a := by omega
  rw [if_neg (fun q => ha (e3 ▸ q.2)), if_neg (fun q => ha (e3 ▸ q)), e]
 ·have e3 : p.bw.toNat = a := by omega
  have e4 : p.To.toNat = i := by omega
  rw [if_neg (fun q => ha (e3 ▸ q.1)), if_pos (e4 ▸ hi), e]
theorem YM (h : cu g) (hg : g.L.length ≤ 100000) (hS : gu g S) (xk : kind = 1 ∨ kind = 2) (hh : S ≠ [] ∨ eu g S kind g.N.toNat = []) : T (fN g (il S) kind) (StrP g S kind) := by
 have hl := gu.len h hS
 have hins : (inner g S).length ≤ 100000 := Nat.le_trans (List.length_filter_le _ _) hg
 have hnl := JD (g := g) (S := S) (kind := kind) (n := g.N.toNat)
 have Te := h.n1
 unfold fN
 simp only [qp, uC]
 rw [NB (gu.GL h hS) (by omega), aj, SK (by rw [zW]; omega), aj]
 refine T.bind (Sw h hg hS xk) fun D hD => ?_
 obtain ⟨f, hDe, hf⟩ := id hD
 have hDl : D.length ≤ 100100 := by rw [hDe, List.length_append, List.length_map, List.length_map]; omega
 have hgood : ∀ d ∈ D, ∃ p r, d = p :: r ∧ 0 ≤ p.bw ∧ p.bw < 64 ∧ 0 ≤ p.To ∧ p.To < 64 ∧ (¬ (p.bw.toNat ∈ S ∧ p.To.toNat ∈ S) → S ≠ []) := by
  intro d hd
  rw [hDe, List.mem_append, List.mem_map, List.mem_map] at hd
  rcases hd with ⟨p, hp, rfl⟩ | ⟨a, ha, rfl⟩
  ·have hv := JT h hp
   exact ⟨p, [], rfl, hv.1, hv.2.1, hv.2.2.1, hv.2.2.2.1, fun q => absurd hv.2.2.2.2 q⟩
  ·have hSn : S ≠ [] := by
    rcases hh with q | q
    ·exact q
    ·rw [q] at ha; cases ha
   have hda := hf a ha
   obtain ⟨p, r, e⟩ := List.exists_cons_of_ne_nil (dut_ne hSn hda)
   have hv := dut_val h hS (ku.1 ha).1 hda (p := p) (by rw [e]; simp)
   exact ⟨p, r, e, hv.1, hv.2.1, hv.2.2.1, hv.2.2.2, fun _ => hSn⟩
 refine T.bind (P := fun q => q = D.map fun d => UI S (d.headD ⟨0, 0⟩)) ?_ fun q hq => .ret ⟨rfl, hD, ?_⟩
 ·refine T.cS D.length (fun k s => s = ((k : Int), (D.take k).map fun d => UI S (d.headD ⟨0, 0⟩)) ∧ k ≤ D.length) ⟨by simp, by omega⟩ ?_
  rintro k _ ⟨rfl, hk⟩
  unfold kP
  dsimp only
  refine T.cond (fun gd => ?_) fun gd => ?_
  ·have hk2 : k < D.length := by have := of_decide_eq_true gd; omega
   obtain ⟨p, r, e, v1, v2, v3, v4, hne⟩ := hgood _ (List.getElem_mem hk2)
   have e0 : aL (p :: r) (0 : Int) = some p := rfl
   rw [a_ hk2, aj, e, e0, aj, cN (by omega)]
   refine T.AV (fun j => (⟨j.1, j.2⟩ : Pr) = UI S p) (fun j hj => ?_) fun kk hkk => ?_
   ·rw [cL (by simp; omega), aj]
    refine .ret ⟨hk2, ?_, hk2⟩
    rw [List.take_add_one, List.getElem?_eq_getElem hk2, List.map_append, e, hj]; rfl
   have hs0 : S ≠ [] → aL (il S) 0 = some ((S.headD 0 : Nat) : Int) := fun q => by
    cases S with
    | nil => exact absurd rfl q
    | cons x S => rfl
   refine T.AV (fun j => j = !(decide (p.bw.toNat ∈ S) && decide (p.To.toNat ∈ S))) (fun j hj => ?_) fun k2 hk2 => ?_
   ·refine T.cond (fun ej => ?_) fun ej => ?_
    ·have VT : ¬ (p.bw.toNat ∈ S ∧ p.To.toNat ∈ S) := by
      rw [ej] at hj; intro q; simp [q] at hj
     rw [XI h hS v3 v4, aj, hs0 (hne VT), aj]
     refine T.cond (fun e5 => ?_) fun e5 => ?_
     ·exact hkk _ (by unfold UI; rw [if_neg VT, if_pos (of_decide_eq_true e5)])
     ·exact hkk _ (by unfold UI; rw [if_neg VT, if_neg (of_decide_eq_false e5)])
    ·have VT : (p.bw.toNat ∈ S ∧ p.To.toNat ∈ S) := by
      rw [ej] at hj; simpa using hj.symm
     exact hkk _ (by unfold UI; rw [if_pos VT])
   ·rw [XI h hS v1 v2, aj]
    refine T.cond (fun e5 => ?_) fun e5 => ?_
    ·have e5 : decide (p.bw.toNat ∈ S) = false := by simpa using e5
     exact hk2 _ (by rw [e5]; rfl)
    ·have e5 : decide (p.bw.toNat ∈ S) = true := by simpa using e5
     rw [XI h hS v3 v4, aj]
     exact hk2 _ (by rw [e5]; rfl)
  ·have hk2 : k = D.length := by have := of_decide_eq_false gd; omega
   subst hk2
   exact .ret (by rw [List.take_length])
 ·dsimp only
  rw [hq, hDe, List.map_append, List.map_map, List.map_map]
  congr 1
  ·conv => rhs; rw [← List.map_id (inner g S)]
   exact List.map_congr_left fun p hp => XX hp
  ·refine List.map_congr_left fun a ha => ?_
   have hda := hf a ha
   have hSn : S ≠ [] := by
    rcases hh with q | q
    ·exact q
    ·rw [q] at ha; cases ha
   obtain ⟨p, r, e⟩ := List.exists_cons_of_ne_nil (dut_ne hSn hda)
   show UI S ((f a).headD ⟨0, 0⟩) = _
   rw [e]
   exact chg_need (ku.1 ha).2.1 hda (p := p) (by rw [e]; simp)
end Go.Dc
namespace Go.Dc
open Go.Proofs Go.Sort
section
variable {α β : Type} [DecidableEq α]
theorem MD {p : α × β} {d : List (α × β)} {x : α} : nT (p :: d) x = if p.1 = x then some 0 else (nT d x).map (· + 1) := by
 unfold nT
 rw [List.findIdx?_cons]
 by_cases c : p.1 = x <;> simp [c]
theorem rN {p : α × β} {d : List (α × β)} {x : α} {z : β} : cF (p :: d) x z = if p.1 = x then p.2 else cF d x z := by
 unfold cF
 rw [MD]
 by_cases c : p.1 = x
 ·rw [if_pos c, if_pos c]; rfl
 ·rw [if_neg c, if_neg c]
  cases nT d x <;> rfl
theorem zp {p : α × β} {d : List (α × β)} {x : α} {y : β} : iq (p :: d) x y = if p.1 = x then (x, y) :: d else p :: iq d x y := by
 unfold iq
 rw [MD]
 by_cases c : p.1 = x
 ·rw [if_pos c, if_pos c]; rfl
 ·rw [if_neg c, if_neg c]
  cases nT d x <;> rfl
theorem xY {x u : α} {y z : β} : ∀ {d : List (α × β)}, cF (iq d x y) u z = if u = x then y else cF d u z
 | [] => by
  show cF [(x, y)] u z = _
  rw [rN]
  by_cases c : u = x
  ·rw [if_pos c, if_pos c.symm]
  ·rw [if_neg c, if_neg fun e => c e.symm]
 | p :: d => by
  rw [zp]
  by_cases c : p.1 = x
  ·rw [if_pos c, rN, rN]
   by_cases c2 : u = x
   ·subst c2; rw [if_pos rfl, if_pos rfl]
   ·rw [if_neg (fun e => c2 e.symm), if_neg c2, if_neg (fun e => c2 (e.symm.trans c))]
  ·rw [if_neg c, rN, rN, xY]
   by_cases c2 : u = x
   ·subst c2; rw [if_neg c, if_pos rfl, if_pos rfl]
   ·rw [if_neg c2, if_neg c2]
theorem RV {x u : α} {y : β} : ∀ {d : List (α × β)}, u ∈ (iq d x y).map (·.1) ↔ u ∈ d.map (·.1) ∨ u = x
 | [] => by show u ∈ [(x, y)].map (·.1) ↔ _; simp
 | p :: d => by
  rw [zp]
  by_cases c : p.1 = x
  ·rw [if_pos c]
   simp only [List.map_cons, List.mem_cons]
   rw [c]
   constructor
   ·exact fun h => .inl h
   ·rintro (h | h); exact h; exact .inl h
  ·rw [if_neg c]
   simp only [List.map_cons, List.mem_cons]
   rw [RV]
   exact or_assoc.symm
theorem AE {x : α} {y : β} : ∀ {d : List (α × β)}, (d.map (·.1)).Nodup → ((iq d x y).map (·.1)).Nodup
 | [], _ => by show ([(x, y)].map (·.1)).Nodup; simp
 | p :: d, h => by
  rw [zp]
  rw [List.map_cons, List.nodup_cons] at h
  by_cases c : p.1 = x
  ·rw [if_pos c, List.map_cons, List.nodup_cons]
   exact ⟨c ▸ h.1, h.2⟩
  ·rw [if_neg c, List.map_cons, List.nodup_cons]
   exact ⟨fun q => (RV.1 q).elim h.1 c, AE h.2⟩
theorem Ij {x : α} {y : β} : ∀ {d : List (α × β)}, (iq d x y).length ≤ d.length + 1
 | [] => by show [(x, y)].length ≤ _; simp
 | p :: d => by
  rw [zp]
  have := Ij (d := d) (x := x) (y := y)
  split <;> simp <;> omega
theorem Ie {x : α} : ∀ {d : List (α × Bool)}, (d.map (·.1)).Nodup → ((x, true) ∈ d ↔ cF d x false = true)
 | [], _ => by constructor; (intro h; cases h); (intro h; cases h)
 | p :: d, h => by
  rw [List.map_cons, List.nodup_cons] at h
  rw [rN, List.mem_cons]
  by_cases c : p.1 = x
  ·rw [if_pos c]
   constructor
   ·rintro (e | e)
    ·rw [← e]
    ·exact absurd (List.mem_map.2 ⟨(x, true), e, c.symm⟩) h.1
   ·intro e; left; rw [← c, ← e]
  ·rw [if_neg c, Ie h.2]
   constructor
   ·rintro (e | e)
    ·rw [← e] at c; exact absurd rfl c
    ·exact e
   ·exact .inr
end
theorem F3 : ∀ {a b : List ah}, a.Perm b → a.Pairwise zi → b.Pairwise zi → a = b
 | [], b, h, _, _ => by rw [h.nil_eq]
 | x :: a, [], h, _, _ => by cases h.length_eq
 | x :: a, y :: b, h, ha, hb => by
  obtain ⟨a1, a2⟩ := List.pairwise_cons.1 ha
  obtain ⟨b1, b2⟩ := List.pairwise_cons.1 hb
  have e : x = y := by
   have hx : x ∈ y :: b := h.mem_iff.1 (by simp)
   have hy : y ∈ x :: a := h.mem_iff.2 (by simp)
   rcases List.mem_cons.1 hx with e | hx
   ·exact e
   rcases List.mem_cons.1 hy with e | hy
   ·exact e.symm
   exact absurd (AA (a1 y hy) (b1 x hx)) BS
  subst e
  rw [F3 h.cons_inv a2 b2]
theorem WD {l : List ah} (h : l.Pairwise fun x y => zi x y ∨ x = y) (hd : l.Nodup) : l.Pairwise zi := by
 refine (List.Pairwise.and h hd).imp ?_
 rintro x y ⟨h1, h2⟩
 exact h1.resolve_right h2
def vC (m : List (ah × Bool)) : List ah := (m.filter (·.2)).map (·.1)
theorem Tm : ∀ {m : List (ah × Bool)} {a : List ah}, a.length + m.length ≤ 100000 → m.foldlM cr a = some (a ++ vC m)
 | [], a, _ => by simp [vC]
 | (p, b) :: m, a, h => by
  rw [List.foldlM_cons]
  simp only [List.length_cons] at h
  cases b with
  | true =>
   have : cr a (p, true) = some (a ++ [p]) := by
    unfold cr
    rw [cond_true, cL (by simp; omega)]; rfl
   rw [this]
   show m.foldlM cr (a ++ [p]) = _
   rw [Tm (by simp; omega)]
   simp [vC]
  | false =>
   show m.foldlM cr a = _
   rw [Tm (by omega)]
   simp [vC]
theorem GC {l m : List (ah × Bool)} (h : l.Perm m) : (vC l).Perm (vC m) := (h.filter _).map _
theorem Xh {m : List (ah × Bool)} (h : (m.map (·.1)).Nodup) {p : ah} : p ∈ vC m ↔ cF m p false = true := by
 rw [← Ie h]
 unfold vC
 rw [List.mem_map]
 constructor
 ·rintro ⟨⟨q, b⟩, h1, rfl⟩
  obtain ⟨h2, h3⟩ := List.mem_filter.1 h1
  dsimp only at h3
  subst h3; exact h2
 ·exact fun h => ⟨(p, true), List.mem_filter.2 ⟨h, rfl⟩, rfl⟩
theorem RH {m : List (ah × Bool)} (h : (m.map (·.1)).Nodup) : (vC m).Nodup := by
 unfold vC
 exact (List.Sublist.map _ (List.filter_sublist (l := m) (p := (·.2)))).nodup h
end Go.Dc
namespace Go.Dc
open Go.Proofs Go.Sort
variable {g : af} {S : List Nat} {kind : Int}
theorem AP {α : Type} {l : List α} {k : Nat} (hk : k < l.length) {p : α} : p ∈ l.take (k + 1) ↔ p ∈ l.take k ∨ p = l[k] := by
 rw [List.take_add_one, List.getElem?_eq_getElem hk, List.mem_append]
 exact or_congr Iff.rfl (by rw [Option.toList_some, List.mem_singleton])
structure Gh (m : List (ah × Bool)) (n : Nat) (P : ah → Prop) : Prop where
 nd : (m.map (·.1)).Nodup
 len : m.length ≤ n
 get : ∀ p, cF m p false = true ↔ P p
theorem tog_l1 (hg : g.L.length ≤ 10000) : T (aI (i_ g) (0, [])) fun m => Gh m g.L.length (· ∈ g.L) := by
 refine T.cS g.L.length (fun k s => ∃ m, s = ((k : Int), m) ∧ k ≤ g.L.length ∧ Gh m k (· ∈ g.L.take k)) ⟨[], rfl, by omega, List.nodup_nil, Nat.le_refl _, fun p => by simp [cF, nT]⟩ ?_
 rintro k _ ⟨m, rfl, hk, hm⟩
 unfold i_
 dsimp only
 refine T.cond (fun gd => ?_) fun gd => ?_
 ·have hk2 : k < g.L.length := by have := of_decide_eq_true gd; omega
  rw [a_ hk2, aj, cN (by omega)]
  refine .ret ⟨hk2, _, rfl, hk2, AE hm.nd, ?_, fun p => ?_⟩
  ·have := Ij (d := m) (x := g.L[k]) (y := true)
   have := hm.len; omega
  ·rw [xY, AP hk2]
   by_cases c : p = g.L[k]
   ·rw [if_pos c]; simp [c]
   ·rw [if_neg c, hm.get]; simp [c]
 ·have hk2 : k = g.L.length := by have := of_decide_eq_false gd; omega
  subst hk2
  exact .ret (by rw [List.take_length] at hm; exact hm)
theorem tog_l2 {C : List ah} (hC : C.length ≤ 100000) (hv : ∀ p ∈ C, 0 ≤ p.bw ∧ p.bw < g.N ∧ 0 ≤ p.To ∧ p.To < g.N) : aI (iZ g C) 0 = some (.inr ()) := by
 refine T.eq ?_
 refine T.cS C.length (fun k s => s = (k : Int) ∧ k ≤ C.length) ⟨rfl, by omega⟩ ?_
 rintro k _ ⟨rfl, hk⟩
 unfold iZ
 refine T.cond (fun gd => ?_) fun gd => ?_
 ·have hk2 : k < C.length := by have := of_decide_eq_true gd; omega
  have h := hv _ (List.getElem_mem hk2)
  rw [a_ hk2, aj, decide_eq_false (by omega), cond_false, decide_eq_false (by omega), cond_false, decide_eq_false (by omega), cond_false, decide_eq_false (by omega), cond_false, cN (by omega)]
  exact .ret ⟨hk2, rfl, hk2⟩
 ·exact .ret rfl
theorem tog_l3 {C : List ah} (hC : C.length ≤ 100000) (hd : C.Nodup) {m0 : List (ah × Bool)} {n : Nat} {P : ah → Prop} (h0 : Gh m0 n P) : T (aI (fO C) (0, m0, [])) fun r => ∃ m, r = .inr m ∧ Gh m (n + C.length) fun p => (P p ↔ p ∉ C) := by
 refine T.cS C.length (fun k s => ∃ m t, s = ((k : Int), m, t) ∧ k ≤ C.length ∧ Gh m (n + k) (fun p => (P p ↔ p ∉ C.take k)) ∧ Gh t k (· ∈ C.take k)) ⟨m0, [], rfl, by omega, ⟨h0.nd, h0.len, fun p => by simp [h0.get]⟩, List.nodup_nil, Nat.le_refl _, fun p => by simp [cF, nT]⟩ ?_
 rintro k _ ⟨m, t, rfl, hk, hm, ht⟩
 unfold fO
 dsimp only
 refine T.cond (fun gd => ?_) fun gd => ?_
 ·have hk2 : k < C.length := by have := of_decide_eq_true gd; omega
  have Uk : C[k] ∉ C.take k := fun q => by
   obtain ⟨i, hi, e⟩ := List.getElem_of_mem q
   have hi2 : i < k := by simp at hi; omega
   rw [List.getElem_take] at e
   have := (List.getElem_inj hd).1 e
   omega
  have hgt : cF t C[k] false = false := by
   cases e : cF t C[k] false
   ·rfl
   ·exact absurd ((ht.get _).1 e) Uk
  rw [a_ hk2, aj, hgt, cond_false, cN (by omega)]
  have Qr : ∀ p, p ∈ C.take (k + 1) ↔ p ∈ C.take k ∨ p = C[k] := fun p => AP hk2
  refine .ret ⟨hk2, _, _, rfl, hk2, ⟨AE hm.nd, ?_, fun p => ?_⟩, ⟨AE ht.nd, ?_, fun p => ?_⟩⟩
  ·have := Ij (d := m) (x := C[k]) (y := !cF m C[k] false)
   have := hm.len; omega
  ·rw [xY, Qr]
   by_cases c : p = C[k]
   ·subst c
    rw [if_pos rfl]
    have := hm.get C[k]
    have h2 : P C[k] ↔ cF m C[k] false = true := by
     rw [this]; simp [Uk]
    simp only [Uk, false_or, not_true_eq_false, iff_false]
    rw [h2]
    cases cF m C[k] false <;> simp
   ·rw [if_neg c, hm.get]; simp [c]
  ·have := Ij (d := t) (x := C[k]) (y := true)
   have := ht.len; omega
  ·rw [xY, Qr]
   by_cases c : p = C[k]
   ·rw [if_pos c]; simp [c]
   ·rw [if_neg c, ht.get]; simp [c]
 ·have hk2 : k = C.length := by have := of_decide_eq_false gd; omega
  subst hk2
  exact .ret ⟨m, rfl, by rw [List.take_length] at hm; exact hm⟩
structure UU (g : af) (C : List ah) (h : af) : Prop where
 n : h.N = g.N
 val : cu h
 len : h.L.length ≤ g.L.length + C.length
 mem : ∀ p, p ∈ h.L ↔ (p ∈ g.L ↔ p ∉ C)
theorem SY (h : cu g) (hg : g.L.length ≤ 10000) {C : List ah} (hC : C.length ≤ 10000) (hd : C.Nodup) (hv : ∀ p ∈ C, 0 ≤ p.bw ∧ p.bw < g.N ∧ 0 ≤ p.To ∧ p.To < g.N) : T (eY g C) fun r => r.2 = 0 ∧ UU g C r.1 := by
 unfold eY
 rw [nu h (by omega), aj, show ((0 : Int) != 0) = false from rfl, cond_false]
 refine T.bind (tog_l1 hg) fun m0 h0 => ?_
 rw [tog_l2 (by omega) hv, aj]
 show T (Option.bind (aI (fO C) (0, m0, [])) _) _
 refine T.bind (tog_l3 (by omega) hd h0) fun r hr => ?_
 obtain ⟨m, rfl, hm⟩ := hr
 have hml := hm.len
 show T (TB m cr [] _) _
 have key : ∀ l : List (ah × Bool), l.Perm m → ∃ r, gX bN (vC l) = some r ∧ r.Perm (vC m) ∧ r.Pairwise zi := fun l hl => by
  obtain ⟨r, r1, r2, r3⟩ := sortE (l := vC l) (by
   have := (GC hl).length_eq
   have : (vC m).length ≤ m.length := by unfold vC; rw [List.length_map]; exact List.length_filter_le _ _
   omega)
  exact ⟨r, r1, r2.trans (GC hl), WD r3 ((r2.trans (GC hl)).nodup_iff.2 (RH hm.nd))⟩
 obtain ⟨t, t1, t2, t3⟩ := key m (List.Perm.refl _)
 have run : ∀ l : List (ah × Bool), l.Perm m → ((l.foldlM cr []).bind fun q78 : List ah => ((gX bN) q78).bind fun t79 => some ((af.mk g.N t79), (0 : Int))) = some (af.mk g.N t, 0) := fun l hl => by
  obtain ⟨r, r1, r2, r3⟩ := key l hl
  rw [Tm (by rw [hl.length_eq]; simp; omega), aj, List.nil_append, r1, aj, F3 (r2.trans t2.symm) r3 t3]
 have e : TB m cr [] (fun q78 : List ah => ((gX bN) q78).bind fun t79 => some ((af.mk g.N t79), (0 : Int))) = some (af.mk g.N t, 0) := by
  unfold TB
  rw [if_pos fun l hl => (run l hl).trans (run m (List.Perm.refl _)).symm]
  exact run m (List.Perm.refl _)
 rw [e]
 have hmem : ∀ p, p ∈ t ↔ (p ∈ g.L ↔ p ∉ C) := fun p => by rw [t2.mem_iff, Xh hm.nd, hm.get]
 refine .ret ⟨rfl, rfl, ⟨h.n0, h.n1, fun p hp => ?_, t3⟩, ?_, hmem⟩
 ·by_cases c : p ∈ C
  ·exact hv p c
  ·exact h.v p (((hmem p).1 hp).2 c)
 ·have : (vC m).length ≤ m.length := by unfold vC; rw [List.length_map]; exact List.length_filter_le _ _
  have := t2.length_eq
  dsimp only; omega
end Go.Dc
namespace Go.Dc
open Go.Proofs Go.Sort
variable {g t : af} {S : List Nat} {kind : Int}
noncomputable def Hj (g : af) (S : List Nat) (kind : Int) : List ah := inner g S ++ (eu g S kind g.N.toNat).map fun a : Nat => (⟨((S.headD 0 : Nat) : Int), (a : Int)⟩ : Pr)
def Yu (g : af) (S : List Nat) (kind : Int) : Prop := S ≠ [] ∨ eu g S kind g.N.toNat = []
theorem QD {i j : Nat} : qe g i j ↔ (⟨(i : Int), (j : Int)⟩ : Pr) ∈ g.L := by
 constructor
 ·rintro ⟨p, hp, e1, e2⟩
  have : p = (⟨(i : Int), (j : Int)⟩ : Pr) := RB e1 e2
  rw [← this]; exact hp
 ·exact fun h => ⟨_, h, rfl, rfl⟩
theorem head_mem (h : S ≠ []) : S.headD 0 ∈ S := by
 cases S with
 | nil => exact absurd rfl h
 | cons x S => simp
theorem Xm {i j : Nat} : (⟨(i : Int), (j : Int)⟩ : Pr) ∈ inner g S ↔ qe g i j ∧ i ∈ S ∧ j ∈ S := by
 unfold inner
 rw [List.mem_filter, QD]
 simp
theorem Z8 {i j : Nat} : (⟨(i : Int), (j : Int)⟩ : Pr) ∈ ((eu g S kind g.N.toNat).map fun a : Nat => (⟨((S.headD 0 : Nat) : Int), (a : Int)⟩ : Pr)) ↔ i = S.headD 0 ∧ j ∈ eu g S kind g.N.toNat := by
 rw [List.mem_map]
 constructor
 ·rintro ⟨a, ha, e⟩
  have e1 : ((S.headD 0 : Nat) : Int) = i := congrArg ah.bw e
  have e2 : (a : Int) = j := congrArg ah.To e
  have : a = j := by omega
  subst this
  exact ⟨by omega, ha⟩
 ·rintro ⟨rfl, hj⟩
  exact ⟨j, hj, rfl⟩
theorem Uj (hh : Yu g S kind) {j : Nat} (hj : j ∈ eu g S kind g.N.toNat) : S ≠ [] := by
 rcases hh with q | q
 ·exact q
 ·rw [q] at hj; cases hj
theorem Nj (h : cu g) : (Hj g S kind).Nodup := by
 unfold Hj
 rw [List.nodup_append]
 refine ⟨?_, ?_, ?_⟩
 ·exact List.Pairwise.imp (fun {a b} (hab : zi a b) (e : a = b) => BS (e ▸ hab)) (List.Pairwise.filter _ h.s)
 ·unfold eu
  refine List.Pairwise.map _ ?_ (List.Pairwise.filter _ List.nodup_range)
  intro a b hab e
  have e2 : (a : Int) = b := congrArg ah.To e
  exact hab (by omega)
 ·rintro p hp q hq rfl
  have h1 := (JT h hp).2.2.2.2.2
  obtain ⟨a, ha, rfl⟩ := List.mem_map.1 hq
  exact (ku.1 ha).2.1 h1
theorem SL (h : cu g) (hS : gu g S) (hh : Yu g S kind) : ∀ p ∈ Hj g S kind, 0 ≤ p.bw ∧ p.bw < g.N ∧ 0 ≤ p.To ∧ p.To < g.N := by
 intro p hp
 rcases List.mem_append.1 hp with hp | hp
 ·exact h.v p (List.mem_filter.1 hp).1
 ·obtain ⟨a, ha, rfl⟩ := List.mem_map.1 hp
  have h1 := hS.lt _ (head_mem (Uj hh ha))
  have h2 := (ku.1 ha).1
  dsimp only; omega
theorem Nk (h : cu g) : (Hj g S kind).length ≤ g.L.length + 40 := by
 unfold Hj
 have h1 := JD (g := g) (S := S) (kind := kind) (n := g.N.toNat)
 have h2 : (inner g S).length ≤ g.L.length := List.length_filter_le _ _
 have := h.n1
 rw [List.length_append, List.length_map]; omega
theorem LJ (h : cu g) (hS : gu g S) (hh : Yu g S kind) (ht : UU g (Hj g S kind) t) (i j : Nat) :
  qe t i j ↔ (qe g i j ∧ ¬ (i ∈ S ∧ j ∈ S)) ∨ (i = S.headD 0 ∧ j ∈ eu g S kind g.N.toNat) := by
 rw [QD, ht.mem, ← QD]
 have hc : (⟨(i : Int), (j : Int)⟩ : Pr) ∈ Hj g S kind ↔ (qe g i j ∧ i ∈ S ∧ j ∈ S) ∨ (i = S.headD 0 ∧ j ∈ eu g S kind g.N.toNat) := by
  unfold Hj; rw [List.mem_append, Xm, Z8]
 rw [hc]
 have hx : qe g i j → ¬ (i = S.headD 0 ∧ j ∈ eu g S kind g.N.toNat) := by
  rintro ha ⟨rfl, hj⟩
  exact (ku.1 hj).2.2.1 ⟨_, head_mem (Uj hh hj), ha⟩
 generalize (i = S.headD 0 ∧ j ∈ eu g S kind g.N.toNat) = X at *
 by_cases c : qe g i j
 ·have := hx c; simp [c, this]
 ·simp [c]
theorem LW (h : cu g) (hS : gu g S) (hh : Yu g S kind) (ht : UU g (Hj g S kind) t) (a b : Nat) (ha : a ∈ S) (hb : b ∈ S) : ¬ qe t a b := by
 rw [LJ h hS hh ht]
 rintro (⟨_, q⟩ | ⟨_, q⟩)
 ·exact q ⟨ha, hb⟩
 ·exact (ku.1 q).2.1 hb
theorem U_ (h : cu g) (hS : gu g S) (hh : Yu g S kind) (ht : UU g (Hj g S kind) t) {b : Nat} (hb : b < g.N.toNat) (hn : b ∉ S) (hk : kind = 1 → ∃ i ∈ S, qe g b i) : ∃ c, c ∈ S ∧ qe t c b := by
 by_cases c : ∃ i ∈ S, qe g i b
 ·obtain ⟨i, hi, hib⟩ := c
  exact ⟨i, hi, (LJ h hS hh ht i b).2 (.inl ⟨hib, fun q => hn q.2⟩)⟩
 ·have hnd : b ∈ eu g S kind g.N.toNat := ku.2 ⟨hb, hn, c, hk⟩
  exact ⟨S.headD 0, head_mem (Uj hh hnd), (LJ h hS hh ht _ b).2 (.inr ⟨rfl, hnd⟩)⟩
theorem U' (h : cu g) (hS : gu g S) (hh : Yu g S 1) (ht : UU g (Hj g S 1) t) : Yv t (· < g.N.toNat) (· ∈ S) := by
 refine ⟨fun a ha => hS.lt a ha, fun a b => LW h hS hh ht a b, fun a b ha hb hba => ?_⟩
 have hn : b ∉ S := fun q => LW h hS hh ht b a q ha hba
 have hatt : qe g b a := by
  rcases (LJ h hS hh ht b a).1 hba with q | q
  ·exact q.1
  ·exact absurd ha (ku.1 q.2).2.1
 exact U_ h hS hh ht hb hn fun _ => ⟨a, ha, hatt⟩
theorem U9 (h : cu g) (hS : gu g S) (hh : Yu g S 2) (ht : UU g (Hj g S 2) t) : Stb t (· < g.N.toNat) (· ∈ S) :=
 ⟨fun a ha => hS.lt a ha, fun a b => LW h hS hh ht a b, fun b hb hn => U_ h hS hh ht hb hn fun e => by cases e⟩
open Classical in
theorem accept_T (h : cu g) (hg : g.L.length ≤ 10000) (hS : gu g S) (xk : kind = 1 ∨ kind = 2) (hh : Yu g S kind) (ht : UU g (Hj g S kind) t) : T (kT t (il S) kind) (· = true) := by
 have y8 := Nk (S := S) (kind := kind) h
 have htl := ht.len
 have hn0 := ht.n
 have Te := h.n1
 have hl := gu.len h hS
 unfold kT
 refine T.bind (Wx ht.val (by omega)) ?_
 rintro _ ⟨n, rfl, hn⟩
 rw [hn0] at hn
 rw [NB (gu.GL h hS) (by omega), aj]
 have hsub : Lp (l8 S) n.all := fun i hi => (hn.all i).2 (hS.lt i (ny.1 hi))
 have hf : (fun i => (l8 S).testBit i = true) = (· ∈ S) := funext fun i => propext ny
 rcases xk with e | e
 ·subst e
  rw [show ((1 : Int) == 2) = false from rfl, cond_false, Ks hn.ok hsub, aj]
  refine .ret (decide_eq_true ?_)
  rw [hn.adm hsub, hf]
  exact U' h hS hh ht
 ·subst e
  rw [show ((2 : Int) == 2) = true from rfl, cond_true, QK hn.ok hsub, aj]
  refine .ret (decide_eq_true ?_)
  rw [hn.stb hsub, hf]
  exact U9 h hS hh ht
end Go.Dc
namespace Go.Dc
open Go.Proofs Go.Sort
variable {g t : af} {S : List Nat} {kind : Int}
theorem Uu {α : Type} {l : List α} {p : α → Bool} {f : Int → Option (Sum (Sum Int Unit) Int)} (hl : l.length ≤ 1000000)
  (h : ∀ k (hk : k < l.length), f (k : Int) = some (bif p l[k] then .inl (.inl (k : Int)) else .inr (((k + 1 : Nat)) : Int))) (he : f (l.length : Int) = some (.inl (.inr ()))) :
  T ((aI f 0).bind (eH (fun a : Int => some a) fun _ : Unit => some (-1))) fun r => decide (r ≥ 0) = l.any p := by
 refine T.bind (P := fun r => (∃ k : Nat, r = .inl (k : Int) ∧ l.any p = true) ∨ (r = .inr () ∧ l.any p = false)) ?_ ?_
 ·refine T.cS l.length (fun k s => s = (k : Int) ∧ k ≤ l.length ∧ (l.take k).any p = false) ⟨rfl, by omega, by simp⟩ ?_
  rintro k _ ⟨rfl, hk, hn⟩
  by_cases c : k < l.length
  ·rw [h k c]
   cases hp : p l[k] with
   | true =>
    refine .ret (.inl ⟨k, rfl, ?_⟩)
    rw [List.any_eq_true]; exact ⟨_, List.getElem_mem c, hp⟩
   | false =>
    refine .ret ⟨c, rfl, c, ?_⟩
    rw [List.take_add_one, List.getElem?_eq_getElem c, List.any_append, hn, Option.toList_some]
    simp [hp]
  ·have : k = l.length := by omega
   subst this
   rw [he]
   exact .ret (.inr ⟨rfl, by rw [List.take_length] at hn; exact hn⟩)
 ·rintro r (⟨k, rfl, h1⟩ | ⟨rfl, h1⟩)
  ·exact .ret (by rw [h1]; exact decide_eq_true (by omega))
  ·exact .ret (by rw [h1]; rfl)
theorem UE {s : List ah} {v : ah} (hs : s.length ≤ 1000000) : b7 s v = some (decide (v ∈ s)) := by
 refine T.eq ?_
 unfold b7 dy
 refine T.bind (Uu (l := s) (p := fun x => decide (v = x)) hs (fun k hk => ?_) ?_) fun r hr => .ret ?_
 ·unfold cA
  rw [decide_eq_true (by omega), cond_true, a_ hk, aj, cN (by omega)]
  cases decide (v = s[k]) <;> rfl
 ·unfold cA
  rw [decide_eq_false (by omega), cond_false]
 ·rw [hr, Bool.eq_iff_iff, List.any_eq_true]
  simp
theorem SD {s v : List ah} (hs : s.length ≤ 1000000) (hv : v.length ≤ 1000000) : bR s v = some (s.any fun x => !decide (x ∈ v)) := by
 refine T.eq ?_
 unfold bR cH
 refine T.bind (Uu (l := s) (p := fun x => !decide (x ∈ v)) hs (fun k hk => ?_) ?_) fun r hr => .ret hr
 ·unfold bU jr
  rw [decide_eq_true (by omega), cond_true, a_ hk, aj, UE hv, aj, aj, cN (by omega)]
  cases decide (s[k] ∈ v) <;> rfl
 ·unfold bU
  rw [decide_eq_false (by omega), cond_false]
theorem SC {s : List (List ah)} {v : List ah} (hs : s.length ≤ 1000000) (hs2 : ∀ x ∈ s, x.length ≤ 1000000) (hv : v.length ≤ 1000000) : bJ s v = some (s.any fun d => !(d.any fun x => !decide (x ∈ v))) := by
 refine T.eq ?_
 unfold bJ cD
 refine T.bind (Uu (l := s) (p := fun d => !(d.any fun x => !decide (x ∈ v))) hs (fun k hk => ?_) ?_) fun r hr => .ret hr
 ·unfold bQ kQ
  rw [decide_eq_true (by omega), cond_true, a_ hk, aj, SD (hs2 _ (List.getElem_mem hk)) hv, aj, aj, cN (by omega)]
  cases (s[k].any fun x => !decide (x ∈ v)) <;> rfl
 ·unfold bQ
  rw [decide_eq_false (by omega), cond_false]
theorem seen_l2 {l : List ah} (hl : l.length ≤ 1000000) (hd : l.Nodup) {m0 : List (ah × Bool)} {n : Nat} {P : ah → Prop} (h0 : Gh m0 n P) (hP : ∀ x ∈ l, ¬ P x) :
  T (aI (iX l) (0, m0)) fun r => ∃ m, r = .inr m ∧ Gh m (n + l.length) fun p => P p ∨ p ∈ l := by
 refine T.cS l.length (fun k s => ∃ m, s = ((k : Int), m) ∧ k ≤ l.length ∧ Gh m (n + k) (fun p => P p ∨ p ∈ l.take k)) ⟨m0, rfl, by omega, ⟨h0.nd, h0.len, fun p => by simp [h0.get]⟩⟩ ?_
 rintro k _ ⟨m, rfl, hk, hm⟩
 unfold iX
 dsimp only
 refine T.cond (fun gd => ?_) fun gd => ?_
 ·have hk2 : k < l.length := by have := of_decide_eq_true gd; omega
  have Uk : l[k] ∉ l.take k := fun q => by
   obtain ⟨i, hi, e⟩ := List.getElem_of_mem q
   have hi2 : i < k := by simp at hi; omega
   rw [List.getElem_take] at e
   have := (List.getElem_inj hd).1 e
   omega
  have hgt : cF m l[k] false = false := by
   cases e : cF m l[k] false
   ·rfl
   ·exact absurd ((hm.get _).1 e) fun q => q.elim (hP _ (List.getElem_mem hk2)) Uk
  rw [a_ hk2, aj, hgt, cond_false, cN (by omega)]
  refine .ret ⟨hk2, _, rfl, hk2, AE hm.nd, ?_, fun p => ?_⟩
  ·have := Ij (d := m) (x := l[k]) (y := true)
   have := hm.len; omega
  ·rw [xY, AP hk2]
   by_cases c : p = l[k]
   ·rw [if_pos c]; simp [c]
   ·rw [if_neg c, hm.get]; simp [c]
 ·have hk2 : k = l.length := by have := of_decide_eq_false gd; omega
  subst hk2
  exact .ret ⟨m, rfl, by rw [List.take_length] at hm; exact hm⟩
theorem seen_l1 {e : aJ} (hl : e.aS.length ≤ 1000000) (hs : ∀ x ∈ e.aS, x.length ≤ 1000000) (hd : e.aS.flatten.Nodup) :
  aI (iY e) (0, []) = some (.inr ()) := by
 refine T.eq ?_
 refine T.cS e.aS.length (fun k s => ∃ m n, s = ((k : Int), m) ∧ k ≤ e.aS.length ∧ Gh m n (fun p => p ∈ (e.aS.take k).flatten)) ⟨[], 0, rfl, by omega, List.nodup_nil, Nat.le_refl _, fun p => by simp [cF, nT]⟩ ?_
 rintro k _ ⟨m, n, rfl, hk, hm⟩
 unfold iY
 dsimp only
 refine T.cond (fun gd => ?_) fun gd => ?_
 ·have hk2 : k < e.aS.length := by have := of_decide_eq_true gd; omega
  have hsplit : e.aS.flatten = (e.aS.take k).flatten ++ (e.aS[k] ++ (e.aS.drop (k + 1)).flatten) := by
   rw [← List.flatten_cons, ← List.flatten_append, List.getElem_cons_drop, List.take_append_drop]
  rw [hsplit, List.nodup_append] at hd
  obtain ⟨d1, d2, d3⟩ := hd
  rw [List.nodup_append] at d2
  rw [a_ hk2, aj, cN (by omega)]
  refine T.bind (seen_l2 (hs _ (List.getElem_mem hk2)) d2.1 hm fun x hx q => d3 x q x (List.mem_append.2 (.inl hx)) rfl) ?_
  rintro _ ⟨m2, rfl, hm2⟩
  refine .ret ⟨hk2, m2, _, rfl, hk2, hm2.nd, hm2.len, fun p => ?_⟩
  rw [hm2.get, List.take_add_one, List.getElem?_eq_getElem hk2, List.flatten_append, List.mem_append, Option.toList_some, List.flatten_singleton]
 ·exact .ret rfl
theorem W_ {e : aJ} {all : List (List ah)} (hl : e.aS.length ≤ 1000000) (hs : ∀ x ∈ e.aS, x.length ≤ 1000000) (ha : all.length ≤ 1000000) (has : ∀ x ∈ all, x.length ≤ 1000000)
  (hin : ∀ o ∈ e.aS, ∃ d ∈ all, ∀ x ∈ d, x ∈ o) : aI (iW e all) 0 = some (.inr ()) := by
 refine T.eq ?_
 refine T.cS e.aS.length (fun k s => s = (k : Int) ∧ k ≤ e.aS.length) ⟨rfl, by omega⟩ ?_
 rintro k _ ⟨rfl, hk⟩
 unfold iW
 refine T.cond (fun gd => ?_) fun gd => ?_
 ·have hk2 : k < e.aS.length := by have := of_decide_eq_true gd; omega
  have hany : (all.any fun d => !(d.any fun x => !decide (x ∈ e.aS[k]))) = true := by
   obtain ⟨d, hd, hx⟩ := hin _ (List.getElem_mem hk2)
   rw [List.any_eq_true]
   refine ⟨d, hd, ?_⟩
   rw [Bool.not_eq_true', List.any_eq_false]
   intro x hx2
   simp [hx x hx2]
  rw [a_ hk2, aj, SC ha has (hs _ (List.getElem_mem hk2)), aj, hany, cN (by omega)]
  exact .ret ⟨hk2, rfl, hk2⟩
 ·exact .ret rfl
end Go.Dc
namespace Go.Dc
open Go.Proofs Go.Sort
variable {g t : af} {S : List Nat} {kind : Int}
theorem RD {D : List (List Pr)} (h : QL g S kind D) : D.length = (inner g S).length + (eu g S kind g.N.toNat).length := by
 obtain ⟨f, rfl, _⟩ := h
 rw [List.length_append, List.length_map, List.length_map]
theorem Jy {D : List (List Pr)} (h : QL g S kind D) : ∀ d ∈ D, d.length ≤ 200 := by
 obtain ⟨f, rfl, hf⟩ := h
 intro d hd
 rw [List.mem_append, List.mem_map, List.mem_map] at hd
 rcases hd with ⟨p, _, rfl⟩ | ⟨a, ha, rfl⟩
 ·simp
 ·exact (hf a ha).len
theorem RK {n : Nat} : (eu g S kind n).Nodup := by
 unfold eu; exact List.Pairwise.filter _ List.nodup_range
theorem XL {l : List Pr} : (l.map fun p => [p]).flatten = l := by
 induction l with
 | nil => rfl
 | cons x l ih => rw [List.map_cons, List.flatten_cons, ih]; rfl
theorem R2 (h : cu g) : (inner g S).Nodup :=
 List.Pairwise.imp (fun {a b} (hab : zi a b) (e : a = b) => BS (e ▸ hab)) (List.Pairwise.filter _ h.s)
theorem dut_tell {a b : Nat} (ha : a ∉ S) (hb : b ∉ S) {l m : List Pr} (hl : Ls g S kind a l) (hm : Ls g S kind b m) {p : Pr} (h1 : p ∈ l) (h2 : p ∈ m) : a = b := by
 rcases (hl.mem p).1 h1 with ⟨e1, i, hi, e2⟩ | ⟨_, e1, i, hi, e2, _⟩ <;> rcases (hm.mem p).1 h2 with ⟨f1, j, hj, f2⟩ | ⟨_, f1, j, hj, f2, _⟩
 ·omega
 ·exfalso; have : i = b := by omega
  exact hb (this ▸ hi)
 ·exfalso; have : i = b := by omega
  exact hb (this ▸ hi)
 ·omega
theorem dut_out {a : Nat} (ha : a ∉ S) {l : List Pr} (hl : Ls g S kind a l) {p : Pr} (h1 : p ∈ l) : ¬ (p.bw.toNat ∈ S ∧ p.To.toNat ∈ S) := by
 rintro ⟨q1, q2⟩
 rcases (hl.mem p).1 h1 with ⟨e1, i, hi, e2⟩ | ⟨_, e1, i, hi, e2, _⟩
 ·have : p.To.toNat = a := by omega
  exact ha (this ▸ q2)
 ·have : p.bw.toNat = a := by omega
  exact ha (this ▸ q1)
theorem M7 {f : Nat → List Pr} : ∀ {L : List Nat}, L.Nodup → (∀ a ∈ L, a ∉ S ∧ Ls g S kind a (f a)) → (L.map f).flatten.Nodup
 | [], _, _ => List.nodup_nil
 | a :: L, hd, h => by
  rw [List.nodup_cons] at hd
  rw [List.map_cons, List.flatten_cons, List.nodup_append]
  have ha := h a (by simp)
  refine ⟨ha.2.nd ha.1, M7 hd.2 fun b hb => h b (by simp [hb]), ?_⟩
  rintro p h1 q h2 rfl
  obtain ⟨m, hm, hpm⟩ := List.mem_flatten.1 h2
  obtain ⟨b, hb, rfl⟩ := List.mem_map.1 hm
  have hb' := h b (by simp [hb])
  have := dut_tell ha.1 hb'.1 ha.2 hb'.2 h1 hpm
  exact hd.1 (this ▸ hb)
theorem TL (h : cu g) {D : List (List Pr)} (hD : QL g S kind D) : D.flatten.Nodup := by
 obtain ⟨f, rfl, hf⟩ := hD
 rw [List.flatten_append, XL, List.nodup_append]
 refine ⟨R2 h, M7 RK fun a ha => ⟨(ku.1 ha).2.1, hf a ha⟩, ?_⟩
 rintro p h1 q h2 rfl
 obtain ⟨m, hm, hpm⟩ := List.mem_flatten.1 h2
 obtain ⟨a, ha, rfl⟩ := List.mem_map.1 hm
 exact dut_out (ku.1 ha).2.1 (hf a ha) hpm (JT h h1).2.2.2.2
theorem owed_in {D E : List (List Pr)} (hD : QL g S kind D) (hE : QL g S kind E) : ∀ o ∈ D, ∃ d ∈ E, ∀ x ∈ d, x ∈ o := by
 obtain ⟨f, rfl, hf⟩ := hD
 obtain ⟨e, rfl, he⟩ := hE
 intro o ho
 rw [List.mem_append, List.mem_map, List.mem_map] at ho
 rcases ho with ⟨p, hp, rfl⟩ | ⟨a, ha, rfl⟩
 ·exact ⟨[p], List.mem_append.2 (.inl (List.mem_map.2 ⟨p, hp, rfl⟩)), fun x hx => hx⟩
 ·exact ⟨e a, List.mem_append.2 (.inr (List.mem_map.2 ⟨a, ha, rfl⟩)), fun x hx => ((hf a ha).mem x).2 (((he a ha).mem x).1 hx)⟩
theorem Zz (h : cu g) (hg : g.L.length ≤ 10000) (hS : gu g S) (xk : kind = 1 ∨ kind = 2) {e : aJ} (he : StrP g S kind e) : T (gI g kind e) (· = true) := by
 obtain ⟨e1, e2, e3⟩ := he
 have hol := RD e2
 have hnl := JD (g := g) (S := S) (kind := kind) (n := g.N.toNat)
 have NK : (inner g S).length ≤ g.L.length := List.length_filter_le _ _
 have Te := h.n1
 have hc : e.jt.length = (inner g S).length + (eu g S kind g.N.toNat).length := by rw [e3, List.length_append, List.length_map]
 unfold gI
 rw [hol, hc, bne_self_eq_false, cond_false, seen_l1 (by omega) (fun x hx => by have := Jy e2 x hx; omega) (TL h e2), aj]
 show T (Option.bind (cW g e.Set kind) _) _
 rw [e1]
 refine T.bind (Sw h (by omega) hS xk) fun all hall => ?_
 have hal := RD hall
 rw [W_ (by omega) (fun x hx => by have := Jy e2 x hx; omega) (by omega) (fun x hx => by have := Jy hall x hx; omega) (owed_in e2 hall), aj]
 exact .ret rfl
end Go.Dc
namespace Go.Dc
open Go.Proofs Go.Sort
variable {g t : af} {S : List Nat} {kind : Int}
theorem X4 (h : cu g) (hS : gu g S) : ec (il S) g.N = some true := by
 have hl := gu.len h hS
 refine T.eq ?_
 unfold ec
 refine T.bind (P := fun r => r = .inr ()) ?_ ?_
 ·refine T.cS S.length (fun k s => s = (k : Int) ∧ k ≤ S.length) ⟨rfl, by omega⟩ ?_
  rintro k _ ⟨rfl, hk⟩
  unfold iJ
  refine T.cond (fun gd => ?_) fun gd => ?_
  ·have hk2 : k < S.length := by have := of_decide_eq_true gd; rw [zW] at this; omega
   have hlt := hS.lt _ (List.getElem_mem hk2)
   have hgd : ∀ (j : Nat) (hj : j < S.length), S.getD j 0 = S[j] := fun j hj => by simp [List.getD, hj]
   rw [s6 hk2, aj, hgd k hk2, decide_eq_false (by omega), cond_false, decide_eq_false (by omega), cond_false]
   refine T.cond (fun g2 => ?_) fun g2 => ?_
   ·have k1 : 1 ≤ k := by have := of_decide_eq_true g2; omega
    have e : qq .i64 (k : Int) 1 = ((k - 1 : Nat) : Int) := by rw [Cc (by omega) (by omega)]; omega
    have hj : k - 1 < S.length := by omega
    have hp := List.pairwise_iff_getElem.1 hS.asc (k - 1) k hj hk2 (by omega)
    rw [e, s6 hj, aj, hgd _ hj, decide_eq_false (by omega), cond_false, cN (by omega)]
    exact .ret ⟨hk2, rfl, hk2⟩
   ·rw [cN (by omega)]
    exact .ret ⟨hk2, rfl, hk2⟩
  ·exact .ret rfl
 ·rintro _ rfl
  exact .ret rfl
theorem Nv (h : cu g) (hg : g.L.length ≤ 10000) (hS : gu g S) (xk : kind = 1 ∨ kind = 2) : dF g (il S) kind = some 0 := by
 refine T.eq ?_
 unfold dF
 rw [nu h (by omega), aj, show ((0 : Int) != 0) = false from rfl, cond_false]
 refine T.AV (fun j => j = false) (fun j hj => ?_) fun kk hkk => ?_
 ·subst hj
  rw [cond_false, X4 h hS, aj]
  exact .ret rfl
 ·rcases xk with e | e
  ·subst e; exact hkk _ rfl
  ·subst e; exact hkk _ rfl
theorem TR {n : Nat} : eu g [] 1 n = [] := by
 refine List.eq_nil_iff_forall_not_mem.2 fun a ha => ?_
 obtain ⟨i, hi, _⟩ := (ku.1 ha).2.2.2 rfl
 cases hi
theorem hop_of (xk : kind = 1 ∨ kind = 2) (hh : ¬ (S = [] ∧ kind = 2 ∧ g.N > 0)) : Yu g S kind := by
 by_cases c : S = []
 ·right
  subst c
  rcases xk with e | e
  ·subst e; exact TR
  ·subst e
   have : g.N.toNat = 0 := by
    have : ¬ g.N > 0 := fun q => hh ⟨rfl, rfl, q⟩
    omega
   rw [this]; rfl
 ·exact .inl c
theorem MW : eM g (il S) kind = some (decide (S = [] ∧ kind = 2 ∧ g.N > 0)) := by
 unfold eM
 rw [zW]
 cases S with
 | nil =>
  rw [show (((([] : List Nat).length : Nat) : Int) == 0) = true from rfl, cond_true]
  by_cases c : kind = 2
  ·subst c; rw [show ((2 : Int) == 2) = true from rfl, cond_true]; simp
  ·rw [show (kind == 2) = false by simpa using c, cond_false]; simp [c]
 | cons x S =>
  rw [show ((((x :: S).length : Nat) : Int) == 0) = false by simp; omega, cond_false]; simp
theorem Strict_T (h : cu g) (hg : g.L.length ≤ 10000) (hS : gu g S) (xk : kind = 1 ∨ kind = 2) :
  T (eB g (il S) kind) fun r => (r = (⟨[], [], []⟩, 9) ∧ S = [] ∧ kind = 2 ∧ g.N > 0) ∨ (r.2 = 0 ∧ StrP g S kind r.1 ∧ Yu g S kind) := by
 unfold eB
 rw [Nv h hg hS xk, aj, show ((0 : Int) != 0) = false from rfl, cond_false, MW, aj]
 refine T.cond (fun e => ?_) fun e => ?_
 ·exact .ret (.inl ⟨rfl, of_decide_eq_true e⟩)
 ·have hh := hop_of (g := g) (S := S) xk (of_decide_eq_false e)
  refine T.bind (YM h (by omega) hS xk hh) fun r hr => .ret (.inr ⟨rfl, hr, hh⟩)
theorem Check_T (h : cu g) (hg : g.L.length ≤ 5000) (hS : gu g S) (xk : kind = 1 ∨ kind = 2) (hh : Yu g S kind) {e : aJ} (he : StrP g S kind e) : T (qG g kind e) (· = 0) := by
 have e3 : e.jt = Hj g S kind := he.2.2
 have y8 := Nk (S := S) (kind := kind) h
 unfold qG
 rw [he.1, Nv h (by omega) hS xk, aj, show ((0 : Int) != 0) = false from rfl, cond_false, e3]
 refine T.bind (SY h (by omega) (by omega) (Nj h) (SL h hS hh)) fun r hr => ?_
 rw [hr.1, show ((0 : Int) != 0) = false from rfl, cond_false]
 refine T.bind (accept_T h (by omega) hS xk hh hr.2) fun b hb => ?_
 subst hb
 rw [show (!true) = false from rfl, cond_false]
 refine T.bind (Zz h (by omega) hS xk he) fun b hb => ?_
 subst hb
 exact .ret rfl
theorem UX {s : ay} (h : EI s) {n : Int} (h0 : 0 ≤ n) (hn : n ≤ 40) : T (qD s n) fun r => EI r.1 ∧ ∃ S : List Nat, r.2 = il S ∧ S.Pairwise (· < ·) ∧ ∀ i ∈ S, i < n.toNat := by
 unfold qD
 refine T.bind (P := fun r => EI ⟨r.1, r.2.1⟩ ∧ ∃ S : List Nat, r.2.2 = il S ∧ S.Pairwise (· < ·) ∧ ∀ i ∈ S, i < n.toNat) ?_ fun r hr => .ret hr
 refine T.cS n.toNat (fun k s => ∃ L A, ∃ S : List Nat, s = ((k : Int), L, A, il S) ∧ k ≤ n.toNat ∧ EI ⟨L, A⟩ ∧ S.Pairwise (· < ·) ∧ ∀ i ∈ S, i < k) ⟨s.L, s.At, [], rfl, by omega, h, List.Pairwise.nil, by simp⟩ ?_
 rintro k _ ⟨L, A, S, rfl, hk, hr, hp, hlt⟩
 unfold AT
 dsimp only
 refine T.cond (fun gd => ?_) fun gd => ?_
 ·have hk2 : k < n.toNat := by have := of_decide_eq_true gd; omega
  have hlen := QF (a := 0) (n := k) hp fun i hi => ⟨Nat.zero_le _, hlt i hi⟩
  refine T.bind (LL hr (by omega)) fun t ht => ?_
  rw [cN (by omega)]
  refine T.cond (fun e => ?_) fun e => ?_
  ·rw [cL (by simp; omega), aj]
   refine .ret ⟨hk2, t.2.L, t.2.At, S ++ [k], ?_, hk2, ht.1, ?_, ?_⟩
   ·unfold il; rw [List.map_append]; rfl
   ·rw [List.pairwise_append]
    exact ⟨hp, by simp, fun a ha b hb => by simp at hb; subst hb; exact hlt a ha⟩
   ·intro i hi
    rw [List.mem_append] at hi
    rcases hi with hi | hi
    ·have := hlt i hi; omega
    ·simp at hi; omega
  ·exact .ret ⟨hk2, t.2.L, t.2.At, S, rfl, hk2, ht.1, hp, fun i hi => by have := hlt i hi; omega⟩
 ·have hk2 : k = n.toNat := by have := of_decide_eq_false gd; omega
  subst hk2
  exact .ret ⟨hr, S, rfl, hp, hlt⟩
end Go.Dc
namespace Go.Dc
open Go.Proofs Go.Sort
variable {g : af} {S : List Nat} {r : Int × List (List Int)}
theorem ZA (er : eF g = some r) (e0 : r.1 = 0) (hl : r.2.length ≤ 1000000) (hle : ∀ z ∈ r.2, z.length ≤ 1000000) : jX g = some (0, r.2.filter fun x => !(r.2.any fun y => prf y x)) := by
  unfold jX uJ
  rw [er, aj, e0, show ((0 : Int) != 0) = false from rfl, cond_false]
  have : aI (tj r) (0, []) = some (r.2.filter fun x => !(r.2.any fun y => prf y x)) := by
   rw [← OS (s := r.2) (p := fun x => r.2.any fun y => prf y x) (by omega) (f := fun q => bif decide (q.1 < ((r.2.length : Int))) then (aL r.2 q.1).bind fun t15 => (some (r.2.any fun y => prf y t15)).bind fun t16 => bif !t16 then (dh 24 q.2 [t15]).bind fun oz => some (Sum.inr ((aN .i64 q.1 1, oz)))
    else some (Sum.inr ((aN .i64 q.1 1, q.2))) else some (Sum.inl q.2)) fun q => rfl]
   congr 1
   funext q
   unfold tj
   cases decide (q.1 < ((r.2.length : Int))) with
   | false => rfl
   | true =>
    simp only [cond_true]
    cases ei : aL r.2 q.1 with
    | none => rfl
    | some x =>
     have hx : x ∈ r.2 := by unfold aL at ei; split at ei; exact List.mem_of_getElem? ei; cases ei
     simp only [Option.bind_some]
     rw [UD (by omega) hle (hle x hx)]; rfl
  rw [this]; rfl
theorem YS (er : eF g = some r) (e0 : r.1 = 0) (hl : r.2.length ≤ 1000000) (hle : ∀ z ∈ r.2, z.length ≤ 1000000) : mO g = some (0, r.2.filter fun x => !(r.2.any fun _ => x.any fun z => z == 3)) := by
  unfold mO p7
  rw [er, aj, e0, show ((0 : Int) != 0) = false from rfl, cond_false]
  have : aI (oN r) (0, []) = some (r.2.filter fun x => !(r.2.any fun _ => x.any fun z => z == 3)) := by
   rw [← OS (s := r.2) (p := fun x => r.2.any fun _ => x.any fun z => z == 3) (by omega) (f := fun q => bif decide (q.1 < ((r.2.length : Int))) then (aL r.2 q.1).bind fun t15 => (some (r.2.any fun _ => t15.any fun z => z == 3)).bind fun t16 => bif !t16 then (dh 24 q.2 [t15]).bind fun oz => some (Sum.inr ((aN .i64 q.1 1, oz)))
    else some (Sum.inr ((aN .i64 q.1 1, q.2))) else some (Sum.inl q.2)) fun q => rfl]
   congr 1
   funext q
   unfold oN
   cases decide (q.1 < ((r.2.length : Int))) with
   | false => rfl
   | true =>
    simp only [cond_true]
    cases ei : aL r.2 q.1 with
    | none => rfl
    | some x =>
     have hx : x ∈ r.2 := by unfold aL at ei; split at ei; exact List.mem_of_getElem? ei; cases ei
     simp only [Option.bind_some]
     rw [UC (by omega) (hle x hx)]; rfl
  rw [this]; rfl
theorem sets_s2 {t1 : Int × List (List Int)} (hl : t1.2.length ≤ 1000000) (hle : ∀ z ∈ t1.2, z.length ≤ 1000000) : aI (qb t1) (0, []) = some (t1.2.map fun z => jC z 1) := by
 refine T.eq (T.cS t1.2.length (fun k q => k ≤ t1.2.length ∧ q = ((k : Int), (t1.2.take k).map fun z => jC z 1)) ⟨by omega, by simp⟩ ?_)
 rintro k _ ⟨hk, rfl⟩
 unfold qb
 dsimp only
 refine T.cond (fun c => ?_) fun c => ?_
 ·have hk2 : k < t1.2.length := by simpa using c
  have tk : t1.2.take (k + 1) = t1.2.take k ++ [t1.2[k]] := by rw [List.take_add_one, List.getElem?_eq_getElem hk2]; rfl
  rw [a_ hk2, aj, Kn (hle _ (List.getElem_mem hk2)), aj, cN (by omega), tk, List.map_append, cL (by simp; omega), aj]
  exact .ret ⟨hk2, hk2, rfl⟩
 ·have e : k = t1.2.length := by have : ¬ (k : Int) < t1.2.length := of_decide_eq_false c; omega
  subst e
  exact .ret (by rw [List.take_length])
theorem sets_s3 {t1 : Int × List (List Int)} (hl : t1.2.length ≤ 1000000) (hle : ∀ z ∈ t1.2, z.length ≤ 1000000) : aI (qa t1) (0, []) = some (t1.2.map fun z => jC z 1) := by
 refine T.eq (T.cS t1.2.length (fun k q => k ≤ t1.2.length ∧ q = ((k : Int), (t1.2.take k).map fun z => jC z 1)) ⟨by omega, by simp⟩ ?_)
 rintro k _ ⟨hk, rfl⟩
 unfold qa
 dsimp only
 refine T.cond (fun c => ?_) fun c => ?_
 ·have hk2 : k < t1.2.length := by simpa using c
  have tk : t1.2.take (k + 1) = t1.2.take k ++ [t1.2[k]] := by rw [List.take_add_one, List.getElem?_eq_getElem hk2]; rfl
  rw [a_ hk2, aj, Kn (hle _ (List.getElem_mem hk2)), aj, cN (by omega), tk, List.map_append, cL (by simp; omega), aj]
  exact .ret ⟨hk2, hk2, rfl⟩
 ·have e : k = t1.2.length := by have : ¬ (k : Int) < t1.2.length := of_decide_eq_false c; omega
  subst e
  exact .ret (by rw [List.take_length])
theorem Xa {all : List (List Int)} {z : List Int} (hz : z ∈ all) : ∃ y ∈ all.filter fun x => !(all.any fun y => prf y x), ∀ i ∈ jC z 1, i ∈ jC y 1 := by
 obtain ⟨y, hy, hm⟩ := max_of (l := all.filter fun y => (jC z 1).all fun i => (jC y 1).any fun j => j == i) (fun y => (jC y 1).length) (fun e => by
  have : z ∈ all.filter fun y => (jC z 1).all fun i => (jC y 1).any fun j => j == i := List.mem_filter.2 ⟨hz, List.all_eq_true.2 fun i hi => List.any_eq_true.2 ⟨i, hi, by simp⟩⟩
  rw [e] at this; simp at this)
 obtain ⟨hy1, hy2⟩ := List.mem_filter.1 hy
 have sub : ∀ i ∈ jC z 1, i ∈ jC y 1 := fun i hi => by
  obtain ⟨j, hj, e⟩ := List.any_eq_true.1 (List.all_eq_true.1 hy2 i hi)
  rw [← eq_of_beq e]; exact hj
 refine ⟨y, List.mem_filter.2 ⟨hy1, ?_⟩, sub⟩
 rw [Bool.not_eq_true', List.any_eq_false]
 intro w hw hp
 obtain ⟨h2, h3⟩ := YB.1 hp
 have : w ∈ all.filter fun y => (jC z 1).all fun i => (jC y 1).any fun j => j == i := List.mem_filter.2 ⟨hw, List.all_eq_true.2 fun i hi => List.any_eq_true.2 ⟨i, h3 i (sub i hi), by simp⟩⟩
 have := hm w this
 omega
def ExtP (S : List Nat) (r : List (List Int) × Int) : Prop := r.2 = 0 ∧ r.1.length ≤ 1000000 ∧ (∀ x ∈ r.1, x.length ≤ 100) ∧ ∃ x ∈ r.1, ∀ i ∈ S, (i : Int) ∈ x
theorem exts_T (h : cu g) (hg : g.L.length ≤ 100000) (h6 : g.N ≤ 6) (hS : ∀ i ∈ S, i < g.N.toNat) {q : Int} (hq : (q = 3 ∧ Yv g (· < g.N.toNat) (· ∈ S)) ∨ (q = 4 ∧ Stb g (· < g.N.toNat) (· ∈ S))) : T (jc g q) (ExtP S) := by
 have h7 : ∀ p ∈ g.L, p.To < 7 := fun p hp => by have := h.v p hp; omega
 obtain ⟨r, er, e0, hnd, hall⟩ := Lq h hg h7
 have hfew := Wd h h7 hnd fun z hz => (hall z).1 hz
 have hlen : ∀ z ∈ r.2, z.length = g.N.toNat := fun z hz => ((hall z).1 hz).1.len
 have hle : ∀ z ∈ r.2, z.length ≤ 1000000 := fun z hz => by rw [hlen z hz]; omega
 have NK : uM = some () := rfl
 have fin : ∀ p : List Int → Bool, (∃ y ∈ r.2.filter p, ∀ i ∈ S, (i : Int) ∈ jC y 1) → ExtP S ((r.2.filter p).map fun z => jC z 1, 0) := fun p hy => by
  obtain ⟨y, hy, hyi⟩ := hy
  refine ⟨rfl, ?_, fun x hx => ?_, jC y 1, List.mem_map.2 ⟨y, hy, rfl⟩, hyi⟩
  ·have := List.length_filter_le p r.2
   rw [List.length_map]; omega
  ·obtain ⟨z, hz, rfl⟩ := List.mem_map.1 hx
   have := EJ (y := z) (x := 1)
   have := hlen z (List.mem_filter.1 hz).1
   omega
 have hf : ∀ p : List Int → Bool, (r.2.filter p).length ≤ 1000000 := fun p => by have := List.length_filter_le p r.2; omega
 have hf2 : ∀ p : List Int → Bool, ∀ z ∈ r.2.filter p, z.length ≤ 1000000 := fun p z hz => hle z (List.mem_filter.1 hz).1
 unfold jc
 rw [nu h (by omega), aj, show ((0 : Int) != 0) = false from rfl, cond_false, NK, aj]
 rcases hq with ⟨rfl, hA⟩ | ⟨rfl, hA⟩
 ·show T ((mU g).bind fun t6 => some ((t6.2, t6.1))) _
  unfold mU
  rw [ZA er e0 (by omega) hle, aj, show ((0 : Int) != 0) = false from rfl, cond_false, sets_s2 (hf _) (hf2 _), aj, aj]
  refine .ret (fin _ ?_)
  obtain ⟨S', q1, q2, q3⟩ := Nw h _ _ hA (Nat.le_refl _)
  obtain ⟨y, hy, hyi⟩ := Xa ((hall _).2 (UB h q1 q3))
  refine ⟨y, hy, fun i hi => hyi _ (ET.2 ⟨i, rfl, ?_, ?_⟩)⟩
  ·rw [(MK (g := g) (S := S')).len]; exact hS i hi
  ·rw [oJ (hS i hi), if_pos (q2 i hi)]
 ·show T ((mT g).bind fun t6 => some ((t6.2, t6.1))) _
  unfold mT
  rw [YS er e0 (by omega) hle, aj, show ((0 : Int) != 0) = false from rfl, cond_false, sets_s3 (hf _) (hf2 _), aj, aj]
  refine .ret (fin _ ?_)
  obtain ⟨q1, q2⟩ := HF h hA
  have hl := (MK (g := g) (S := (· ∈ S))).len
  refine ⟨_, List.mem_filter.2 ⟨(hall _).2 q1.1, ?_⟩, fun i hi => ET.2 ⟨i, rfl, by rw [hl]; exact hS i hi, (q2 i (hS i hi)).2 hi⟩⟩
  have hn := ZO.2 fun j hj => q1.2 j (by rw [← hl]; exact hj)
  rw [hn, Bool.not_eq_true', List.any_eq_false]
  intro _ _ e; cases e
end Go.Dc
namespace Go.Dc
open Go.Proofs Go.Sort
variable {g : af}
def ndsP (N : Nat) (p : Nat → Bool) : List Nat := (List.range N).filter p
end Go.Dc
namespace Go.Dc
open Go.Proofs Go.Sort
variable {g : af}
def subM (L : List Nat) (m k : Nat) : List Nat := (ndsP k m.testBit).map fun i => L.getD i 0
section
variable {L : List Nat} (hL : L.length ≤ 10) (hN : L.Nodup) {B : Nat → Bool} {a0 : Int} {a1 a2 : List Int} {b0 c0 : Int} {d0 : Bool}
 (hB : ∀ m, m < 2 ^ L.length → dQ (il (subM L m L.length)) a0 a1 a2 b0 c0 d0 = some (B m))
structure LstI (L : List Nat) (B : Nat → Bool) (m : Nat) (out : List (List Int)) : Prop where
 len : out.length ≤ m
 nd : out.Nodup
 el : ∀ x ∈ out, ∃ j, j < m ∧ x = il (subM L j L.length) ∧ B j = true
 no : out = [] → ∀ j, j < m → B j = false
include hL in
include hL hN hB in
include hL hN hB in
end
end Go.Dc
namespace Go.Dc
open Go.Proofs Go.Sort
variable {g : af}
def Out (g : af) (x : List Int) (k : Nat) : Prop := k < g.N.toNat ∧ ¬ (k : Int) ∈ x
theorem In_plain {l : List Int} {x : Int} (hl : l.length ≤ 1000000) : EY l x = some (decide (x ∈ l)) := by
 unfold EY
 refine T.eq (T.bind (P := fun r => match r with | .inl b => b = decide (x ∈ l) | .inr _ => x ∉ l) (T.cS l.length (fun k s => s = (k : Int) ∧ x ∉ l.take k) ⟨rfl, by simp⟩ fun k s hs => ?_) fun r hr => ?_)
 ·obtain ⟨rfl, hn⟩ := hs
  unfold MR
  refine T.cond (fun h => ?_) fun h => .ret ?_
  ·simp only [decide_eq_true_eq] at h
   have hk : k < l.length := by omega
   rw [a_ hk, cN (by omega)]
   simp only [Option.bind_some]
   refine T.cond (fun h2 => .ret ?_) fun h2 => .ret ⟨hk, rfl, ?_⟩
   ·show true = decide (x ∈ l)
    exact (decide_eq_true (by rw [← eq_of_beq h2]; exact List.getElem_mem hk)).symm
   ·rw [← List.take_append_getElem hk, List.mem_append, List.mem_singleton]
    rintro (h3 | h3)
    ·exact hn h3
    ·subst h3; simp at h2
  ·simp only [decide_eq_false_iff_not] at h
   rw [List.take_of_length_le (by omega)] at hn
   exact hn
 ·match r, hr with
  | .inl b, hr => exact .ret hr
  | .inr u, hr => exact .ret (decide_eq_false hr).symm
end Go.Dc
namespace Go.Dc
open Go.Proofs Go.Sort
variable {g t : af} {S : List Nat} {kind : Int}
theorem top_l1 (h : cu g) (hg : g.L.length ≤ 100000) (h6 : g.N ≤ 6) (hl : S.length ≤ 1000) (hS : ∀ i ∈ S, i < g.N.toNat) {q x e : Int} (hq1 : 1 ≤ q) (hq4 : q ≤ 2) (hT : ∀ i ∈ S, Ln g (· < g.N.toNat) q i) {s : ay} :
  aI (qM (s, il S) (g, e) (q, x)) 0 = some (.inr ()) := by
 refine T.eq ?_
 refine T.cS S.length (fun k s => s = (k : Int) ∧ k ≤ S.length) ⟨rfl, by omega⟩ ?_
 rintro k _ ⟨rfl, hk⟩
 unfold qM
 dsimp only
 refine T.cond (fun gd => ?_) fun gd => ?_
 ·have hk2 : k < S.length := by have := of_decide_eq_true gd; rw [zW] at this; omega
  have hgd : S.getD k 0 = S[k] := by simp [List.getD, hk2]
  have hm := List.getElem_mem hk2
  rw [s6 hk2, aj, hgd]
  refine T.bind (U0 h hg h6 hq1 hq4 (hS _ hm) (hT _ hm)) fun r hr => ?_
  obtain ⟨r1, hh, r3⟩ := hr
  rw [r1, show ((0 : Int) != 0) = false from rfl, cond_false, hh, show (!true) = false from rfl, cond_false, r3, aj, show ((0 : Int) != 0) = false from rfl, cond_false, cN (by omega)]
  exact .ret ⟨hk2, rfl, hk2⟩
 ·exact .ret rfl
theorem Yd {x : List Int} (hl : S.length ≤ 1000000) (hx : x.length ≤ 1000000) : uV (il S) x = some (decide (∀ i ∈ S, (i : Int) ∈ x)) := by
 refine T.eq ?_
 unfold uV
 refine T.bind (P := fun r => (r = .inl false ∧ ¬ ∀ i ∈ S, (i : Int) ∈ x) ∨ (r = .inr () ∧ ∀ i ∈ S, (i : Int) ∈ x)) ?_ ?_
 ·refine T.cS S.length (fun k s => s = (k : Int) ∧ k ≤ S.length ∧ ∀ i ∈ S.take k, (i : Int) ∈ x) ⟨rfl, by omega, by simp⟩ ?_
  rintro k _ ⟨rfl, hk, hi⟩
  unfold Ec
  refine T.cond (fun gd => ?_) fun gd => ?_
  ·have hk2 : k < S.length := by have := of_decide_eq_true gd; rw [zW] at this; omega
   have hgd : S.getD k 0 = S[k] := by simp [List.getD, hk2]
   rw [s6 hk2, aj, hgd, In_plain hx, aj, cN (by omega)]
   refine T.cond (fun c => ?_) fun c => ?_
   ·exact .ret (.inl ⟨rfl, fun q => by
     have := q _ (List.getElem_mem hk2)
     simp [this] at c⟩)
   ·refine .ret ⟨hk2, rfl, hk2, fun i hi2 => ?_⟩
    rcases (AP hk2).1 hi2 with q | q
    ·exact hi i q
    ·subst q; simpa using c
  ·have hk2 : k = S.length := by have := of_decide_eq_false gd; rw [zW] at this; omega
   subst hk2
   rw [List.take_length] at hi
   exact .ret (.inr ⟨rfl, hi⟩)
 ·rintro r (⟨rfl, q⟩ | ⟨rfl, q⟩)
  ·exact .ret (decide_eq_false q).symm
  ·exact .ret (decide_eq_true q).symm
theorem top_l2 (hl : S.length ≤ 1000000) {s : ay} {r : List (List Int) × Int} (hr : ExtP S r) : aI (qL (s, il S) r) (false, 0) = some true := by
 obtain ⟨_, h1, h2, h3⟩ := hr
 refine T.eq ?_
 refine T.cS r.1.length (fun k s => ∃ b, s = (b, (k : Int)) ∧ k ≤ r.1.length ∧ ((∃ x ∈ r.1.take k, ∀ i ∈ S, (i : Int) ∈ x) → b = true)) ⟨false, rfl, by omega, by simp⟩ ?_
 rintro k _ ⟨b, rfl, hk, hb⟩
 unfold qL
 dsimp only
 refine T.cond (fun gd => ?_) fun gd => ?_
 ·have hk2 : k < r.1.length := by have := of_decide_eq_true gd; omega
  rw [a_ hk2, aj, cN (by omega)]
  refine T.cond (fun c => ?_) fun c => ?_
  ·exact .ret ⟨hk2, true, rfl, hk2, fun _ => rfl⟩
  ·rw [Yd hl (by have := h2 _ (List.getElem_mem hk2); omega), aj]
   refine .ret ⟨hk2, _, rfl, hk2, ?_⟩
   rintro ⟨x, hx, hi⟩
   rcases (AP hk2).1 hx with q | q
   ·have := hb ⟨x, q, hi⟩; rw [this] at c; cases c
   ·subst q; exact decide_eq_true hi
 ·have hk2 : k = r.1.length := by have := of_decide_eq_false gd; omega
  subst hk2
  rw [List.take_length] at hb
  exact .ret (hb h3)
theorem top_l3 (h : cu g) (hg : g.L.length ≤ 2000) (h6 : g.N ≤ 6) (hS : gu g S) {s s2 : ay} : aI (qK (g, s) (s2, il S)) 0 = some (.inr ()) := by
 have hl := gu.len h hS
 refine T.eq ?_
 refine T.cS 2 (fun k s => s = (k : Int) ∧ k ≤ 2) ⟨rfl, by omega⟩ ?_
 rintro k _ ⟨rfl, hk⟩
 unfold qK
 dsimp only
 refine T.cond (fun gd => ?_) fun gd => ?_
 ·have hk2 : k < 2 := by have := of_decide_eq_true gd; simp at this; omega
  have hidx : aL [(1 : Int), 2] (k : Int) = some ((k : Int) + 1) := by
   have : k = 0 ∨ k = 1 := by omega
   rcases this with rfl | rfl <;> rfl
  have xk : (k : Int) + 1 = 1 ∨ (k : Int) + 1 = 2 := by omega
  rw [hidx, aj, cN (by omega)]
  generalize hkd : (k : Int) + 1 = kd at *
  refine T.bind (Strict_T h (by omega) hS xk) fun r hr => ?_
  refine T.AV (fun _ => r.2 = 0 ∧ StrP g S kd r.1 ∧ Yu g S kd) (fun _ hj => ?_) fun kk hkk => ?_
  ·obtain ⟨e0, he, hh⟩ := hj
   have e3 : r.1.jt = Hj g S kd := he.2.2
   have y8 := Nk (S := S) (kind := kd) h
   rw [e3]
   refine T.bind (SY h (by omega) (by omega) (Nj h) (SL h hS hh)) fun tr htr => ?_
   obtain ⟨t0, ht⟩ := htr
   obtain ⟨t, tz⟩ := tr
   dsimp only at t0 ht
   have htl := ht.len
   have hn0 := ht.n
   rw [e0, t0, show ((0 : Int) != 0) = false from rfl, cond_false, cond_false]
   refine T.bind (Check_T h (by omega) hS xk hh he) fun b hb => ?_
   subst hb
   rw [show ((0 : Int) != 0) = false from rfl, cond_false]
   have hSt : ∀ i ∈ S, i < t.N.toNat := fun i hi => by rw [hn0]; exact hS.lt i hi
   refine T.AV (fun j => (j = (1, 3) ∧ Yv t (· < t.N.toNat) (· ∈ S)) ∨ (j = (2, 4) ∧ Stb t (· < t.N.toNat) (· ∈ S))) (fun j hj => ?_) fun k2 hk3 => ?_
   ·have hjq : 1 ≤ j.1 ∧ j.1 ≤ 2 ∧ (∀ i ∈ S, Ln t (· < t.N.toNat) j.1 i) ∧ ((j.2 = 3 ∧ Yv t (· < t.N.toNat) (· ∈ S)) ∨ (j.2 = 4 ∧ Stb t (· < t.N.toNat) (· ∈ S))) := by
     rcases hj with ⟨rfl, hA⟩ | ⟨rfl, hA⟩
     ·exact ⟨by decide, by decide, fun i hi => by unfold Ln; rw [if_pos rfl]; exact ⟨_, hA, hi⟩, .inl ⟨rfl, hA⟩⟩
     ·exact ⟨by decide, by decide, fun i hi => by unfold Ln; rw [if_neg (by decide), if_pos rfl]; exact ⟨_, hA, hi⟩, .inr ⟨rfl, hA⟩⟩
    obtain ⟨j1, j2⟩ := j
    dsimp only at hjq
    rw [top_l1 ht.val (by omega) (by omega) (by omega) hSt hjq.1 hjq.2.1 hjq.2.2.1, aj]
    show T (Option.bind (jc t j2) _) _
    refine T.bind (exts_T ht.val (by omega) (by omega) hSt hjq.2.2.2) fun r2 hr2 => ?_
    rw [top_l2 (by omega) hr2, aj, hr2.1, show ((0 : Int) != 0) = false from rfl, cond_false, show (!true) = false from rfl, cond_false]
    exact .ret ⟨hk2, rfl, hk2⟩
   ·rcases xk with e | e
    ·subst e
     rw [show ((1 : Int) == 2) = false from rfl, cond_false]
     exact hk3 _ (.inl ⟨rfl, by rw [hn0]; exact U' h hS hh ht⟩)
    ·subst e
     rw [show ((2 : Int) == 2) = true from rfl, cond_true]
     exact hk3 _ (.inr ⟨rfl, by rw [hn0]; exact U9 h hS hh ht⟩)
  ·rcases hr with ⟨rfl, rfl, rfl, h4⟩ | ⟨e0, he, hh⟩
   ·rw [show ((9 : Int) == 9) = true from rfl, cond_true, show ((2 : Int) == 2) = true from rfl, cond_true, show ((((il []).length : Nat) : Int) == 0) = true from rfl, cond_true, decide_eq_true h4, cond_true]
    exact .ret ⟨hk2, rfl, hk2⟩
   ·rw [e0, show ((0 : Int) == 9) = false from rfl, cond_false]
    exact hkk _ ⟨e0, he, hh⟩
 ·exact .ret rfl
theorem CV (l : List Int) {p0 : Prop} (_ : p0) : sr l = some true := by
 refine T.eq ?_
 unfold sr
 refine T.bind Ya fun s hs => T.bind (S6 hs (by omega) (by omega)) fun t ⟨h, hN6, hg, hs2⟩ => ?_
 refine T.bind (UX hs2 h.n0 (by omega)) fun st hst => ?_
 obtain ⟨_, S, e, h1, h2⟩ := hst
 obtain ⟨s2, x⟩ := st
 dsimp only at e
 subst e
 obtain ⟨g, sg⟩ := t
 have hS : gu g S := ⟨h1, h2⟩
 rw [top_l3 h (by dsimp only at hg; omega) hN6 hS, aj]
 show T (Option.bind nw _) _
 rw [awake, aj]
 exact .ret rfl
end Go.Dc
