/- Part Dc.Cut4 of a proof: lemmas. -/
import Derived.Test.YtofcoilhjmkejaaDcClo
import Derived.Lib.Overlaps
import Derived.Test.YtofcoilhjmkejaaDcOps2
import Derived.Test.YtofcoilhjmkejaaDcMem5
/-! Parts of owned slices: a slice that is lengthened within its room, copied into, or cut out of. -/
namespace Go.Dc
variable {R : Type} {P : Program} {E : Env} {N : Nat} {Γ : List (Nat × RP)} {Ω : List OB} {ty : TypeId}

def capV (v : Value) : Nat := match v with | .slice _ _ c => c | _ => 0

section rows
variable {α : Type} {ρ : Rep α} {F : FP} {w : World}
end rows

section
variable {α : Type} {e t : TypeId} {ρ : Rep α} {bytes : Nat} {x y : Operand} {hv : Value} {S : List Nat} {d : List α} {j : Nat}

theorem Sat.cap {a : Act} {w : World} (hs : Sat E N Γ Ω a w) (hj : Ω[j]? = some (oa ρ hv S d)) : d.length ≤ capV hv := by
  obtain ⟨ad, c, rfl, hc, _⟩ := hs.objAt hj
  exact hc

/-- x[l:m:k] -/
def sub3V (v : Value) (sz l m k : Nat) : Value := match v with
  | .slice ad _ _ => .slice (if k = l then ad else ad.map (·.add (l * sz))) (m - l) (k - l)
  | v => v
/-! ### writing into the row of an owned slice -/
end
end Go.Dc

/-! Copying within and into owned slices; appending to parts of them. -/
namespace Go.Dc
variable {P : Program} {E : Env} {N : Nat} {Γ : List (Nat × RP)} {Ω : List OB} {ty : TypeId}

section
variable {α : Type} {e t : TypeId} {ρ : Rep α} {bytes : Nat} {x y : Operand} {hv : Value} {S : List Nat} {d : List α} {j : Nat}

end
end Go.Dc

/-! A part of a slice with zeros appended; do two slices overlap. -/
namespace Go.Dc
variable {P : Program} {E : Env} {N : Nat} {Γ : List (Nat × RP)} {Ω : List OB} {ty : TypeId}

section
variable {α : Type} {e t yt : TypeId} {ρ : Rep α} {bytes : Nat} {x y : Operand} {hv : Value} {S : List Nat} {d : List α} {j : Nat}

end
end Go.Dc

set_option linter.unusedVariables false
set_option linter.unusedSimpArgs false
/-! Reasoning about the plain models. -/
namespace Go.Dc

variable {α β γ σ ρ : Type} {P Q : α → Prop}

/-- the model answers, and the answer is of Q -/
def T (m : Option α) (Q : α → Prop) : Prop := ∃ r, m = some r ∧ Q r

theorem T.bind {m : Option α} {f : α → Option β} {Q : β → Prop} (h : T m P) (k : ∀ a, P a → T (f a) Q) : T (Option.bind m f) Q := by
  obtain ⟨a, rfl, ha⟩ := h
  exact k a ha
theorem T.ret {a : α} (h : Q a) : T (some a) Q := ⟨a, rfl, h⟩
theorem T.mono {m : Option α} (h : T m P) (k : ∀ a, P a → Q a) : T m Q := let ⟨a, h1, h2⟩ := h; ⟨a, h1, k a h2⟩
theorem T.letM {x : β} {k : β → Option α} (h : T (k x) Q) : T (letM x k) Q := h
theorem T.join {f : β → Option α} {g : (β → Option α) → Option α} (h : T (g f) Q) : T (joinM f g) Q := h
theorem T.cond {b : Bool} {x y : Option α} (h1 : b = true → T x Q) (h2 : b = false → T y Q) : T (bif b then x else y) Q := by
  cases b
  · exact h2 rfl
  · exact h1 rfl
theorem T.of {m : Option α} {a : α} (h : m = some a) (hq : Q a) : T m Q := ⟨a, h, hq⟩
theorem T.eq {m : Option α} {a : α} (h : T m (· = a)) : m = some a := by obtain ⟨b, h1, rfl⟩ := h; exact h1
theorem T.and {m : Option α} (h1 : T m P) (h2 : T m Q) : T m (fun a => P a ∧ Q a) := by
  obtain ⟨a, e, hp⟩ := h1; obtain ⟨b, e2, hq⟩ := h2
  rw [e] at e2; cases e2
  exact ⟨a, e, hp, hq⟩

theorem T.loop {f : σ → Option (Sum ρ σ)} {Q : ρ → Prop} (I : σ → Prop) (μ : σ → Nat) {s : σ} (h0 : I s)
    (step : ∀ s, I s → T (f s) fun o => match o with | .inl r => Q r | .inr s' => I s' ∧ μ s' < μ s) : T (loopC f s) Q := by
  obtain ⟨r, h1, h2⟩ := loopC_total I Q μ (fun s hs => by
    obtain ⟨o, h1, h2⟩ := step s hs
    match o, h1, h2 with
    | .inl r, h1, h2 => exact .inl ⟨r, h1, h2⟩
    | .inr s', h1, h2 => exact .inr ⟨s', h1, h2⟩) s h0
  exact ⟨r, h1, h2⟩

theorem letM_eq {β : Type} {x : α} {k : α → β} : letM x k = k x := rfl
theorem joinM_eq {f : β → Option α} {g : (β → Option α) → Option α} : joinM f g = g f := rfl

/-! ### lists -/
theorem idxM_eq {d : List α} {n : Int} (h0 : 0 ≤ n) (h1 : n.toNat < d.length) : idxM d n = some d[n.toNat] := by
  unfold idxM; rw [if_pos h0, List.getElem?_eq_getElem h1]
theorem idxM_nat {d : List α} {n : Nat} (h1 : n < d.length) : idxM d (n : Int) = some d[n] := by
  rw [idxM_eq (by omega) (by simpa using h1)]; simp
theorem slM_eq {d : List α} {lo hi : Int} (h0 : 0 ≤ lo) (h1 : lo ≤ hi) (h2 : hi ≤ d.length) : slM d lo hi = some ((d.take hi.toNat).drop lo.toNat) := by
  unfold slM; rw [if_pos ⟨h0, h1, h2⟩]
/-! ### integers -/
theorem wrap64 {x : Int} (h0 : -9223372036854775808 ≤ x) (h1 : x ≤ 9223372036854775807) : IntKind.wrap .i64 x = x := by
  simp [IntKind.wrap, IntKind.signed, IntKind.bits]; omega
theorem iadd64 {x y : Int} (h0 : -9223372036854775808 ≤ x + y) (h1 : x + y ≤ 9223372036854775807) : iadd .i64 x y = x + y := wrap64 h0 h1
theorem isub64 {x y : Int} (h0 : -9223372036854775808 ≤ x - y) (h1 : x - y ≤ 9223372036854775807) : isub .i64 x y = x - y := wrap64 h0 h1
end Go.Dc

set_option linter.unusedVariables false
set_option linter.unusedSimpArgs false
/-! More on loops and lists of the plain models. -/
namespace Go.Dc
variable {α β γ σ ρ τ : Type} {Q : ρ → Prop}

abbrev onO (Q : ρ → Prop) (I : σ → Prop) (o : Sum ρ σ) : Prop := match o with | .inl r => Q r | .inr s => I s

theorem T.joinP {S : Type} {f : S → Option ρ} {g : (S → Option ρ) → Option ρ} (P : S → Prop) (h1 : ∀ x, P x → T (f x) Q) (h2 : ∀ k : S → Option ρ, (∀ x, P x → T (k x) Q) → T (g k) Q) : T (joinM f g) Q := h2 f h1

theorem T.loopK {f : σ → Option (Sum ρ σ)} (n : Nat) (I : Nat → σ → Prop) {s : σ} (h0 : I 0 s)
    (step : ∀ k s, I k s → T (f s) (onO Q fun s' => k < n ∧ I (k + 1) s')) : T (loopC f s) Q := by
  suffices h : ∀ m k s, n + 1 - k ≤ m → I k s → T (loopC f s) Q from h _ 0 s (Nat.le_refl _) h0
  intro m
  induction m with
  | zero =>
    intro k s hm hs
    obtain ⟨o, h1, h2⟩ := step k s hs
    rw [loopC_eq, h1]
    match o, h2 with
    | .inl r, h2 => exact ⟨r, rfl, h2⟩
    | .inr s', h2 => have := h2.1; omega
  | succ m ih =>
    intro k s hm hs
    obtain ⟨o, h1, h2⟩ := step k s hs
    rw [loopC_eq, h1]
    match o, h2 with
    | .inl r, h2 => exact ⟨r, rfl, h2⟩
    | .inr s', h2 => exact ih (k + 1) s' (by have := h2.1; omega) h2.2

theorem some_bind {a : α} {f : α → Option β} : Option.bind (some a) f = f a := rfl
theorem sumK_inr {A B R : Type} {kr : A → Option R} {kb : B → Option R} {b : B} : sumK kr kb (.inr b) = kb b := rfl

/-! ### getD -/
theorem idxM_getD {d : List α} {z : α} {n : Nat} (h : n < d.length) : idxM d (n : Int) = some (d.getD n z) := by
  rw [idxM_nat h]; simp [List.getD, h]
theorem iadd1 {n : Nat} (h : n ≤ 4611686018427387904) : iadd .i64 (n : Int) 1 = ((n + 1 : Nat) : Int) := by
  rw [iadd64 (by omega) (by omega)]; rfl
end Go.Dc

/-! What slices.Delete and slices.Insert make of lists, and the steps that their walks share. -/
namespace Go.Dc
variable {P : Program} {E : Env} {N : Nat} {Γ : List (Nat × RP)} {Ω : List OB} {ty : TypeId}

theorem Rd.to {op : Op} {J : List Nat} {φ ψ : RP} (h : Rd P E N op ty Γ Ω J φ) (e : φ = ψ) : Rd P E N op ty Γ Ω J ψ := e ▸ h

section
variable {α : Type} {ρ : Rep α} {hv : Value} {S : List Nat} {d d' : List α} {j : Nat}
end

/-- s without s[i:j] -/
def delM {α : Type} (s : List α) (i j : Int) : Option (List α) := if 0 ≤ i ∧ i ≤ j ∧ j ≤ s.length then some (s.take i.toNat ++ s.drop j.toNat) else none
/-- s with x at i -/
def insM {α : Type} (bytes : Nat) (s : List α) (i : Int) (v : List α) : Option (List α) :=
  if 0 ≤ i ∧ i ≤ s.length ∧ v.length = 1 ∧ (s.length + 1) * bytes ≤ 140737488355328 then some (s.take i.toNat ++ v ++ s.drop i.toNat) else none
section
variable {α : Type} {s d : List α} {i j : Int} {bytes : Nat} {v r : List α} {z p : α} {n : Nat}
end
/-! a struct that holds slices of ours, and is only looked at -/
def UpO (Ω : List OB) : List RP → List RP → Prop
  | [], [] => True
  | φ :: φs, ψ :: ψs => (φ = ψ ∨ (∃ (α : Type) (ρ : Rep α) (hv : Value) (S : List Nat) (d : List α) (j : Nat), φ = pv hv ∧ Ω[j]? = some (oa ρ hv S d) ∧ ψ = slv ρ d) ∨
      ∃ (α : Type) (ρ : Rep α), φ = pv (.slice none 0 0) ∧ ψ = slv ρ []) ∧ UpO Ω φs ψs
  | _, _ => False
theorem UpO.all {a : Act} {w : World} (hs : Sat E N Γ Ω a w) : ∀ {φs ψs : List RP} {vs : List Value}, UpO Ω φs ψs → AllP (fr E Ω) w φs vs → AllP (fun _ => True) w ψs vs
  | [], [], [], _, _ => trivial
  | φ :: φs, ψ :: ψs, v :: vs, ⟨h1, h2⟩, ⟨h3, h4⟩ => by
    refine ⟨?_, UpO.all hs h2 h4⟩
    rcases h1 with rfl | ⟨α, ρ, hv, S, d, j, rfl, hj, rfl⟩ | ⟨α, ρ, rfl, rfl⟩
    · exact φ.mono (.refl fun _ _ _ => trivial) h3
    · rw [show v = hv from h3]; exact oa_sl (hs.objAt hj) (fun _ _ _ => trivial) (fun _ _ => trivial)
    · exact nil_sl h3
  | [], [], _ :: _, _, h => h.elim
  | [], _ :: _, _, h, _ => h.elim
  | _ :: _, [], _, h, _ => h.elim
  | _ :: _, _ :: _, [], _, h => h.elim
end Go.Dc
