/- Part Dc.Plain2 of a proof: lemmas. -/
import Derived.Test.YtkcaadcoagimdaaDoorDcPlain
set_option linter.unusedVariables false
set_option linter.unusedSimpArgs false
/-! More on loops and lists of the plain models. -/
namespace Go.Dc
variable {α β γ σ ρ τ : Type} {Q : ρ → Prop}

abbrev onO (Q : ρ → Prop) (I : σ → Prop) (o : Sum ρ σ) : Prop := match o with | .inl r => Q r | .inr s => I s

theorem T.loopM {f : σ → Option (Sum ρ σ)} (I : σ → Prop) (μ : σ → Nat) {s : σ} (h0 : I s)
    (step : ∀ s, I s → T (f s) (onO Q fun s' => I s' ∧ μ s' < μ s)) : T (loopC f s) Q :=
  T.loop I μ h0 fun s hs => (step s hs).mono fun o ho => by
    match o, ho with
    | .inl r, h => exact h
    | .inr s', h => exact h

theorem T.joinP {S : Type} {f : S → Option ρ} {g : (S → Option ρ) → Option ρ} (P : S → Prop) (h1 : ∀ x, P x → T (f x) Q) (h2 : ∀ k : S → Option ρ, (∀ x, P x → T (k x) Q) → T (g k) Q) : T (joinM f g) Q := h2 f h1

theorem T.loopK {f : σ → Option (Sum ρ σ)} (n : Nat) (I : Nat → σ → Prop) {s : σ} (h0 : I 0 s)
    (step : ∀ k s, I k s → T (f s) (onO Q fun s' => k < n ∧ I (k + 1) s')) : T (loopC f s) Q := by
  suffices h : ∀ m k s, n + 1 - k ≤ m → I k s → T (loopC f s) Q from h _ 0 s (Nat.le_refl _) h0
  intro m
  induction m with
  | zero =>
    intro k s hm hs
    obtain ⟨o, h1, h2⟩ := step k s hs
    rw [loopC_eq, h1]
    match o, h2 with
    | .inl r, h2 => exact ⟨r, rfl, h2⟩
    | .inr s', h2 => have := h2.1; omega
  | succ m ih =>
    intro k s hm hs
    obtain ⟨o, h1, h2⟩ := step k s hs
    rw [loopC_eq, h1]
    match o, h2 with
    | .inl r, h2 => exact ⟨r, rfl, h2⟩
    | .inr s', h2 => exact ih (k + 1) s' (by have := h2.1; omega) h2.2

/-- a loop that looks for an element -/
theorem find_loop {l : List α} {f : Int → Option (Sum (Sum ρ Unit) Int)} (g : α → Option ρ)
    (h : ∀ i (hi : i < l.length), f (i : Int) = some (match g l[i] with | some r => .inl (.inl r) | none => .inr ((i : Int) + 1)))
    (hend : f (l.length : Int) = some (.inl (.inr ()))) : loopC f 0 = some (match l.findSome? g with | some r => .inl r | none => .inr ()) := by
  suffices hh : ∀ m i, l.length - i ≤ m → i ≤ l.length → loopC f (i : Int) = some (match (l.drop i).findSome? g with | some r => .inl r | none => .inr ()) by
    simpa using hh _ 0 (Nat.le_refl _) (Nat.zero_le _)
  intro m
  induction m with
  | zero =>
    intro i h1 h2
    have e : i = l.length := by omega
    subst e
    rw [loopC_eq, hend]; simp
  | succ m ih =>
    intro i h1 h2
    by_cases e : i = l.length
    · subst e; rw [loopC_eq, hend]; simp
    · have hi : i < l.length := by omega
      rw [loopC_eq, h i hi, List.drop_eq_getElem_cons hi, List.findSome?_cons]
      cases hg : g l[i] with
      | some r => rfl
      | none =>
        simp only [Option.bind_some]
        exact ih (i + 1) (by omega) (by omega)

theorem any_loop {l : List α} {f : Int → Option (Sum (Sum ρ Unit) Int)} (p : α → Bool) (b : ρ)
    (h : ∀ i (hi : i < l.length), f (i : Int) = some (bif p l[i] then .inl (.inl b) else .inr ((i : Int) + 1)))
    (hend : f (l.length : Int) = some (.inl (.inr ()))) : loopC f 0 = some (bif l.any p then .inl b else .inr ()) := by
  rw [find_loop (fun x => bif p x then some b else none) (fun i hi => by rw [h i hi]; cases p l[i] <;> rfl) hend]
  congr 1
  clear h hend
  induction l with
  | nil => rfl
  | cons x l ih => cases hp : p x <;> simp [List.findSome?_cons, hp, ih]

theorem some_bind {a : α} {f : α → Option β} : Option.bind (some a) f = f a := rfl
theorem sumK_inl {A B R : Type} {kr : A → Option R} {kb : B → Option R} {a : A} : sumK kr kb (.inl a) = kr a := rfl
theorem sumK_inr {A B R : Type} {kr : A → Option R} {kb : B → Option R} {b : B} : sumK kr kb (.inr b) = kb b := rfl

theorem any_bind {l : List α} {p : α → Bool} {f : Int → Option (Sum (Sum Bool Unit) Int)} 
    (h : ∀ i (hi : i < l.length), f (i : Int) = some (bif p l[i] then .inl (.inl true) else .inr ((i : Int) + 1)))
    (hend : f (l.length : Int) = some (.inl (.inr ()))) : (loopC f 0).bind (sumK (fun a : Bool => some a) fun _ : Unit => some false) = some (l.any p) := by
  rw [any_loop p true h hend]
  cases l.any p <;> rfl

/-! ### getD -/
theorem idxM_getD {d : List α} {z : α} {n : Nat} (h : n < d.length) : idxM d (n : Int) = some (d.getD n z) := by
  rw [idxM_nat h]; simp [List.getD, h]
theorem getD_set {d : List α} {i j : Nat} {x z : α} (hi : i < d.length) : (d.set i x).getD j z = if i = j then x else d.getD j z := by
  by_cases e : i = j
  · subst e; simp [List.getD, hi]
  · simp [List.getD, List.getElem?_set_ne e, e]
theorem getD_rep {n i : Nat} {x : α} : (List.replicate n x).getD i x = x := by
  by_cases h : i < n
  · simp [List.getD, h]
  · simp [List.getD, h]
theorem mkM_T {b : Nat} {z : α} {n : Nat} (h : b * n ≤ 140737488355328) : mkM b z (n : Int) = some (List.replicate n z) := by
  rw [mkM_eq (by omega) (by simpa using h)]; simp
theorem iadd1 {n : Nat} (h : n ≤ 4611686018427387904) : iadd .i64 (n : Int) 1 = ((n + 1 : Nat) : Int) := by
  rw [iadd64 (by omega) (by omega)]; rfl
theorem isub1 {n : Nat} (h : n ≤ 4611686018427387904) : isub .i64 (n : Int) 1 = (n : Int) - 1 := isub64 (by omega) (by omega)
end Go.Dc
