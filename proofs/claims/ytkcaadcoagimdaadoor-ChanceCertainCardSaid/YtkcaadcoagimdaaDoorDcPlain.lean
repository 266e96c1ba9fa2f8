/- Part Dc.Plain of a proof: lemmas. -/
import Derived.Test.YtkcaadcoagimdaaDoorDcOps2
import Derived.Test.YtkcaadcoagimdaaDoorDcMem5
set_option linter.unusedVariables false
set_option linter.unusedSimpArgs false
/-! Reasoning about the plain models. -/
namespace Go.Dc

variable {α β γ σ ρ : Type} {P Q : α → Prop}

/-- the model answers, and the answer is of Q -/
def T (m : Option α) (Q : α → Prop) : Prop := ∃ r, m = some r ∧ Q r

theorem T.bind {m : Option α} {f : α → Option β} {Q : β → Prop} (h : T m P) (k : ∀ a, P a → T (f a) Q) : T (Option.bind m f) Q := by
  obtain ⟨a, rfl, ha⟩ := h
  exact k a ha
theorem T.ret {a : α} (h : Q a) : T (some a) Q := ⟨a, rfl, h⟩
theorem T.mono {m : Option α} (h : T m P) (k : ∀ a, P a → Q a) : T m Q := let ⟨a, h1, h2⟩ := h; ⟨a, h1, k a h2⟩
theorem T.letM {x : β} {k : β → Option α} (h : T (k x) Q) : T (letM x k) Q := h
theorem T.join {f : β → Option α} {g : (β → Option α) → Option α} (h : T (g f) Q) : T (joinM f g) Q := h
theorem T.cond {b : Bool} {x y : Option α} (h1 : b = true → T x Q) (h2 : b = false → T y Q) : T (bif b then x else y) Q := by
  cases b
  · exact h2 rfl
  · exact h1 rfl
theorem T.of {m : Option α} {a : α} (h : m = some a) (hq : Q a) : T m Q := ⟨a, h, hq⟩
theorem T.eq {m : Option α} {a : α} (h : T m (· = a)) : m = some a := by obtain ⟨b, h1, rfl⟩ := h; exact h1
theorem T.and {m : Option α} (h1 : T m P) (h2 : T m Q) : T m (fun a => P a ∧ Q a) := by
  obtain ⟨a, e, hp⟩ := h1; obtain ⟨b, e2, hq⟩ := h2
  rw [e] at e2; cases e2
  exact ⟨a, e, hp, hq⟩

theorem T.loop {f : σ → Option (Sum ρ σ)} {Q : ρ → Prop} (I : σ → Prop) (μ : σ → Nat) {s : σ} (h0 : I s)
    (step : ∀ s, I s → T (f s) fun o => match o with | .inl r => Q r | .inr s' => I s' ∧ μ s' < μ s) : T (loopC f s) Q := by
  obtain ⟨r, h1, h2⟩ := loopC_total I Q μ (fun s hs => by
    obtain ⟨o, h1, h2⟩ := step s hs
    match o, h1, h2 with
    | .inl r, h1, h2 => exact .inl ⟨r, h1, h2⟩
    | .inr s', h1, h2 => exact .inr ⟨s', h1, h2⟩) s h0
  exact ⟨r, h1, h2⟩

theorem letM_eq {β : Type} {x : α} {k : α → β} : letM x k = k x := rfl
theorem joinM_eq {f : β → Option α} {g : (β → Option α) → Option α} : joinM f g = g f := rfl

/-! ### lists -/
theorem idxM_eq {d : List α} {n : Int} (h0 : 0 ≤ n) (h1 : n.toNat < d.length) : idxM d n = some d[n.toNat] := by
  unfold idxM; rw [if_pos h0, List.getElem?_eq_getElem h1]
theorem idxM_nat {d : List α} {n : Nat} (h1 : n < d.length) : idxM d (n : Int) = some d[n] := by
  rw [idxM_eq (by omega) (by simpa using h1)]; simp
theorem slM_eq {d : List α} {lo hi : Int} (h0 : 0 ≤ lo) (h1 : lo ≤ hi) (h2 : hi ≤ d.length) : slM d lo hi = some ((d.take hi.toNat).drop lo.toNat) := by
  unfold slM; rw [if_pos ⟨h0, h1, h2⟩]
theorem appM_eq {b : Nat} {d e : List α} (h : (d.length + e.length) * b ≤ 140737488355328) : appM b d e = some (d ++ e) := by
  unfold appM; rw [if_pos h]
theorem mkM_eq {b : Nat} {z : α} {n : Int} (h0 : 0 ≤ n) (h : b * n.toNat ≤ 140737488355328) : mkM b z n = some (List.replicate n.toNat z) := by
  unfold mkM; rw [if_pos ⟨h0, h⟩]

/-! ### integers -/
theorem wrap64 {x : Int} (h0 : -9223372036854775808 ≤ x) (h1 : x ≤ 9223372036854775807) : IntKind.wrap .i64 x = x := by
  simp [IntKind.wrap, IntKind.signed, IntKind.bits]; omega
theorem iadd64 {x y : Int} (h0 : -9223372036854775808 ≤ x + y) (h1 : x + y ≤ 9223372036854775807) : iadd .i64 x y = x + y := wrap64 h0 h1
theorem isub64 {x y : Int} (h0 : -9223372036854775808 ≤ x - y) (h1 : x - y ≤ 9223372036854775807) : isub .i64 x y = x - y := wrap64 h0 h1
theorem imul64 {x y : Int} (h0 : -9223372036854775808 ≤ x * y) (h1 : x * y ≤ 9223372036854775807) : imul .i64 x y = x * y := wrap64 h0 h1
theorem irem_nn {k : IntKind} {x y : Int} (h0 : 0 ≤ x) : irem k x y = x % y := Int.tmod_eq_emod_of_nonneg h0
theorem iquo_nn {x y : Int} (h0 : 0 ≤ x) (h1 : 0 < y) (h2 : x ≤ 9223372036854775807) : iquo .i64 x y = x / y := by
  unfold iquo
  rw [Int.tdiv_eq_ediv_of_nonneg h0]
  have h3 : 0 ≤ x / y := Int.ediv_nonneg h0 (by omega)
  have h4 : x / y ≤ x := Int.ediv_le_self _ h0
  exact wrap64 (by omega) (by omega)
end Go.Dc
