/- Part Dc.Cut4 of a proof: lemmas. -/
import Derived.Test.YtkcaadcoagimdaaDoorDcCut3
import Derived.Test.YtkcaadcoagimdaaDoorDcPlain2
/-! What slices.Delete and slices.Insert make of lists, and the steps that their walks share. -/
namespace Go.Dc
variable {P : Program} {E : Env} {N : Nat} {Γ : List (Nat × RP)} {Ω : List OB} {ty : TypeId}

theorem Rd.to {op : Op} {J : List Nat} {φ ψ : RP} (h : Rd P E N op ty Γ Ω J φ) (e : φ = ψ) : Rd P E N op ty Γ Ω J ψ := e ▸ h

section
variable {α : Type} {ρ : Rep α} {hv : Value} {S : List Nat} {d d' : List α} {j : Nat}
end

/-- s without s[i:j] -/
def delM {α : Type} (s : List α) (i j : Int) : Option (List α) := if 0 ≤ i ∧ i ≤ j ∧ j ≤ s.length then some (s.take i.toNat ++ s.drop j.toNat) else none
/-- s with x at i -/
def insM {α : Type} (bytes : Nat) (s : List α) (i : Int) (v : List α) : Option (List α) :=
  if 0 ≤ i ∧ i ≤ s.length ∧ v.length = 1 ∧ (s.length + 1) * bytes ≤ 140737488355328 then some (s.take i.toNat ++ v ++ s.drop i.toNat) else none
section
variable {α : Type} {s d : List α} {i j : Int} {bytes : Nat} {v r : List α} {z p : α} {n : Nat}
end
/-! a struct that holds slices of ours, and is only looked at -/
def UpO (Ω : List OB) : List RP → List RP → Prop
  | [], [] => True
  | φ :: φs, ψ :: ψs => (φ = ψ ∨ (∃ (α : Type) (ρ : Rep α) (hv : Value) (S : List Nat) (d : List α) (j : Nat), φ = pv hv ∧ Ω[j]? = some (oa ρ hv S d) ∧ ψ = slv ρ d) ∨
      ∃ (α : Type) (ρ : Rep α), φ = pv (.slice none 0 0) ∧ ψ = slv ρ []) ∧ UpO Ω φs ψs
  | _, _ => False
theorem UpO.all {a : Act} {w : World} (hs : Sat E N Γ Ω a w) : ∀ {φs ψs : List RP} {vs : List Value}, UpO Ω φs ψs → AllP (fr E Ω) w φs vs → AllP (fun _ => True) w ψs vs
  | [], [], [], _, _ => trivial
  | φ :: φs, ψ :: ψs, v :: vs, ⟨h1, h2⟩, ⟨h3, h4⟩ => by
    refine ⟨?_, UpO.all hs h2 h4⟩
    rcases h1 with rfl | ⟨α, ρ, hv, S, d, j, rfl, hj, rfl⟩ | ⟨α, ρ, rfl, rfl⟩
    · exact φ.mono (.refl fun _ _ _ => trivial) h3
    · rw [show v = hv from h3]; exact oa_sl (hs.objAt hj) (fun _ _ _ => trivial) (fun _ _ => trivial)
    · exact nil_sl h3
  | [], [], _ :: _, _, h => h.elim
  | [], _ :: _, _, h, _ => h.elim
  | _ :: _, [], _, h, _ => h.elim
  | _ :: _, _ :: _, [], _, h => h.elim
end Go.Dc
