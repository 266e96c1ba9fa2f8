/- Part Dc.Arr of a proof: lemmas. -/
import Derived.Test.YtejhbimlekcllaaDoorDcConv
/-! Arrays. -/
namespace Go.Dc
variable {P : Program} {E : Env} {N : Nat} {Γ : List (Nat × RP)} {Ω : List OB} {ty : TypeId} {α : Type} {ρ : Rep α}

/-- the element j of an array behind a store of v at n -/
def aset {α : Type} (n j : Int) (v e : α) : α := bif n == j then v else e

/-! a struct that holds owned slices is stored -/
def AtO (Ω : List OB) : List RP → Prop
  | [] => True
  | φ :: r => (φ.At ∨ ∃ (α : Type) (ρ : Rep α) (hv : Value) (S : List Nat) (d : List α) (j : Nat), φ = pv hv ∧ Ω[j]? = some (oa ρ hv S d)) ∧ AtO Ω r

theorem AtO.all {a : Act} {w : World} (hs : Sat E N Γ Ω a w) : ∀ {φs : List RP} {cs : List Value}, AtO Ω φs → AllP (fr E Ω) w φs cs → ∀ v ∈ cs, v.oneCell' = true
  | [], [], _, _, v, hv => by simp at hv
  | φ :: _, u :: _, ⟨h0, h0'⟩, ⟨h1, h2⟩, v, hv => by
    rcases List.mem_cons.1 hv with e | e
    · rw [e]
      rcases h0 with h0 | ⟨α, ρ, hv, S, d, j, rfl, hj⟩
      · exact h0 h1
      · obtain ⟨ad, c, rfl, _⟩ := hs.objAt hj
        rw [show u = _ from h1]; rfl
    · exact AtO.all hs h0' h2 v e
  | [], _ :: _, _, h, _, _ => h.elim
  | _ :: _, [], _, h, _, _ => h.elim

theorem part_agO {ψs : List RP} {x : Operand} (h : lkO Γ x = some (ag ψs)) (hat : AtO Ω ψs) : PartOk E N Γ Ω x ψs := fun a w hs => by
  obtain ⟨cs, h1, h2⟩ := hs.op h
  rw [h1]
  exact ⟨h2, hat.all hs h2⟩
end Go.Dc
