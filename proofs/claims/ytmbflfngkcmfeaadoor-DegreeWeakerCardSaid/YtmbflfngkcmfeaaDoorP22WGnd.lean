/- Part P22W.Gnd of a proof: lemmas. -/
import Derived.Test.YtmbflfngkcmfeaaDoorP22WKeep
import Derived.Test.YtmbflfngkcmfeaaDoorDcGr
set_option linter.unusedVariables false
set_option linter.unusedSimpArgs false
/-! The grounded labelling of the reference. -/
namespace Go.Dc

def sf (l : List Int) : Nat → Int := fun i => l.getD i 0
theorem idx_sf {l : List Int} {i : Nat} (h : i < l.length) : idxM l (i : Int) = some (sf l i) := idxM_getD h
theorem sf_set {l : List Int} {i j : Nat} {x : Int} (h : i < l.length) : sf (l.set i x) j = if i = j then x else sf l j := getD_set h

/-- a graph, its attacks in whatever order -/
structure GV0 (g : T_api_Graph) : Prop where
  n0 : 0 ≤ g.N
  n1 : g.N ≤ 40
  v : ∀ p ∈ g.L, 0 ≤ p.From ∧ p.From < g.N ∧ 0 ≤ p.To ∧ p.To < g.N

def att (g : T_api_Graph) (a b : Int) : Prop := ∃ p ∈ g.L, p.From = a ∧ p.To = b

theorem nHas_plain {g : T_api_Graph} (hl : g.L.length ≤ 1000000) {a b : Int} : net_Has_m g a b = some (g.L.any fun p => p.From == a && p.To == b) := by
  unfold net_Has_m
  refine any_bind (fun i hi => ?_) ?_
  · simp only [net_Has_l1]
    rw [decide_eq_true (by omega : (i : Int) < g.L.length), idxM_nat hi]
    simp only [cond_true, some_bind]
    rw [iadd1 (by omega)]
    by_cases h1 : g.L[i].From == a
    · by_cases h2 : g.L[i].To == b <;> simp [h1, h2]
    · simp [h1]
  · simp only [net_Has_l1]
    rw [decide_eq_false (by omega)]; rfl

theorem has_iff {g : T_api_Graph} {a b : Int} : (g.L.any fun p => p.From == a && p.To == b) = true ↔ att g a b := by
  simp [att, List.any_eq_true]

/-- the labels behind some rounds -/
structure Lb (g : T_api_Graph) (r : Nat) (l : Nat → Int) : Prop where
  v : ∀ i : Nat, (i : Int) < g.N → l i = 1 ∨ l i = 2 ∨ l i = 3
  i1 : ∀ i : Nat, (i : Int) < g.N → l i = 1 → ∀ b : Nat, att g b i → l b = 2
  i2 : ∀ i : Nat, (i : Int) < g.N → l i = 1 → ∀ b : Nat, att g i b → l b = 2
  i3 : ∀ i : Nat, (i : Int) < g.N → l i = 2 → ∃ a : Nat, (a : Int) < g.N ∧ att g a i ∧ l a = 1
  i4 : ∀ i : Nat, (i : Int) < g.N → GrN (att g) r i → l i = 1
  i5 : ∀ i : Nat, (i : Int) < g.N → l i = 1 → Gr (att g) i

end Go.Dc
