/- Part P06.Maps of a proof: lemmas. -/
import Derived.Test.YtejhbimlekcllaaDoorDcMap
set_option linter.unusedVariables false
set_option linter.unusedSectionVars false
/-! A map that is filled: its keys. -/
namespace Go.Dc
variable {α β : Type} [DecidableEq α]

theorem mapIx_none {d : List (α × β)} {x : α} : mapIx d x = none ↔ x ∉ d.map (·.1) := by
  unfold mapIx
  rw [List.findIdx?_eq_none_iff]
  simp only [decide_eq_false_iff_not, List.mem_map, not_exists, not_and]
theorem mapIx_some {d : List (α × β)} {x : α} {i : Nat} (h : mapIx d x = some i) : (d.map (·.1))[i]? = some x := by
  unfold mapIx at h
  rw [List.findIdx?_eq_some_iff_getElem] at h
  obtain ⟨hlt, hp, _⟩ := h
  rw [List.getElem?_map, List.getElem?_eq_getElem hlt]
  simpa using hp
theorem mapPut_keys (d : List (α × β)) (x : α) (y : β) : (mapPut d x y).map (·.1) = if x ∈ d.map (·.1) then d.map (·.1) else d.map (·.1) ++ [x] := by
  unfold mapPut
  cases h : mapIx d x with
  | none => rw [if_neg (mapIx_none.1 h)]; simp
  | some i =>
    have h1 := mapIx_some h
    rw [if_pos (List.mem_of_getElem? h1), List.map_set]
    apply List.ext_getElem?
    intro n
    by_cases e : i = n
    · subst e
      rw [List.getElem?_set_self (List.getElem?_eq_some_iff.1 h1).1, h1]
    · rw [List.getElem?_set_ne e]
theorem mapHas_iff {d : List (α × β)} {x : α} : mapHas d x = decide (x ∈ d.map (·.1)) := by
  unfold mapHas
  cases h : mapIx d x with
  | none => rw [decide_eq_false (mapIx_none.1 h)]; rfl
  | some i => rw [decide_eq_true (List.mem_of_getElem? (mapIx_some h))]; rfl

/-- what we know of a map that has been filled with the keys of a list -/
structure Filled (d : List (α × β)) (l : List α) : Prop where
  mem : ∀ x, x ∈ d.map (·.1) ↔ x ∈ l
  nd : (d.map (·.1)).Nodup
  len : d.length ≤ l.length
  iff : d.length = l.length ↔ l.Nodup
theorem Filled.nil : Filled ([] : List (α × β)) [] := ⟨by simp, by simp, by simp, by simp⟩
theorem Filled.put {d : List (α × β)} {l : List α} (h : Filled d l) (x : α) (y : β) : Filled (mapPut d x y) (l ++ [x]) := by
  have hk := mapPut_keys d x y
  have hl : (mapPut d x y).length = ((mapPut d x y).map (·.1)).length := by simp
  by_cases c : x ∈ d.map (·.1)
  · rw [if_pos c] at hk
    have hx := (h.mem x).1 c
    rw [hk] at hl
    refine ⟨fun z => ?_, by rw [hk]; exact h.nd, by rw [hl]; have := h.len; simp; omega, ?_⟩
    · rw [hk, h.mem, List.mem_append, List.mem_singleton]
      exact ⟨.inl, fun q => q.elim id fun e => e ▸ hx⟩
    · rw [hl]
      have := h.len
      refine ⟨fun e => by simp at e; omega, fun e => absurd hx ?_⟩
      have := (List.nodup_append.1 e).2.2
      exact fun q => this x q x (by simp) rfl
  · rw [if_neg c] at hk
    have hx : x ∉ l := fun q => c ((h.mem x).2 q)
    rw [hk] at hl
    refine ⟨fun z => ?_, ?_, by rw [hl]; have := h.len; simp; omega, ?_⟩
    · rw [hk, List.mem_append, List.mem_append, h.mem]
    · rw [hk]
      exact List.nodup_append.2 ⟨h.nd, by simp, fun p hp q hq e => c (by simp at hq; rw [← hq, ← e]; exact hp)⟩
    · rw [hl, List.length_append, List.length_append, List.length_map]
      have := h.iff
      constructor
      · intro e
        have e2 : d.length = l.length := by simpa using e
        exact List.nodup_append.2 ⟨this.1 e2, by simp, fun p hp q hq e => hx (by simp at hq; rw [← hq, ← e]; exact hp)⟩
      · intro e
        rw [this.2 (List.nodup_append.1 e).1]
end Go.Dc
