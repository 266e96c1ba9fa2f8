/- Part Dc.Gr of a proof: lemmas. -/
import Derived.Test.YtcpkdjlfgfikcaaGreatDoorDcCut4
set_option linter.unusedVariables false
/-! The grounded set of an attack relation on the nodes 0 .. n - 1, by rounds. -/
namespace Go.Dc
variable {att : Int → Int → Prop}

def GrN (att : Int → Int → Prop) : Nat → Int → Prop
  | 0, _ => False
  | k + 1, a => ∀ b, att b a → ∃ c, att c b ∧ GrN att k c

def Gr (att : Int → Int → Prop) (a : Int) : Prop := ∃ k, GrN att k a

theorem GrN.succ : ∀ {k : Nat} {a : Int}, GrN att k a → GrN att (k + 1) a
  | 0, _, h => h.elim
  | k + 1, a, h => fun b hb => let ⟨c, h1, h2⟩ := h b hb; ⟨c, h1, h2.succ⟩

theorem GrN.mono {k m : Nat} {a : Int} (h : GrN att k a) (hm : k ≤ m) : GrN att m a := by
  induction hm with
  | refl => exact h
  | step _ ih => exact ih.succ

theorem countP_lt {α : Type} {p q : α → Bool} {l : List α} (h : ∀ x ∈ l, p x = true → q x = true) (hx : ∃ x ∈ l, q x = true ∧ p x = false) : l.countP p < l.countP q := by
  induction l with
  | nil => obtain ⟨x, hx, _⟩ := hx; cases hx
  | cons y l ih =>
    have h' : ∀ x ∈ l, p x = true → q x = true := fun x hx => h x (List.mem_cons_of_mem _ hx)
    have hle := List.countP_mono_left h'
    rw [List.countP_cons, List.countP_cons]
    obtain ⟨x, hx, h1, h2⟩ := hx
    rcases List.mem_cons.1 hx with e | e
    · subst e; simp [h1, h2]; omega
    · have := ih h' ⟨x, e, h1, h2⟩
      have h3 := h y (by simp)
      cases hp : p y <;> cases hq : q y <;> simp [hp, hq] at h3 ⊢ <;> omega

open Classical in
theorem Gr.bound {n : Nat} (hatt : ∀ a b, att a b → 0 ≤ a ∧ a < n) {a : Int} (h0 : 0 ≤ a) (h1 : a < n) (h : Gr att a) : GrN att n a := by
  let c : Nat → Nat := fun k => (List.range n).countP fun i : Nat => decide (GrN att k (i : Int))
  have key : ∀ k, (∃ j, j < k ∧ ∀ i : Int, 0 ≤ i → i < n → GrN att (j + 1) i → GrN att j i) ∨ k ≤ c k := by
    intro k
    induction k with
    | zero => exact .inr (Nat.zero_le _)
    | succ k ih =>
      rcases ih with ⟨j, hj, h⟩ | ih
      · exact .inl ⟨j, by omega, h⟩
      · by_cases hs : ∀ i : Int, 0 ≤ i → i < n → GrN att (k + 1) i → GrN att k i
        · exact .inl ⟨k, by omega, hs⟩
        · refine .inr ?_
          have : ∃ i : Int, 0 ≤ i ∧ i < n ∧ GrN att (k + 1) i ∧ ¬ GrN att k i := by
            refine Classical.byContradiction fun hn => hs fun i h0 h1 h2 => ?_
            exact Classical.byContradiction fun h3 => hn ⟨i, h0, h1, h2, h3⟩
          obtain ⟨i, h0, h1, h2, h3⟩ := this
          have hlt : c k < c (k + 1) := countP_lt (fun x _ hx => by simp at hx ⊢; exact hx.succ) ⟨i.toNat, List.mem_range.2 (by omega), by
            rw [show ((i.toNat : Nat) : Int) = i from by omega]; simp [h2, h3]⟩
          omega
  have hc : c (n + 1) ≤ n := by
    have := List.countP_le_length (p := fun i : Nat => decide (GrN att (n + 1) (i : Int))) (l := List.range n)
    simpa [c] using this
  rcases key (n + 1) with ⟨j, hj, hs⟩ | hk
  · have stable : ∀ m, ∀ i : Int, 0 ≤ i → i < n → GrN att m i → GrN att j i := by
      intro m
      induction m with
      | zero => intro i _ _ h; exact h.elim
      | succ m ih =>
        intro i h0 h1 h
        refine hs i h0 h1 fun b hb => ?_
        obtain ⟨c, h2, h3⟩ := h b hb
        have := hatt c b h2
        exact ⟨c, h2, ih c this.1 this.2 h3⟩
    obtain ⟨k, hk⟩ := h
    exact (stable k a h0 h1 hk).mono (by omega)
  · omega

/-- a node all of whose attackers are attacked by grounded ones is grounded -/
theorem Gr.mk {n : Nat} (hatt : ∀ a b, att a b → 0 ≤ a ∧ a < n) {a : Int} (h : ∀ b, att b a → ∃ c, att c b ∧ Gr att c) : Gr att a :=
  ⟨n + 1, fun b hb => let ⟨c, h1, h2⟩ := h b hb; have h3 := hatt c b h1; ⟨c, h1, h2.bound hatt h3.1 h3.2⟩⟩

theorem Gr.out {a : Int} (h : Gr att a) : ∀ b, att b a → ∃ c, att c b ∧ Gr att c := by
  obtain ⟨k, hk⟩ := h
  cases k with
  | zero => exact hk.elim
  | succ k => exact fun b hb => let ⟨c, h1, h2⟩ := hk b hb; ⟨c, h1, k, h2⟩
end Go.Dc
