/- Part Dc.Cut4 of a proof: lemmas. -/
import Derived.Test.YtnbclhmodbmdhaaDcCut3
import Derived.Test.YtnbclhmodbmdhaaDcPlain2
/-! What slices.Delete and slices.Insert make of lists, and the steps that their walks share. -/
namespace Go.Dc
variable {P : Program} {E : Env} {N : Nat} {Γ : List (Nat × RP)} {Ω : List OB} {ty : TypeId}

theorem Rd.to {op : Op} {J : List Nat} {φ ψ : RP} (h : Rd P E N op ty Γ Ω J φ) (e : φ = ψ) : Rd P E N op ty Γ Ω J ψ := e ▸ h

section
variable {α : Type} {ρ : Rep α} {hv : Value} {S : List Nat} {d d' : List α} {j : Nat}
theorem odata (hj : Ω[j]? = some (oa ρ hv S d)) (e : d = d') : ∀ a w, Sat E N Γ Ω a w → Sat E N Γ (Ω.set j (oa ρ hv S d')) a w := by
  subst e
  intro a w hs
  rw [set_same hj]; exact hs
end

/-- s without s[i:j] -/
def delM {α : Type} (s : List α) (i j : Int) : Option (List α) := if 0 ≤ i ∧ i ≤ j ∧ j ≤ s.length then some (s.take i.toNat ++ s.drop j.toNat) else none
/-- s with x at i -/
def insM {α : Type} (bytes : Nat) (s : List α) (i : Int) (v : List α) : Option (List α) :=
  if 0 ≤ i ∧ i ≤ s.length ∧ v.length = 1 ∧ (s.length + 1) * bytes ≤ 140737488355328 then some (s.take i.toNat ++ v ++ s.drop i.toNat) else none
section
variable {α : Type} {s d : List α} {i j : Int} {bytes : Nat} {v r : List α} {z p : α} {n : Nat}
theorem delM_some (h : delM s i j = some r) : 0 ≤ i ∧ i ≤ j ∧ j ≤ s.length ∧ r = s.take i.toNat ++ s.drop j.toNat := by
  unfold delM at h
  split at h
  · rename_i hh; exact ⟨hh.1, hh.2.1, hh.2.2, by simpa using h.symm⟩
  · cases h
theorem insM_some (h : insM bytes s i v = some r) : ∃ p, v = [p] ∧ 0 ≤ i ∧ i ≤ s.length ∧ (s.length + 1) * bytes ≤ 140737488355328 ∧ r = s.take i.toNat ++ p :: s.drop i.toNat := by
  unfold insM at h
  split at h
  · rename_i hh
    obtain ⟨h1, h2, h3, h4⟩ := hh
    obtain ⟨p, rfl⟩ := List.length_eq_one_iff.1 h3
    exact ⟨p, rfl, h1, h2, h4, by simpa using h.symm⟩
  · cases h
theorem slM0 {k : Int} {d : List α} (h0 : 0 ≤ k) (h1 : k ≤ d.length) : slM d 0 k = some ((d.take k.toNat).drop (0 : Int).toNat) := slM_eq (Int.le_refl _) h0 h1
theorem slME {k : Int} {d : List α} (h0 : 0 ≤ k) (h1 : k ≤ d.length) : slM d k d.length = some ((d.take (d.length : Int).toNat).drop k.toNat) := slM_eq h0 h1 (Int.le_refl _)
theorem del_same (h : i = j) : s = s.take i.toNat ++ s.drop j.toNat := by rw [h, List.take_append_drop]
theorem del_len {a b : Nat} (h1 : a ≤ b) (h2 : b ≤ s.length) : (s.take a ++ s.drop b ++ s.drop (a + (s.length - b))).length = s.length := by simp; omega
theorem del_cut {a b : Nat} (h1 : a ≤ b) (h2 : b ≤ s.length) (X Y : List α) : ((s.take a ++ s.drop b ++ X).take (a + (s.length - b)) ++ Y).take (a + (s.length - b)) = s.take a ++ s.drop b := by
  have hl : (s.take a ++ s.drop b).length = a + (s.length - b) := by simp; omega
  rw [← hl, List.take_left, List.take_left]
theorem del_cut2 {a b : Nat} {X Y Z : List α} (h1 : a ≤ b) (h2 : b ≤ s.length) : ((s.take a ++ s.drop b ++ X).take (a + (s.length - b)) ++ Y ++ Z).take (a + (s.length - b)) = s.take a ++ s.drop b := by
  rw [List.append_assoc _ Y Z]; exact del_cut h1 h2 X (Y ++ Z)
theorem ins_end (h : i = (s.length : Int)) : s ++ [p] = s.take i.toNat ++ p :: s.drop i.toNat := by rw [h]; simp
theorem ins_new : s.take n ++ List.replicate ((s.length + 1 - n : Nat) : Int).toNat z = s.take n ++ List.replicate (s.length + 1 - n) z := by simp
theorem ins_newlen (h : n ≤ s.length) : (s.take n ++ List.replicate (s.length + 1 - n) z).length = s.length + 1 := by simp; omega
theorem cut_at (h : n ≤ s.length) : ∃ A B, s = A ++ B ∧ A.length = n := ⟨s.take n, s.drop n, by simp, by simp; omega⟩
theorem take1 {k : Nat} (h : 1 ≤ k) : [p].take k = [p] := List.take_of_length_le (by simpa using h)
theorem ins_put (h : n < s.length) (L : Nat) (hL : L = s.length + 1) :
    (s.take n ++ List.replicate (s.length + 1 - n) z).take n ++ [p].take (L - n) ++ (s.take n ++ List.replicate (s.length + 1 - n) z).drop (n + min [p].length (L - n)) = s.take n ++ p :: List.replicate (s.length - n) z := by
  subst hL
  obtain ⟨A, B, rfl, rfl⟩ := cut_at (s := s) (n := n) (by omega)
  rw [take1 (by omega), List.length_singleton, Nat.min_eq_left (by omega), List.take_left, List.take_left, ← List.drop_drop, List.drop_left]
  simp
  omega
theorem ins_putlen (h : n < s.length) : (s.take n ++ p :: List.replicate (s.length - n) z).length = s.length + 1 := by simp; omega
theorem ins_rest (h : n < s.length) (L : Nat) (hL : L = s.length + 1) :
    (s.take n ++ p :: List.replicate (s.length - n) z).take (n + 1) ++ ((s.take s.length).drop n).take (L - (n + 1)) ++ (s.take n ++ p :: List.replicate (s.length - n) z).drop (n + 1 + min ((s.take s.length).drop n).length (L - (n + 1))) = s.take n ++ p :: s.drop n := by
  subst hL
  obtain ⟨A, B, rfl, rfl⟩ := cut_at (s := s) (n := n) (by omega)
  have e1 : (A ++ p :: List.replicate ((A ++ B).length - A.length) z) = (A ++ [p]) ++ List.replicate B.length z := by simp
  have e2 : A.length + 1 = (A ++ [p]).length := by simp
  have e3 : (A ++ B).length + 1 - (A ++ [p]).length = B.length := by simp
  rw [List.take_length, List.drop_left, List.take_left, e1, e2, List.take_left, e3, List.take_length, Nat.min_self, ← List.drop_drop, List.drop_left]
  simp
theorem ins_shlen (h : n < s.length) : (s.take (n + 1) ++ s.drop n).length = s.length + 1 := by simp; omega
theorem ins_fin (h : n < s.length) (L : Nat) (hL : L = s.length + 1) :
    (s.take (n + 1) ++ s.drop n).take n ++ [p].take (L - n) ++ (s.take (n + 1) ++ s.drop n).drop (n + min [p].length (L - n)) = s.take n ++ p :: s.drop n := by
  subst hL
  have e1 : (s.take (n + 1) ++ s.drop n).take n = s.take n := by
    rw [List.take_append_of_le_length (by rw [List.length_take]; omega), List.take_take, Nat.min_eq_left (by omega)]
  have e2 : n + 1 = (s.take (n + 1)).length := by rw [List.length_take]; omega
  have e3 : (s.take (n + 1) ++ s.drop n).drop (n + 1) = s.drop n := by
    conv => lhs; rw [show (s.take (n + 1) ++ s.drop n).drop (n + 1) = (s.take (n + 1) ++ s.drop n).drop (s.take (n + 1)).length from by rw [← e2]]
    exact List.drop_left
  rw [e1, take1 (by omega), List.length_singleton, Nat.min_eq_left (by omega), e3]
  simp
theorem iadd_1 (h : (s.length + 1) * bytes ≤ 140737488355328) (hb : 0 < bytes) (hn : n ≤ s.length) : iadd .i64 (n : Int) 1 = ((n + 1 : Nat) : Int) := by
  have : s.length + 1 ≤ (s.length + 1) * bytes := Nat.le_mul_of_pos_right _ hb
  exact iadd1 (by omega)
theorem isub_1 (h : (s.length + 1) * bytes ≤ 140737488355328) (hb : 0 < bytes) (h0 : 0 ≤ i) (h1 : i ≤ s.length) : isub .i64 ((s.length + 1 : Nat) : Int) i = ((s.length + 1 - i.toNat : Nat) : Int) := by
  have : s.length + 1 ≤ (s.length + 1) * bytes := Nat.le_mul_of_pos_right _ hb
  rw [isub64 (by omega) (by omega)]; omega
end
/-! a struct that holds slices of ours, and is only looked at -/
def UpO (Ω : List OB) : List RP → List RP → Prop
  | [], [] => True
  | φ :: φs, ψ :: ψs => (φ = ψ ∨ (∃ (α : Type) (ρ : Rep α) (hv : Value) (S : List Nat) (d : List α) (j : Nat), φ = pv hv ∧ Ω[j]? = some (oa ρ hv S d) ∧ ψ = slv ρ d) ∨
      ∃ (α : Type) (ρ : Rep α), φ = pv (.slice none 0 0) ∧ ψ = slv ρ []) ∧ UpO Ω φs ψs
  | _, _ => False
theorem UpO.all {a : Act} {w : World} (hs : Sat E N Γ Ω a w) : ∀ {φs ψs : List RP} {vs : List Value}, UpO Ω φs ψs → AllP (fr E Ω) w φs vs → AllP (fun _ => True) w ψs vs
  | [], [], [], _, _ => trivial
  | φ :: φs, ψ :: ψs, v :: vs, ⟨h1, h2⟩, ⟨h3, h4⟩ => by
    refine ⟨?_, UpO.all hs h2 h4⟩
    rcases h1 with rfl | ⟨α, ρ, hv, S, d, j, rfl, hj, rfl⟩ | ⟨α, ρ, rfl, rfl⟩
    · exact φ.mono (.refl fun _ _ _ => trivial) h3
    · rw [show v = hv from h3]; exact oa_sl (hs.objAt hj) (fun _ _ _ => trivial) (fun _ _ => trivial)
    · exact nil_sl h3
  | [], [], _ :: _, _, h => h.elim
  | [], _ :: _, _, h, _ => h.elim
  | _ :: _, [], _, h, _ => h.elim
  | _ :: _, _ :: _, [], _, h => h.elim
theorem argAG {φs ψs : List RP} {x : Operand} (h : lkO Γ x = some (ag φs)) (hu : UpO Ω φs ψs) : ArgOk E N Γ Ω allF x (ag ψs) := fun a w hs => by
  obtain ⟨cs, e, h1⟩ := hs.op h
  exact ⟨cs, e, hu.all hs h1⟩
end Go.Dc
