/- Part P28C.Leading of a proof: lemmas. -/
import Derived.Test.YtodnndlcnignbaaP28CNet
import Derived.Test.YtodnndlcnignbaaP28CAwake
set_option linter.unusedVariables false
set_option linter.unusedSimpArgs false
/-! The leading part, and what a legal attack does. -/
namespace Go.Dc

def part (n : Nat) (b : Nat → Bool) : List Int := ((List.range n).filter b).map fun i : Nat => (i : Int)

theorem mem_part {n : Nat} {b : Nat → Bool} {x : Int} : x ∈ part n b ↔ ∃ i : Nat, i < n ∧ b i = true ∧ x = i := by
  simp only [part, List.mem_map, List.mem_filter, List.mem_range]
  constructor
  · rintro ⟨i, ⟨h1, h2⟩, h3⟩; exact ⟨i, h1, h2, h3.symm⟩
  · rintro ⟨i, h1, h2, h3⟩; exact ⟨i, ⟨h1, h2⟩, h3.symm⟩

theorem part_len {n : Nat} {b : Nat → Bool} : (part n b).length ≤ n := by
  have := List.length_filter_le b (List.range n)
  simpa [part] using this

theorem part_succ {n : Nat} {b : Nat → Bool} : part (n + 1) b = part n b ++ (bif b n then [(n : Int)] else []) := by
  unfold part
  rw [List.range_succ, List.filter_append, List.map_append]
  cases h : b n <;> simp [h]

theorem part_hd {n : Nat} {b : Nat → Bool} (hn : 1 ≤ n) (h0 : b 0 = true) : ∃ r, part n b = 0 :: r := by
  induction n with
  | zero => omega
  | succ n ih =>
    rw [part_succ]
    by_cases e : n = 0
    · subst e; exact ⟨[], by simp [part, h0]⟩
    · obtain ⟨r, hr⟩ := ih (by omega)
      rw [hr]; exact ⟨_, rfl⟩

theorem T_of {d : Dg} (hd : Dlg d) : ∃ tb, protocol_of_m d = some tb ∧ TabOk d tb := of_plain hd

theorem leg_acc {d : Dg} {s : Nat → Int} {b : Nat → Bool} {x : Mv} (hx : Leg d s b x) : Acc d s b x x := by
  have hx' := hx
  obtain ⟨t, p, _, _, _, _, _, e, _⟩ := hx'
  exact ⟨by rw [e], .inr (.inl ⟨by rw [e], hx, rfl⟩)⟩

theorem acc_kind2 {d : Dg} {s : Nat → Int} {b : Nat → Bool} {m x : Mv} (hk : m.Kind = 2) (h : Acc d s b m x) : x = m ∧ Leg d s b m := by
  rcases h.2 with ⟨h1, _⟩ | ⟨_, h2, h1⟩ | ⟨h1, _⟩
  · omega
  · exact ⟨h1, h2⟩
  · omega

theorem leg_kind {d : Dg} {s : Nat → Int} {b : Nat → Bool} {x : Mv} (hx : Leg d s b x) : x.Kind = 2 := by
  obtain ⟨t, p, _, _, _, _, _, e, _⟩ := hx
  rw [e]
end Go.Dc
