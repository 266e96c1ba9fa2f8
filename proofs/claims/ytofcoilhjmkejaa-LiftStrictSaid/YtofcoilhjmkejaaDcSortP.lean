/- Part Dc.SortP of a proof: lemmas. -/
import Derived.Shelf.SlIterI.Sorted
import Derived.Shelf.SortM.Plain
import Derived.Shelf.SortM.SortNone
import Derived.Ground.GgzProg
import Derived.Ground.SlgmProg
import Derived.RangeFuncBox
import Derived.RangeFuncLeaves
import Derived.Test.YtofcoilhjmkejaaDcMem7
import Derived.Shelf.Slices.CompactI
import Derived.Test.YtofcoilhjmkejaaDcCut4
import Derived.Test.YtofcoilhjmkejaaDcFuel
set_option linter.unusedVariables false
/-! slices.Sorted(slices.Values(s)) and slices.Compact: the shelf's contracts in our words. -/
namespace Go.Dc
open Go.Proofs Go.RowKit Go.Maps Go.Sort Go.Shelf
variable {P : Program} {ρ : Ren}

/-- an iterator that gives zs to every loop whose rounds keep what lay in w -/
def GivesB (F : Fence) (n : Nat) (P : Program) (g : Nat) (lb : Array Value) (zs : List Int) (w : World) : Prop :=
  ∀ (l : Nat) (J : List Int → World → Prop) (W : World), Below w.heap.size w W → (∀ pre W1, J pre W1 → Below w.heap.size w W1) →
    (∀ pre x W1, J pre W1 → pre.length < zs.length → YieldAt F (n - 1) P l #[encZ x] W1 fun e W' => e = .returned (.bool true) ∧ J (pre ++ [x]) W' ∧ KeepsWalks W1 W') →
    J [] W → CallsIn F n P g (#[.func (.yield l) #[] #[]] ++ lb) W fun e W' => (∃ v, e = .returned v) ∧ J zs W'

end Go.Dc

set_option linter.unusedVariables false
/-! slices.Sorted(slices.Values(s)) and slices.Compact as contracts of ours. -/
namespace Go.Dc
open Go.Proofs Go.RowKit Go.Maps Go.Sort Go.Shelf
variable {P : Program} {ρ : Ren}

theorem slH_int {F : FP} {w : World} {cells : Array Value} {off : Nat} {d : List Int} {k : IntKind} : SlH (rI k) F w cells off d ↔ ∀ i (hi : i < d.length), cells[off + i]? = some (.int k d[i]) := by
  constructor
  · intro h i hi
    obtain ⟨es, h1, h2⟩ := h i hi
    have := h2 0 (by simp [rI, one])
    simp only [rI, one, Nat.mul_one, Nat.add_zero] at this h1
    match es, h1 with
    | [u], ⟨hu, _⟩ => rw [this]; simp; exact hu
  · intro h i hi
    refine ⟨[.int k d[i]], ⟨rfl, trivial⟩, fun j hj => ?_⟩
    have hj0 : j = 0 := by simp [rI, one] at hj; omega
    subst hj0
    simpa [rI, one] using h i hi

theorem cell_of_block {w : World} {b o : Nat} {cells : Array Value} {ty : TypeId} {fz : Nat × Nat} (h : w.heap[b]? = some (.cells cells ty fz)) : w.cell? ⟨b, o, none⟩ = cells[o]? := by
  simp [World.cell?, h]
theorem unfrozen_of_block {w : World} {b o : Nat} {cells : Array Value} {ty : TypeId} (h : w.heap[b]? = some (.cells cells ty (0, 0))) : w.frozen? ⟨b, o, none⟩ = false := by
  simp [World.frozen?, h]

def ofInt : Value → Int | .int _ q => q | _ => 0

/-- what a slice value holds, in blocks that lie already -/
def IntsAt (w : World) (sv : Value) (zs : List Int) : Prop :=
  (∃ a c, sv = .slice a 0 c ∧ zs = []) ∨ ∃ b off cap, sv = .slice (some ⟨b, off, none⟩) zs.length cap ∧ b < w.heap.size ∧ ∀ j, j < zs.length → w.cell? ⟨b, off + j, none⟩ = some (.int .i64 (zs[j]?.getD 0))

def sortedM (l : List Int) : Option (List Int) := if l.length ≤ 1000000000000 then some (l.mergeSort (fun x y => decide (x ≤ y))) else none
def compactM (l : List Int) : Option (List Int) := if l.length ≤ 1000000000000 then some (Lib.compact l) else none

theorem compact_len (zs : List Int) : (Lib.compact zs).length ≤ zs.length := by
  unfold Lib.compact Lib.compactUpTo
  rw [List.length_map]
  exact Nat.le_trans (List.length_filter_le _ _) (by simp)

theorem compact_fn {fS : Nat}
    (hC : ∀ (w : World) (blk off cap : Nat) (zs : List Int), Holds (Value.int .i64) w blk off zs.toArray → zs.length ≤ 9223372036854775807 → zs.length ≤ cap →
      Calls P fS #[.slice (some ⟨blk, off, none⟩) zs.length cap] w fun e w' => e = .returned (.slice (some ⟨blk, off, none⟩) (Lib.compact zs).length cap) ∧ ∃ q, w' = putRow (Value.int .i64) (Sort.ahead w q) blk off (Lib.compact zs ++ List.replicate (zs.length - (Lib.compact zs).length) 0).toArray)
    (hE : ∀ (a : Option Addr) (cap : Nat) (w : World), Calls P fS #[.slice a 0 cap] w fun e w' => e = .returned (.slice a 0 cap) ∧ w' = w)
    (hlen : ∀ zs : List Int, (Lib.compact zs).length ≤ zs.length)
    {l r : List Int} (hm : compactM l = some r) {h : Value × List Nat} :
    FnOk P fS [pv h.1] [oa (rI .i64) h.1 h.2 l] (fun x : Value × List Nat => [pv x.1]) (fun x : Value × List Nat => [oa (rI .i64) x.1 x.2 r]) := by
  intro F w vs hF hmf hbd hnd hob hargs
  unfold compactM at hm
  have hl : l.length ≤ 1000000000000 := Classical.byContradiction fun hx => by rw [if_neg hx] at hm; cases hm
  rw [if_pos hl] at hm
  cases hm
  match vs, hargs with
  | [v0], ⟨hv0, _⟩ =>
    have hv0' : v0 = h.1 := hv0
    subst hv0'
    obtain ⟨hv, S⟩ := h
    obtain ⟨a, c, e1, hc, hat⟩ := hob (oa (rI .i64) hv S l) (by simp)
    simp only at e1 hat ⊢
    subst e1
    rcases hat with ⟨rfl, rfl, rfl⟩ | ⟨b, off, cells, ty, rfl, rfl, hb, hsz, hH⟩
    · have : l = [] := List.eq_nil_of_length_eq_zero (by omega)
      subst this
      refine Calls.mono (hE none 0 w) ?_
      rintro e' w' ⟨rfl, rfl⟩
      refine ⟨(.slice none 0 0, []), _, rfl, .refl _ _, by simp [ow, oa], by simp [ow, oa], fun o ho => ?_, rfl⟩
      rw [List.mem_singleton.1 ho]
      exact ⟨none, 0, rfl, by simp [Lib.compact, Lib.compactUpTo], .inl ⟨rfl, rfl, rfl⟩⟩
    · have hI := slH_int.1 hH
      have hsz' : off + c ≤ cells.size := by simpa [rI, one] using hsz
      have hHo : Holds (Value.int .i64) w b off l.toArray := fun j hj => by
        have hj' : j < l.length := by simpa using hj
        refine ⟨?_, unfrozen_of_block hb⟩
        rw [cell_of_block hb, hI j hj']
        simp [getElem!_pos, hj']
      refine Calls.mono (hC w b off c l hHo (by omega) hc) ?_
      rintro e' w' ⟨rfl, q, rfl⟩
      have hbl := size_of_get hb
      have hheap : ∀ k, (putRow (Value.int .i64) (Sort.ahead w q) b off (Lib.compact l ++ List.replicate (l.length - (Lib.compact l).length) 0).toArray).heap[k]? = if k = b then some (.cells (putCells (Value.int .i64) off (Lib.compact l ++ List.replicate (l.length - (Lib.compact l).length) 0).toArray cells) ty (0, 0)) else w.heap[k]? := fun k => by
        unfold putRow mapBlock Sort.ahead
        simp only [Array.getElem?_modify]
        by_cases e : b = k
        · subst e; rw [if_pos rfl, if_pos rfl, hb]; rfl
        · rw [if_neg e, if_neg (fun h => e h.symm)]
      have hcl := hlen l
      refine ⟨(.slice (some ⟨b, off, none⟩) (Lib.compact l).length c, [b]), _, rfl, ⟨rfl, rfl, rfl, by simp [putRow, mapBlock, Sort.ahead], fun k hk hk' => ?_⟩, fun k hk' => ?_, by simp [ow, oa], fun o ho => ?_, rfl⟩
      · rw [hheap, if_neg (fun e => hk' (by simp [ow, oa, e]))]
      · have : k = b := by simpa [ow, oa] using hk'
        subst this
        exact ⟨by simp [putRow, mapBlock, Sort.ahead]; exact hbl, .inr (by simp [ow, oa])⟩
      · rw [List.mem_singleton.1 ho]
        refine ⟨_, c, rfl, by omega, .inr ⟨b, off, _, ty, rfl, rfl, by rw [hheap, if_pos rfl], ?_, slH_int.2 fun i hi => ?_⟩⟩
        · simp only [putCells, Array.size_mapIdx]; exact hsz
        · have hi2 : off + i < cells.size := by omega
          simp only [putCells, Array.getElem?_mapIdx, Array.getElem?_eq_getElem hi2, Option.map_some]
          rw [if_pos (by simp; omega)]
          have : off + i - off = i := by omega
          rw [this]
          have hi3 : i < (Lib.compact l ++ List.replicate (l.length - (Lib.compact l).length) (0 : Int)).length := by simp; omega
          rw [getElem!_pos _ _ (by simpa using hi3)]
          simp [List.getElem_append_left hi]
/-- slices.Sort of a slice that is ours -/
theorem sort_fn {fS : Nat}
    (hC : ∀ (w : World) (blk off cap : Nat) (zs : List Int), Holds (Value.int .i64) w blk off zs.toArray → blk < w.heap.size → zs.length < 4611686018427387904 →
      Calls P fS #[.slice (some ⟨blk, off, none⟩) zs.length cap] w fun e w' => e = .returned (.tuple #[]) ∧ ∃ n os, w' = grow (putRow (Value.int .i64) (Sort.ahead w n) blk off (zs.mergeSort fun x y => decide (x ≤ y)).toArray) os)
    (hE : ∀ (p : Option Addr) (cap : Nat) (w : World), Calls P fS #[.slice p 0 cap] w fun e w' => e = .returned (.tuple #[]) ∧ w' = w)
    {l r : List Int} (hm : sortedM l = some r) {h : Value × List Nat} :
    FnOk P fS [pv h.1] [oa (rI .i64) h.1 h.2 l] (fun _ : Unit => []) (fun _ : Unit => [oa (rI .i64) h.1 h.2 r]) := by
  intro F w vs hF hmf hbd hnd hob hargs
  unfold sortedM at hm
  have hl : l.length ≤ 1000000000000 := Classical.byContradiction fun hx => by rw [if_neg hx] at hm; cases hm
  rw [if_pos hl] at hm
  cases hm
  match vs, hargs with
  | [v0], ⟨hv0, _⟩ =>
    have hv0' : v0 = h.1 := hv0
    subst hv0'
    obtain ⟨hv, S⟩ := h
    obtain ⟨a, c, e1, hc, hat⟩ := hob (oa (rI .i64) hv S l) (by simp)
    simp only at e1 hat hbd ⊢
    subst e1
    have hlen : (l.mergeSort (fun x y => decide (x ≤ y))).length = l.length := by simp
    rcases hat with ⟨rfl, rfl, rfl⟩ | ⟨b, off, cells, ty, rfl, rfl, hb, hsz, hH⟩
    · have : l = [] := List.eq_nil_of_length_eq_zero (by omega)
      subst this
      refine Calls.mono (hE none 0 w) ?_
      rintro e' w' ⟨rfl, rfl⟩
      refine ⟨(), _, rfl, .refl _ _, by simp [ow, oa], by simp [ow, oa], fun o ho => ?_, #[], rfl, trivial⟩
      rw [List.mem_singleton.1 ho]
      exact ⟨none, 0, by simp, by simp, .inl ⟨rfl, rfl, rfl⟩⟩
    · have hI := slH_int.1 hH
      have hsz' : off + c ≤ cells.size := by simpa [rI, one] using hsz
      have hHo : Holds (Value.int .i64) w b off l.toArray := fun j hj => by
        have hj' : j < l.length := by simpa using hj
        refine ⟨?_, unfrozen_of_block hb⟩
        rw [cell_of_block hb, hI j hj']
        simp [getElem!_pos, hj']
      have hbl := size_of_get hb
      refine Calls.mono (hC w b off c l hHo hbl (by omega)) ?_
      rintro e' w' ⟨rfl, q, os, rfl⟩
      generalize hr : l.mergeSort (fun x y => decide (x ≤ y)) = r at *
      have hheap : ∀ k, k < w.heap.size → (grow (putRow (Value.int .i64) (Sort.ahead w q) b off r.toArray) os).heap[k]? = if k = b then some (.cells (putCells (Value.int .i64) off r.toArray cells) ty (0, 0)) else w.heap[k]? := fun k hk => by
        unfold grow putRow mapBlock Sort.ahead
        simp only
        rw [Array.getElem?_append_left (by simpa using hk)]
        simp only [Array.getElem?_modify]
        by_cases e : b = k
        · subst e; rw [if_pos rfl, if_pos rfl, hb]; rfl
        · rw [if_neg e, if_neg (fun h => e h.symm)]
      have hgs : w.heap.size ≤ (grow (putRow (Value.int .i64) (Sort.ahead w q) b off r.toArray) os).heap.size := by simp [grow, putRow, mapBlock, Sort.ahead]
      refine ⟨(), _, rfl, ⟨rfl, rfl, rfl, hgs, fun k hk hk' => ?_⟩, fun k hk' => ?_, by simp [ow, oa], fun o ho => ?_, #[], rfl, trivial⟩
      · rw [hheap k hk, if_neg (fun e => hk' (by simp [ow, oa, e]))]
      · have : k = b := by simpa [ow, oa] using hk'
        subst this
        exact ⟨by omega, .inr (by simp [ow, oa])⟩
      · rw [List.mem_singleton.1 ho]
        refine ⟨_, c, by rw [hlen], by omega, .inr ⟨b, off, _, ty, rfl, rfl, by rw [hheap b hbl, if_pos rfl], ?_, slH_int.2 fun i hi => ?_⟩⟩
        · simp only [putCells, Array.size_mapIdx]; exact hsz
        · have hi2 : off + i < cells.size := by omega
          simp only [putCells, Array.getElem?_mapIdx, Array.getElem?_eq_getElem hi2, Option.map_some]
          rw [if_pos (by simp; omega)]
          have : off + i - off = i := by omega
          rw [this, getElem!_pos _ _ (by simpa using hi)]
          simp

end Go.Dc

/-! What the sorted and the compacted list are, in plain words. -/
set_option linter.unusedVariables false
namespace Go.Dc
open Go.Proofs

def ins (x : Int) : List Int → List Int
  | [] => [x]
  | y :: l => bif decide (x ≤ y) then x :: y :: l else y :: ins x l
def isort : List Int → List Int
  | [] => []
  | x :: l => ins x (isort l)

theorem ins_perm (x : Int) : ∀ l : List Int, (ins x l).Perm (x :: l)
  | [] => .refl _
  | y :: l => by
    unfold ins
    cases decide (x ≤ y) with
    | true => exact .refl _
    | false => exact ((ins_perm x l).cons y).trans (.swap x y l)
theorem isort_perm : ∀ l : List Int, (isort l).Perm l
  | [] => .refl _
  | x :: l => (ins_perm x _).trans ((isort_perm l).cons x)
theorem ins_pw (x : Int) : ∀ {l : List Int}, l.Pairwise (· ≤ ·) → (ins x l).Pairwise (· ≤ ·)
  | [], _ => by simp [ins]
  | y :: l, h => by
    unfold ins
    have h1 := List.pairwise_cons.1 h
    cases hd : decide (x ≤ y) with
    | true =>
      have := of_decide_eq_true hd
      exact List.pairwise_cons.2 ⟨fun z hz => (List.mem_cons.1 hz).elim (fun e => by rw [e]; exact this) (fun hz => Int.le_trans this (h1.1 z hz)), h⟩
    | false =>
      have := of_decide_eq_false hd
      exact List.pairwise_cons.2 ⟨fun z hz => (List.mem_cons.1 ((ins_perm x l).mem_iff.1 hz)).elim (fun e => by rw [e]; omega) (fun hz => h1.1 z hz), ins_pw x h1.2⟩
theorem isort_pw : ∀ l : List Int, (isort l).Pairwise (· ≤ ·)
  | [] => .nil
  | x :: l => ins_pw x (isort_pw l)

theorem msort_pw (l : List Int) : (l.mergeSort (fun x y => decide (x ≤ y))).Pairwise (· ≤ ·) := by
  have := List.pairwise_mergeSort (le := fun x y : Int => decide (x ≤ y)) (fun a b c h1 h2 => by simp at *; omega) (fun a b => by simp; omega) l
  exact this.imp (fun h => of_decide_eq_true h)

theorem isort_eq (l : List Int) : isort l = l.mergeSort (fun x y => decide (x ≤ y)) :=
  List.Perm.eq_of_pairwise (le := (· ≤ ·)) (fun a b _ _ h1 h2 => Int.le_antisymm h1 h2) (isort_pw l) (msort_pw l) ((isort_perm l).trans (List.mergeSort_perm l _).symm)

def sortedF (l : List Int) : Option (List Int) := if l.length ≤ 1000000000000 then some (isort l) else none
theorem sortedF_le {l : List Int} : Le (sortedF l) (sortedM l) := fun r h => by
  unfold sortedF at h; unfold sortedM; rw [← isort_eq]; exact h

theorem sorted_plain {l : List Int} (h : l.length ≤ 1000000000000) : sortedM l = some (isort l) := by unfold sortedM; rw [if_pos h, isort_eq]

theorem compact_get {zs : List Int} : Lib.compact zs = ((List.range zs.length).filter (Lib.keeps zs.toArray)).map (fun j => zs[j]?.getD 0) := by
  unfold Lib.compact Lib.compactUpTo
  apply List.map_congr_left
  intro j hj
  have : j < zs.length := by have := (List.mem_filter.1 hj).1; simpa using this
  simp [this]

theorem keeps_iff {zs : List Int} {j : Nat} (hj : j < zs.length) : Lib.keeps zs.toArray j = true ↔ j = 0 ∨ zs[j]?.getD 0 ≠ zs[j - 1]?.getD 0 := by
  have h1 : j - 1 < zs.length := by omega
  unfold Lib.keeps
  by_cases h : j = 0
  · simp [h]
  · simp [h, hj, h1]

theorem mem_compact {zs : List Int} {x : Int} : x ∈ Lib.compact zs ↔ x ∈ zs := by
  rw [compact_get, List.mem_map]
  constructor
  · rintro ⟨j, hj, rfl⟩
    have hj : j < zs.length := by simpa using (List.mem_filter.1 hj).1
    rw [List.getElem?_eq_getElem hj]; exact List.getElem_mem hj
  · intro hx
    obtain ⟨j, hj, rfl⟩ := List.getElem_of_mem hx
    suffices ∀ n j (hj : j < zs.length), j ≤ n → ∃ i, i ∈ (List.range zs.length).filter (Lib.keeps zs.toArray) ∧ zs[i]?.getD 0 = zs[j] from this j j hj (Nat.le_refl _)
    intro n
    induction n with
    | zero =>
      intro j hj hn
      exact ⟨j, List.mem_filter.2 ⟨by simpa using hj, (keeps_iff hj).2 (.inl (by omega))⟩, by simp [hj]⟩
    | succ n ih =>
      intro j hj hn
      by_cases hk : Lib.keeps zs.toArray j = true
      · exact ⟨j, List.mem_filter.2 ⟨by simpa using hj, hk⟩, by simp [hj]⟩
      · have h2 := fun h => hk ((keeps_iff hj).2 h)
        have h0 : j ≠ 0 := fun h => h2 (.inl h)
        have h3 : zs[j]?.getD 0 = zs[j - 1]?.getD 0 := Classical.byContradiction fun h => h2 (.inr h)
        obtain ⟨i, hi, he⟩ := ih (j - 1) (by omega) (by omega)
        refine ⟨i, hi, he.trans ?_⟩
        have h4 : j - 1 < zs.length := by omega
        simpa [hj, h4] using h3.symm

theorem compact_asc {zs : List Int} (h : zs.Pairwise (· ≤ ·)) : (Lib.compact zs).Pairwise (· < ·) := by
  rw [compact_get, List.pairwise_map]
  have hp : ((List.range zs.length).filter (Lib.keeps zs.toArray)).Pairwise (· < ·) := List.Pairwise.filter _ List.pairwise_lt_range
  refine List.Pairwise.imp_of_mem ?_ hp
  intro i j hi hj hij
  have hi' : i < zs.length := by simpa using (List.mem_filter.1 hi).1
  have hj' : j < zs.length := by simpa using (List.mem_filter.1 hj).1
  have hk := (keeps_iff hj').1 (List.mem_filter.1 hj).2
  have hg := List.pairwise_iff_getElem.1 h
  have h1 : j - 1 < zs.length := by omega
  have h2 : zs[i] ≤ zs[j - 1] := by
    by_cases e : i = j - 1
    · subst e; exact Int.le_refl _
    · exact hg i (j - 1) hi' h1 (by omega)
  have h3 : zs[j - 1] ≤ zs[j] := hg (j - 1) j h1 hj' (by omega)
  rcases hk with hk | hk
  · omega
  · simp [hi', hj', h1] at hk ⊢
    omega

end Go.Dc
