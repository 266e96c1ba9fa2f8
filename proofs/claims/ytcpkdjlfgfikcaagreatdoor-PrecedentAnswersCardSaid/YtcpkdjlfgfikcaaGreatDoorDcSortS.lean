/- Part Dc.SortS of a proof: lemmas. -/
import Derived.Shelf.SlIterI.Sorted
import Derived.Shelf.SortM.Plain
import Derived.Shelf.SortM.SortNone
import Derived.Ground.GgzProg
import Derived.Ground.SlgmProg
import Derived.RangeFuncBox
import Derived.RangeFuncLeaves
import Derived.Test.YtcpkdjlfgfikcaaGreatDoorDcMem7
import Derived.Shelf.Slices.CompactI
import Derived.Test.YtcpkdjlfgfikcaaGreatDoorDcBa
import Derived.Test.YtcpkdjlfgfikcaaGreatDoorDcFuel
import Derived.Sort.EncStr
set_option linter.unusedVariables false
/-! slices.Sorted(slices.Values(s)) and slices.Compact: the shelf's contracts in our words. -/
namespace Go.Dc
open Go.Proofs Go.RowKit Go.Maps Go.Sort Go.Shelf
variable {P : Program} {ρ : Ren}

/-- an iterator that gives zs to every loop whose rounds keep what lay in w -/
def GivesB (F : Fence) (n : Nat) (P : Program) (g : Nat) (lb : Array Value) (zs : List Int) (w : World) : Prop :=
  ∀ (l : Nat) (J : List Int → World → Prop) (W : World), Below w.heap.size w W → (∀ pre W1, J pre W1 → Below w.heap.size w W1) →
    (∀ pre x W1, J pre W1 → pre.length < zs.length → YieldAt F (n - 1) P l #[encZ x] W1 fun e W' => e = .returned (.bool true) ∧ J (pre ++ [x]) W' ∧ KeepsWalks W1 W') →
    J [] W → CallsIn F n P g (#[.func (.yield l) #[] #[]] ++ lb) W fun e W' => (∃ v, e = .returned v) ∧ J zs W'

end Go.Dc

set_option linter.unusedVariables false
/-! slices.Sorted(slices.Values(s)) and slices.Compact as contracts of ours. -/
namespace Go.Dc
open Go.Proofs Go.RowKit Go.Maps Go.Sort Go.Shelf
variable {P : Program} {ρ : Ren}

theorem cell_of_block {w : World} {b o : Nat} {cells : Array Value} {ty : TypeId} {fz : Nat × Nat} (h : w.heap[b]? = some (.cells cells ty fz)) : w.cell? ⟨b, o, none⟩ = cells[o]? := by
  simp [World.cell?, h]
theorem unfrozen_of_block {w : World} {b o : Nat} {cells : Array Value} {ty : TypeId} (h : w.heap[b]? = some (.cells cells ty (0, 0))) : w.frozen? ⟨b, o, none⟩ = false := by
  simp [World.frozen?, h]

def ofInt : Value → Int | .int _ q => q | _ => 0

/-- what a slice value holds, in blocks that lie already -/
def IntsAt (w : World) (sv : Value) (zs : List Int) : Prop :=
  (∃ a c, sv = .slice a 0 c ∧ zs = []) ∨ ∃ b off cap, sv = .slice (some ⟨b, off, none⟩) zs.length cap ∧ b < w.heap.size ∧ ∀ j, j < zs.length → w.cell? ⟨b, off + j, none⟩ = some (.int .i64 (zs[j]?.getD 0))

def sortedM (l : List Int) : Option (List Int) := if l.length ≤ 1000000000000 then some (l.mergeSort (fun x y => decide (x ≤ y))) else none
def compactM (l : List Int) : Option (List Int) := if l.length ≤ 1000000000000 then some (Lib.compact l) else none

end Go.Dc

set_option linter.unusedVariables false
/-! slices.Sort of strings. -/
namespace Go.Dc
open Go.Proofs Go.RowKit Go.Maps Go.Sort Go.Shelf
variable {P : Program} {ρ : Ren}

def ofBytes (z : List UInt8) : ByteArray := ⟨z.toArray⟩
theorem toList_ofBytes (z : List UInt8) : (ofBytes z).toList = z := by rw [ba_toList]; simp [ofBytes]
theorem ofBytes_toList (x : ByteArray) : ofBytes x.toList = x := ba_inj.1 (toList_ofBytes _)

theorem slH_str {F : FP} {w : World} {cells : Array Value} {off : Nat} {d : List ByteArray} : SlH rS F w cells off d ↔ ∀ i (hi : i < d.length), cells[off + i]? = some (.string d[i]) := by
  constructor
  · intro h i hi
    obtain ⟨es, h1, h2⟩ := h i hi
    have := h2 0 (by simp [rS, one])
    simp only [rS, one, Nat.mul_one, Nat.add_zero] at this h1
    match es, h1 with
    | [u], ⟨hu, _⟩ => rw [this]; simp; exact hu
  · intro h i hi
    refine ⟨[.string d[i]], ⟨rfl, trivial⟩, fun j hj => ?_⟩
    have hj0 : j = 0 := by simp [rS, one] at hj; omega
    subst hj0
    simpa [rS, one] using h i hi

def sortS (l : List ByteArray) : List ByteArray := ((l.map ByteArray.toList).mergeSort fun x y => decide (x ≤ y)).map ofBytes
def sortedSM (l : List ByteArray) : Option (List ByteArray) := if l.length ≤ 1000000000000 then some (sortS l) else none
theorem sortS_len {l : List ByteArray} : (sortS l).length = l.length := by simp [sortS]

/-- slices.Sort of a slice of strings that is ours -/
theorem sort_fnS {fS : Nat}
    (hC : ∀ (w : World) (blk off cap : Nat) (zs : List (List UInt8)), Holds encStr w blk off zs.toArray → blk < w.heap.size → zs.length < 4611686018427387904 →
      Calls P fS #[.slice (some ⟨blk, off, none⟩) zs.length cap] w fun e w' => e = .returned (.tuple #[]) ∧ ∃ n os, w' = grow (putRow encStr (Sort.ahead w n) blk off (zs.mergeSort fun x y => decide (x ≤ y)).toArray) os)
    (hE : ∀ (p : Option Addr) (cap : Nat) (w : World), Calls P fS #[.slice p 0 cap] w fun e w' => e = .returned (.tuple #[]) ∧ w' = w)
    {l r : List ByteArray} (hm : sortedSM l = some r) {h : Value × List Nat} :
    FnOk P fS [pv h.1] [oa rS h.1 h.2 l] (fun _ : Unit => []) (fun _ : Unit => [oa rS h.1 h.2 r]) := by
  intro F w vs hF hmf hbd hnd hob hargs
  unfold sortedSM at hm
  have hl : l.length ≤ 1000000000000 := Classical.byContradiction fun hx => by rw [if_neg hx] at hm; cases hm
  rw [if_pos hl] at hm
  cases hm
  match vs, hargs with
  | [v0], ⟨hv0, _⟩ =>
    have hv0' : v0 = h.1 := hv0
    subst hv0'
    obtain ⟨hv, S⟩ := h
    obtain ⟨a, c, e1, hc, hat⟩ := hob (oa rS hv S l) (by simp)
    simp only at e1 hat hbd ⊢
    subst e1
    have hlen : (sortS l).length = l.length := sortS_len
    rcases hat with ⟨rfl, rfl, rfl⟩ | ⟨b, off, cells, ty, rfl, rfl, hb, hsz, hH⟩
    · have : l = [] := List.eq_nil_of_length_eq_zero (by omega)
      subst this
      refine Calls.mono (hE none 0 w) ?_
      rintro e' w' ⟨rfl, rfl⟩
      refine ⟨(), _, rfl, .refl _ _, by simp [ow, oa], by simp [ow, oa], fun o ho => ?_, #[], rfl, trivial⟩
      rw [List.mem_singleton.1 ho]
      exact ⟨none, 0, by simp [sortS], by simp [sortS], .inl ⟨rfl, rfl, rfl⟩⟩
    · have hI := slH_str.1 hH
      have hsz' : off + c ≤ cells.size := by simpa [rS, one] using hsz
      have hHo : Holds encStr w b off (l.map ByteArray.toList).toArray := fun j hj => by
        have hj' : j < l.length := by simpa using hj
        refine ⟨?_, unfrozen_of_block hb⟩
        rw [cell_of_block hb, hI j hj']
        have e : (l.map ByteArray.toList).toArray[j]! = l[j].toList := by simp [hj']
        rw [e]
        exact congrArg (fun z => some (Value.string z)) (ofBytes_toList l[j]).symm
      have hbl := size_of_get hb
      have hCl := hC w b off c (l.map ByteArray.toList) hHo hbl (by simp; omega)
      rw [List.length_map] at hCl
      refine Calls.mono hCl ?_
      rintro e' w' ⟨rfl, q, os, rfl⟩
      unfold sortS at hlen ⊢
      generalize hr : (l.map ByteArray.toList).mergeSort (fun x y => decide (x ≤ y)) = r at *
      have hheap : ∀ k, k < w.heap.size → (grow (putRow encStr (Sort.ahead w q) b off r.toArray) os).heap[k]? = if k = b then some (.cells (putCells encStr off r.toArray cells) ty (0, 0)) else w.heap[k]? := fun k hk => by
        unfold grow putRow mapBlock Sort.ahead
        simp only
        rw [Array.getElem?_append_left (by simpa using hk)]
        simp only [Array.getElem?_modify]
        by_cases e : b = k
        · subst e; rw [if_pos rfl, if_pos rfl, hb]; rfl
        · rw [if_neg e, if_neg (fun h => e h.symm)]
      have hgs : w.heap.size ≤ (grow (putRow encStr (Sort.ahead w q) b off r.toArray) os).heap.size := by simp [grow, putRow, mapBlock, Sort.ahead]
      refine ⟨(), _, rfl, ⟨rfl, rfl, rfl, hgs, fun k hk hk' => ?_⟩, fun k hk' => ?_, by simp [ow, oa], fun o ho => ?_, #[], rfl, trivial⟩
      · rw [hheap k hk, if_neg (fun e => hk' (by simp [ow, oa, e]))]
      · have : k = b := by simpa [ow, oa] using hk'
        subst this
        exact ⟨by omega, .inr (by simp [ow, oa])⟩
      · rw [List.mem_singleton.1 ho]
        refine ⟨_, c, by rw [hlen], by omega, .inr ⟨b, off, _, ty, rfl, rfl, by rw [hheap b hbl, if_pos rfl], ?_, slH_str.2 fun i hi => ?_⟩⟩
        · simp only [putCells, Array.size_mapIdx]; exact hsz
        · have hi2 : off + i < cells.size := by omega
          have hi3 : i < r.length := by simpa using hi
          simp only [putCells, Array.getElem?_mapIdx, Array.getElem?_eq_getElem hi2, Option.map_some]
          rw [if_pos (by simp; omega)]
          have : off + i - off = i := by omega
          rw [this, getElem!_pos _ _ (by simpa using hi)]
          simp [encStr, ofBytes]


/-! computed -/
def insS (x : ByteArray) : List ByteArray → List ByteArray
  | [] => [x]
  | y :: l => bif decide (x.toList ≤ y.toList) then x :: y :: l else y :: insS x l
def isortS : List ByteArray → List ByteArray
  | [] => []
  | x :: l => insS x (isortS l)
theorem insS_perm (x : ByteArray) : ∀ l : List ByteArray, (insS x l).Perm (x :: l)
  | [] => .refl _
  | y :: l => by
    unfold insS
    cases decide (x.toList ≤ y.toList) with
    | true => exact .refl _
    | false => exact ((insS_perm x l).cons y).trans (.swap x y l)
theorem isortS_perm : ∀ l : List ByteArray, (isortS l).Perm l
  | [] => .refl _
  | x :: l => (insS_perm x _).trans ((isortS_perm l).cons x)
theorem insS_pw (x : ByteArray) : ∀ {l : List ByteArray}, l.Pairwise (fun a b => a.toList ≤ b.toList) → (insS x l).Pairwise (fun a b => a.toList ≤ b.toList)
  | [], _ => by simp [insS]
  | y :: l, h => by
    unfold insS
    have h1 := List.pairwise_cons.1 h
    cases hd : decide (x.toList ≤ y.toList) with
    | true =>
      have := of_decide_eq_true hd
      exact List.pairwise_cons.2 ⟨fun z hz => (List.mem_cons.1 hz).elim (fun e => by rw [e]; exact this) (fun hz => List.le_trans this (h1.1 z hz)), h⟩
    | false =>
      have := of_decide_eq_false hd
      have hle : y.toList ≤ x.toList := (List.le_total _ _).resolve_left this
      exact List.pairwise_cons.2 ⟨fun z hz => (List.mem_cons.1 ((insS_perm x l).mem_iff.1 hz)).elim (fun e => by rw [e]; exact hle) (fun hz => h1.1 z hz), insS_pw x h1.2⟩
theorem isortS_pw : ∀ l : List ByteArray, (isortS l).Pairwise (fun a b => a.toList ≤ b.toList)
  | [] => .nil
  | x :: l => insS_pw x (isortS_pw l)
theorem isortS_eq (l : List ByteArray) : isortS l = sortS l := by
  unfold sortS
  have h1 : ((isortS l).map ByteArray.toList) = (l.map ByteArray.toList).mergeSort (fun x y => decide (x ≤ y)) := by
    refine List.Perm.eq_of_pairwise (le := (· ≤ ·)) (fun a b _ _ h1 h2 => List.le_antisymm h1 h2) ?_ ?_ ?_
    · rw [List.pairwise_map]; exact isortS_pw l
    · have := List.pairwise_mergeSort (le := fun x y : List UInt8 => decide (x ≤ y)) (fun a b c h1 h2 => by simp at *; exact List.le_trans h1 h2) (fun a b => by simp; exact List.le_total a b) (l.map ByteArray.toList)
      exact this.imp fun h => of_decide_eq_true h
    · exact ((isortS_perm l).map _).trans (List.mergeSort_perm _ _).symm
  rw [← h1, List.map_map]
  have : (ofBytes ∘ ByteArray.toList) = id := by funext x; exact ofBytes_toList x
  rw [this, List.map_id]
def sortedSF (l : List ByteArray) : Option (List ByteArray) := if l.length ≤ 1000000000000 then some (isortS l) else none
theorem sortedSF_le {l : List ByteArray} : Le (sortedSF l) (sortedSM l) := fun r h => by
  unfold sortedSF at h; unfold sortedSM; rw [← isortS_eq]; exact h
end Go.Dc
