/- Part Dc.SortN of a proof: lemmas. -/
import Derived.Test.YtmejeobfjojfeaaGreatDcMap
import Derived.Shelf.SlSortCmp.InsertionK
import Derived.Shelf.SlSortCmp.Kit1
import Derived.Test.YtmejeobfjojfeaaGreatDcLend
set_option linter.unusedVariables false
namespace Go.Dc
open Go.Proofs Go.RowKit Go.Sort Go.Shelf Go.Lib
variable {P : Program} {α : Type} [Inhabited α]

theorem cell_of_blockL {w : World} {b o : Nat} {cells : Array Value} {ty : TypeId} {fz : Nat × Nat} (h : w.heap[b]? = some (.cells cells ty fz)) : w.cell? ⟨b, o, none⟩ = cells[o]? := by
 simp [World.cell?, h]
theorem unfrozen_of_blockL {w : World} {b o : Nat} {cells : Array Value} {ty : TypeId} (h : w.heap[b]? = some (.cells cells ty (0, 0))) : w.frozen? ⟨b, o, none⟩ = false := by
 simp [World.frozen?, h]

theorem kept_grow {w w' : World} (h : Kept [] w w') : ∃ q os, w' = grow (w.drewN q) os := by
 refine ⟨w'.drawn - w.drawn, w'.heap.extract w.heap.size w'.heap.size, ?_⟩
 have hh : w'.heap = w.heap ++ w'.heap.extract w.heap.size w'.heap.size := by
  have hs := h.size
  apply Array.ext_getElem?
  intro i
  by_cases e : i < w.heap.size
  ·rw [Array.getElem?_append_left e, h.blk i e (by simp)]
  ·rw [Array.getElem?_append_right (by omega), Array.getElem?_extract]
   by_cases e2 : i < w'.heap.size
   ·rw [if_pos (by omega), show w.heap.size + (i - w.heap.size) = i by omega]
   ·rw [Array.getElem?_eq_none (by omega)]
    split
    ·rw [Array.getElem?_eq_none (by omega)]
    ·rfl
 have hd := h.drawn trivial
 obtain ⟨heap, tape, drawn, os, output⟩ := w
 obtain ⟨heap', tape', drawn', os', output'⟩ := w'
 have h1 := h.os; have h2 := h.tape; have h3 := h.output
 dsimp only at h1 h2 h3 hh hd ⊢
 subst h1; subst h2; subst h3
 unfold grow World.drewN
 simp only [World.mk.injEq, true_and, and_true]
 exact ⟨hh, by omega⟩

structure EncT {α : Type} (ρ : Rep α) (enc : α → List Value) (k : Nat) : Prop where
 size : ρ.size = k
 pos : 0 < k
 agg : ρ.agg = true
 len : ∀ x, (enc x).length = k
 one : ∀ x, ∀ v ∈ enc x, v.oneCell' = true
 to : ∀ (x : α) (F : FP) (w : World) (cs : List Value), AllP F w (ρ.cp x) cs → cs = enc x
 of : ∀ (x : α) (F : FP) (w : World), AllP F w (ρ.cp x) (enc x)

def cfo (m : α → α → Option Int) (x y : α) : Int := (m x y).getD 0
structure CmpOk (m : α → α → Option Int) : Prop where
 tot : ∀ x y, m x y = some (cfo m x y)
 swo : SWO (ltOf (cfo m))
 sep : ∀ x y, ltOf (cfo m) x y = false → ltOf (cfo m) y x = false → x = y
def sortL (m : α → α → Option Int) (l : List α) : List α := l.mergeSort fun x y => !(ltOf (cfo m)) y x
open Classical in
noncomputable def sortFM (m : α → α → Option Int) (l : List α) : Option (List α) := if l.length ≤ 1000000000000 ∧ CmpOk m then some (sortL m l) else none
omit [Inhabited α] in
theorem sortL_len {m : α → α → Option Int} {l : List α} : (sortL m l).length = l.length := by simp [sortL]

omit [Inhabited α] in
theorem slH_enc {ρ : Rep α} {enc : α → List Value} {k : Nat} (hE : EncT ρ enc k) {F : FP} {w : World} {cells : Array Value} {off : Nat} {d : List α} :
  SlH ρ F w cells off d ↔ ∀ i (hi : i < d.length), ∀ j, j < k → cells[off + i * k + j]? = (enc d[i])[j]? := by
 constructor
 ·intro h i hi j hj
  obtain ⟨es, h1, h2⟩ := h i hi
  have := h2 j (by rw [hE.size]; exact hj)
  rw [hE.size] at this
  rw [this, hE.to _ _ _ _ h1]
 ·intro h i hi
  refine ⟨enc d[i], hE.of _ _ _, fun j hj => ?_⟩
  rw [hE.size] at hj ⊢
  exact h i hi j hj

abbrev FnOkS {X : Type} (P : Program) (f : FuncId) (args : List RP) (Ω0 : List OB) (res : X → List RP) (Ω1 : X → List OB) : Prop := FnOk P f args Ω0 res Ω1
theorem sort_fnF [DrawMode] {ρ : Rep α} {enc : α → List Value} {k : Nat} (hE : EncT ρ enc k) {fS fC : Nat} {m : α → α → Option Int} {X : Type}
  (hfC : ∀ x y r, m x y = some r → FnOkS P fC [sh ρ x, sh ρ y] [] (fun _ : X => [iv .i64 r]) (fun _ => []))
  (hC : ∀ (hO : SWO (ltOf (cfo m))) (blk off cap : Nat) (d : Array α) (w : World), CmpLays P fC #[] enc k (cfo m) blk off d.size w → HoldsK enc k w blk off d → blk < w.heap.size → d.size < 4611686018427387904 →
   (∀ x y, (ltOf (cfo m)) x y = false → (ltOf (cfo m)) y x = false → x = y) →
   Calls P fS #[.slice (some ⟨blk, off, none⟩) d.size cap, .func (.func fC) #[] #[]] w fun e w' => e = .returned (.tuple #[]) ∧ ∃ n os, w' = sortWorldK enc k w blk off n (d.toList.mergeSort fun x y => !(ltOf (cfo m)) y x).toArray os)
  (hN : ∀ (p : Option Addr) (cap : Nat) (fv : Value) (w : World), Calls P fS #[.slice p 0 cap, fv] w fun e w' => e = .returned (.tuple #[]) ∧ w' = w)
  {l r : List α} (hm : sortFM m l = some r) {h : Value × List Nat} :
  FnOk P fS [pv h.1, pv (.func (.func fC) #[] #[])] [oa ρ h.1 h.2 l] (fun _ : Unit => []) (fun _ : Unit => [oa ρ h.1 h.2 r]) := by
 intro F w vs hF hmf hbd hnd hob hargs htb
 unfold sortFM at hm
 have hl : l.length ≤ 1000000000000 ∧ CmpOk m := Classical.byContradiction fun hx => by rw [if_neg hx] at hm; cases hm
 rw [if_pos hl] at hm
 cases hm
 obtain ⟨hl, hcm⟩ := hl
 match vs, hargs with
 | [v0, v1], ⟨hv0, hv1, _⟩ =>
  have hv0' : v0 = h.1 := hv0
  have hv1' : v1 = .func (.func fC) #[] #[] := hv1
  subst hv0'; subst hv1'
  obtain ⟨hv, S⟩ := h
  obtain ⟨a, c, e1, hc, hat⟩ := hob (oa ρ hv S l) (by simp)
  simp only at e1 hat hbd ⊢
  subst e1
  have hlen : (sortL m l).length = l.length := sortL_len
  rcases hat with ⟨rfl, rfl, rfl⟩ | ⟨b, off, cells, ty, rfl, rfl, hb, hsz, hH⟩
  ·have : l = [] := List.eq_nil_of_length_eq_zero (by omega)
   subst this
   refine Calls.mono (hN none 0 _ w) ?_
   rintro e' w' ⟨rfl, rfl⟩
   refine ⟨(), _, rfl, .refl _ _, by simp [ow, oa], by simp [ow, oa], fun o ho => ?_, #[], rfl, trivial⟩
   rw [List.mem_singleton.1 ho]
   exact ⟨none, 0, by simp [sortL], by simp [sortL], .inl ⟨rfl, rfl, rfl⟩⟩
  ·have hI := (slH_enc hE).1 hH
   have hsz' : off + c * k ≤ cells.size := by rw [← hE.size]; exact hsz
   have hk := hE.pos
   have hHo : HoldsK enc k w b off l.toArray := fun t ht => by
    have ht' : t < l.length * k := by simpa using ht
    have hq : t / k < l.length := Nat.div_lt_of_lt_mul (by rw [Nat.mul_comm]; exact ht')
    have hr : t % k < k := Nat.mod_lt _ hk
    refine ⟨?_, unfrozen_of_blockL hb⟩
    rw [cell_of_blockL hb]
    have h1 := hI (t / k) hq (t % k) hr
    rw [show off + t / k * k + t % k = off + t by have := Nat.div_add_mod t k; rw [Nat.mul_comm] at this; omega] at h1
    rw [h1, get_flatK _ _ _ _ (by simpa using ht')]
    have e : l.toArray[t / k]! = l[t / k] := by simp [hq]
    rw [e]
    have hlt : t % k < (enc l[t / k]).length := by rw [hE.len]; exact hr
    rw [List.getElem?_eq_getElem hlt]
    simp [hlt]
   have hbl := size_of_get hb
   have hcmp : CmpLays P fC #[] enc k (cfo m) b off l.toArray.size w := fun q os dk hdk x y => by
    have hsh : ∀ x : α, (sh ρ x).h (fun _ => True) (sortWorldK enc k w b off q dk os) (.agg (enc x).toArray) := fun x => sh_iff.2 ⟨enc x, hE.of x _ _, by rw [hE.agg]; rfl⟩
    have hcl := hfC x y _ (hcm.tot x y) (fun _ => True) (sortWorldK enc k w b off q dk os) [.agg (enc x).toArray, .agg (enc y).toArray] (fun _ _ => trivial) (fun _ _ => trivial) (by simp [ow]) (by simp [ow]) (by simp)
     ⟨(sh ρ x).mono (.refl fun _ _ _ => ⟨trivial, by simp [ow]⟩) (hsh x), (sh ρ y).mono (.refl fun _ _ _ => ⟨trivial, by simp [ow]⟩) (hsh y), trivial⟩ (fun _ hx => by cases hx)
    refine Calls.mono hcl ?_
    rintro e' w' ⟨_, v, rfl, hk, _, _, _, hv⟩
    have hv' : v = .int .i64 (cfo m x y) := hv
    subst hv'
    exact ⟨rfl, kept_grow hk⟩
   have hCl := hC hcm.swo b off c l.toArray w hcmp hHo hbl (by simp; omega) hcm.sep
   rw [List.size_toArray] at hCl
   refine Calls.mono hCl ?_
   rintro e' w' ⟨rfl, q, os, rfl⟩
   have hr : (l.mergeSort fun x y => !(ltOf (cfo m)) y x) = sortL m l := rfl
   rw [List.toList_toArray, hr]
   generalize sortL m l = r at *
   have hheap : ∀ i, i < w.heap.size → (sortWorldK enc k w b off q r.toArray os).heap[i]? = if i = b then some (.cells (putCells id off (flatK enc k r.toArray) cells) ty (0, 0)) else w.heap[i]? := fun i hi => by
    unfold sortWorldK putRowK grow putRow mapBlock Sort.ahead
    simp only
    rw [Array.getElem?_append_left (by simpa using hi)]
    simp only [Array.getElem?_modify]
    by_cases e : b = i
    ·subst e; rw [if_pos rfl, if_pos rfl, hb]; rfl
    ·rw [if_neg e, if_neg (fun h => e h.symm)]
   have hgs : w.heap.size ≤ (sortWorldK enc k w b off q r.toArray os).heap.size := by simp [sortWorldK, putRowK, grow, putRow, mapBlock, Sort.ahead]
   refine ⟨(), _, rfl, ⟨rfl, rfl, rfl, by simp [sortWorldK, putRowK, grow, putRow, mapBlock, Sort.ahead], hgs, fun i hi hk' => ?_⟩, fun i hk' => ?_, by simp [ow, oa], fun o ho => ?_, #[], rfl, trivial⟩
   ·rw [hheap i hi, if_neg (fun e => hk' (by simp [ow, oa, e]))]
   ·have : i = b := by simpa [ow, oa] using hk'
    subst this
    exact ⟨by omega, .inr (by simp [ow, oa])⟩
   ·rw [List.mem_singleton.1 ho]
    refine ⟨_, c, by rw [hlen], by omega, .inr ⟨b, off, _, ty, rfl, rfl, by rw [hheap b hbl, if_pos rfl], ?_, (slH_enc hE).2 fun i hi j hj => ?_⟩⟩
    ·simp only [putCells, Array.size_mapIdx]; rw [hE.size]; exact hsz'
    ·have hic : i * k + k ≤ c * k := by rw [← Nat.succ_mul]; exact Nat.mul_le_mul_right _ (by omega)
     have hir : i * k + j < r.length * k := by
      have : i * k + k ≤ r.length * k := by rw [← Nat.succ_mul]; exact Nat.mul_le_mul_right _ (by omega)
      omega
     have hi2 : off + i * k + j < cells.size := by omega
     simp only [putCells, Array.getElem?_mapIdx, Array.getElem?_eq_getElem hi2, Option.map_some]
     rw [if_pos (by simp; omega)]
     have e1 : off + i * k + j - off = i * k + j := by omega
     rw [e1, id, get_flatK _ _ _ _ (by simpa using hir)]
     have e2 : (i * k + j) / k = i := by rw [Nat.add_comm, Nat.add_mul_div_right _ _ hk, Nat.div_eq_of_lt hj, Nat.zero_add]
     have e3 : (i * k + j) % k = j := by rw [Nat.add_comm, Nat.add_mul_mod_self_right, Nat.mod_eq_of_lt hj]
     rw [e2, e3]
     have e4 : r.toArray[i]! = r[i] := by simp [hi]
     rw [e4]
     have hlt : j < (enc r[i]).length := by rw [hE.len]; exact hj
     rw [List.getElem?_eq_getElem hlt]
     simp [hlt]
end Go.Dc

set_option linter.unusedSectionVars false
namespace Go.Dc
open Go.Proofs Go.RowKit Go.Sort Go.Shelf Go.Lib
variable {P : Program}
end Go.Dc

namespace Go.Dc
variable {P : Program} {f : FuncId} [PTab P]
theorem conCmp {t : Ty} {m : t.den → t.den → Option Int} {ps : List (Bool × List KA)} {X Y : RP} {x y : t.den} {r : Int}
  (h : ConFn P f ⟨[t, t], [.int .i64], fun a => m a.1 a.2, ps, [], [(false, [.d 0 0])], [], 0, 0⟩) (hm : m x y = some r)
  (he : ∀ hs, Con.args (P := P) ⟨[t, t], [.int .i64], fun a => m a.1 a.2, ps, [], [(false, [.d 0 0])], [], 0, 0⟩ (x, y) hs = [X, Y]) :
  FnOkS P f [X, Y] [] (fun _ : Unit => [iv .i64 r]) (fun _ => []) := by
 have h1 := h.ok (x, y) r hm (fun _ => ⟨.nilIface, [], 0, rfl, fun _ => nilB⟩)
 rw [he] at h1
 exact h1.re fun _ _ _ _ => ⟨(), rfl, rfl⟩
end Go.Dc

namespace Go.Dc
open Go.Proofs Go.RowKit Go.Sort Go.Shelf Go.Lib
variable {P : Program} {τ : Type}

structure CmpOn (m : τ → τ → Option Int) (l : List τ) : Prop where
 tot : ∀ x ∈ l, ∀ y ∈ l, m x y = some (cfo m x y)
 swo : SWO (ltOf fun i j : Fin l.length => cfo m l[i] l[j])
 sep : ∀ i j : Fin l.length, (ltOf fun i j : Fin l.length => cfo m l[i] l[j]) i j = false → (ltOf fun i j : Fin l.length => cfo m l[i] l[j]) j i = false → i = j
end Go.Dc
