/- Part Dc.Cpt of a proof: lemmas. -/
import Derived.Test.YtcopohboenimpaaGreatDoorMAsk
import Derived.Shelf.SlSortCmp.InsertionK
import Derived.Shelf.SlSortCmp.Kit1
import Derived.Test.YtcopohboenimpaaGreatDoorMBridgeM
import Derived.Shelf.Spec.TrailingZeros
import Derived.Test.YtcopohboenimpaaGreatDoorMMem4
import Derived.Test.YtcopohboenimpaaGreatDoorDcEqS
import Derived.Shelf.Slices.CompactI
set_option linter.unusedVariables false
/-! slices.SortFunc of elements of several cells, under a function that compares. -/
namespace Go.Dc
open Go.Proofs Go.RowKit Go.Sort Go.Shelf Go.Lib
variable {P : Program} {α : Type} [Inhabited α]

theorem cell_of_blockL {w : World} {b o : Nat} {cells : Array Value} {ty : TypeId} {fz : Nat × Nat} (h : w.heap[b]? = some (.cells cells ty fz)) : w.cell? ⟨b, o, none⟩ = cells[o]? := by
 simp [World.cell?, h]
theorem unfrozen_of_blockL {w : World} {b o : Nat} {cells : Array Value} {ty : TypeId} (h : w.heap[b]? = some (.cells cells ty (0, 0))) : w.frozen? ⟨b, o, none⟩ = false := by
 simp [World.frozen?, h]

/-- what stays of a world in which only blocks were added -/
theorem kept_grow {w w' : World} (h : Kept [] w w') : ∃ q os, w' = grow (w.drewN q) os := by
 refine ⟨w'.drawn - w.drawn, w'.heap.extract w.heap.size w'.heap.size, ?_⟩
 have hh : w'.heap = w.heap ++ w'.heap.extract w.heap.size w'.heap.size := by
  have hs := h.size
  apply Array.ext_getElem?
  intro i
  by_cases e : i < w.heap.size
  ·rw [Array.getElem?_append_left e, h.blk i e (by simp)]
  ·rw [Array.getElem?_append_right (by omega), Array.getElem?_extract]
   by_cases e2 : i < w'.heap.size
   ·rw [if_pos (by omega), show w.heap.size + (i - w.heap.size) = i by omega]
   ·rw [Array.getElem?_eq_none (by omega)]
    split
    ·rw [Array.getElem?_eq_none (by omega)]
    ·rfl
 have hd := h.drawn trivial
 obtain ⟨heap, tape, drawn, os, output⟩ := w
 obtain ⟨heap', tape', drawn', os', output'⟩ := w'
 have h1 := h.os; have h2 := h.tape; have h3 := h.output
 dsimp only at h1 h2 h3 hh hd ⊢
 subst h1; subst h2; subst h3
 unfold grow World.drewN
 simp only [World.mk.injEq, true_and, and_true]
 exact ⟨hh, by omega⟩

/-- elements whose cells are fixed by their value -/
structure EncT {α : Type} (ρ : Rep α) (enc : α → List Value) (k : Nat) : Prop where
 size : ρ.size = k
 pos : 0 < k
 agg : ρ.agg = true
 len : ∀ x, (enc x).length = k
 one : ∀ x, ∀ v ∈ enc x, v.oneCell' = true
 to : ∀ (x : α) (F : FP) (w : World) (cs : List Value), AllP F w (ρ.cp x) cs → cs = enc x
 of : ∀ (x : α) (F : FP) (w : World), AllP F w (ρ.cp x) (enc x)

/-- a function that compares: total, a strict weak order that parts whatever two that are not one -/
def cfo (m : α → α → Option Int) (x y : α) : Int := (m x y).getD 0
structure CmpOk (m : α → α → Option Int) : Prop where
 tot : ∀ x y, m x y = some (cfo m x y)
 swo : SWO (ltOf (cfo m))
 sep : ∀ x y, ltOf (cfo m) x y = false → ltOf (cfo m) y x = false → x = y
def sortL (m : α → α → Option Int) (l : List α) : List α := l.mergeSort fun x y => !(ltOf (cfo m)) y x
open Classical in
noncomputable def sortFM (m : α → α → Option Int) (l : List α) : Option (List α) := if l.length ≤ 1000000000000 ∧ CmpOk m then some (sortL m l) else none
omit [Inhabited α] in
theorem sortL_len {m : α → α → Option Int} {l : List α} : (sortL m l).length = l.length := by simp [sortL]

omit [Inhabited α] in
theorem slH_enc {ρ : Rep α} {enc : α → List Value} {k : Nat} (hE : EncT ρ enc k) {F : FP} {w : World} {cells : Array Value} {off : Nat} {d : List α} :
  SlH ρ F w cells off d ↔ ∀ i (hi : i < d.length), ∀ j, j < k → cells[off + i * k + j]? = (enc d[i])[j]? := by
 constructor
 ·intro h i hi j hj
  obtain ⟨es, h1, h2⟩ := h i hi
  have := h2 j (by rw [hE.size]; exact hj)
  rw [hE.size] at this
  rw [this, hE.to _ _ _ _ h1]
 ·intro h i hi
  refine ⟨enc d[i], hE.of _ _ _, fun j hj => ?_⟩
  rw [hE.size] at hj ⊢
  exact h i hi j hj

/-- a contract that tells of the draws too -/
abbrev FnOkS {X : Type} (P : Program) (f : FuncId) (args : List RP) (Ω0 : List OB) (res : X → List RP) (Ω1 : X → List OB) : Prop := FnOk P f args Ω0 res Ω1
/-- slices.SortFunc of a slice of structs that is ours -/
theorem sort_fnF [DrawMode] {ρ : Rep α} {enc : α → List Value} {k : Nat} (hE : EncT ρ enc k) {fS fC : Nat} {m : α → α → Option Int} {X : Type}
  (hfC : ∀ x y r, m x y = some r → FnOkS P fC [sh ρ x, sh ρ y] [] (fun _ : X => [iv .i64 r]) (fun _ => []))
  (hC : ∀ (hO : SWO (ltOf (cfo m))) (blk off cap : Nat) (d : Array α) (w : World), CmpLays P fC #[] enc k (cfo m) blk off d.size w → HoldsK enc k w blk off d → blk < w.heap.size → d.size < 4611686018427387904 →
   (∀ x y, (ltOf (cfo m)) x y = false → (ltOf (cfo m)) y x = false → x = y) →
   Calls P fS #[.slice (some ⟨blk, off, none⟩) d.size cap, .func (.func fC) #[] #[]] w fun e w' => e = .returned (.tuple #[]) ∧ ∃ n os, w' = sortWorldK enc k w blk off n (d.toList.mergeSort fun x y => !(ltOf (cfo m)) y x).toArray os)
  (hN : ∀ (p : Option Addr) (cap : Nat) (fv : Value) (w : World), Calls P fS #[.slice p 0 cap, fv] w fun e w' => e = .returned (.tuple #[]) ∧ w' = w)
  {l r : List α} (hm : sortFM m l = some r) {h : Value × List Nat} :
  FnOk P fS [pv h.1, pv (.func (.func fC) #[] #[])] [oa ρ h.1 h.2 l] (fun _ : Unit => []) (fun _ : Unit => [oa ρ h.1 h.2 r]) := by
 intro F w vs hF hmf hbd hnd hob hargs htb
 unfold sortFM at hm
 have hl : l.length ≤ 1000000000000 ∧ CmpOk m := Classical.byContradiction fun hx => by rw [if_neg hx] at hm; cases hm
 rw [if_pos hl] at hm
 cases hm
 obtain ⟨hl, hcm⟩ := hl
 match vs, hargs with
 | [v0, v1], ⟨hv0, hv1, _⟩ =>
  have hv0' : v0 = h.1 := hv0
  have hv1' : v1 = .func (.func fC) #[] #[] := hv1
  subst hv0'; subst hv1'
  obtain ⟨hv, S⟩ := h
  obtain ⟨a, c, e1, hc, hat⟩ := hob (oa ρ hv S l) (by simp)
  simp only at e1 hat hbd ⊢
  subst e1
  have hlen : (sortL m l).length = l.length := sortL_len
  rcases hat with ⟨rfl, rfl, rfl⟩ | ⟨b, off, cells, ty, rfl, rfl, hb, hsz, hH⟩
  ·have : l = [] := List.eq_nil_of_length_eq_zero (by omega)
   subst this
   refine Calls.mono (hN none 0 _ w) ?_
   rintro e' w' ⟨rfl, rfl⟩
   refine ⟨(), _, rfl, .refl _ _, by simp [ow, oa], by simp [ow, oa], fun o ho => ?_, #[], rfl, trivial⟩
   rw [List.mem_singleton.1 ho]
   exact ⟨none, 0, by simp [sortL], by simp [sortL], .inl ⟨rfl, rfl, rfl⟩⟩
  ·have hI := (slH_enc hE).1 hH
   have hsz' : off + c * k ≤ cells.size := by rw [← hE.size]; exact hsz
   have hk := hE.pos
   have hHo : HoldsK enc k w b off l.toArray := fun t ht => by
    have ht' : t < l.length * k := by simpa using ht
    have hq : t / k < l.length := Nat.div_lt_of_lt_mul (by rw [Nat.mul_comm]; exact ht')
    have hr : t % k < k := Nat.mod_lt _ hk
    refine ⟨?_, unfrozen_of_blockL hb⟩
    rw [cell_of_blockL hb]
    have h1 := hI (t / k) hq (t % k) hr
    rw [show off + t / k * k + t % k = off + t by have := Nat.div_add_mod t k; rw [Nat.mul_comm] at this; omega] at h1
    rw [h1, get_flatK _ _ _ _ (by simpa using ht')]
    have e : l.toArray[t / k]! = l[t / k] := by simp [hq]
    rw [e]
    have hlt : t % k < (enc l[t / k]).length := by rw [hE.len]; exact hr
    rw [List.getElem?_eq_getElem hlt]
    simp [hlt]
   have hbl := size_of_get hb
   have hcmp : CmpLays P fC #[] enc k (cfo m) b off l.toArray.size w := fun q os dk hdk x y => by
    have hsh : ∀ x : α, (sh ρ x).h (fun _ => True) (sortWorldK enc k w b off q dk os) (.agg (enc x).toArray) := fun x => sh_iff.2 ⟨enc x, hE.of x _ _, by rw [hE.agg]; rfl⟩
    have hcl := hfC x y _ (hcm.tot x y) (fun _ => True) (sortWorldK enc k w b off q dk os) [.agg (enc x).toArray, .agg (enc y).toArray] (fun _ _ => trivial) (fun _ _ => trivial) (by simp [ow]) (by simp [ow]) (by simp)
     ⟨(sh ρ x).mono (.refl fun _ _ _ => ⟨trivial, by simp [ow]⟩) (hsh x), (sh ρ y).mono (.refl fun _ _ _ => ⟨trivial, by simp [ow]⟩) (hsh y), trivial⟩ (fun _ hx => by cases hx)
    refine Calls.mono hcl ?_
    rintro e' w' ⟨_, v, rfl, hk, _, _, _, hv⟩
    have hv' : v = .int .i64 (cfo m x y) := hv
    subst hv'
    exact ⟨rfl, kept_grow hk⟩
   have hCl := hC hcm.swo b off c l.toArray w hcmp hHo hbl (by simp; omega) hcm.sep
   rw [List.size_toArray] at hCl
   refine Calls.mono hCl ?_
   rintro e' w' ⟨rfl, q, os, rfl⟩
   have hr : (l.mergeSort fun x y => !(ltOf (cfo m)) y x) = sortL m l := rfl
   rw [List.toList_toArray, hr]
   generalize sortL m l = r at *
   have hheap : ∀ i, i < w.heap.size → (sortWorldK enc k w b off q r.toArray os).heap[i]? = if i = b then some (.cells (putCells id off (flatK enc k r.toArray) cells) ty (0, 0)) else w.heap[i]? := fun i hi => by
    unfold sortWorldK putRowK grow putRow mapBlock Sort.ahead
    simp only
    rw [Array.getElem?_append_left (by simpa using hi)]
    simp only [Array.getElem?_modify]
    by_cases e : b = i
    ·subst e; rw [if_pos rfl, if_pos rfl, hb]; rfl
    ·rw [if_neg e, if_neg (fun h => e h.symm)]
   have hgs : w.heap.size ≤ (sortWorldK enc k w b off q r.toArray os).heap.size := by simp [sortWorldK, putRowK, grow, putRow, mapBlock, Sort.ahead]
   refine ⟨(), _, rfl, ⟨rfl, rfl, rfl, by simp [sortWorldK, putRowK, grow, putRow, mapBlock, Sort.ahead], hgs, fun i hi hk' => ?_⟩, fun i hk' => ?_, by simp [ow, oa], fun o ho => ?_, #[], rfl, trivial⟩
   ·rw [hheap i hi, if_neg (fun e => hk' (by simp [ow, oa, e]))]
   ·have : i = b := by simpa [ow, oa] using hk'
    subst this
    exact ⟨by omega, .inr (by simp [ow, oa])⟩
   ·rw [List.mem_singleton.1 ho]
    refine ⟨_, c, by rw [hlen], by omega, .inr ⟨b, off, _, ty, rfl, rfl, by rw [hheap b hbl, if_pos rfl], ?_, (slH_enc hE).2 fun i hi j hj => ?_⟩⟩
    ·simp only [putCells, Array.size_mapIdx]; rw [hE.size]; exact hsz'
    ·have hic : i * k + k ≤ c * k := by rw [← Nat.succ_mul]; exact Nat.mul_le_mul_right _ (by omega)
     have hir : i * k + j < r.length * k := by
      have : i * k + k ≤ r.length * k := by rw [← Nat.succ_mul]; exact Nat.mul_le_mul_right _ (by omega)
      omega
     have hi2 : off + i * k + j < cells.size := by omega
     simp only [putCells, Array.getElem?_mapIdx, Array.getElem?_eq_getElem hi2, Option.map_some]
     rw [if_pos (by simp; omega)]
     have e1 : off + i * k + j - off = i * k + j := by omega
     rw [e1, id, get_flatK _ _ _ _ (by simpa using hir)]
     have e2 : (i * k + j) / k = i := by rw [Nat.add_comm, Nat.add_mul_div_right _ _ hk, Nat.div_eq_of_lt hj, Nat.zero_add]
     have e3 : (i * k + j) % k = j := by rw [Nat.add_comm, Nat.add_mul_mod_self_right, Nat.mod_eq_of_lt hj]
     rw [e2, e3]
     have e4 : r.toArray[i]! = r[i] := by simp [hi]
     rw [e4]
     have hlt : j < (enc r[i]).length := by rw [hE.len]; exact hj
     rw [List.getElem?_eq_getElem hlt]
     simp [hlt]
end Go.Dc

set_option linter.unusedSectionVars false
set_option linter.unusedVariables false
/-! slices.SortFunc of integers, under a function that compares. -/
namespace Go.Dc
open Go.Proofs Go.RowKit Go.Sort Go.Shelf Go.Lib
variable {P : Program}
def encI (x : Int) : Value := .int .i64 x
theorem encI_one : OneCell encI := fun _ => rfl
theorem slH_intE {F : FP} {w : World} {cells : Array Value} {off : Nat} {d : List Int} : SlH (rI .i64) F w cells off d ↔ ∀ i (hi : i < d.length), cells[off + i]? = some (encI d[i]) := by
 constructor
 ·intro h i hi
  obtain ⟨es, h1, h2⟩ := h i hi
  have h3 := h2 0 Nat.one_pos
  match es, h1 with
  | [v], ⟨hv, _⟩ =>
   have hv' : v = .int .i64 d[i] := hv
   subst hv'
   have e : off + i * (rI .i64).size + 0 = off + i := by show off + i * 1 + 0 = _; omega
   rw [e] at h3; exact h3
 ·intro h i hi
  refine ⟨[encI d[i]], ⟨rfl, trivial⟩, fun j hj => ?_⟩
  have : j = 0 := by have h1 : j < 1 := hj; omega
  subst this
  have e : off + i * (rI .i64).size + 0 = off + i := by show off + i * 1 + 0 = _; omega
  rw [e]; exact h i hi
theorem sort_fnI [DrawMode] {fS fC : Nat} {m : Int → Int → Option Int} {X : Type}
  (hfC : ∀ x y r, m x y = some r → FnOkS P fC [iv .i64 x, iv .i64 y] [] (fun _ : X => [iv .i64 r]) (fun _ => []))
  (hC : ∀ (hO : SWO (ltOf (cfo m))) (blk off cap : Nat) (d : Array Int) (w : World), CmpLays1 P fC #[] encI (cfo m) blk off d.size w → Holds encI w blk off d → blk < w.heap.size → d.size < 4611686018427387904 →
   (∀ x y, (ltOf (cfo m)) x y = false → (ltOf (cfo m)) y x = false → x = y) →
   Calls P fS #[.slice (some ⟨blk, off, none⟩) d.size cap, .func (.func fC) #[] #[]] w fun e w' => e = .returned (.tuple #[]) ∧ ∃ n os, w' = sortWorld encI w blk off n (d.toList.mergeSort fun x y => !(ltOf (cfo m)) y x).toArray os)
  (hN : ∀ (p : Option Addr) (cap : Nat) (fv : Value) (w : World), Calls P fS #[.slice p 0 cap, fv] w fun e w' => e = .returned (.tuple #[]) ∧ w' = w)
  {l r : List Int} (hm : sortFM m l = some r) {h : Value × List Nat} :
  FnOk P fS [pv h.1, pv (.func (.func fC) #[] #[])] [oa (rI .i64) h.1 h.2 l] (fun _ : Unit => []) (fun _ : Unit => [oa (rI .i64) h.1 h.2 r]) := by
 intro F w vs hF hmf hbd hnd hob hargs htb
 unfold sortFM at hm
 have hl : l.length ≤ 1000000000000 ∧ CmpOk m := Classical.byContradiction fun hx => by rw [if_neg hx] at hm; cases hm
 rw [if_pos hl] at hm
 cases hm
 obtain ⟨hl, hcm⟩ := hl
 match vs, hargs with
 | [v0, v1], ⟨hv0, hv1, _⟩ =>
  have hv0' : v0 = h.1 := hv0
  have hv1' : v1 = .func (.func fC) #[] #[] := hv1
  subst hv0'; subst hv1'
  obtain ⟨hv, S⟩ := h
  obtain ⟨a, c, e1, hc, hat⟩ := hob (oa (rI .i64) hv S l) (by simp)
  simp only at e1 hat hbd ⊢
  subst e1
  have hlen : (sortL m l).length = l.length := sortL_len
  rcases hat with ⟨rfl, rfl, rfl⟩ | ⟨b, off, cells, ty, rfl, rfl, hb, hsz, hH⟩
  ·have : l = [] := List.eq_nil_of_length_eq_zero (by omega)
   subst this
   refine Calls.mono (hN none 0 _ w) ?_
   rintro e' w' ⟨rfl, rfl⟩
   refine ⟨(), _, rfl, .refl _ _, by simp [ow, oa], by simp [ow, oa], fun o ho => ?_, #[], rfl, trivial⟩
   rw [List.mem_singleton.1 ho]
   exact ⟨none, 0, by simp [sortL], by simp [sortL], .inl ⟨rfl, rfl, rfl⟩⟩
  ·have hI := slH_intE.1 hH
   have hsz' : off + c ≤ cells.size := by have : off + c * 1 ≤ cells.size := hsz; omega
   have hHo : Holds encI w b off l.toArray := fun t ht => by
    have ht' : t < l.length := by simpa using ht
    refine ⟨?_, unfrozen_of_blockL hb⟩
    rw [cell_of_blockL hb, hI t ht']
    simp [ht']
   have hbl := size_of_get hb
   have hcmp : CmpLays1 P fC #[] encI (cfo m) b off l.toArray.size w := fun q os dk hdk x y => by
    have hcl := hfC x y _ (hcm.tot x y) (fun _ => True) (sortWorld encI w b off q dk os) [encI x, encI y] (fun _ _ => trivial) (fun _ _ => trivial) (by simp [ow]) (by simp [ow]) (by simp) ⟨rfl, rfl, trivial⟩ (fun _ hx => by cases hx)
    refine Calls.mono hcl ?_
    rintro e' w' ⟨_, v, rfl, hk, _, _, _, hv⟩
    have hv' : v = .int .i64 (cfo m x y) := hv
    subst hv'
    exact ⟨rfl, kept_grow hk⟩
   have hCl := hC hcm.swo b off c l.toArray w hcmp hHo hbl (by simp; omega) hcm.sep
   rw [List.size_toArray] at hCl
   refine Calls.mono hCl ?_
   rintro e' w' ⟨rfl, q, os, rfl⟩
   have hr : (l.mergeSort fun x y => !(ltOf (cfo m)) y x) = sortL m l := rfl
   rw [List.toList_toArray, hr]
   generalize sortL m l = r at *
   have hheap : ∀ i, i < w.heap.size → (sortWorld encI w b off q r.toArray os).heap[i]? = if i = b then some (.cells (putCells encI off r.toArray cells) ty (0, 0)) else w.heap[i]? := fun i hi => by
    unfold sortWorld grow putRow mapBlock Sort.ahead
    simp only
    rw [Array.getElem?_append_left (by simpa using hi)]
    simp only [Array.getElem?_modify]
    by_cases e : b = i
    ·subst e; rw [if_pos rfl, if_pos rfl, hb]; rfl
    ·rw [if_neg e, if_neg (fun h => e h.symm)]
   have hgs : w.heap.size ≤ (sortWorld encI w b off q r.toArray os).heap.size := by simp [sortWorld, grow, putRow, mapBlock, Sort.ahead]
   refine ⟨(), _, rfl, ⟨rfl, rfl, rfl, by simp [sortWorld, grow, putRow, mapBlock, Sort.ahead], hgs, fun i hi hk' => ?_⟩, fun i hk' => ?_, by simp [ow, oa], fun o ho => ?_, #[], rfl, trivial⟩
   ·rw [hheap i hi, if_neg (fun e => hk' (by simp [ow, oa, e]))]
   ·have : i = b := by simpa [ow, oa] using hk'
    subst this
    exact ⟨by omega, .inr (by simp [ow, oa])⟩
   ·rw [List.mem_singleton.1 ho]
    refine ⟨_, c, by rw [hlen], by omega, .inr ⟨b, off, _, ty, rfl, rfl, by rw [hheap b hbl, if_pos rfl], ?_, slH_intE.2 fun i hi => ?_⟩⟩
    ·simp only [putCells, Array.size_mapIdx]; exact hsz
    ·have hi2 : off + i < cells.size := by omega
     simp only [putCells, Array.getElem?_mapIdx, Array.getElem?_eq_getElem hi2, Option.map_some]
     rw [if_pos (by simp; omega)]
     have e1 : off + i - off = i := by omega
     rw [e1]
     have e4 : r.toArray[i]! = r[i] := by simp [hi]
     rw [e4]
end Go.Dc

/-! A comparing function's contract, for slices.SortFunc (the count of draws does not fall). -/
namespace Go.Dc
variable {P : Program} {f : FuncId} [PTab P]
theorem conCmp {t : Ty} {m : t.den → t.den → Option Int} {ps : List (Bool × List KA)} {X Y : RP} {x y : t.den} {r : Int}
  (h : ConFn P f ⟨[t, t], [.int .i64], fun a => m a.1 a.2, ps, [], [(false, [.d 0 0])], [], 0, 0⟩) (hm : m x y = some r)
  (he : ∀ hs, Con.args (P := P) ⟨[t, t], [.int .i64], fun a => m a.1 a.2, ps, [], [(false, [.d 0 0])], [], 0, 0⟩ (x, y) hs = [X, Y]) :
  FnOkS P f [X, Y] [] (fun _ : Unit => [iv .i64 r]) (fun _ => []) := by
 have h1 := h.ok (x, y) r hm (fun _ => ⟨.nilIface, [], 0, rfl⟩)
 rw [he] at h1
 exact h1.re fun _ _ _ _ => ⟨(), rfl, rfl⟩
end Go.Dc

/-! bits.TrailingZeros64 as a contract of ours: its table is known throughout. -/
namespace Go.Dc
open Go.Proofs
variable [DrawMode] {P : Program}
def tzM (x : Int) : Option Int := if 0 ≤ x ∧ x < 18446744073709551616 then some (Lib.ctz 64 x.toNat : Int) else none
def tzCells : Array Value := (Lib.deBruijn64tab.map fun z : Nat => Value.int .u8 (z : Int)).toArray
theorem tz_fn {f g : Nat} (hC : ∀ (x : Nat), x < 18446744073709551616 → ∀ w : World, (x ≠ 0 → TabAt g Lib.deBruijn64tab w) → Calls P f #[.int .u64 x] w fun e w' => e = .returned (.int .i64 (Lib.ctz 64 x)) ∧ w' = w)
  (hT : (g, tzCells) ∈ DrawMode.tabs) {x r : Int} (h : tzM x = some r) : FnOk P f [iv .u64 x] [] (fun _ : Unit => [iv .i64 r]) (fun _ => []) := by
 intro F w vs hF hmf hbd hnd hob hargs htb
 unfold tzM at h
 split at h
 ·rename_i hx
  cases h
  match vs, hargs with
  | [v0], ⟨hv, _⟩ =>
   have hv : v0 = .int .u64 x := hv
   subst hv
   obtain ⟨_, ty, fz, hg⟩ := htb _ hT
   have htab : TabAt g Lib.deBruijn64tab w := fun j hj => by
    have hg' : w.heap[g]? = some (.cells tzCells ty fz) := hg
    simp only [World.cell?, hg']
    simp [tzCells, List.getD, hj]
   have e : x = ((x.toNat : Nat) : Int) := by omega
   have hc := hC x.toNat (by omega) w fun _ => htab
   rw [← e] at hc
   refine hc.mono ?_
   rintro e' w' ⟨rfl, rfl⟩
   exact ⟨(), _, rfl, .refl _ _, by simp [ow], by simp [ow], by simp, rfl⟩
 ·cases h
theorem tz_con [PTab P] {f : Nat} (h : ∀ {x r : Int}, tzM x = some r → FnOk P f [iv .u64 x] [] (fun _ : Unit => [iv .i64 r]) (fun _ => [])) :
  ConOk P f ⟨[.int .u64], [.int .i64], tzM, [(false, [.d 0 0])], [], [(false, [.d 0 0])], [], 0, 0⟩ := fun _ _ hr hs =>
 (h hr).re fun _ _ _ _ => ⟨⟨hs, fun i hi => absurd hi (Nat.not_lt_zero i)⟩, rfl, rfl⟩
end Go.Dc
namespace Go.Dc
def tzInts : List Int := Lib.deBruijn64tab.map fun z : Nat => (z : Int)
theorem tz_inv {W : World} {g : Nat} (h : ∃ ty fz, W.heap[g]? = some (.cells (tzInts.map fun z => Value.int .u8 z).toArray ty fz)) : ∃ ty fz, W.heap[g]? = some (.cells tzCells ty fz) := by
 obtain ⟨ty, fz, h⟩ := h
 unfold tzInts at h
 rw [List.map_map] at h
 exact ⟨ty, fz, h⟩
end Go.Dc

set_option linter.unusedSectionVars false
/-! copy into a whole slice that is ours. -/
namespace Go.Dc
variable [DrawMode]
variable {P : Program} {E : Env} {N : Nat} {Γ : List (Nat × RP)} {Ω : List OB} {ty : TypeId} {α : Type} {ρ : Rep α} {bytes t e j : Nat} {x y : Operand} {hv : Value} {S : List Nat} {d : List α}

def cpA {α : Type} (d d' : List α) : List α := d'.take d.length ++ d.drop (min d'.length d.length)
theorem s_copyA {d' : List α} (hu : P.underlying t = some (.slice e)) (h : ElT P e ρ bytes) (hx : lkO Γ x = some (pv hv)) (hj : Ω[j]? = some (oa ρ hv S d)) (hy : lkO Γ y = some (slv ρ d')) :
  St P E N (.call ⟨.builtin .copy, #[x, y], #[t, t]⟩) ty Γ Ω [j] (fun _ : Unit => iv .i64 ((min d'.length d.length : Nat) : Int)) (fun _ => Ω.set j (oa ρ hv S (cpA d d'))) := by
 by_cases h0 : 0 < d.length
 ·intro a w hs
  obtain ⟨ad, c, rfl, hdc, hob⟩ := hs.objAt hj
  have e1 : subV (.slice ad d.length c) ρ.size 0 d.length = .slice ad d.length c := by
   rw [subV_slice, if_neg (by omega)]
   congr 1
   cases ad with
   | none => rfl
   | some q => cases q; simp [Addr.add]
  have := s_copyS (P := P) (E := E) (N := N) (ty := ty) (l := 0) (m := d.length) (d' := d') h0 (Nat.le_refl _) hu h (by rw [e1]; exact hx) hj hy a w hs
  simpa [cpA] using this
 ·have hd : d = [] := List.eq_nil_of_length_eq_zero (by omega)
  subst hd
  intro a w hs
  have hvx : a.eval x = hv := hs.op hx
  obtain ⟨ya, yc, hvy, hyc, hyat⟩ := hs.op hy
  obtain ⟨ad, c, rfl, hdc, hob⟩ := hs.objAt hj
  obtain ⟨i, hi, his, _⟩ := h.info
  have hfc : ∀ ya yc, (Builtin.firstCells i.size 0 (.slice ya d'.length yc)).run P w = .ok #[] w := fun ya yc => by
   have := run_fc (P := P) (size := i.size) (m := 0) (yc := yc) (ya := ya) (news := []) (w := w) (by simp) (.inl (by simp))
   cases ya <;> exact this
  have hr : (Builtin.copy_ #[t, t] ty #[.slice ad 0 c, .slice ya d'.length yc]).run P w = .ok (goInt 0) w := by
   simp only [Builtin.copy_]
   cases ad with
   | none => simp [run_underlying hu, Builtin.lenOf, sizeOf, typeInfo, hi, hfc]
   | some q => simp [run_underlying hu, Builtin.lenOf, sizeOf, typeInfo, hi, hfc, storeCells]
  have hdd : cpA ([] : List α) d' = [] := by simp [cpA]
  refine opwp_val (fun o ho ht => run_copy_call ho hvx hvy (by rw [ht]; exact hr)) ⟨(), ?_, ?_, Nat.le_refl _, fun _ _ _ => rfl, fun b hb hm => ?_⟩
  ·rw [hdd, set_same hj]; exact hs
  ·simp; rfl
  ·rw [hdd, set_same hj] at hm; exact hm
end Go.Dc

set_option linter.unusedSectionVars false
set_option linter.unusedVariables false
/-! A range over a map that is ours: the order is drawn; what follows must not hang on it. -/
namespace Go.Dc
variable [DrawMode]
variable {P : Program} {E : Env} {N : Nat} {Γ : List (Nat × RP)} {Ω : List OB} {ty : TypeId} {α β : Type} [DecidableEq α] {κ : Rep α} {ν : Rep β}

def bornAt (es : List MapEntry) (i : Nat) : Nat := (es[i]?.map (·.born)).getD 0
/-- a map over which a loop ranges; ix: the places of the entries that were handed out -/
def omi {α β : Type} (κ : Rep α) (ν : Rep β) (b it : Nat) (d : List (α × β)) (ix : List Nat) : OB where
 S := [b, it]
 h := fun F w => b ≠ it ∧ ∃ es clock seen last, w.heap[b]? = some (.map es clock) ∧ Ents κ ν F w es.toList d ∧ (∀ e ∈ es.toList, e.born < clock) ∧ (es.toList.map (·.born)).Nodup ∧
  w.heap[it]? = some (.mapIter (some b) clock seen last) ∧ clock ≤ last ∧ (ix ≠ [] → last = clock) ∧ seen.toList = ix.map (bornAt es.toList) ∧ ix.Nodup ∧ ∀ i ∈ ix, i < d.length
 mono := by
  rintro F F' w w' ag hs ⟨hne, es, clock, seen, last, h1, h2, h3, h4, h5, h6⟩
  exact ⟨hne, es, clock, seen, last, by rw [hs b (by simp)]; exact h1, h2.mono ag, h3, h4, by rw [hs it (by simp)]; exact h5, h6⟩

/-- what a step hands out -/
def nxT (κ : Rep α) (ν : Rep β) : Option (Nat × α × β) → RP
 | none => tup [bv false]
 | some p => tup [bv true, sh κ p.2.1, sh ν p.2.2]
def ixn (ix : List Nat) : Option (Nat × α × β) → List Nat
 | none => ix
 | some p => ix ++ [p.1]
def NxOk (d : List (α × β)) (ix : List Nat) : Option (Nat × α × β) → Prop
 | none => ∀ i, i < d.length → i ∈ ix
 | some p => p.1 ∉ ix ∧ d[p.1]? = some p.2

section
variable {it b j : Nat} {d : List (α × β)} {ix : List Nat} {x : Operand}
end

/-! ### the loop -/
open Classical in
/-- what comes of a loop over the entries in any order: only where the order does not matter -/
noncomputable def rngM {γ σ R : Type} (d : List γ) (f : σ → γ → Option σ) (s0 : σ) (k : σ → Option R) : Option R :=
 if ∀ l : List γ, l.Perm d → (l.foldlM f s0).bind k = (d.foldlM f s0).bind k then (d.foldlM f s0).bind k else none
section
variable {σ X Y R γ : Type} {id : Nat} {Γl : σ → X → List (Nat × RP)} {Ωl : σ → X → List Nat → List OB} {Γb : σ → Y → List (Nat × RP)} {Ωb : σ → Y → List Nat → List OB} {k : σ → Option R} {K : KT R}
/-- where a round ends -/
def rngK (E : Env) (N : Nat) (id : Nat) (d : List γ) (f : σ → γ → Option σ) (Γl : σ → X → List (Nat × RP)) (Ωl : σ → X → List Nat → List OB) (Γb : σ → Y → List (Nat × RP)) (Ωb : σ → Y → List Nat → List OB) (ix : List Nat) (s : σ) : KT Unit :=
 fun _ e a w => (e = .exit id ∧ (∀ i, i < d.length → i ∈ ix) ∧ ∃ y, Sat E N (Γb s y) (Ωb s y ix) a w) ∨
  (e = .normal ∧ ∃ i p s', i ∉ ix ∧ d[i]? = some p ∧ f s p = some s' ∧ ∃ x', Sat E N (Γl s' x') (Ωl s' x' (ix ++ [i])) a w)

/-- the end of a round's own code -/
def rngG (E : Env) (N : Nat) (Γl : σ → X → List (Nat × RP)) (Ωl : σ → X → List Nat → List OB) (ix : List Nat) : KT σ := fun s' e a w => e = .normal ∧ ∃ x', Sat E N (Γl s' x') (Ωl s' x' ix) a w
end
end Go.Dc

/-! a new slice of ours out of data and a number (slices.Repeat) -/
namespace Go.Dc

variable [DrawMode] {P : Program} {f : FuncId} [PTab P]
def conW4 (t : Ty) (m : List t.den → Int → Option (List t.den)) : Con := ⟨[.sl t, .int .i64], [.sl t], fun a => m a.1 a.2, [(false, [.d 0 0]), (false, [.d 1 0])], [], [(false, [.own 0])], [.oa 0 (.d 0 0)], 0, 1⟩
theorem conW4_ok {t : Ty} {m : List t.den → Int → Option (List t.den)} (h : ∀ s n r, m s n = some r → FnOk P f [slv t.rep s, iv .i64 n] [] (fun x : Value × List Nat => [pv x.1]) (fun x => [oa t.rep x.1 x.2 r])) :
  ConOk P f (conW4 t m) := fun a r har hs => by
 refine (h a.1 a.2 r har).re fun x F w hx => ?_
 have h1 : x.1.oneCell' = true := oa_one (hx (oa t.rep x.1 x.2 r) (List.mem_singleton.2 rfl))
 refine ⟨⟨updHd hs 0 ⟨x.1, x.2, 0, h1⟩, fun i hi => ?_⟩, rfl, rfl⟩
 have : i < 0 := hi
 omega
end Go.Dc

set_option linter.unusedSectionVars false
set_option linter.unusedVariables false
/-! slices.Compact of ints as a contract of ours. -/
namespace Go.Dc
variable [DrawMode]
open Go.Proofs Go.RowKit Go.Sort Go.Shelf
variable {P : Program}

theorem slH_int {F : FP} {w : World} {cells : Array Value} {off : Nat} {d : List Int} {k : IntKind} : SlH (rI k) F w cells off d ↔ ∀ i (hi : i < d.length), cells[off + i]? = some (.int k d[i]) := by
 constructor
 ·intro h i hi
  obtain ⟨es, h1, h2⟩ := h i hi
  have := h2 0 (by simp [rI, one])
  simp only [rI, one, Nat.mul_one, Nat.add_zero] at this h1
  match es, h1 with
  | [u], ⟨hu, _⟩ => rw [this]; simp; exact hu
 ·intro h i hi
  refine ⟨[.int k d[i]], ⟨rfl, trivial⟩, fun j hj => ?_⟩
  have hj0 : j = 0 := by simp [rI, one] at hj; omega
  subst hj0
  simpa [rI, one] using h i hi

theorem cell_of_block {w : World} {b o : Nat} {cells : Array Value} {ty : TypeId} {fz : Nat × Nat} (h : w.heap[b]? = some (.cells cells ty fz)) : w.cell? ⟨b, o, none⟩ = cells[o]? := by
 simp [World.cell?, h]
theorem unfrozen_of_block {w : World} {b o : Nat} {cells : Array Value} {ty : TypeId} (h : w.heap[b]? = some (.cells cells ty (0, 0))) : w.frozen? ⟨b, o, none⟩ = false := by
 simp [World.frozen?, h]

def compactM (l : List Int) : Option (List Int) := if l.length ≤ 1000000000000 then some (Lib.compact l) else none

theorem compact_len (zs : List Int) : (Lib.compact zs).length ≤ zs.length := by
 unfold Lib.compact Lib.compactUpTo
 rw [List.length_map]
 exact Nat.le_trans (List.length_filter_le _ _) (by simp)

theorem compact_fn {fS : Nat}
  (hC : ∀ (w : World) (blk off cap : Nat) (zs : List Int), Holds (Value.int .i64) w blk off zs.toArray → zs.length ≤ 9223372036854775807 → zs.length ≤ cap →
   Calls P fS #[.slice (some ⟨blk, off, none⟩) zs.length cap] w fun e w' => e = .returned (.slice (some ⟨blk, off, none⟩) (Lib.compact zs).length cap) ∧ ∃ q, w' = putRow (Value.int .i64) (Sort.ahead w q) blk off (Lib.compact zs ++ List.replicate (zs.length - (Lib.compact zs).length) 0).toArray)
  (hE : ∀ (a : Option Addr) (cap : Nat) (w : World), Calls P fS #[.slice a 0 cap] w fun e w' => e = .returned (.slice a 0 cap) ∧ w' = w)
  (hlen : ∀ zs : List Int, (Lib.compact zs).length ≤ zs.length)
  {l r : List Int} (hm : compactM l = some r) {h : Value × List Nat} :
  FnOk P fS [pv h.1] [oa (rI .i64) h.1 h.2 l] (fun x : Value × List Nat => [pv x.1]) (fun x : Value × List Nat => [oa (rI .i64) x.1 x.2 r]) := by
 intro F w vs hF hmf hbd hnd hob hargs htb
 unfold compactM at hm
 have hl : l.length ≤ 1000000000000 := Classical.byContradiction fun hx => by rw [if_neg hx] at hm; cases hm
 rw [if_pos hl] at hm
 cases hm
 match vs, hargs with
 | [v0], ⟨hv0, _⟩ =>
  have hv0' : v0 = h.1 := hv0
  subst hv0'
  obtain ⟨hv, S⟩ := h
  obtain ⟨a, c, e1, hc, hat⟩ := hob (oa (rI .i64) hv S l) (by simp)
  simp only at e1 hat ⊢
  subst e1
  rcases hat with ⟨rfl, rfl, rfl⟩ | ⟨b, off, cells, ty, rfl, rfl, hb, hsz, hH⟩
  ·have : l = [] := List.eq_nil_of_length_eq_zero (by omega)
   subst this
   refine Calls.mono (hE none 0 w) ?_
   rintro e' w' ⟨rfl, rfl⟩
   refine ⟨(.slice none 0 0, []), _, rfl, .refl _ _, by simp [ow, oa], by simp [ow, oa], fun o ho => ?_, rfl⟩
   rw [List.mem_singleton.1 ho]
   exact ⟨none, 0, rfl, by simp [Lib.compact, Lib.compactUpTo], .inl ⟨rfl, rfl, rfl⟩⟩
  ·have hI := slH_int.1 hH
   have hsz' : off + c ≤ cells.size := by simpa [rI, one] using hsz
   have hHo : Holds (Value.int .i64) w b off l.toArray := fun j hj => by
    have hj' : j < l.length := by simpa using hj
    refine ⟨?_, unfrozen_of_block hb⟩
    rw [cell_of_block hb, hI j hj']
    simp [getElem!_pos, hj']
   refine Calls.mono (hC w b off c l hHo (by omega) hc) ?_
   rintro e' w' ⟨rfl, q, rfl⟩
   have hbl := size_of_get hb
   have hheap : ∀ k, (putRow (Value.int .i64) (Sort.ahead w q) b off (Lib.compact l ++ List.replicate (l.length - (Lib.compact l).length) 0).toArray).heap[k]? = if k = b then some (.cells (putCells (Value.int .i64) off (Lib.compact l ++ List.replicate (l.length - (Lib.compact l).length) 0).toArray cells) ty (0, 0)) else w.heap[k]? := fun k => by
    unfold putRow mapBlock Sort.ahead
    simp only [Array.getElem?_modify]
    by_cases e : b = k
    ·subst e; rw [if_pos rfl, if_pos rfl, hb]; rfl
    ·rw [if_neg e, if_neg (fun h => e h.symm)]
   have hcl := hlen l
   refine ⟨(.slice (some ⟨b, off, none⟩) (Lib.compact l).length c, [b]), _, rfl, ⟨rfl, rfl, rfl, by simp [putRow, mapBlock, Sort.ahead], by simp [putRow, mapBlock, Sort.ahead], fun k hk hk' => ?_⟩, fun k hk' => ?_, by simp [ow, oa], fun o ho => ?_, rfl⟩
   ·rw [hheap, if_neg (fun e => hk' (by simp [ow, oa, e]))]
   ·have : k = b := by simpa [ow, oa] using hk'
    subst this
    exact ⟨by simp [putRow, mapBlock, Sort.ahead]; exact hbl, .inr (by simp [ow, oa])⟩
   ·rw [List.mem_singleton.1 ho]
    refine ⟨_, c, rfl, by omega, .inr ⟨b, off, _, ty, rfl, rfl, by rw [hheap, if_pos rfl], ?_, slH_int.2 fun i hi => ?_⟩⟩
    ·simp only [putCells, Array.size_mapIdx]; exact hsz
    ·have hi2 : off + i < cells.size := by omega
     simp only [putCells, Array.getElem?_mapIdx, Array.getElem?_eq_getElem hi2, Option.map_some]
     rw [if_pos (by simp; omega)]
     have : off + i - off = i := by omega
     rw [this]
     have hi3 : i < (Lib.compact l ++ List.replicate (l.length - (Lib.compact l).length) (0 : Int)).length := by simp; omega
     rw [getElem!_pos _ _ (by simpa using hi3)]
     simp [List.getElem_append_left hi]
end Go.Dc
