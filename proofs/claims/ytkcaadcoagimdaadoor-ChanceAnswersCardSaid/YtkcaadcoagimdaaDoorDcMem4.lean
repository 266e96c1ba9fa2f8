/- Part Dc.Mem4 of a proof: lemmas. -/
import Derived.Test.YtkcaadcoagimdaaDoorDcMem3
/-! New blocks; variables; stores. -/
namespace Go.Dc

variable {P : Program} {E : Env} {N : Nat} {Γ : List (Nat × RP)} {Ω : List OB} {ty : TypeId}

/-- a new block that all share -/
theorem Sat.new {a : Act} {w : World} (hs : Sat E N Γ Ω a w) (o : Obj) : Sat E N Γ Ω a (w.alloc o) :=
  hs.ext ⟨rfl, rfl, rfl⟩ (by simp) fun _ hb => heap_alloc_lt w o hb

theorem Sat.newFr {a : Act} {w : World} (hs : Sat E N Γ Ω a w) : fr E Ω w.heap.size :=
  ⟨hs.fs _ hs.kp.size, fun h => by have := (hs.bd _ h).1; omega⟩

theorem Sat.agNew {w : World} (o : Obj) : Ag (fr E Ω) (fr E Ω) w (w.alloc o) := ⟨fun _ _ h => h, fun _ hb _ => heap_alloc_lt w o hb⟩

/-! ### variables -/
def ptr (b off : Nat) : Value := .pointer (some ⟨b, off, none⟩)

theorem Sat.newVar {a : Act} {w : World} (hs : Sat E N Γ Ω a w) {cells : Array Value} {e : TypeId} {φs : List RP} (h : AllP (fr E Ω) w φs cells.toList) :
    Sat E N Γ (Ω ++ [oc w.heap.size φs]) a (w.alloc (.cells cells e)) := by
  refine hs.add ⟨rfl, rfl, rfl⟩ (by simp) (fun _ hb => heap_alloc_lt w _ hb) (fun b hb => ?_) (by simp [oc]) ?_
  · rw [show b = w.heap.size from by simpa [oc] using hb]; exact ⟨Nat.le_refl _, by simp⟩
  · refine ⟨cells, e, heap_alloc_new' w _, h.mono ⟨fun b hb hf => fr_add hf ?_, fun b hb _ => heap_alloc_lt w _ hb⟩⟩
    simp [oc]; omega

theorem s_alloc {e : TypeId} {zs : List RP} (hz : ∃ i z, P.info? e = some i ∧ i.zero = some z ∧ ∀ F w, AllP F w zs z.cells.toList) :
    St P E N (.alloc e) ty Γ Ω [] (fun b : Nat => pv (ptr b 0)) (fun b => Ω ++ [oc b zs]) := by
  intro a w hs
  obtain ⟨i, z, hi, hzz, hzs⟩ := hz
  have hzv : (zeroValue e).run P w = .ok z w := by simp [zeroValue, typeInfo, hi, hzz]
  refine opwp_val (v := ptr w.heap.size 0) (w' := w.alloc (.cells z.cells e)) (fun o ho ht => ?_) ⟨w.heap.size, hs.newVar (hzs _ _), rfl, by simp, fun b hb _ => heap_alloc_lt w _ hb, own_add (by simp [oc])⟩
  simp [execOp, ho, Instr.alloc, hzv, newVar, newRow, ptr]

theorem s_box {e : TypeId} {x : Operand} {ψs : List RP} (hp : PartOk E N Γ Ω x ψs) :
    St P E N (.box e x) ty Γ Ω [] (fun b : Nat => pv (ptr b 0)) (fun b => Ω ++ [oc b ψs]) := by
  intro a w hs
  refine opwp_val (v := ptr w.heap.size 0) (w' := w.alloc (.cells (a.eval x).cells e)) (fun o ho ht => ?_) ⟨w.heap.size, hs.newVar (hp a w hs).1, rfl, by simp, fun b hb _ => heap_alloc_lt w _ hb, own_add (by simp [oc])⟩
  simp [execOp, ho, Instr.box, newVar, newRow, ptr]

theorem r_nilc {x : Operand} {b off : Nat} (hx : lkO Γ x = some (pv (ptr b off))) : Rd P E N (.nilCheck x) ty Γ Ω [] (pv (ptr b off)) := .mk fun a w hs => by
  have h1 : a.eval x = ptr b off := hs.op hx
  exact ⟨_, rfl, fun w' o ho _ => by simp [execOp, ho, h1, ptr]⟩

theorem r_faddr {s f fo n : Nat} {x : Operand} {b off : Nat} {fields : Array Go.Field} {fd : Go.Field} (hu : P.underlying s = some (.struct fields)) (hf : fields[f]? = some fd) (ho : fd.offset = fo)
    (hn : ∀ w, (Go.sizeOf fd.type).run P w = .ok (n + 1) w) (hx : lkO Γ x = some (pv (ptr b off))) : Rd P E N (.fieldAddr s x f) ty Γ Ω [] (pv (ptr b (off + fo))) := .mk fun a w hs => by
  have h1 : a.eval x = ptr b off := hs.op hx
  exact ⟨_, rfl, fun w' o hop _ => by simp [execOp, hop, h1, ptr, Instr.fieldAt, run_underlying hu, hf, Instr.sureAddr, fieldPlace, hn, addr_add, ho]⟩

theorem oc_load {w : World} {b off n : Nat} {φs ψs : List RP} {F : FP} (hob : (oc b φs).h F w) (hψ : (φs.drop off).take n = ψs) (hl : ψs.length = n) :
    ∃ cells ty es, w.heap[b]? = some (.cells cells ty (0, 0)) ∧ AllP F w ψs es ∧ (∀ j, j < n → cells[off + j]? = es[j]?) ∧ es.length = n := by
  obtain ⟨cells, ty, hb, hall⟩ := hob
  refine ⟨cells, ty, (cells.toList.drop off).take n, hb, hψ ▸ (hall.drop off).take n, fun j hj => ?_, ?_⟩
  · rw [List.getElem?_take, if_pos hj, List.getElem?_drop]; simp
  · have := ((hall.drop off).take n).length
    rw [this, hψ, hl]

/-- a variable of one cell is read -/
theorem r_cload {e : TypeId} {x : Operand} {b off j : Nat} {φs : List RP} {φ : RP} (hg : ∀ w, (isAgg e).run P w = .ok false w) (hx : lkO Γ x = some (pv (ptr b off))) (hj : Ω[j]? = some (oc b φs))
    (hφ : φs[off]? = some φ) : Rd P E N (.load e x) ty Γ Ω [j] φ := fun a w hs => by
  have h1 : a.eval x = ptr b off := hs.op hx
  obtain ⟨cells, ct, hb, hall⟩ := hs.objAt hj
  obtain ⟨v, hv, hh⟩ := hall.get hφ
  refine ⟨v, [b], hh, ?_, fun w' hw' o ho _ => ?_⟩
  · intro b' hb'; rw [List.mem_singleton.1 hb']; exact ⟨size_of_get hb, .inr ⟨j, by simp, _, hj, by simp [oc]⟩⟩
  · have hb2 : w'.heap[b]? = some (.cells cells ct (0, 0)) := by rw [hw' b (by simp)]; exact hb
    have hc : w'.cell? ⟨b, off, none⟩ = some v := by rw [cell_at hb2]; simpa using hv
    simp [execOp, ho, h1, ptr, Instr.loadAt, Instr.sureAddr, loadVar, hg, run_load, hc]

/-- a variable of many cells is read -/
theorem r_cloadS {e : TypeId} {x : Operand} {b off j n : Nat} {φs ψs : List RP} (hg : ∀ w, (isAgg e).run P w = .ok true w) (hn : ∀ w, (Go.sizeOf e).run P w = .ok n w)
    (hx : lkO Γ x = some (pv (ptr b off))) (hj : Ω[j]? = some (oc b φs)) (hψ : (φs.drop off).take n = ψs) (hl : Nat.beq ψs.length n = true) : Rd P E N (.load e x) ty Γ Ω [j] (ag ψs) := fun a w hs => by
  have h1 : a.eval x = ptr b off := hs.op hx
  obtain ⟨cells, ct, es, hb, hall, hc, hel⟩ := oc_load (hs.objAt hj) hψ (Nat.eq_of_beq_eq_true hl)
  refine ⟨.agg es.toArray, [b], ⟨es.toArray, rfl, by simpa using hall⟩, ?_, fun w' hw' o ho _ => ?_⟩
  · intro b' hb'; rw [List.mem_singleton.1 hb']; exact ⟨size_of_get hb, .inr ⟨j, by simp, _, hj, by simp [oc]⟩⟩
  · have hb2 : w'.heap[b]? = some (.cells cells ct (0, 0)) := by rw [hw' b (by simp)]; exact hb
    have := run_loadCells_list (P := P) w' ⟨b, off, none⟩ es fun j v hv => by
      have hj : j < es.length := (List.getElem?_eq_some_iff.1 hv).1
      rw [addr_add, cell_at hb2, hc j (by omega), hv]
    rw [hel] at this
    simp [execOp, ho, h1, ptr, Instr.loadAt, Instr.sureAddr, loadVar, hg, hn, this]

theorem run_storeVar {e : TypeId} {b off n : Nat} {cells : Array Value} {et : TypeId} {w : World} {v : Value} (hn : ∀ w, (Go.sizeOf e).run P w = .ok n w) (hb : w.heap[b]? = some (.cells cells et (0, 0)))
    (hl : v.cells.size = n) (hfit : off + n ≤ cells.size) (hat : ∀ u ∈ v.cells.toList, u.oneCell' = true) :
    (storeVar e ⟨b, off, none⟩ v).run P w = .ok () (w.setRow b (cells.toList.take off ++ v.cells.toList ++ cells.toList.drop (off + n)).toArray) := by
  have hst := run_storeCells_at P b off et v.cells.toList 0 cells w hb (by simp [hl]; exact hfit) hat
  simp only [Nat.add_zero, Array.length_toList, hl] at hst
  simp [storeVar, hn, hl, hst]

/-- a variable, or a part of it, is written -/
theorem s_cstore {e : TypeId} {x y : Operand} {b off j n : Nat} {φs ψs out : List RP} (hn : ∀ w, (Go.sizeOf e).run P w = .ok n w)
    (hx : lkO Γ x = some (pv (ptr b off))) (hj : Ω[j]? = some (oc b φs)) (hy : PartOk E N Γ Ω y ψs) (hl : Nat.beq ψs.length n = true) (hfit : Nat.ble (off + n) φs.length = true)
    (ho : φs.take off ++ ψs ++ φs.drop (off + n) = out) : St P E N (.store e x y) ty Γ Ω [j] (fun _ : Unit => pv undef) (fun _ => Ω.set j (oc b out)) := by
  subst ho
  intro a w hs
  have h1 : a.eval x = ptr b off := hs.op hx
  obtain ⟨hall, hat⟩ := hy a w hs
  obtain ⟨cells, ct, hb, hcs⟩ := hs.objAt hj
  have hvl : (a.eval y).cells.size = n := by rw [← Array.length_toList, hall.length]; exact Nat.eq_of_beq_eq_true hl
  have hfit' : off + n ≤ cells.size := by rw [← Array.length_toList, hcs.length]; exact Nat.le_of_ble_eq_true hfit
  have hst := run_storeVar (P := P) (w := w) hn hb hvl hfit' hat
  intro o hop ht
  have hr : (execOp a.eval o).run P w = .ok .skip (w.setRow b (cells.toList.take off ++ (a.eval y).cells.toList ++ cells.toList.drop (off + n)).toArray) := by
    simp only [execOp, hop, Instr.storeAt, h1, ptr, Instr.sureAddr]
    simp [hst]
  rw [hr]
  have hlt := size_of_get hb
  refine ⟨(), ?_, rfl, by simp, fun b' hb' hn' => setRow_other w b b' _ fun e => hn' j (by simp) _ hj (by rw [e]; simp [oc]), own_set hj fun b hb => .inl hb⟩
  refine hs.upd hj ⟨rfl, rfl, rfl⟩ (by simp) (fun b' _ hn' => setRow_other w b b' _ fun e => hn' (by rw [e]; simp [oc])) (fun b' hb' => .inl hb') (by simp [oc]) ?_
  have hag : Ag (fr E Ω) (fr E (Ω.set j (oc b (φs.take off ++ ψs ++ φs.drop (off + n))))) w (w.setRow b (cells.toList.take off ++ (a.eval y).cells.toList ++ cells.toList.drop (off + n)).toArray) :=
    ⟨fun b' _ hf => fr_set hj hf fun hm => hf.2 (Sat.notin hj (b := b') hm), fun b' _ hf => setRow_other w b b' _ fun e => hf.2 (Sat.notin hj (b := b') (by rw [e]; simp [oc]))⟩
  refine ⟨_, ct, setRow_heap w b cells _ ct (0, 0) hb, ?_⟩
  exact (((hcs.take off).append hall).append (hcs.drop (off + n))).mono hag

/-- an element of an owned slice is written -/
theorem s_ostore {α : Type} {e : TypeId} {ρ : Rep α} {bytes : Nat} {x y : Operand} {d : List α} {n : Int} {u u0 : α} {hv : Value} {S : List Nat} {j : Nat} (hu : idxM d n = some u0) (h : ElT P e ρ bytes)
    (hx : lkO Γ x = some (pv (elA hv ρ.size n))) (hj : Ω[j]? = some (oa ρ hv S d)) (hy : PartOk E N Γ Ω y (ρ.cp u)) :
    St P E N (.store e x y) ty Γ Ω [j] (fun _ : Unit => pv undef) (fun _ => Ω.set j (oa ρ hv S (d.set n.toNat u))) := by
  intro a w hs
  obtain ⟨h0, h1, hlt, hd⟩ := idxM_some hu
  have hv' : a.eval x = elA hv ρ.size n := hs.op hx
  obtain ⟨hall, hat⟩ := hy a w hs
  obtain ⟨ad, c, rfl, hc, hob⟩ := hs.objAt hj
  rcases hob with ⟨rfl, _, rfl⟩ | ⟨b, off, cells, ct, rfl, rfl, hb, hsz, hH⟩
  · omega
  · have hvl : (a.eval y).cells.size = ρ.size := by rw [← Array.length_toList, hall.length, ρ.len]
    have hle : (n.toNat + 1) * ρ.size ≤ c * ρ.size := Nat.mul_le_mul_right _ (by omega)
    rw [Nat.succ_mul] at hle
    have hst := run_storeVar (P := P) (e := e) (off := off + n.toNat * ρ.size) (w := w) h.sizeOf hb hvl (by omega) hat
    intro o hop ht
    have hr : (execOp a.eval o).run P w = .ok .skip (w.setRow b (cells.toList.take (off + n.toNat * ρ.size) ++ (a.eval y).cells.toList ++ cells.toList.drop (off + n.toNat * ρ.size + ρ.size)).toArray) := by
      simp only [execOp, hop, Instr.storeAt, hv', elA, addr_add, Instr.sureAddr]
      simp [hst]
    rw [hr]
    refine ⟨(), ?_, rfl, by simp, fun b' hb' hn' => setRow_other w b b' _ fun e => hn' j (by simp) _ hj (by rw [e]; simp [oa]), own_set hj fun b hb => .inl hb⟩
    refine hs.upd hj ⟨rfl, rfl, rfl⟩ (by simp) (fun b' _ hn' => setRow_other w b b' _ fun e => hn' (by rw [e]; simp [oa])) (fun b' hb' => .inl hb') (by simp [oa]) ?_
    have hag : Ag (fr E Ω) (fr E (Ω.set j (oa ρ (.slice (some ⟨b, off, none⟩) d.length c) [b] (d.set n.toNat u)))) w
        (w.setRow b (cells.toList.take (off + n.toNat * ρ.size) ++ (a.eval y).cells.toList ++ cells.toList.drop (off + n.toNat * ρ.size + ρ.size)).toArray) :=
      ⟨fun b' _ hf => fr_set hj hf fun hm => hf.2 (Sat.notin hj (b := b') hm), fun b' _ hf => setRow_other w b b' _ fun e => hf.2 (Sat.notin hj (b := b') (by rw [e]; simp [oa]))⟩
    refine ⟨some ⟨b, off, none⟩, c, by rw [List.length_set], by rw [List.length_set]; exact hc, .inr ⟨b, off, _, ct, rfl, rfl, setRow_heap w b cells _ ct (0, 0) hb, ?_, ?_⟩⟩
    · simp only [List.size_toArray, List.length_append, List.length_take, List.length_drop, Array.length_toList, hvl]; omega
    · intro i hi
      rw [List.length_set] at hi
      have hle2 : (i + 1) * ρ.size ≤ c * ρ.size := Nat.mul_le_mul_right _ (by omega)
      rw [Nat.succ_mul] at hle2
      have hll : cells.toList.length = cells.size := Array.length_toList
      have hvl' : (a.eval y).cells.toList.length = ρ.size := by rw [Array.length_toList, hvl]
      have htk : (cells.toList.take (off + n.toNat * ρ.size)).length = off + n.toNat * ρ.size := by rw [List.length_take]; omega
      by_cases hin : i = n.toNat
      · subst hin
        refine ⟨(a.eval y).cells.toList, by rw [List.getElem_set_self]; exact hall.mono hag, fun k hk => ?_⟩
        rw [List.getElem?_toArray, List.append_assoc, List.getElem?_append_right (by omega), List.getElem?_append_left (by omega)]
        congr 1; omega
      · obtain ⟨es, hes, hcs⟩ := hH i hi
        refine ⟨es, by rw [List.getElem_set_ne (Ne.symm hin)]; exact hes.mono hag, fun k hk => ?_⟩
        rw [← hcs k hk, List.getElem?_toArray, List.append_assoc]
        rcases Nat.lt_or_gt_of_ne hin with hlt2 | hgt2
        · have : (i + 1) * ρ.size ≤ n.toNat * ρ.size := Nat.mul_le_mul_right _ hlt2
          rw [Nat.succ_mul] at this
          rw [List.getElem?_append_left (by omega), List.getElem?_take, if_pos (by omega)]
          simp
        · have : (n.toNat + 1) * ρ.size ≤ i * ρ.size := Nat.mul_le_mul_right _ hgt2
          rw [Nat.succ_mul] at this
          rw [List.getElem?_append_right (by omega), List.getElem?_append_right (by omega), List.getElem?_drop, htk, hvl']
          simp
          congr 1; omega

/-! ### slices that are made -/
def mkM {α : Type} (bytes : Nat) (z : α) (n : Int) : Option (List α) := if 0 ≤ n ∧ bytes * n.toNat ≤ 140737488355328 then some (List.replicate n.toNat z) else none
theorem mkM_some {α : Type} {bytes : Nat} {z : α} {n : Int} {d : List α} (h : mkM bytes z n = some d) : 0 ≤ n ∧ bytes * n.toNat ≤ 140737488355328 ∧ d = List.replicate n.toNat z := by
  unfold mkM at h
  split at h
  · rename_i hh; exact ⟨hh.1, hh.2, by simpa using h.symm⟩
  · cases h

theorem s_make {α : Type} {e t : TypeId} {ρ : Rep α} {bytes : Nat} {x y : Operand} {k : IntKind} {n : Int} {z : α} {d : List α} (hd : mkM bytes z n = some d) (hu : P.underlying t = some (.slice e)) (h : ElT P e ρ bytes)
    (hz : ZeroT P e ρ z) (hx : lkO Γ x = some (iv k n)) (hy : lkO Γ y = some (iv k n)) :
    St P E N (.makeSlice t x y) ty Γ Ω [] (fun X : Value × List Nat => pv X.1) (fun X => Ω ++ [oa ρ X.1 X.2 d]) := by
  intro a w hs
  obtain ⟨h0, hby, rfl⟩ := mkM_some hd
  have h1 : a.eval x = .int k n := hs.op hx
  have h2 : a.eval y = .int k n := hs.op hy
  obtain ⟨i, zv, hi, hzz, hzs⟩ := hz
  obtain ⟨i', hi', his, hib, z', hz', hzsz⟩ := h.info
  rw [hi] at hi'; cases hi'
  rw [hzz] at hz'; cases hz'
  have hbp := h.bpos
  have hn : (n.toNat : Int) = n := Int.toNat_of_nonneg h0
  have hnb : n.toNat ≤ bytes * n.toNat := Nat.le_mul_of_pos_left _ hbp
  have hrun := run_make (P := P) w t e i zv hu hi hzz k k n n h0 (Int.le_refl _) (by rw [hib, ← hn, ← Int.natCast_mul]; omega) (by omega)
  refine opwp_val (v := .slice (some ⟨w.heap.size, 0, none⟩) n.toNat n.toNat) (w' := w.alloc (.cells (madeCells zv.cells (n.toNat * i.size)) e)) (fun o ho ht => ?_)
    ⟨(.slice (some ⟨w.heap.size, 0, none⟩) n.toNat n.toNat, [w.heap.size]), ?_, rfl, by simp, fun b hb _ => heap_alloc_lt w _ hb, own_add (by simp [oa])⟩
  · simp [execOp, ho, h1, h2, hrun]
  · refine hs.add ⟨rfl, rfl, rfl⟩ (by simp) (fun _ hb => heap_alloc_lt w _ hb) (fun b hb => ?_) (by simp [oa]) ?_
    · rw [show b = w.heap.size from by simpa [oa] using hb]; exact ⟨Nat.le_refl _, by simp⟩
    · refine ⟨some ⟨w.heap.size, 0, none⟩, n.toNat, by simp, by simp, .inr ⟨w.heap.size, 0, _, e, rfl, rfl, heap_alloc_new' w _, by simp [size_madeCells, his], ?_⟩⟩
      intro q hq
      rw [List.length_replicate] at hq
      refine ⟨zv.cells.toList, by rw [List.getElem_replicate]; exact hzs _ _, fun k hk => ?_⟩
      have hlt : q * ρ.size + k < n.toNat * ρ.size := by
        have : (q + 1) * ρ.size ≤ n.toNat * ρ.size := Nat.mul_le_mul_right _ hq
        rw [Nat.succ_mul] at this; omega
      rw [Nat.zero_add, madeCells, Array.getElem?_map, Array.getElem?_range, his, if_pos hlt]
      simp [hzsz, hk, Nat.mod_eq_of_lt hk]

end Go.Dc
