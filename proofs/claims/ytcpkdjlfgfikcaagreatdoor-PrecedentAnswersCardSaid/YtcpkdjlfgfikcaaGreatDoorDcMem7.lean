/- Part Dc.Mem7 of a proof: lemmas. -/
import Derived.Test.YtcpkdjlfgfikcaaGreatDoorDcMem6
/-! Fields of elements of slices. -/
namespace Go.Dc
variable {R S : Type} {P : Program} {E : Env} {N : Nat} {Γ Γ' : List (Nat × RP)} {Ω Ω' : List OB} {ty : TypeId} {α β : Type} {ρ : Rep α} {ρ' : Rep β} {y : α} {z : β} {bytes : Nat} {e : TypeId}

theorem drop_take_get {γ : Type} {l : List γ} {a k j : Nat} (hj : j < k) : ((l.drop a).take k)[j]? = l[a + j]? := by
  rw [List.getElem?_take_of_lt hj, List.getElem?_drop]

/-- a field of data in shared memory -/
theorem r_fea {t f fo : Nat} {x : Operand} {fields : Array Go.Field} {fd : Go.Field} (hu : P.underlying t = some (.struct fields)) (hf : fields[f]? = some fd) (ho : fd.offset = fo) {n : Nat}
    (hn : ∀ w, (Go.sizeOf fd.type).run P w = .ok (n + 1) w) (hx : lkO Γ x = some (ea ρ y)) (hz : ((ρ.cp y).drop fo).take ρ'.size = ρ'.cp z) (hs : Nat.ble (fo + ρ'.size) ρ.size = true) :
    Rd P E N (.fieldAddr t x f) ty Γ Ω [] (ea ρ' z) := .mk fun a w hs' => by
  obtain ⟨b, off, cells, ty', fz, es, hv, hF, hb, hes, hcs⟩ := hs'.op hx
  have hle := Nat.le_of_ble_eq_true hs
  refine ⟨.pointer (some ⟨b, off + fo, none⟩), ⟨b, off + fo, cells, ty', fz, (es.drop fo).take ρ'.size, rfl, hF, hb, hz ▸ (hes.drop fo).take _, fun j hj => ?_⟩, fun w' o hop _ => ?_⟩
  · rw [drop_take_get hj, ← hcs (fo + j) (by omega), Nat.add_assoc]
  · simp [execOp, hop, hv, Instr.fieldAt, run_underlying hu, hf, Instr.sureAddr, fieldPlace, hn, addr_add, ho]

/-- the address of a field of an element of an owned slice -/
def elF (hv : Value) (sz : Nat) (n : Int) (fo : Nat) : Value :=
  match hv with
  | .slice (some a) _ _ => .pointer (some ((a.add (n.toNat * sz)).add fo))
  | _ => .pointer none

variable {d : List α} {n : Int} {hv : Value} {Sx : List Nat} {j : Nat}
theorem r_foea {t f fo : Nat} {x : Operand} {fields : Array Go.Field} {fd : Go.Field} (hy : idxM d n = some y) (hu : P.underlying t = some (.struct fields)) (hf : fields[f]? = some fd) (ho : fd.offset = fo) {m : Nat}
    (hn : ∀ w, (Go.sizeOf fd.type).run P w = .ok (m + 1) w) (hx : lkO Γ x = some (pv (elA hv ρ.size n))) (hj : Ω[j]? = some (oa ρ hv Sx d)) :
    Rd P E N (.fieldAddr t x f) ty Γ Ω [] (pv (elF hv ρ.size n fo)) := .mk fun a w hs => by
  obtain ⟨h0, h1, hlt, hd⟩ := idxM_some hy
  have hv' : a.eval x = elA hv ρ.size n := hs.op hx
  obtain ⟨ad, c, rfl, hc, hat⟩ := hs.objAt hj
  rcases hat with ⟨rfl, _, rfl⟩ | ⟨b, off, cells, ty', rfl, hS, hb, hsz, hH⟩
  · omega
  · refine ⟨_, rfl, fun w' o hop _ => ?_⟩
    simp [execOp, hop, hv', elA, elF, Instr.fieldAt, run_underlying hu, hf, Instr.sureAddr, fieldPlace, hn, addr_add, ho]
theorem r_foload {x : Operand} {fo : Nat} (hy : idxM d n = some y) (h : ElT P e ρ' bytes) (hx : lkO Γ x = some (pv (elF hv ρ.size n fo))) (hj : Ω[j]? = some (oa ρ hv Sx d))
    (hz : ((ρ.cp y).drop fo).take ρ'.size = ρ'.cp z) (hsz : Nat.ble (fo + ρ'.size) ρ.size = true) : Rd P E N (.load e x) ty Γ Ω [j] (sh ρ' z) := fun a w hs => by
  obtain ⟨h0, h1, hlt, hd⟩ := idxM_some hy
  have hle := Nat.le_of_ble_eq_true hsz
  have hv' : a.eval x = elF hv ρ.size n fo := hs.op hx
  have hob := hs.objAt hj
  obtain ⟨ad, c, rfl, hc, hat⟩ := hob
  rcases hat with ⟨rfl, _, rfl⟩ | ⟨b, off, cells, ty', rfl, hS, hb, hsz, hH⟩
  · omega
  · obtain ⟨es, hes, hcs⟩ := hH n.toNat hlt
    rw [hd] at hes
    have hes2 : AllP (fr E Ω) w (ρ'.cp z) ((es.drop fo).take ρ'.size) := hz ▸ (hes.drop fo).take _
    refine ⟨mkV ρ'.agg ((es.drop fo).take ρ'.size), [b], sh_iff.2 ⟨_, hes2, rfl⟩, ?_, fun w' hw' o ho _ => ?_⟩
    · intro b' hb'; rw [List.mem_singleton.1 hb']; exact ⟨size_of_get hb, .inr ⟨j, by simp, _, hj, by rw [show (oa ρ _ Sx d).S = Sx from rfl, hS]; simp⟩⟩
    · have hb2 : w'.heap[b]? = some (.cells cells ty' (0, 0)) := by rw [hw' b (by simp)]; exact hb
      have := h.load (off := off + n.toNat * ρ.size + fo) hb2 (by rw [hes2.length, ρ'.len]) (fun i hi => by rw [drop_take_get hi, ← hcs (fo + i) (by omega)]; congr 1; omega)
      simp [execOp, ho, hv', elF, addr_add, Instr.loadAt, Instr.sureAddr, this]

theorem s_fostore {x v : Operand} {fo : Nat} {u : α} {φs : List RP} (hy : idxM d n = some y) (hsz : ∀ w, (Go.sizeOf e).run P w = .ok φs.length w) (hx : lkO Γ x = some (pv (elF hv ρ.size n fo))) (hj : Ω[j]? = some (oa ρ hv Sx d))
    (hp : PartOk E N Γ Ω v φs) (hu : ρ.cp u = (ρ.cp y).take fo ++ φs ++ (ρ.cp y).drop (fo + φs.length)) (hle : Nat.ble (fo + φs.length) ρ.size = true) :
    St P E N (.store e x v) ty Γ Ω [j] (fun _ : Unit => pv undef) (fun _ => Ω.set j (oa ρ hv Sx (d.set n.toNat u))) := by
  intro a w hs
  obtain ⟨h0, h1, hlt, hd⟩ := idxM_some hy
  have hle' := Nat.le_of_ble_eq_true hle
  have hv' : a.eval x = elF _ ρ.size n fo := hs.op hx
  obtain ⟨hall, hat⟩ := hp a w hs
  obtain ⟨ad, c, rfl, hc, hob⟩ := hs.objAt hj
  rcases hob with ⟨rfl, _, rfl⟩ | ⟨b, off, cells, ct, rfl, rfl, hb, hcs, hH⟩
  · omega
  · have hvl : (a.eval v).cells.size = φs.length := by rw [← Array.length_toList, hall.length]
    have hlm : (n.toNat + 1) * ρ.size ≤ c * ρ.size := Nat.mul_le_mul_right _ (by omega)
    rw [Nat.succ_mul] at hlm
    have hst := run_storeVar (P := P) (e := e) (off := off + n.toNat * ρ.size + fo) (w := w) hsz hb hvl (by omega) hat
    intro o hop ht
    have hr : (execOp a.eval o).run P w = .ok .skip (w.setRow b (cells.toList.take (off + n.toNat * ρ.size + fo) ++ (a.eval v).cells.toList ++ cells.toList.drop (off + n.toNat * ρ.size + fo + φs.length)).toArray) := by
      simp only [execOp, hop, Instr.storeAt, hv', elF, addr_add, Instr.sureAddr]
      simp [hst]
    rw [hr]
    refine ⟨(), ?_, rfl, by simp, fun b' hb' hn' => setRow_other w b b' _ fun e => hn' j (by simp) _ hj (by rw [e]; simp [oa]), own_set hj fun b hb => .inl hb⟩
    refine hs.upd hj ⟨rfl, rfl, rfl⟩ (by simp) (fun b' _ hn' => setRow_other w b b' _ fun e => hn' (by rw [e]; simp [oa])) (fun b' hb' => .inl hb') (by simp [oa]) ?_
    have hag : Ag (fr E Ω) (fr E (Ω.set j (oa ρ (.slice (some ⟨b, off, none⟩) d.length c) [b] (d.set n.toNat u)))) w
        (w.setRow b (cells.toList.take (off + n.toNat * ρ.size + fo) ++ (a.eval v).cells.toList ++ cells.toList.drop (off + n.toNat * ρ.size + fo + φs.length)).toArray) :=
      ⟨fun b' _ hf => fr_set hj hf fun hm => hf.2 (Sat.notin hj (b := b') hm), fun b' _ hf => setRow_other w b b' _ fun e => hf.2 (Sat.notin hj (b := b') (by rw [e]; simp [oa]))⟩
    refine ⟨some ⟨b, off, none⟩, c, by rw [List.length_set], by rw [List.length_set]; exact hc, .inr ⟨b, off, _, ct, rfl, rfl, setRow_heap w b cells _ ct (0, 0) hb, ?_, ?_⟩⟩
    · simp only [List.size_toArray, List.length_append, List.length_take, List.length_drop, Array.length_toList, hvl]; omega
    · intro i hi
      rw [List.length_set] at hi
      have hle2 : (i + 1) * ρ.size ≤ c * ρ.size := Nat.mul_le_mul_right _ (by omega)
      rw [Nat.succ_mul] at hle2
      have hll : cells.toList.length = cells.size := Array.length_toList
      have hvl' : (a.eval v).cells.toList.length = φs.length := by rw [Array.length_toList, hvl]
      have htk : (cells.toList.take (off + n.toNat * ρ.size + fo)).length = off + n.toNat * ρ.size + fo := by rw [List.length_take]; omega
      obtain ⟨es, hes, hcc⟩ := hH i hi
      by_cases hin : i = n.toNat
      · subst hin
        rw [hd] at hes
        have hel : es.length = ρ.size := by rw [hes.length, ρ.len]
        refine ⟨es.take fo ++ (a.eval v).cells.toList ++ es.drop (fo + φs.length), ?_, fun k hk => ?_⟩
        · rw [List.getElem_set_self, hu]
          exact AllP.append (AllP.append ((hes.take fo).mono hag) (hall.mono hag)) ((hes.drop _).mono hag)
        · have h1l : (es.take fo).length = fo := by rw [List.length_take]; omega
          rw [List.getElem?_toArray, List.append_assoc, List.append_assoc]
          by_cases k1 : k < fo
          · rw [List.getElem?_append_left (by omega), List.getElem?_append_left (by omega), List.getElem?_take_of_lt (by omega), List.getElem?_take_of_lt k1, ← hcc k hk]; simp
          · rw [List.getElem?_append_right (l₁ := cells.toList.take (off + n.toNat * ρ.size + fo)) (by omega), List.getElem?_append_right (l₁ := es.take fo) (by omega), htk, h1l,
              show off + n.toNat * ρ.size + k - (off + n.toNat * ρ.size + fo) = k - fo from by omega]
            by_cases k2 : k < fo + φs.length
            · rw [List.getElem?_append_left (by omega), List.getElem?_append_left (by omega)]
            · rw [List.getElem?_append_right (by omega), List.getElem?_append_right (by omega), List.getElem?_drop, List.getElem?_drop, hvl', show fo + φs.length + (k - fo - φs.length) = k from by omega, ← hcc k hk, ← Array.getElem?_toList]
              congr 1; omega
      · refine ⟨es, by rw [List.getElem_set_ne (Ne.symm hin)]; exact hes.mono hag, fun k hk => ?_⟩
        rw [← hcc k hk, List.getElem?_toArray, List.append_assoc]
        rcases Nat.lt_or_gt_of_ne hin with hlt2 | hgt2
        · have : (i + 1) * ρ.size ≤ n.toNat * ρ.size := Nat.mul_le_mul_right _ hlt2
          rw [Nat.succ_mul] at this
          rw [List.getElem?_append_left (by omega), List.getElem?_take, if_pos (by omega)]
          simp
        · have : (n.toNat + 1) * ρ.size ≤ i * ρ.size := Nat.mul_le_mul_right _ hgt2
          rw [Nat.succ_mul] at this
          rw [List.getElem?_append_right (by omega), List.getElem?_append_right (by omega), List.getElem?_drop, htk, hvl']
          simp
          congr 1; omega
end Go.Dc
