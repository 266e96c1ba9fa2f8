/- Part Dc.Cpt of a proof: lemmas. -/
import Derived.Test.YtkkgghdjclkknaaGreatDoorMBridgeM
import Derived.Shelf.Spec.TrailingZeros
import Derived.Test.YtkkgghdjclkknaaGreatDoorMData
import Derived.Test.YtkkgghdjclkknaaGreatDoorDcDrawI
import Derived.Shelf.SlSortCmp.InsertionK
import Derived.Shelf.SlSortCmp.Kit1
import Derived.Shelf.Slices.CompactI
namespace Go.Dc
open Go.Proofs
variable [aq] {P : Program}
def YK (x : Int) : Option Int := if 0 ≤ x ∧ x < 18446744073709551616 then some (Lib.ctz 64 x.toNat : Int) else none
def EL : Array Value := (Lib.deBruijn64tab.map fun z : Nat => Value.int .u8 (z : Int)).toArray
theorem tz_fn {f g : Nat} (hC : ∀ (x : Nat), x < 18446744073709551616 → ∀ w : World, (x ≠ 0 → TabAt g Lib.deBruijn64tab w) → Calls P f #[.int .u64 x] w fun e w' => e = .returned (.int .i64 (Lib.ctz 64 x)) ∧ w' = w)
  (hT : (g, EL) ∈ aq.tabs) {x r : Int} (h : YK x = some r) : gw P f [iv .u64 x] [] (fun _ : Unit => [iv .i64 r]) (fun _ => []) := by
 intro F w vs hF hmf hbd hnd jP hargs htb
 unfold YK at h
 split at h
 ·rename_i hx
  cases h
  match vs, hargs with
  | [v0], ⟨hv, _⟩ =>
   have hv : v0 = .int .u64 x := hv
   subst hv
   obtain ⟨_, ty, fz, hg⟩ := htb _ hT
   have htab : TabAt g Lib.deBruijn64tab w := fun j hj => by
    have hg' : w.heap[g]? = some (.cells EL ty fz) := hg
    simp only [World.cell?, hg']
    simp [EL, List.getD, hj]
   have e : x = ((x.toNat : Nat) : Int) := by omega
   have hc := hC x.toNat (by omega) w fun _ => htab
   rw [← e] at hc
   refine hc.mono ?_
   rintro e' w' ⟨rfl, rfl⟩
   exact ⟨(), _, rfl, .refl _ _, by simp [ow], by simp [ow], by simp, rfl⟩
 ·cases h
theorem tz_con [bl P] {f : Nat} (h : ∀ {x r : Int}, YK x = some r → gw P f [iv .u64 x] [] (fun _ : Unit => [iv .i64 r]) (fun _ => [])) :
  Pn P f ⟨[.int .u64], [.int .i64], YK, [(false, [.d 0 0])], [], [(false, [.d 0 0])], [], 0, 0⟩ := fun _ _ hr hs =>
 (h hr).re fun _ _ _ _ => ⟨⟨hs, fun i hi => absurd hi (Nat.not_lt_zero i)⟩, rfl, rfl⟩
end Go.Dc
namespace Go.Dc
def Tl : List Int := Lib.deBruijn64tab.map fun z : Nat => (z : Int)
theorem tz_inv {W : World} {g : Nat} (h : ∃ ty fz, W.heap[g]? = some (.cells (Tl.map fun z => Value.int .u8 z).toArray ty fz)) : ∃ ty fz, W.heap[g]? = some (.cells EL ty fz) := by
 obtain ⟨ty, fz, h⟩ := h
 unfold Tl at h
 rw [List.map_map] at h
 exact ⟨ty, fz, h⟩
end Go.Dc
set_option linter.unusedVariables false
set_option linter.unusedSectionVars false
namespace Go.Dc
variable [aq] {P : Program} {f : FuncId}
theorem SS {F : FP} {w : World} {k : IntKind} : ∀ d : List Int, bZ F w (d.flatMap (rI k).cp) (d.map fun z => Value.int k z)
 | [] => trivial
 | z :: d => ⟨rfl, SS d⟩
theorem gw.noTab {X : Type} {args : List RP} {res : X → List RP} {g : Nat} {d : List Int} {k : IntKind} {cs : Array Value} (h : gw P f args [Pt (rI k) g d] res (fun _ : X => [Pt (rI k) g d]))
  (hT : (g, cs) ∈ aq.tabs) (hc : cs = (d.map fun z => Value.int k z).toArray) : gw P f args [] res (fun _ : X => []) := by
 intro F w vs h1 h2 h3 h4 h5 h6 h7
 subst hc
 refine (h F w vs h1 h2 h3 h4 (fun o ho => ?_) h6 h7).mono ?_
 ·rw [List.mem_singleton.1 ho]
  obtain ⟨q1, ty, fz, q2⟩ := h7 _ hT
  exact ⟨q1, _, ty, fz, q2, NA.of (SS d) fun j _ => by simp⟩
 ·rintro e w' ⟨x, v, e1, e2, e3, e4, e5, e6⟩
  exact ⟨x, v, e1, e2, e3, e4, (fun o ho => by cases ho), e6⟩
theorem gw.addTab {X α : Type} {ρ : iC α} {args : List RP} {res : X → List RP} {lB : X → List OB} {g : Nat} {d : List α} (h : gw P f args [] res lB) : gw P f args [Pt ρ g d] res (fun x => Pt ρ g d :: lB x) := by
 intro F w vs h1 h2 h3 h4 h5 h6 h7
 refine (h F w vs h1 h2 h3 h4 (fun o ho => by cases ho) h6 h7).mono ?_
 rintro e w' ⟨x, v, e1, e2, e3, e4, e5, e6⟩
 refine ⟨x, v, e1, e2, e3, e4, fun o ho => ?_, e6⟩
 rcases List.mem_cons.1 ho with rfl | ho
 ·refine (Pt ρ g d).mono ⟨fun b hb hf => ⟨hf.1, fun hm => ?_⟩, fun b hb hf => e2.blk b hb (fun hm => by cases hm)⟩ (fun b hb => by cases hb) (h5 _ (List.mem_singleton.2 rfl))
  rcases (e3 b hm).2 with q | q
  ·omega
  ·cases q
 ·exact e5 o ho
end Go.Dc
set_option linter.unusedSimpArgs false
namespace Go.Dc
variable [aq]
variable {P : Program} {E : Env} {N : Nat} {Γ : List (Nat × RP)} {Ω : List OB} {ty : TypeId} {α β : Type} [DecidableEq α] {κ : iC α} {ν : iC β} {kt : TypeId}
theorem PR {t kt et : TypeId} {m k : Operand} {b j : Nat} {d : List (α × β)} {x : α} {z : β} (hu : P.underlying t = some (.map kt et)) (hK : S5 P kt κ) (hz : ∃ zv, (∀ w, (zeroValue et).run P w = .ok zv w) ∧ ∀ F w, (sh ν z).h F w zv)
  (hm : dw Γ m = some (pv (.map (some b)))) (hj : Ω[j]? = some (om κ ν b d)) (hk : dw Γ k = some (sh κ x)) : Rd P E N (.lookup t m k false) ty Γ Ω [j] (sh ν (cF d x z)) := fun a w hs => by
 have h1 : a.eval m = .map (some b) := hs.op hm
 have h2 := hs.op hk
 obtain ⟨es, clock, hb, hE, _⟩ := hs.l9 hj
 obtain ⟨zv, z1, z2⟩ := hz
 obtain ⟨r, r1, r2, r3⟩ := xN hK h2 hE w
 cases hr : r with
 | none =>
  rw [hr] at r2
  have Ja : nT d x = none := by simpa using r2.symm
  refine ⟨zv, [b], ?_, ?_, fun w' hw' o ho _ => ?_⟩
  ·unfold cF; rw [Ja]; exact z2 _ _
  ·intro b' hb'; rw [List.mem_singleton.1 hb']; exact ⟨bS hb, .inr ⟨j, by simp, _, hj, by simp [om]⟩⟩
  ·have rQ : w'.heap[b]? = some (.map es clock) := by rw [hw' b (by simp)]; exact hb
   obtain ⟨r', r1', TH, _⟩ := xN hK h2 hE w'
   have : r' = none := by rw [Ja] at TH; simpa using TH
   subst this
   simp [execOp, ho, h1, Instr.lookup, run_underlying hu, MapKept.run_getObj_map rQ, hK.check x _ _ _ h2, r1', z1]
 | some iu =>
  obtain ⟨i, u⟩ := iu
  obtain ⟨e, he, rfl⟩ := r3 i u hr
  rw [hr] at r2
  have Ja : nT d x = some i := by simpa using r2.symm
  have hlt : i < d.length := by rw [← hE.1]; exact (List.getElem?_eq_some_iff.1 he).1
  refine ⟨e.val, [b], ?_, ?_, fun w' hw' o ho _ => ?_⟩
  ·have eg : cF d x z = d[i].2 := by unfold cF; rw [Ja]; simp [hlt]
   rw [eg]
   exact (hE.2 i e d[i] he (List.getElem?_eq_getElem hlt)).2
  ·intro b' hb'; rw [List.mem_singleton.1 hb']; exact ⟨bS hb, .inr ⟨j, by simp, _, hj, by simp [om]⟩⟩
  ·have rQ : w'.heap[b]? = some (.map es clock) := by rw [hw' b (by simp)]; exact hb
   obtain ⟨r', r1', TH, r3'⟩ := xN hK h2 hE w'
   have : ∃ u', r' = some (i, u') := by
    rw [Ja] at TH
    cases r' with
    | none => simp at TH
    | some q => simp at TH; exact ⟨q.2, by rw [← TH]⟩
   obtain ⟨u', rfl⟩ := this
   obtain ⟨e', he', rfl⟩ := r3' i u' rfl
   rw [he] at he'; cases he'
   simp [execOp, ho, h1, Instr.lookup, run_underlying hu, MapKept.run_getObj_map rQ, hK.check x _ _ _ h2, r1']
end Go.Dc
namespace Go.Dc
variable [aq]
variable {P : Program} {E : Env} {N : Nat} {Γ : List (Nat × RP)} {Ω : List OB} {ty : TypeId} {α β : Type} [DecidableEq α] {κ : iC α} {ν : iC β}
def Hl (es : List MapEntry) (i : Nat) : Nat := (es[i]?.map (·.born)).getD 0
def JA {α β : Type} (κ : iC α) (ν : iC β) (b it : Nat) (d : List (α × β)) (ix : List Nat) : OB where
 S := [b, it]
 h := fun F w => b ≠ it ∧ ∃ es clock seen last, w.heap[b]? = some (.map es clock) ∧ QS κ ν F w es.toList d ∧ (∀ e ∈ es.toList, e.born < clock) ∧ (es.toList.map (·.born)).Nodup ∧
  w.heap[it]? = some (.mapIter (some b) clock seen last) ∧ clock ≤ last ∧ (ix ≠ [] → last = clock) ∧ seen.toList = ix.map (Hl es.toList) ∧ ix.Nodup ∧ ∀ i ∈ ix, i < d.length
 mono := by
  rintro F F' w w' ag hs ⟨hne, es, clock, seen, last, h1, h2, h3, h4, h5, h6⟩
  exact ⟨hne, es, clock, seen, last, by rw [hs b (by simp)]; exact h1, h2.mono ag, h3, h4, by rw [hs it (by simp)]; exact h5, h6⟩
def nxT (κ : iC α) (ν : iC β) : Option (Nat × α × β) → RP
 | none => I9 [bv false]
 | some p => I9 [bv true, sh κ p.2.1, sh ν p.2.2]
def ixn (ix : List Nat) : Option (Nat × α × β) → List Nat
 | none => ix
 | some p => ix ++ [p.1]
def NxOk (d : List (α × β)) (ix : List Nat) : Option (Nat × α × β) → Prop
 | none => ∀ i, i < d.length → i ∈ ix
 | some p => p.1 ∉ ix ∧ d[p.1]? = some p.2
theorem s_range {t kt et : TypeId} {x : Operand} {b j : Nat} {d : List (α × β)} (hu : P.underlying t = some (.map kt et)) (hx : dw Γ x = some (pv (.map (some b)))) (hj : Ω[j]? = some (om κ ν b d)) :
  St P E N (.range t x) ty Γ Ω [j] (fun it : Nat => pv (ptr it 0)) (fun it => Ω.set j (JA κ ν b it d [])) := by
 intro a w hs
 have h1 : a.eval x = .map (some b) := hs.op hx
 obtain ⟨es, clock, hb, hE, hB, hN⟩ := hs.l9 hj
 have hlt := bS hb
 refine iU (v := ptr w.heap.size 0) (w' := w.alloc (.mapIter (some b) clock #[] clock)) (fun o ho ht => ?_) ⟨w.heap.size, ?_, rfl, by simp, fun b' hb' _ => bF w _ hb', sK hj fun b' hb' => ?_⟩
 ·have := run_range_map (P := P) w t kt et b es clock hu hb
  simp [execOp, ho, h1, this]; rfl
 ·refine hs.upd hj ⟨rfl, rfl, rfl, by first | exact fun _ => Nat.le_refl _ | exact fun _ => Nat.le_add_right _ _⟩ (by simp) (fun b' hb' _ => bF w _ hb') (fun b' hb' => ?_) ?_ ?_
  ·have rQ : b' = b ∨ b' = w.heap.size := by simpa [JA] using hb'
   rcases rQ with rfl | rfl
   ·exact .inl (by simp [om])
   ·exact .inr ⟨Nat.le_refl _, by simp⟩
  ·have : b ≠ w.heap.size := by omega
   simp [JA, this]
  ·have hag : Ag (fr E Ω) (fr E (Ω.set j (JA κ ν b w.heap.size d []))) w (w.alloc (.mapIter (some b) clock #[] clock)) :=
    ⟨fun b' hb' hf => wo hj hf fun hm => by
     have rQ : b' = b ∨ b' = w.heap.size := by simpa [JA] using hm
     rcases rQ with rfl | rfl
     ·exact hf.2 (Sat.me hj (b := b') (by simp [om]))
     ·omega, fun b' hb' _ => bF w _ hb'⟩
   exact ⟨by omega, es, clock, #[], clock, (bF w _ hlt).trans hb, hE.mono hag, hB, hN, fT w _, Nat.le_refl _, fun h => absurd rfl h, rfl, List.nodup_nil, by simp⟩
 ·have rQ : b' = b ∨ b' = w.heap.size := by simpa [JA] using hb'
  rcases rQ with rfl | rfl
  ·exact .inl (by simp [om])
  ·exact .inr (Nat.le_refl _)
theorem Rn (w : World) (ty : TypeId) (bm it since c0 : Nat) (seen : Array Nat) (es : Array MapEntry) (clock : Nat) (hb : w.heap[bm]? = some (.map es clock)) (hi : w.heap[it]? = some (.mapIter (some bm) since seen c0))
    (hold : ∀ x ∈ es.toList, x.born < since) (hsc : since ≤ c0) :
    ((leftOf es seen).size = 0 ∧ (Instr.next (.pointer (some ⟨it, 0, none⟩)) false ty).run P w = .ok (.tuple #[.bool false]) w) ∨
    ∃ e ∈ (leftOf es seen).toList, ∃ q, (Instr.next (.pointer (some ⟨it, 0, none⟩)) false ty).run P w = .ok (.tuple #[.bool true, e.key, e.val]) { w with drawn := w.drawn + q, heap := w.heap.setIfInBounds it (.mapIter (some bm) since (seen.push e.born) clock) } := by
  simp only [Instr.next, getObj, Sem.run_bind, Sem.run, hi, hb, Result.andThen, next_test_false seen es since c0 hold hsc, Bool.false_eq_true, if_false]
  unfold leftOf
  have hmem : ∀ x ∈ (Array.filter (fun e => !seen.contains e.born) es).toList, x.born < since := fun x hx => hold x (by simp at hx ⊢; exact hx.1)
  generalize Array.filter (fun e => !seen.contains e.born) es = L at hmem ⊢
  have e1 : L.filter (fun x => decide (x.born < since)) = L := Array.filter_eq_self.2 (fun x hx => by simpa using hmem x (by simpa using hx))
  have e2 : L.filter (fun x => decide (x.born ≥ since)) = #[] := by
    rw [Array.filter_eq_empty_iff]
    intro x hx
    have := hmem x (by simpa using hx)
    simp
    omega
  simp only [e1, e2, Array.append_empty]
  by_cases h0 : L.size = 0
  · left
    have : L = #[] := Array.eq_empty_of_size_eq_zero h0
    subst this
    refine ⟨rfl, ?_⟩
    simp [choose, Sem.run, Question.forced]
  · right
    have hne : L.isEmpty = false := by simp [Array.isEmpty, h0]
    simp only [hne, Bool.false_eq_true, if_false, Array.empty_append, Array.size_map]
    have hch : ∃ (j : Nat) (q : Nat), j < L.size ∧ (choose (Question.mapNext L.size)).run P w = .ok j { w with drawn := w.drawn + q } := by
      by_cases hf : L.size ≤ 1
      · exact ⟨0, 0, by omega, by simp [choose, Sem.run, Question.forced, hf]⟩
      · exact ⟨_, 1, Nat.mod_lt _ (by omega), by
          simp only [choose, Sem.run, Question.forced, decide_eq_true_eq, hf, if_false, Question.cut]
          rfl⟩
    obtain ⟨j, q, hj, hrun⟩ := hch
    refine ⟨L[j], by simp, q, ?_⟩
    have C9 : ∀ (o' : Obj), (setObj it o').run P { w with drawn := w.drawn + q } = .ok () { w with drawn := w.drawn + q, heap := w.heap.setIfInBounds it o' } := fun o' => by
      have hl := (Array.getElem?_eq_some_iff.1 hi).1
      simp only [setObj, Sem.run, hi]
    simp only [hrun, Array.getElem?_map, Array.getElem?_eq_getElem hj, Option.map_some, Sem.run_bind, C9, Result.andThen]
    rfl
section
variable {it b j : Nat} {d : List (α × β)} {ix : List Nat} {x : Operand}
theorem s_next (hx : dw Γ x = some (pv (ptr it 0))) (hj : Ω[j]? = some (JA κ ν b it d ix)) :
  St P E N (.next x false) ty Γ Ω [j] (fun o : { o : Option (Nat × α × β) // NxOk d ix o } => nxT κ ν o.1) (fun o => Ω.set j (JA κ ν b it d (ixn ix o.1))) := by
 intro a w hs
 have h1 : a.eval x = .pointer (some ⟨it, 0, none⟩) := hs.op hx
 obtain ⟨hne, es, clock, seen, last, q1, q2, q3, q4, q5, q6, q7, q8, q9, Ox⟩ := hs.l9 hj
 have hsame : Ω.set j (JA κ ν b it d ix) = Ω := by
  apply List.ext_getElem?
  intro n
  by_cases e : j = n
  ·subst e; rw [List.getElem?_set_self (List.getElem?_eq_some_iff.1 hj).1]; exact hj.symm
  ·rw [List.getElem?_set_ne e]
 have hlen : es.toList.length = d.length := q2.1
 rcases Rn (P := P) w ty b it clock last seen es clock q1 q5 q3 q6 with ⟨hz, hrun⟩ | ⟨e, he, q, hrun⟩
 ·refine iU (v := .tuple #[.bool false]) (w' := w) (fun o ho ht => by simp [execOp, ho, ht, h1, hrun]) ⟨⟨none, ?_⟩, ?_, ⟨_, rfl, rfl, trivial⟩, Nat.le_refl _, fun _ _ _ => rfl, ?_⟩
  ·intro i hi
   have hi' : i < es.toList.length := by rw [hlen]; exact hi
   by_cases hc : seen.contains (es.toList[i]).born = true
   ·have hm : (es.toList[i]).born ∈ seen.toList := by rw [Array.mem_toList_iff]; exact Array.contains_iff_mem.1 hc
    rw [q8, List.mem_map] at hm
    obtain ⟨k, hk, e⟩ := hm
    have hk' : k < es.toList.length := by rw [hlen]; exact Ox k hk
    have e2 : Hl es.toList k = (es.toList[k]).born := by unfold Hl; rw [List.getElem?_eq_getElem hk']; rfl
    rw [e2] at e
    have := (List.pairwise_iff_getElem.1 q4)
    rcases Nat.lt_trichotomy k i with h | h | h
    ·exact absurd (by rw [List.getElem_map, List.getElem_map]; exact e) (this k i (by simpa using hk') (by simpa using hi') h)
    ·exact h ▸ hk
    ·exact absurd (by rw [List.getElem_map, List.getElem_map]; exact e.symm) (this i k (by simpa using hi') (by simpa using hk') h)
   ·have : es.toList[i] ∈ (leftOf es seen).toList := by
     unfold leftOf
     rw [Array.mem_toList_iff, Array.mem_filter]
     exact ⟨by simp, by simpa using hc⟩
    have R4 : (leftOf es seen).toList = [] := List.eq_nil_of_length_eq_zero (by simpa using hz)
    rw [R4] at this; cases this
  ·show Sat E N Γ (Ω.set j (JA κ ν b it d ix)) a w
   rw [hsame]; exact hs
  ·show ∀ b', b' < w.heap.size → b' ∈ ow (Ω.set j (JA κ ν b it d ix)) → b' ∈ ow Ω
   rw [hsame]; exact fun _ _ h => h
 ·obtain ⟨hm, hnc⟩ := mem_left he
  obtain ⟨i, hi, rfl⟩ := List.getElem_of_mem hm
  have hid : i < d.length := by rw [← hlen]; exact hi
  have C9 := MapKept.heap_set (o' := .mapIter (some b) clock (seen.push (es.toList[i]).born) clock) q5
  have hbi : Hl es.toList i = (es.toList[i]).born := by unfold Hl; rw [List.getElem?_eq_getElem hi]; rfl
  have hnix : i ∉ ix := fun h => by
   have : (es.toList[i]).born ∈ seen.toList := by rw [q8, ← hbi]; exact List.mem_map.2 ⟨i, h, rfl⟩
   rw [Array.mem_toList_iff, ← Array.contains_iff_mem, hnc] at this
   cases this
  have hblt := bS q1
  refine iU (v := .tuple #[.bool true, (es.toList[i]).key, (es.toList[i]).val]) (w' := { w with drawn := w.drawn + q, heap := w.heap.setIfInBounds it (.mapIter (some b) clock (seen.push (es.toList[i]).born) clock) }) (fun o ho ht => by simp [execOp, ho, ht, h1, hrun])
   ⟨⟨some (i, d[i]), ⟨hnix, by rw [List.getElem?_eq_getElem hid]⟩⟩, ?_, ?_, by simp, fun b' hb' hn' => C9.2 b' fun e => hn' j (by simp) _ hj (by rw [e]; simp [JA]), sK hj fun b hb => .inl hb⟩
  ·refine hs.upd hj ⟨rfl, rfl, rfl, fun _ => Nat.le_add_right _ _⟩ (by simp) (fun b' _ hn' => C9.2 b' fun e => hn' (by rw [e]; simp [JA])) (fun b' hb' => .inl hb') (by simp [JA, hne]) ?_
   have hag : Ag (fr E Ω) (fr E (Ω.set j (JA κ ν b it d (ixn ix (some (i, d[i])))))) w { w with drawn := w.drawn + q, heap := w.heap.setIfInBounds it (.mapIter (some b) clock (seen.push (es.toList[i]).born) clock) } :=
    ⟨fun b' _ hf => wo hj hf fun hm => hf.2 (Sat.me hj (b := b') hm), fun b' _ hf => C9.2 b' fun e => hf.2 (Sat.me hj (b := b') (by rw [e]; simp [JA]))⟩
   refine ⟨hne, es, clock, seen.push (es.toList[i]).born, clock, (C9.2 b hne).trans q1, q2.mono hag, q3, q4, C9.1, Nat.le_refl _, fun _ => rfl, ?_, ?_, fun k hk => ?_⟩
   ·simp [ixn, q8, hbi]
   ·exact List.nodup_append.2 ⟨q9, by simp, fun x hx y hy e => by simp at hy; rw [hy] at e; exact hnix (e ▸ hx)⟩
   ·rcases List.mem_append.1 hk with hk | hk
    ·exact Ox k hk
    ·rw [List.mem_singleton.1 hk]; exact hid
  ·obtain ⟨u1, u2⟩ := q2.2 i (es.toList[i]) d[i] (List.getElem?_eq_getElem hi) (List.getElem?_eq_getElem hid)
   have hag : Ag (fr E Ω) (fr E (Ω.set j (JA κ ν b it d (ixn ix (some (i, d[i])))))) w { w with drawn := w.drawn + q, heap := w.heap.setIfInBounds it (.mapIter (some b) clock (seen.push (es.toList[i]).born) clock) } :=
    ⟨fun b' _ hf => wo hj hf fun hm => hf.2 (Sat.me hj (b := b') hm), fun b' _ hf => C9.2 b' fun e => hf.2 (Sat.me hj (b := b') (by rw [e]; simp [JA]))⟩
   exact ⟨_, rfl, rfl, (sh κ _).mono hag u1, (sh ν _).mono hag u2, trivial⟩
theorem r_nxt0 {o : Option (Nat × α × β)} (hx : dw Γ x = some (nxT κ ν o)) : Rd P E N (.extract x 0) ty Γ Ω [] (bv o.isSome) := by
 cases o with
 | none => exact Av hx rfl
 | some p => exact Av hx rfl
theorem r_entry {i : Nat} {u : α} {v : β} (hx : dw Γ x = some (pv (ptr it 0))) (hj : Ω[j]? = some (JA κ ν b it d (ix ++ [i]))) (hd : d[i]? = some (u, v)) :
  Rd P E N (.entry x) ty Γ Ω [j] (I9 [sh κ u, sh ν v]) := fun a w hs => by
 have h1 : a.eval x = .pointer (some ⟨it, 0, none⟩) := hs.op hx
 obtain ⟨hne, es, clock, seen, last, q1, q2, q3, q4, q5, q6, q7, q8, q9, Ox⟩ := hs.l9 hj
 have hi : i < d.length := Ox i (by simp)
 have hlen : es.toList.length = d.length := q2.1
 have hi' : i < es.toList.length := by rw [hlen]; exact hi
 have hbi : Hl es.toList i = (es.toList[i]).born := by unfold Hl; rw [List.getElem?_eq_getElem hi']; rfl
 obtain ⟨u1, u2⟩ := q2.2 i (es.toList[i]) (u, v) (List.getElem?_eq_getElem hi') hd
 refine ⟨.tuple #[(es.toList[i]).key, (es.toList[i]).val], [b, it], ⟨_, rfl, u1, u2, trivial⟩, ?_, fun w' hw' o ho _ => ?_⟩
 ·intro b' hb'
  have rQ : b' = b ∨ b' = it := by simpa using hb'
  rcases rQ with rfl | rfl
  ·exact ⟨bS q1, .inr ⟨j, by simp, _, hj, by simp [JA]⟩⟩
  ·exact ⟨bS q5, .inr ⟨j, by simp, _, hj, by simp [JA]⟩⟩
 ·have p1 : w'.heap[b]? = some (.map es clock) := by rw [hw' b (by simp)]; exact q1
  have p2 : w'.heap[it]? = some (.mapIter (some b) clock seen last) := by rw [hw' it (by simp)]; exact q5
  have hl : last = clock := q7 (by simp)
  have hback : seen.back? = some (es.toList[i]).born := by
   rw [← Array.getLast?_toList, q8, List.map_append]
   simp [hbi]
  have hf : es.find? (·.born == (es.toList[i]).born) = some (es.toList[i]) := by rw [← Array.find?_toList]; exact find_born _ es.toList q4 (List.getElem_mem hi')
  have hrun : (Instr.entry (.pointer (some ⟨it, 0, none⟩))).run P w' = .ok (.tuple #[(es.toList[i]).key, (es.toList[i]).val]) w' := by
   simp only [Instr.entry, getObj, Sem.run_bind, Sem.run, p1, p2, Result.andThen, hback, hl, bne_self_eq_false, Bool.false_eq_true, if_false, hf]
   rfl
  simp [execOp, ho, h1, hrun]
end
open Classical in
noncomputable def TB {γ σ R : Type} (d : List γ) (f : σ → γ → Option σ) (s0 : σ) (k : σ → Option R) : Option R :=
 if ∀ l : List γ, l.Perm d → (l.foldlM f s0).bind k = (d.foldlM f s0).bind k then (d.foldlM f s0).bind k else none
theorem W4 {γ σ R : Type} {d : List γ} {f : σ → γ → Option σ} {s0 : σ} {k : σ → Option R} {r : R} (h : TB d f s0 k = some r) : ∀ l : List γ, l.Perm d → (l.foldlM f s0).bind k = some r := by
 unfold TB at h
 by_cases c : ∀ l : List γ, l.Perm d → (l.foldlM f s0).bind k = (d.foldlM f s0).bind k
 ·rw [if_pos c] at h
  exact fun l hl => (c l hl).trans h
 ·rw [if_neg c] at h; cases h
theorem OC {n : Nat} {l : List Nat} (hn : l.Nodup) (hl : ∀ i ∈ l, i < n) : ∃ m, (l ++ m).Perm (List.range n) := by
 refine ⟨(List.range n).filter fun i => decide (i ∉ l), ?_⟩
 refine (List.perm_ext_iff_of_nodup ?_ List.nodup_range).2 fun i => ?_
 ·refine List.nodup_append.2 ⟨hn, List.Pairwise.filter _ List.nodup_range, fun x hx y hy e => ?_⟩
  have := (List.mem_filter.1 hy).2
  rw [← e] at this
  exact of_decide_eq_true this hx
 ·rw [List.mem_append, List.mem_filter, List.mem_range]
  constructor
  ·rintro (h | ⟨h, _⟩)
   ·exact hl i h
   ·exact h
  ·intro h
   by_cases c : i ∈ l
   ·exact .inl c
   ·exact .inr ⟨h, decide_eq_true c⟩
section
variable {σ X Y R γ : Type} {id : Nat} {r_ : σ → X → List (Nat × RP)} {r9 : σ → X → List Nat → List OB} {CS : σ → Y → List (Nat × RP)} {CR : σ → Y → List Nat → List OB} {k : σ → Option R} {K : KT R}
def rngK (E : Env) (N : Nat) (id : Nat) (d : List γ) (f : σ → γ → Option σ) (r_ : σ → X → List (Nat × RP)) (r9 : σ → X → List Nat → List OB) (CS : σ → Y → List (Nat × RP)) (CR : σ → Y → List Nat → List OB) (ix : List Nat) (s : σ) : KT Unit :=
 fun _ e a w => (e = .exit id ∧ (∀ i, i < d.length → i ∈ ix) ∧ ∃ y, Sat E N (CS s y) (CR s y ix) a w) ∨
  (e = .normal ∧ ∃ i p s', i ∉ ix ∧ d[i]? = some p ∧ f s p = some s' ∧ ∃ x', Sat E N (r_ s' x') (r9 s' x' (ix ++ [i])) a w)
theorem ref_rng {body : Code} {d : List γ} {f : σ → γ → Option σ} (s0 : σ) (x0 : X) (h0 : ∀ a w, Sat E N Γ Ω a w → Sat E N (r_ s0 x0) (r9 s0 x0 []) a w)
  (round : ∀ ix s x, (∀ i, i ∉ ix → ∀ p, d[i]? = some p → ∃ s', f s p = some s') → Ref P E N (some ()) body (r_ s x) (r9 s x ix) (rngK E N id d f r_ r9 CS CR ix s))
  (hB : ∀ q y ix, gV E N .normal (k q) (CS q y) (CR q y ix) K) : Ref P E N (TB d f s0 k) (.block id (.loop body)) Γ Ω K := by
 refine gB ?_
 intro r hr a w hs
 have hall := W4 hr
 have KI : ∀ l : List Nat, l.Perm (List.range d.length) → (l.filterMap fun i => d[i]?).Perm d := fun l hl => by
  have h1 := hl.filterMap fun i => d[i]?
  have h2 : (List.range d.length).filterMap (fun i => d[i]?) = d := by
   apply List.ext_getElem?
   intro n
   have : ∀ m (hm : m ≤ d.length), (List.range m).filterMap (fun i => d[i]?) = d.take m := fun m => by
    induction m with
    | zero => intro _; simp
    | succ m ih => intro hm; rw [List.range_succ, List.filterMap_append, ih (by omega), List.take_add_one]; simp [List.getElem?_eq_getElem (show m < d.length by omega)]
   rw [this d.length (Nat.le_refl _), List.take_length]
  rwa [h2] at h1
 refine Ku (fun n a w => ∃ ix s x, ix.length + n = d.length ∧ ix.Nodup ∧ (∀ i ∈ ix, i < d.length) ∧ (ix.filterMap fun i => d[i]?).foldlM f s0 = some s ∧ Sat E N (r_ s x) (r9 s x ix) a w) ?_ (n := d.length) ⟨[], s0, x0, by simp, List.nodup_nil, by simp, rfl, h0 a w hs⟩
 rintro n a w ⟨ix, s, x, hn, hnd, hlt, hf, hs⟩
 have H : ∀ i, i ∉ ix → ∀ p, d[i]? = some p → ∃ s', f s p = some s' := fun i hi p hp => by
  have hid : i < d.length := (List.getElem?_eq_some_iff.1 hp).1
  have hnd' : (ix ++ [i]).Nodup := List.nodup_append.2 ⟨hnd, by simp, fun x hx y hy e => by simp at hy; rw [hy] at e; exact hi (e ▸ hx)⟩
  have hlt' : ∀ j ∈ ix ++ [i], j < d.length := fun j hj => by
   rcases List.mem_append.1 hj with hj | hj
   ·exact hlt j hj
   ·rw [List.mem_singleton.1 hj]; exact hid
  obtain ⟨m, hm⟩ := OC hnd' hlt'
  have := hall _ (KI _ hm)
  rw [List.filterMap_append, List.filterMap_append, List.foldlM_append, List.foldlM_append, hf] at this
  cases hfp : f s p with
  | some s' => exact ⟨s', rfl⟩
  | none =>
   have e1 : ([i].filterMap fun i => d[i]?) = [p] := by simp [hp]
   rw [e1] at this
   simp [hfp] at this
 refine wp_mono (round ix s x H () rfl a w hs) ?_
 intro e a' w' he
 rcases he with ⟨rfl, hin, y, hy⟩ | ⟨rfl, i, p, s', hi, hp, hs', x', hx'⟩
 ·have hpm : ix.Perm (List.range d.length) := (List.perm_ext_iff_of_nodup hnd List.nodup_range).2 fun i => by
   rw [List.mem_range]; exact ⟨hlt i, hin i⟩
  have := hall _ (KI _ hpm)
  rw [hf] at this
  show (if id = id then _ else _)
  rw [if_pos rfl]
  exact hB s y ix r this a' w' hy
 ·have hid : i < d.length := (List.getElem?_eq_some_iff.1 hp).1
  have hnd' : (ix ++ [i]).Nodup := List.nodup_append.2 ⟨hnd, by simp, fun x hx y hy e => by simp at hy; rw [hy] at e; exact hi (e ▸ hx)⟩
  have hlt' : ∀ j ∈ ix ++ [i], j < d.length := fun j hj => by
   rcases List.mem_append.1 hj with hj | hj
   ·exact hlt j hj
   ·rw [List.mem_singleton.1 hj]; exact hid
  have hle : (ix ++ [i]).length ≤ d.length := by
   obtain ⟨m, hm⟩ := OC hnd' hlt'
   have := hm.length_eq
   simp at this ⊢; omega
  refine ⟨n - 1, ?_, ix ++ [i], s', x', ?_, hnd', hlt', ?_, hx'⟩
  ·simp at hle; omega
  ·simp at hle ⊢; omega
  ·rw [List.filterMap_append, List.foldlM_append, hf]
   simp [hp, hs']
def rngG (E : Env) (N : Nat) (r_ : σ → X → List (Nat × RP)) (r9 : σ → X → List Nat → List OB) (ix : List Nat) : KT σ := fun s' e a w => e = .normal ∧ ∃ x', Sat E N (r_ s' x') (r9 s' x' ix) a w
theorem Zf {d : List γ} {f : σ → γ → Option σ} {c : Code} {ix : List Nat} {s : σ} {i : Nat} {p : γ} {A : List (Nat × RP)} {B : List OB} (H : ∀ i, i ∉ ix → ∀ p, d[i]? = some p → ∃ s', f s p = some s') (hi : i ∉ ix) (hp : d[i]? = some p)
  (h : Ref P E N (f s p) c A B (rngG E N r_ r9 (ix ++ [i]))) : Ref P E N (some ()) c A B (rngK E N id d f r_ r9 CS CR ix s) := by
 intro r hr a w hs
 obtain ⟨s', hs'⟩ := H i hi p hp
 refine wp_mono (h s' hs' a w hs) ?_
 rintro e a' w' ⟨rfl, x', hx'⟩
 exact .inr ⟨rfl, i, p, s', hi, hp, hs', x', hx'⟩
theorem Zg {d : List γ} {f : σ → γ → Option σ} {ix : List Nat} {s : σ} (hin : ∀ i, i < d.length → i ∈ ix) (y : Y) {A : List (Nat × RP)} {B : List OB} (h : ∀ a w, Sat E N A B a w → Sat E N (CS s y) (CR s y ix) a w) :
  gV E N (.exit id) (some ()) A B (rngK E N id d f r_ r9 CS CR ix s) := by
 intro r hr a w hs
 exact .inl ⟨rfl, hin, y, h a w hs⟩
theorem Zh {s' : σ} {ix : List Nat} (x' : X) {A : List (Nat × RP)} {B : List OB} (h : ∀ a w, Sat E N A B a w → Sat E N (r_ s' x') (r9 s' x' ix) a w) :
  gV E N .normal (some s') A B (rngG E N r_ r9 ix) := by
 intro r hr a w hs; cases hr; exact ⟨rfl, x', h a w hs⟩
end
end Go.Dc
namespace Go.Dc
open Go.Proofs Go.RowKit Go.Sort Go.Shelf Go.Lib
variable {P : Program} {α : Type} [Inhabited α]
theorem yK {w : World} {b o : Nat} {cells : Array Value} {ty : TypeId} {fz : Nat × Nat} (h : w.heap[b]? = some (.cells cells ty fz)) : w.cell? ⟨b, o, none⟩ = cells[o]? := by
 simp [World.cell?, h]
theorem qJ {w : World} {b o : Nat} {cells : Array Value} {ty : TypeId} (h : w.heap[b]? = some (.cells cells ty (0, 0))) : w.frozen? ⟨b, o, none⟩ = false := by
 simp [World.frozen?, h]
theorem JN {w w' : World} (h : Kept [] w w') : ∃ q os, w' = grow (w.drewN q) os := by
 refine ⟨w'.drawn - w.drawn, w'.heap.extract w.heap.size w'.heap.size, ?_⟩
 have hh : w'.heap = w.heap ++ w'.heap.extract w.heap.size w'.heap.size := by
  have hs := h.size
  apply Array.ext_getElem?
  intro i
  by_cases e : i < w.heap.size
  ·rw [Array.getElem?_append_left e, h.blk i e (by simp)]
  ·rw [Array.getElem?_append_right (by omega), Array.getElem?_extract]
   by_cases e2 : i < w'.heap.size
   ·rw [if_pos (by omega), show w.heap.size + (i - w.heap.size) = i by omega]
   ·rw [Array.getElem?_eq_none (by omega)]
    split
    ·rw [Array.getElem?_eq_none (by omega)]
    ·rfl
 have hd := h.drawn trivial
 obtain ⟨heap, tape, drawn, os, output⟩ := w
 obtain ⟨heap', tape', drawn', os', output'⟩ := w'
 have h1 := h.os; have h2 := h.tape; have h3 := h.output
 dsimp only at h1 h2 h3 hh hd ⊢
 subst h1; subst h2; subst h3
 unfold grow World.drewN
 simp only [World.mk.injEq, true_and, and_true]
 exact ⟨hh, by omega⟩
structure EncT {α : Type} (ρ : iC α) (enc : α → List Value) (k : Nat) : Prop where
 size : ρ.size = k
 pos : 0 < k
 agg : ρ.agg = true
 len : ∀ x, (enc x).length = k
 one : ∀ x, ∀ v ∈ enc x, v.oneCell' = true
 to : ∀ (x : α) (F : FP) (w : World) (cs : List Value), bZ F w (ρ.cp x) cs → cs = enc x
 of : ∀ (x : α) (F : FP) (w : World), bZ F w (ρ.cp x) (enc x)
def wP (m : α → α → Option Int) (x y : α) : Int := (m x y).getD 0
structure S9 (m : α → α → Option Int) : Prop where
 tot : ∀ x y, m x y = some (wP m x y)
 swo : SWO (ltOf (wP m))
 sep : ∀ x y, ltOf (wP m) x y = false → ltOf (wP m) y x = false → x = y
def nM (m : α → α → Option Int) (l : List α) : List α := l.mergeSort fun x y => !(ltOf (wP m)) y x
open Classical in
noncomputable def gX (m : α → α → Option Int) (l : List α) : Option (List α) := if l.length ≤ 1000000000000 ∧ S9 m then some (nM m l) else none
omit [Inhabited α] in
theorem Jk {m : α → α → Option Int} {l : List α} : (nM m l).length = l.length := by simp [nM]
omit [Inhabited α] in
theorem Vc {ρ : iC α} {enc : α → List Value} {k : Nat} (hE : EncT ρ enc k) {F : FP} {w : World} {cells : Array Value} {off : Nat} {d : List α} :
  NA ρ F w cells off d ↔ ∀ i (hi : i < d.length), ∀ j, j < k → cells[off + i * k + j]? = (enc d[i])[j]? := by
 constructor
 ·intro h i hi j hj
  obtain ⟨es, h1, h2⟩ := h i hi
  have := h2 j (by rw [hE.size]; exact hj)
  rw [hE.size] at this
  rw [this, hE.to _ _ _ _ h1]
 ·intro h i hi
  refine ⟨enc d[i], hE.of _ _ _, fun j hj => ?_⟩
  rw [hE.size] at hj ⊢
  exact h i hi j hj
abbrev Wz {X : Type} (P : Program) (f : FuncId) (args : List RP) (wR : List OB) (res : X → List RP) (lB : X → List OB) : Prop := gw P f args wR res lB
theorem L2 [aq] {ρ : iC α} {enc : α → List Value} {k : Nat} (hE : EncT ρ enc k) {fS fC : Nat} {m : α → α → Option Int} {X : Type}
  (hfC : ∀ x y r, m x y = some r → Wz P fC [sh ρ x, sh ρ y] [] (fun _ : X => [iv .i64 r]) (fun _ => []))
  (hC : ∀ (hO : SWO (ltOf (wP m))) (blk off cap : Nat) (d : Array α) (w : World), CmpLays P fC #[] enc k (wP m) blk off d.size w → HoldsK enc k w blk off d → blk < w.heap.size → d.size < 4611686018427387904 →
   (∀ x y, (ltOf (wP m)) x y = false → (ltOf (wP m)) y x = false → x = y) →
   Calls P fS #[.slice (some ⟨blk, off, none⟩) d.size cap, .func (.func fC) #[] #[]] w fun e w' => e = .returned (.tuple #[]) ∧ ∃ n os, w' = sortWorldK enc k w blk off n (d.toList.mergeSort fun x y => !(ltOf (wP m)) y x).toArray os)
  (hN : ∀ (p : Option Addr) (cap : Nat) (fv : Value) (w : World), Calls P fS #[.slice p 0 cap, fv] w fun e w' => e = .returned (.tuple #[]) ∧ w' = w)
  {l r : List α} (hm : gX m l = some r) {h : Value × List Nat} :
  gw P fS [pv h.1, pv (.func (.func fC) #[] #[])] [oa ρ h.1 h.2 l] (fun _ : Unit => []) (fun _ : Unit => [oa ρ h.1 h.2 r]) := by
 intro F w vs hF hmf hbd hnd jP hargs htb
 unfold gX at hm
 have hl : l.length ≤ 1000000000000 ∧ S9 m := Classical.byContradiction fun hx => by rw [if_neg hx] at hm; cases hm
 rw [if_pos hl] at hm
 cases hm
 obtain ⟨hl, hcm⟩ := hl
 match vs, hargs with
 | [v0, v1], ⟨hv0, hv1, _⟩ =>
  have Uh : v0 = h.1 := hv0
  have aaB : v1 = .func (.func fC) #[] #[] := hv1
  subst Uh; subst aaB
  obtain ⟨hv, S⟩ := h
  obtain ⟨a, c, e1, hc, p6⟩ := jP (oa ρ hv S l) (by simp)
  simp only at e1 p6 hbd ⊢
  subst e1
  have hlen : (nM m l).length = l.length := Jk
  rcases p6 with ⟨rfl, rfl, rfl⟩ | ⟨b, off, cells, ty, rfl, rfl, hb, hsz, hH⟩
  ·have : l = [] := List.eq_nil_of_length_eq_zero (by omega)
   subst this
   refine Calls.mono (hN none 0 _ w) ?_
   rintro e' w' ⟨rfl, rfl⟩
   refine ⟨(), _, rfl, .refl _ _, by simp [ow, oa], by simp [ow, oa], fun o ho => ?_, #[], rfl, trivial⟩
   rw [List.mem_singleton.1 ho]
   exact ⟨none, 0, by simp [nM], by simp [nM], .inl ⟨rfl, rfl, rfl⟩⟩
  ·have hI := (Vc hE).1 hH
   have hsz' : off + c * k ≤ cells.size := by rw [← hE.size]; exact hsz
   have hk := hE.pos
   have hHo : HoldsK enc k w b off l.toArray := fun t ht => by
    have ht' : t < l.length * k := by simpa using ht
    have hq : t / k < l.length := Nat.div_lt_of_lt_mul (by rw [Nat.mul_comm]; exact ht')
    have hr : t % k < k := Nat.mod_lt _ hk
    refine ⟨?_, qJ hb⟩
    rw [yK hb]
    have h1 := hI (t / k) hq (t % k) hr
    rw [show off + t / k * k + t % k = off + t by have := Nat.div_add_mod t k; rw [Nat.mul_comm] at this; omega] at h1
    rw [h1, get_flatK _ _ _ _ (by simpa using ht')]
    have e : l.toArray[t / k]! = l[t / k] := by simp [hq]
    rw [e]
    have hlt : t % k < (enc l[t / k]).length := by rw [hE.len]; exact hr
    rw [List.getElem?_eq_getElem hlt]
    simp [hlt]
   have uX := bS hb
   have hcmp : CmpLays P fC #[] enc k (wP m) b off l.toArray.size w := fun q os dk hdk x y => by
    have hsh : ∀ x : α, (sh ρ x).h (fun _ => True) (sortWorldK enc k w b off q dk os) (.agg (enc x).toArray) := fun x => xK.2 ⟨enc x, hE.of x _ _, by rw [hE.agg]; rfl⟩
    have y8 := hfC x y _ (hcm.tot x y) (fun _ => True) (sortWorldK enc k w b off q dk os) [.agg (enc x).toArray, .agg (enc y).toArray] (fun _ _ => trivial) (fun _ _ => trivial) (by simp [ow]) (by simp [ow]) (by simp)
     ⟨(sh ρ x).mono (.refl fun _ _ _ => ⟨trivial, by simp [ow]⟩) (hsh x), (sh ρ y).mono (.refl fun _ _ _ => ⟨trivial, by simp [ow]⟩) (hsh y), trivial⟩ (fun _ hx => by cases hx)
    refine Calls.mono y8 ?_
    rintro e' w' ⟨_, v, rfl, hk, _, _, _, hv⟩
    have Ef : v = .int .i64 (wP m x y) := hv
    subst Ef
    exact ⟨rfl, JN hk⟩
   have hCl := hC hcm.swo b off c l.toArray w hcmp hHo uX (by simp; omega) hcm.sep
   rw [List.size_toArray] at hCl
   refine Calls.mono hCl ?_
   rintro e' w' ⟨rfl, q, os, rfl⟩
   have hr : (l.mergeSort fun x y => !(ltOf (wP m)) y x) = nM m l := rfl
   rw [List.toList_toArray, hr]
   generalize nM m l = r at *
   have hheap : ∀ i, i < w.heap.size → (sortWorldK enc k w b off q r.toArray os).heap[i]? = if i = b then some (.cells (putCells id off (flatK enc k r.toArray) cells) ty (0, 0)) else w.heap[i]? := fun i hi => by
    unfold sortWorldK putRowK grow putRow mapBlock Sort.ahead
    simp only
    rw [Array.getElem?_append_left (by simpa using hi)]
    simp only [Array.getElem?_modify]
    by_cases e : b = i
    ·subst e; rw [if_pos rfl, if_pos rfl, hb]; rfl
    ·rw [if_neg e, if_neg (fun h => e h.symm)]
   have hgs : w.heap.size ≤ (sortWorldK enc k w b off q r.toArray os).heap.size := by simp [sortWorldK, putRowK, grow, putRow, mapBlock, Sort.ahead]
   refine ⟨(), _, rfl, ⟨rfl, rfl, rfl, by simp [sortWorldK, putRowK, grow, putRow, mapBlock, Sort.ahead], hgs, fun i hi hk' => ?_⟩, fun i hk' => ?_, by simp [ow, oa], fun o ho => ?_, #[], rfl, trivial⟩
   ·rw [hheap i hi, if_neg (fun e => hk' (by simp [ow, oa, e]))]
   ·have : i = b := by simpa [ow, oa] using hk'
    subst this
    exact ⟨by omega, .inr (by simp [ow, oa])⟩
   ·rw [List.mem_singleton.1 ho]
    refine ⟨_, c, by rw [hlen], by omega, .inr ⟨b, off, _, ty, rfl, rfl, by rw [hheap b uX, if_pos rfl], ?_, (Vc hE).2 fun i hi j hj => ?_⟩⟩
    ·simp only [putCells, Array.size_mapIdx]; rw [hE.size]; exact hsz'
    ·have hic : i * k + k ≤ c * k := by rw [← Nat.succ_mul]; exact Nat.mul_le_mul_right _ (by omega)
     have hir : i * k + j < r.length * k := by
      have : i * k + k ≤ r.length * k := by rw [← Nat.succ_mul]; exact Nat.mul_le_mul_right _ (by omega)
      omega
     have hi2 : off + i * k + j < cells.size := by omega
     simp only [putCells, Array.getElem?_mapIdx, Array.getElem?_eq_getElem hi2, Option.map_some]
     rw [if_pos (by simp; omega)]
     have e1 : off + i * k + j - off = i * k + j := by omega
     rw [e1, id, get_flatK _ _ _ _ (by simpa using hir)]
     have e2 : (i * k + j) / k = i := by rw [Nat.add_comm, Nat.add_mul_div_right _ _ hk, Nat.div_eq_of_lt hj, Nat.zero_add]
     have e3 : (i * k + j) % k = j := by rw [Nat.add_comm, Nat.add_mul_mod_self_right, Nat.mod_eq_of_lt hj]
     rw [e2, e3]
     have e4 : r.toArray[i]! = r[i] := by simp [hi]
     rw [e4]
     have hlt : j < (enc r[i]).length := by rw [hE.len]; exact hj
     rw [List.getElem?_eq_getElem hlt]
     simp [hlt]
end Go.Dc
namespace Go.Dc
open Go.Proofs Go.RowKit Go.Sort Go.Shelf Go.Lib
variable {P : Program}
def encI (x : Int) : Value := .int .i64 x
theorem encI_one : OneCell encI := fun _ => rfl
theorem Ri {F : FP} {w : World} {cells : Array Value} {off : Nat} {d : List Int} : NA (rI .i64) F w cells off d ↔ ∀ i (hi : i < d.length), cells[off + i]? = some (encI d[i]) := by
 constructor
 ·intro h i hi
  obtain ⟨es, h1, h2⟩ := h i hi
  have h3 := h2 0 Nat.one_pos
  match es, h1 with
  | [v], ⟨hv, _⟩ =>
   have Ef : v = .int .i64 d[i] := hv
   subst Ef
   have e : off + i * (rI .i64).size + 0 = off + i := by show off + i * 1 + 0 = _; omega
   rw [e] at h3; exact h3
 ·intro h i hi
  refine ⟨[encI d[i]], ⟨rfl, trivial⟩, fun j hj => ?_⟩
  have : j = 0 := by have h1 : j < 1 := hj; omega
  subst this
  have e : off + i * (rI .i64).size + 0 = off + i := by show off + i * 1 + 0 = _; omega
  rw [e]; exact h i hi
theorem YV [aq] {fS fC : Nat} {m : Int → Int → Option Int} {X : Type}
  (hfC : ∀ x y r, m x y = some r → Wz P fC [iv .i64 x, iv .i64 y] [] (fun _ : X => [iv .i64 r]) (fun _ => []))
  (hC : ∀ (hO : SWO (ltOf (wP m))) (blk off cap : Nat) (d : Array Int) (w : World), CmpLays1 P fC #[] encI (wP m) blk off d.size w → Holds encI w blk off d → blk < w.heap.size → d.size < 4611686018427387904 →
   (∀ x y, (ltOf (wP m)) x y = false → (ltOf (wP m)) y x = false → x = y) →
   Calls P fS #[.slice (some ⟨blk, off, none⟩) d.size cap, .func (.func fC) #[] #[]] w fun e w' => e = .returned (.tuple #[]) ∧ ∃ n os, w' = sortWorld encI w blk off n (d.toList.mergeSort fun x y => !(ltOf (wP m)) y x).toArray os)
  (hN : ∀ (p : Option Addr) (cap : Nat) (fv : Value) (w : World), Calls P fS #[.slice p 0 cap, fv] w fun e w' => e = .returned (.tuple #[]) ∧ w' = w)
  {l r : List Int} (hm : gX m l = some r) {h : Value × List Nat} :
  gw P fS [pv h.1, pv (.func (.func fC) #[] #[])] [oa (rI .i64) h.1 h.2 l] (fun _ : Unit => []) (fun _ : Unit => [oa (rI .i64) h.1 h.2 r]) := by
 intro F w vs hF hmf hbd hnd jP hargs htb
 unfold gX at hm
 have hl : l.length ≤ 1000000000000 ∧ S9 m := Classical.byContradiction fun hx => by rw [if_neg hx] at hm; cases hm
 rw [if_pos hl] at hm
 cases hm
 obtain ⟨hl, hcm⟩ := hl
 match vs, hargs with
 | [v0, v1], ⟨hv0, hv1, _⟩ =>
  have Uh : v0 = h.1 := hv0
  have aaB : v1 = .func (.func fC) #[] #[] := hv1
  subst Uh; subst aaB
  obtain ⟨hv, S⟩ := h
  obtain ⟨a, c, e1, hc, p6⟩ := jP (oa (rI .i64) hv S l) (by simp)
  simp only at e1 p6 hbd ⊢
  subst e1
  have hlen : (nM m l).length = l.length := Jk
  rcases p6 with ⟨rfl, rfl, rfl⟩ | ⟨b, off, cells, ty, rfl, rfl, hb, hsz, hH⟩
  ·have : l = [] := List.eq_nil_of_length_eq_zero (by omega)
   subst this
   refine Calls.mono (hN none 0 _ w) ?_
   rintro e' w' ⟨rfl, rfl⟩
   refine ⟨(), _, rfl, .refl _ _, by simp [ow, oa], by simp [ow, oa], fun o ho => ?_, #[], rfl, trivial⟩
   rw [List.mem_singleton.1 ho]
   exact ⟨none, 0, by simp [nM], by simp [nM], .inl ⟨rfl, rfl, rfl⟩⟩
  ·have hI := Ri.1 hH
   have hsz' : off + c ≤ cells.size := by have : off + c * 1 ≤ cells.size := hsz; omega
   have hHo : Holds encI w b off l.toArray := fun t ht => by
    have ht' : t < l.length := by simpa using ht
    refine ⟨?_, qJ hb⟩
    rw [yK hb, hI t ht']
    simp [ht']
   have uX := bS hb
   have hcmp : CmpLays1 P fC #[] encI (wP m) b off l.toArray.size w := fun q os dk hdk x y => by
    have y8 := hfC x y _ (hcm.tot x y) (fun _ => True) (sortWorld encI w b off q dk os) [encI x, encI y] (fun _ _ => trivial) (fun _ _ => trivial) (by simp [ow]) (by simp [ow]) (by simp) ⟨rfl, rfl, trivial⟩ (fun _ hx => by cases hx)
    refine Calls.mono y8 ?_
    rintro e' w' ⟨_, v, rfl, hk, _, _, _, hv⟩
    have Ef : v = .int .i64 (wP m x y) := hv
    subst Ef
    exact ⟨rfl, JN hk⟩
   have hCl := hC hcm.swo b off c l.toArray w hcmp hHo uX (by simp; omega) hcm.sep
   rw [List.size_toArray] at hCl
   refine Calls.mono hCl ?_
   rintro e' w' ⟨rfl, q, os, rfl⟩
   have hr : (l.mergeSort fun x y => !(ltOf (wP m)) y x) = nM m l := rfl
   rw [List.toList_toArray, hr]
   generalize nM m l = r at *
   have hheap : ∀ i, i < w.heap.size → (sortWorld encI w b off q r.toArray os).heap[i]? = if i = b then some (.cells (putCells encI off r.toArray cells) ty (0, 0)) else w.heap[i]? := fun i hi => by
    unfold sortWorld grow putRow mapBlock Sort.ahead
    simp only
    rw [Array.getElem?_append_left (by simpa using hi)]
    simp only [Array.getElem?_modify]
    by_cases e : b = i
    ·subst e; rw [if_pos rfl, if_pos rfl, hb]; rfl
    ·rw [if_neg e, if_neg (fun h => e h.symm)]
   have hgs : w.heap.size ≤ (sortWorld encI w b off q r.toArray os).heap.size := by simp [sortWorld, grow, putRow, mapBlock, Sort.ahead]
   refine ⟨(), _, rfl, ⟨rfl, rfl, rfl, by simp [sortWorld, grow, putRow, mapBlock, Sort.ahead], hgs, fun i hi hk' => ?_⟩, fun i hk' => ?_, by simp [ow, oa], fun o ho => ?_, #[], rfl, trivial⟩
   ·rw [hheap i hi, if_neg (fun e => hk' (by simp [ow, oa, e]))]
   ·have : i = b := by simpa [ow, oa] using hk'
    subst this
    exact ⟨by omega, .inr (by simp [ow, oa])⟩
   ·rw [List.mem_singleton.1 ho]
    refine ⟨_, c, by rw [hlen], by omega, .inr ⟨b, off, _, ty, rfl, rfl, by rw [hheap b uX, if_pos rfl], ?_, Ri.2 fun i hi => ?_⟩⟩
    ·simp only [putCells, Array.size_mapIdx]; exact hsz
    ·have hi2 : off + i < cells.size := by omega
     simp only [putCells, Array.getElem?_mapIdx, Array.getElem?_eq_getElem hi2, Option.map_some]
     rw [if_pos (by simp; omega)]
     have e1 : off + i - off = i := by omega
     rw [e1]
     have e4 : r.toArray[i]! = r[i] := by simp [hi]
     rw [e4]
end Go.Dc
namespace Go.Dc
open Go.Proofs Go.RowKit Go.Sort Go.Shelf Go.Lib
variable {P : Program} {τ : Type}
structure CmpOn (m : τ → τ → Option Int) (l : List τ) : Prop where
 tot : ∀ x ∈ l, ∀ y ∈ l, m x y = some (wP m x y)
 swo : SWO (ltOf fun i j : Fin l.length => wP m l[i] l[j])
 sep : ∀ i j : Fin l.length, (ltOf fun i j : Fin l.length => wP m l[i] l[j]) i j = false → (ltOf fun i j : Fin l.length => wP m l[i] l[j]) j i = false → i = j
open Classical in
noncomputable def Dx (m : τ → τ → Option Int) (l : List τ) : Option (List τ) := if l.length ≤ 1000000000000 ∧ CmpOn m l then some (nM m l) else none
theorem fin_map {l : List τ} : (List.finRange l.length).map (fun i => l[i]) = l := by
 refine List.ext_getElem (by simp) fun i h1 h2 => ?_
 simp
theorem YW {m : τ → τ → Option Int} {l : List τ} : ((List.finRange l.length).mergeSort fun i j => !(ltOf fun i j : Fin l.length => wP m l[i] l[j]) j i).map (fun i => l[i]) = nM m l := by
 have h := List.map_mergeSort (l := List.finRange l.length) (f := fun i : Fin l.length => l[i]) (r := fun i j => !(ltOf fun i j : Fin l.length => wP m l[i] l[j]) j i) (s := fun x y => !(ltOf (wP m)) y x) (fun a _ b _ => rfl)
 rw [h, fin_map]; rfl
theorem YU [aq] {ρ : iC τ} (hone : ρ.size = 1) (hagg : ρ.agg = false) {fS fC : Nat} {m : τ → τ → Option Int} {X : Type}
  (hfC : ∀ x y r, m x y = some r → Wz P fC [sh ρ x, sh ρ y] [] (fun _ : X => [iv .i64 r]) (fun _ => []))
  (hC : ∀ {α : Type} [Inhabited α] (enc : α → Value) (h1 : OneCell enc) (cf : α → α → Int) (hO : SWO (ltOf cf)) (blk off cap : Nat) (d : Array α) (w : World), CmpLays1 P fC #[] enc cf blk off d.size w → Holds enc w blk off d → blk < w.heap.size → d.size < 4611686018427387904 →
   (∀ x y, (ltOf cf) x y = false → (ltOf cf) y x = false → x = y) →
   Calls P fS #[.slice (some ⟨blk, off, none⟩) d.size cap, .func (.func fC) #[] #[]] w fun e w' => e = .returned (.tuple #[]) ∧ ∃ n os, w' = sortWorld enc w blk off n (d.toList.mergeSort fun x y => !(ltOf cf) y x).toArray os)
  (hN : ∀ (p : Option Addr) (cap : Nat) (fv : Value) (w : World), Calls P fS #[.slice p 0 cap, fv] w fun e w' => e = .returned (.tuple #[]) ∧ w' = w)
  {l r : List τ} (hm : Dx m l = some r) {h : Value × List Nat} :
  gw P fS [pv h.1, pv (.func (.func fC) #[] #[])] [oa ρ h.1 h.2 l] (fun _ : Unit => []) (fun _ : Unit => [oa ρ h.1 h.2 r]) := by
 intro F w vs hF hmf hbd hnd jP hargs htb
 unfold Dx at hm
 have hl : l.length ≤ 1000000000000 ∧ CmpOn m l := Classical.byContradiction fun hx => by rw [if_neg hx] at hm; cases hm
 rw [if_pos hl] at hm
 cases hm
 obtain ⟨hl, hcm⟩ := hl
 match vs, hargs with
 | [v0, v1], ⟨hv0, hv1, _⟩ =>
  have Uh : v0 = h.1 := hv0
  have aaB : v1 = .func (.func fC) #[] #[] := hv1
  subst Uh; subst aaB
  obtain ⟨hv, S⟩ := h
  have hob0 := jP (oa ρ hv S l) (by simp)
  obtain ⟨a, c, e1, hc, p6⟩ := hob0
  simp only at e1 p6 hbd ⊢
  subst e1
  have hlen : (nM m l).length = l.length := Jk
  by_cases hnil : l = []
  ·subst hnil
   refine Calls.mono (hN a c _ w) ?_
   rintro e' w' ⟨rfl, rfl⟩
   have hs0 : nM m ([] : List τ) = [] := by simp [nM]
   rw [hs0]
   exact ⟨(), _, rfl, .refl _ _, fun q hq => ⟨hbd q hq, .inr hq⟩, by simpa using hnd, fun o ho => by rw [List.mem_singleton.1 ho]; exact jP (oa ρ _ S []) (by simp), #[], rfl, trivial⟩
  have hpos : 0 < l.length := Nat.pos_of_ne_zero fun e => hnil (List.eq_nil_of_length_eq_zero e)
  rcases p6 with ⟨e0, e2, e3⟩ | ⟨b, off, cells, ty, rfl, rfl, hb, hsz, hH⟩
  ·exact absurd e2 (by omega)
  ·haveI : Inhabited (Fin l.length) := ⟨⟨0, hpos⟩⟩
   have hS : ow [oa ρ (.slice (some ⟨b, off, none⟩) l.length c) [b] l] = [b] := by simp [ow, oa]
   have hex : ∀ i : Fin l.length, ∃ v : Value, cells[off + i.val]? = some v ∧ bZ (fun x => F x ∧ x ∉ ow [oa ρ (.slice (some ⟨b, off, none⟩) l.length c) [b] l]) w (ρ.cp l[i]) [v] := fun i => by
    obtain ⟨es, h1, h2⟩ := hH i.val i.isLt
    have hle := h1.length
    rw [ρ.len, hone] at hle
    obtain ⟨v, rfl⟩ := List.length_eq_one_iff.1 hle
    have h3 := h2 0 (by rw [hone]; exact Nat.one_pos)
    rw [hone, Nat.mul_one, Nat.add_zero] at h3
    exact ⟨v, h3, h1⟩
   obtain ⟨enc, henc⟩ : ∃ enc : Fin l.length → Value, ∀ i, cells[off + i.val]? = some (enc i) ∧ bZ (fun x => F x ∧ x ∉ ow [oa ρ (.slice (some ⟨b, off, none⟩) l.length c) [b] l]) w (ρ.cp l[i]) [enc i] :=
    ⟨fun i => (hex i).choose, fun i => (hex i).choose_spec⟩
   have h1c : OneCell enc := fun i => (henc i).2.atoms (ρ.at_ _) _ (by simp)
   have hsz' : off + c ≤ cells.size := by have := hsz; rw [hone, Nat.mul_one] at this; exact this
   have uX := bS hb
   have hHo : Holds enc w b off (List.finRange l.length).toArray := fun t ht => by
    have ht' : t < l.length := by simpa using ht
    refine ⟨?_, qJ hb⟩
    have e : (List.finRange l.length).toArray[t]! = ⟨t, ht'⟩ := by simp [ht']
    rw [yK hb, e]
    exact (henc ⟨t, ht'⟩).1
   have hheap : ∀ (q : Nat) (dk : Array (Fin l.length)) (os : Array Obj) i, i < w.heap.size → (sortWorld enc w b off q dk os).heap[i]? = if i = b then some (.cells (putCells enc off dk cells) ty (0, 0)) else w.heap[i]? := fun q dk os i hi => by
    unfold sortWorld grow putRow mapBlock Sort.ahead
    simp only
    rw [Array.getElem?_append_left (by simpa using hi)]
    simp only [Array.getElem?_modify]
    by_cases e : b = i
    ·subst e; rw [if_pos rfl, if_pos rfl, hb]; rfl
    ·rw [if_neg e, if_neg (fun h => e h.symm)]
   have hgs : ∀ (q : Nat) (dk : Array (Fin l.length)) (os : Array Obj), w.heap.size ≤ (sortWorld enc w b off q dk os).heap.size := fun q dk os => by simp [sortWorld, grow, putRow, mapBlock, Sort.ahead]
   have hcmp : CmpLays1 P fC #[] enc (fun i j : Fin l.length => wP m l[i] l[j]) b off (List.finRange l.length).toArray.size w := fun q os dk hdk x y => by
    have hag : Ag (fun x => F x ∧ x ∉ ow [oa ρ (.slice (some ⟨b, off, none⟩) l.length c) [b] l]) (fun x => (fun x => (F x ∧ x ≠ b) ∨ (sortWorld enc w b off q dk os).heap.size ≤ x) x ∧ x ∉ ow ([] : List OB)) w (sortWorld enc w b off q dk os) :=
     ⟨fun z hz hf => ⟨.inl ⟨hf.1, fun e => hf.2 (by rw [hS, e]; simp)⟩, by simp [ow]⟩, fun z hz hf => by rw [hheap q dk os z hz, if_neg fun e => hf.2 (by rw [hS, e]; simp)]⟩
    have hsh : ∀ i : Fin l.length, (sh ρ l[i]).h (fun x => (fun x => (F x ∧ x ≠ b) ∨ (sortWorld enc w b off q dk os).heap.size ≤ x) x ∧ x ∉ ow ([] : List OB)) (sortWorld enc w b off q dk os) (enc i) := fun i => xK.2 ⟨[enc i], (henc i).2.mono hag, by rw [hagg]; rfl⟩
    have y8 := hfC l[x] l[y] _ (hcm.tot _ (List.getElem_mem _) _ (List.getElem_mem _)) (fun x => (F x ∧ x ≠ b) ∨ (sortWorld enc w b off q dk os).heap.size ≤ x) (sortWorld enc w b off q dk os) [enc x, enc y] (fun _ h => .inr h) (by simp [ow]) (by simp [ow]) (by simp [ow]) (by simp)
     ⟨hsh x, hsh y, trivial⟩ (fun _ hx => by cases hx)
    refine Calls.mono y8 ?_
    rintro e' w' ⟨_, v, rfl, hk, _, _, _, hv⟩
    have Ef : v = .int .i64 (wP m l[x] l[y]) := hv
    subst Ef
    exact ⟨rfl, JN hk⟩
   have hCl := hC enc h1c (fun i j : Fin l.length => wP m l[i] l[j]) hcm.swo b off c (List.finRange l.length).toArray w hcmp hHo uX (by simp; omega) hcm.sep
   rw [show (List.finRange l.length).toArray.size = l.length by simp] at hCl
   refine Calls.mono hCl ?_
   rintro e' w' ⟨rfl, q, os, rfl⟩
   have hr := YW (m := m) (l := l)
   rw [List.toList_toArray]
   generalize ((List.finRange l.length).mergeSort fun x y => !(ltOf fun i j : Fin l.length => wP m l[i] l[j]) y x) = rs at *
   have hrl : rs.length = l.length := by have h9 := congrArg List.length hr; rw [List.length_map] at h9; exact h9.trans hlen
   refine ⟨(), _, rfl, ⟨rfl, rfl, rfl, by simp [sortWorld, grow, putRow, mapBlock, Sort.ahead], hgs _ _ _, fun i hi hk' => ?_⟩, fun i hk' => ?_, by simp [ow, oa], fun o ho => ?_, #[], rfl, trivial⟩
   ·rw [hheap _ _ _ i hi, if_neg (fun e => hk' (by rw [hS, e]; simp))]
   ·have : i = b := by simpa [ow, oa] using hk'
    subst this
    exact ⟨Nat.lt_of_lt_of_le uX (hgs _ _ _), .inr (by simp [ow, oa])⟩
   ·rw [List.mem_singleton.1 ho]
    refine ⟨_, c, by rw [hlen], by omega, .inr ⟨b, off, _, ty, rfl, rfl, by rw [hheap _ _ _ b uX, if_pos rfl], ?_, fun i hi => ?_⟩⟩
    ·simp only [putCells, Array.size_mapIdx]; exact hsz
    ·have hi2 : i < rs.length := by omega
     have hag : Ag (fun x => F x ∧ x ∉ ow [oa ρ (.slice (some ⟨b, off, none⟩) l.length c) [b] l]) (fun x => F x ∧ x ∉ ow [oa ρ (.slice (some ⟨b, off, none⟩) l.length c) [b] (nM m l)]) w (sortWorld enc w b off q rs.toArray os) :=
      ⟨fun z hz hf => ⟨hf.1, fun hm => hf.2 (by simpa [ow, oa] using hm)⟩, fun z hz hf => by rw [hheap q _ os z hz, if_neg fun e => hf.2 (by rw [hS, e]; simp)]⟩
     have e5 : (nM m l)[i] = l[rs[i]] := by
      have : (nM m l)[i]? = some l[rs[i]] := by rw [← hr, List.getElem?_map, List.getElem?_eq_getElem hi2]; rfl
      rw [List.getElem?_eq_getElem hi] at this
      exact Option.some.inj this
     refine ⟨[enc rs[i]], by rw [e5]; exact (henc rs[i]).2.mono hag, fun j hj => ?_⟩
     have : j = 0 := by rw [hone] at hj; omega
     subst this
     rw [hone, Nat.mul_one, Nat.add_zero]
     have hi3 : off + i < cells.size := by omega
     simp only [putCells, Array.getElem?_mapIdx, Array.getElem?_eq_getElem hi3, Option.map_some]
     rw [if_pos (by simp; omega)]
     have e1 : off + i - off = i := by omega
     rw [e1]
     have e4 : rs.toArray[i]! = rs[i] := by simp [hi2]
     rw [e4]; rfl
end Go.Dc
namespace Go.Dc
open Go.Proofs Go.RowKit Go.Sort Go.Shelf Go.Lib
variable {P : Program} {α : Type} [Inhabited α]
end Go.Dc
namespace Go.Dc
variable {P : Program} {f : FuncId} [bl P]
theorem Qy {t : Ty} {m : t.den → t.den → Option Int} {ps : List (Bool × List KA)} {X Y : RP} {x y : t.den} {r : Int}
  (h : aG P f ⟨[t, t], [.int .i64], fun a => m a.1 a.2, ps, [], [(false, [.d 0 0])], [], 0, 0⟩) (hm : m x y = some r)
  (he : ∀ hs, bI.args (P := P) ⟨[t, t], [.int .i64], fun a => m a.1 a.2, ps, [], [(false, [.d 0 0])], [], 0, 0⟩ (x, y) hs = [X, Y]) :
  Wz P f [X, Y] [] (fun _ : Unit => [iv .i64 r]) (fun _ => []) := by
 have h1 := h.ok (x, y) r hm (fun _ => ⟨.nilIface, [], 0, rfl⟩)
 rw [he] at h1
 exact h1.re fun _ _ _ _ => ⟨(), rfl, rfl⟩
end Go.Dc
namespace Go.Dc
variable [aq]
variable {P : Program} {E : Env} {N : Nat} {Γ : List (Nat × RP)} {Ω : List OB} {ty : TypeId} {α : Type} {ρ : iC α} {bytes t e j : Nat} {x y : Operand} {hv : Value} {S : List Nat} {d : List α}
end Go.Dc
namespace Go.Dc
variable [aq] {P : Program} {f : FuncId} [bl P]
end Go.Dc
namespace Go.Dc
variable [aq]
open Go.Proofs Go.RowKit Go.Sort Go.Shelf
variable {P : Program}
theorem Vb {F : FP} {w : World} {cells : Array Value} {off : Nat} {d : List Int} {k : IntKind} : NA (rI k) F w cells off d ↔ ∀ i (hi : i < d.length), cells[off + i]? = some (.int k d[i]) := by
 constructor
 ·intro h i hi
  obtain ⟨es, h1, h2⟩ := h i hi
  have := h2 0 (by simp [rI, one])
  simp only [rI, one, Nat.mul_one, Nat.add_zero] at this h1
  match es, h1 with
  | [u], ⟨hu, _⟩ => rw [this]; simp; exact hu
 ·intro h i hi
  refine ⟨[.int k d[i]], ⟨rfl, trivial⟩, fun j hj => ?_⟩
  have hj0 : j = 0 := by simp [rI, one] at hj; omega
  subst hj0
  simpa [rI, one] using h i hi
theorem N5 {w : World} {b o : Nat} {cells : Array Value} {ty : TypeId} {fz : Nat × Nat} (h : w.heap[b]? = some (.cells cells ty fz)) : w.cell? ⟨b, o, none⟩ = cells[o]? := by
 simp [World.cell?, h]
theorem HB {w : World} {b o : Nat} {cells : Array Value} {ty : TypeId} (h : w.heap[b]? = some (.cells cells ty (0, 0))) : w.frozen? ⟨b, o, none⟩ = false := by
 simp [World.frozen?, h]
def ym (l : List Int) : Option (List Int) := if l.length ≤ 1000000000000 then some (Lib.compact l) else none
theorem SI (zs : List Int) : (Lib.compact zs).length ≤ zs.length := by
 unfold Lib.compact Lib.compactUpTo
 rw [List.length_map]
 exact Nat.le_trans (List.length_filter_le _ _) (by simp)
theorem UG {fS : Nat}
  (hC : ∀ (w : World) (blk off cap : Nat) (zs : List Int), Holds (Value.int .i64) w blk off zs.toArray → zs.length ≤ 9223372036854775807 → zs.length ≤ cap →
   Calls P fS #[.slice (some ⟨blk, off, none⟩) zs.length cap] w fun e w' => e = .returned (.slice (some ⟨blk, off, none⟩) (Lib.compact zs).length cap) ∧ ∃ q, w' = putRow (Value.int .i64) (Sort.ahead w q) blk off (Lib.compact zs ++ List.replicate (zs.length - (Lib.compact zs).length) 0).toArray)
  (hE : ∀ (a : Option Addr) (cap : Nat) (w : World), Calls P fS #[.slice a 0 cap] w fun e w' => e = .returned (.slice a 0 cap) ∧ w' = w)
  (hlen : ∀ zs : List Int, (Lib.compact zs).length ≤ zs.length)
  {l r : List Int} (hm : ym l = some r) {h : Value × List Nat} :
  gw P fS [pv h.1] [oa (rI .i64) h.1 h.2 l] (fun x : Value × List Nat => [pv x.1]) (fun x : Value × List Nat => [oa (rI .i64) x.1 x.2 r]) := by
 intro F w vs hF hmf hbd hnd jP hargs htb
 unfold ym at hm
 have hl : l.length ≤ 1000000000000 := Classical.byContradiction fun hx => by rw [if_neg hx] at hm; cases hm
 rw [if_pos hl] at hm
 cases hm
 match vs, hargs with
 | [v0], ⟨hv0, _⟩ =>
  have Uh : v0 = h.1 := hv0
  subst Uh
  obtain ⟨hv, S⟩ := h
  obtain ⟨a, c, e1, hc, p6⟩ := jP (oa (rI .i64) hv S l) (by simp)
  simp only at e1 p6 ⊢
  subst e1
  rcases p6 with ⟨rfl, rfl, rfl⟩ | ⟨b, off, cells, ty, rfl, rfl, hb, hsz, hH⟩
  ·have : l = [] := List.eq_nil_of_length_eq_zero (by omega)
   subst this
   refine Calls.mono (hE none 0 w) ?_
   rintro e' w' ⟨rfl, rfl⟩
   refine ⟨(.slice none 0 0, []), _, rfl, .refl _ _, by simp [ow, oa], by simp [ow, oa], fun o ho => ?_, rfl⟩
   rw [List.mem_singleton.1 ho]
   exact ⟨none, 0, rfl, by simp [Lib.compact, Lib.compactUpTo], .inl ⟨rfl, rfl, rfl⟩⟩
  ·have hI := Vb.1 hH
   have hsz' : off + c ≤ cells.size := by simpa [rI, one] using hsz
   have hHo : Holds (Value.int .i64) w b off l.toArray := fun j hj => by
    have hj' : j < l.length := by simpa using hj
    refine ⟨?_, HB hb⟩
    rw [N5 hb, hI j hj']
    simp [getElem!_pos, hj']
   refine Calls.mono (hC w b off c l hHo (by omega) hc) ?_
   rintro e' w' ⟨rfl, q, rfl⟩
   have uX := bS hb
   have hheap : ∀ k, (putRow (Value.int .i64) (Sort.ahead w q) b off (Lib.compact l ++ List.replicate (l.length - (Lib.compact l).length) 0).toArray).heap[k]? = if k = b then some (.cells (putCells (Value.int .i64) off (Lib.compact l ++ List.replicate (l.length - (Lib.compact l).length) 0).toArray cells) ty (0, 0)) else w.heap[k]? := fun k => by
    unfold putRow mapBlock Sort.ahead
    simp only [Array.getElem?_modify]
    by_cases e : b = k
    ·subst e; rw [if_pos rfl, if_pos rfl, hb]; rfl
    ·rw [if_neg e, if_neg (fun h => e h.symm)]
   have y8 := hlen l
   refine ⟨(.slice (some ⟨b, off, none⟩) (Lib.compact l).length c, [b]), _, rfl, ⟨rfl, rfl, rfl, by simp [putRow, mapBlock, Sort.ahead], by simp [putRow, mapBlock, Sort.ahead], fun k hk hk' => ?_⟩, fun k hk' => ?_, by simp [ow, oa], fun o ho => ?_, rfl⟩
   ·rw [hheap, if_neg (fun e => hk' (by simp [ow, oa, e]))]
   ·have : k = b := by simpa [ow, oa] using hk'
    subst this
    exact ⟨by simp [putRow, mapBlock, Sort.ahead]; exact uX, .inr (by simp [ow, oa])⟩
   ·rw [List.mem_singleton.1 ho]
    refine ⟨_, c, rfl, by omega, .inr ⟨b, off, _, ty, rfl, rfl, by rw [hheap, if_pos rfl], ?_, Vb.2 fun i hi => ?_⟩⟩
    ·simp only [putCells, Array.size_mapIdx]; exact hsz
    ·have hi2 : off + i < cells.size := by omega
     simp only [putCells, Array.getElem?_mapIdx, Array.getElem?_eq_getElem hi2, Option.map_some]
     rw [if_pos (by simp; omega)]
     have : off + i - off = i := by omega
     rw [this]
     have hi3 : i < (Lib.compact l ++ List.replicate (l.length - (Lib.compact l).length) (0 : Int)).length := by simp; omega
     rw [getElem!_pos _ _ (by simpa using hi3)]
     simp [List.getElem_append_left hi]
end Go.Dc
