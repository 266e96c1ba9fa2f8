/- Part Dc.Map of a proof: lemmas. -/
import Derived.Test.YtejhbimlekcllaaDoorDcEqS
import Derived.Test.YtejhbimlekcllaaDoorDcConv
import Derived.Test.YtejhbimlekcllaaDoorDcBa
import Derived.MapKept
set_option linter.unusedSectionVars false
/-! Maps that are owned. -/
namespace Go.Dc
variable {P : Program} {E : Env} {N : Nat} {Γ : List (Nat × RP)} {Ω : List OB} {ty : TypeId} {α β : Type} [DecidableEq α] {κ : Rep α} {ν : Rep β} {kt : TypeId}

/-- the entries stand for the pairs -/
def Ents {α β : Type} (κ : Rep α) (ν : Rep β) (F : FP) (w : World) (l : List MapEntry) (d : List (α × β)) : Prop :=
  l.length = d.length ∧ ∀ (i : Nat) (e : MapEntry) (p : α × β), l[i]? = some e → d[i]? = some p → (sh κ p.1).h F w e.key ∧ (sh ν p.2).h F w e.val
theorem Ents.mono {α β : Type} {κ : Rep α} {ν : Rep β} {F F' : FP} {w w' : World} (a : Ag F F' w w') {l : List MapEntry} {d : List (α × β)} (h : Ents κ ν F w l d) : Ents κ ν F' w' l d :=
  ⟨h.1, fun i e p h1 h2 => let ⟨q1, q2⟩ := h.2 i e p h1 h2; ⟨(sh κ p.1).mono a q1, (sh ν p.2).mono a q2⟩⟩

/-- a map that is owned -/
def om {α β : Type} (κ : Rep α) (ν : Rep β) (b : Nat) (d : List (α × β)) : OB where
  S := [b]
  h := fun F w => ∃ es clock, w.heap[b]? = some (.map es clock) ∧ Ents κ ν F w es.toList d ∧ (∀ e ∈ es.toList, e.born < clock) ∧ (es.toList.map (·.born)).Nodup
  mono := by
    rintro F F' w w' ag hs ⟨es, clock, h1, h2, h3⟩
    exact ⟨es, clock, by rw [hs b (by simp)]; exact h1, h2.mono ag, h3⟩

def mapIx (d : List (α × β)) (x : α) : Option Nat := d.findIdx? fun p => decide (p.1 = x)
def mapPut (d : List (α × β)) (x : α) (y : β) : List (α × β) := match mapIx d x with | some i => d.set i (x, y) | none => d ++ [(x, y)]
def mapHas (d : List (α × β)) (x : α) : Bool := (mapIx d x).isSome
def mapGet (d : List (α × β)) (x : α) (z : β) : β := match mapIx d x with | some i => (d[i]?.map (·.2)).getD z | none => z

/-- keys that can be looked for -/
structure KeyT {α : Type} [DecidableEq α] (P : Program) (kt : TypeId) (κ : Rep α) : Prop where
  check : ∀ (x : α) (F : FP) (w : World) (v : Value), (sh κ x).h F w v → ∀ (e : Bool) (w' : World), (Instr.checkKey e 10000 kt v).run P w' = .ok () w'
  eq : ∀ (x y : α) (F : FP) (w : World) (u v : Value), (sh κ x).h F w u → (sh κ y).h F w v → ∀ (w' : World), (Op.equal kt u v).run P w' = .ok (decide (x = y)) w'
  stay : ∀ (x : α) (F : FP) (w : World) (u v : Value), (sh κ x).h F w u → (sh κ x).h F w v → Instr.sameBits 10000 u v = true
  now : ∀ (k : TypeDesc), P.underlying kt = some k → ∀ (u v : Value) (r : Bool), Instr.sameNow k u v = some r → ∀ w', (Op.equal kt u v).run P w' = .ok r w'
  und : ∃ k, P.underlying kt = some k

theorem run_findAsking (hK : KeyT P kt κ) {F : FP} {w : World} {x : α} {v : Value} (hx : (sh κ x).h F w v) : ∀ {l : List MapEntry} {d : List (α × β)}, Ents κ ν F w l d → ∀ (n : Nat) (w' : World),
    ∃ r, (Instr.findAsking kt v l n).run P w' = .ok r w' ∧ r.map (·.1) = (mapIx d x).map (n + ·) ∧ ∀ i u, r = some (i, u) → ∃ e, n ≤ i ∧ l[i - n]? = some e ∧ e.val = u
  | [], [], _, n, w' => ⟨none, rfl, rfl, by simp⟩
  | e :: l, p :: d, h, n, w' => by
    obtain ⟨h1, h2⟩ := h.2 0 e p rfl rfl
    have ht : Ents κ ν F w l d := ⟨by have := h.1; simp at this; exact this, fun i e' p' a b => h.2 (i + 1) e' p' (by simpa using a) (by simpa using b)⟩
    have he := hK.eq x p.1 F w v e.key hx h1 w'
    by_cases c : x = p.1
    · refine ⟨some (n, e.val), ?_, ?_, fun i u hr => ?_⟩
      · simp [Instr.findAsking, he, c]
      · simp [mapIx, List.findIdx?_cons, c]
      · simp only [Option.some.injEq, Prod.mk.injEq] at hr
        obtain ⟨rfl, rfl⟩ := hr
        exact ⟨e, Nat.le_refl _, by simp, rfl⟩
    · obtain ⟨r, r1, r2, r3⟩ := run_findAsking hK hx ht (n + 1) w'
      refine ⟨r, ?_, ?_, fun i u hr => ?_⟩
      · simp [Instr.findAsking, he, c, r1]
      · rw [r2]
        have c' : ¬ p.1 = x := fun e => c e.symm
        simp only [mapIx, List.findIdx?_cons, c', decide_false, Bool.false_eq_true, if_false, Option.map_map]
        congr 1
        funext z
        simp only [Function.comp]; omega
      · obtain ⟨e', q1, q2, q3⟩ := r3 i u hr
        refine ⟨e', by omega, ?_, q3⟩
        rw [show i - n = (i - (n + 1)) + 1 by omega, List.getElem?_cons_succ]; exact q2
  | [], _ :: _, h, _, _ => by have := h.1; simp at this
  | _ :: _, [], h, _, _ => by have := h.1; simp at this

theorem findNow_eq (hK : KeyT P kt κ) {k : TypeDesc} (hk : P.underlying kt = some k) {v : Value} : ∀ {l : List MapEntry} {n : Nat} {r : Option (Nat × Value)}, Instr.findNow k v l n = some r → ∀ w', (Instr.findAsking kt v l n).run P w' = .ok r w'
  | [], n, r, h, w' => by simp only [Instr.findNow, Option.some.injEq] at h; subst h; rfl
  | e :: l, n, r, h, w' => by
    simp only [Instr.findNow] at h
    split at h
    · rename_i hs
      have := hK.now k hk v e.key true hs w'
      simp only [Option.some.injEq] at h; subst h
      simp [Instr.findAsking, this]
    · rename_i hs
      have := hK.now k hk v e.key false hs w'
      have ih := findNow_eq hK hk h w'
      simp [Instr.findAsking, this, ih]
    · cases h
theorem run_find (hK : KeyT P kt κ) {F : FP} {w : World} {x : α} {v : Value} (hx : (sh κ x).h F w v) {l : List MapEntry} {d : List (α × β)} (h : Ents κ ν F w l d) (w' : World) :
    ∃ r, (Instr.findKey kt v l).run P w' = .ok r w' ∧ r.map (·.1) = mapIx d x ∧ ∀ i u, r = some (i, u) → ∃ e, l[i]? = some e ∧ e.val = u := by
  obtain ⟨r, r1, r2, r3⟩ := run_findAsking hK hx h 0 w'
  obtain ⟨k, hk⟩ := hK.und
  refine ⟨r, ?_, by simpa using r2, fun i u hr => by obtain ⟨e, _, q2, q3⟩ := r3 i u hr; exact ⟨e, by simpa using q2, q3⟩⟩
  unfold Instr.findKey
  simp only [Sem.run_bind, run_underlying hk, Result.andThen]
  cases hf : Instr.findNow k v l 0 with
  | none => exact r1
  | some r' =>
    have := findNow_eq hK hk hf w'
    rw [r1] at this
    simp only [Result.ok.injEq, and_true] at this
    subst this; rfl

/-! ### operations -/
theorem s_mkmap (κ : Rep α) (ν : Rep β) {t : TypeId} : St P E N (.makeMap t none) ty Γ Ω [] (fun b : Nat => pv (.map (some b))) (fun b => Ω ++ [om κ ν b []]) := by
  intro a w hs
  refine opwp_val (v := .map (some w.heap.size)) (w' := w.alloc (.map #[] 0)) (fun o ho ht => ?_) ⟨w.heap.size, ?_, rfl, by simp, fun b hb _ => heap_alloc_lt w _ hb, own_add (by simp [om])⟩
  · have : (Instr.makeMap t none).run P w = .ok (.map (some w.heap.size)) (w.alloc (.map #[] 0)) := rfl
    simp [execOp, ho, this]
  · refine hs.add ⟨rfl, rfl, rfl, by first | exact Nat.le_refl _ | exact Nat.le_add_right _ _⟩ (by simp) (fun _ hb => heap_alloc_lt w _ hb) (fun b hb => ?_) (by simp [om]) ?_
    · rw [show b = w.heap.size from by simpa [om] using hb]; exact ⟨Nat.le_refl _, by simp⟩
    · exact ⟨#[], 0, heap_alloc_new' w _, ⟨rfl, by simp⟩, by simp, by simp⟩

theorem r_mlen {t kt et : TypeId} {x : Operand} {b j : Nat} {d : List (α × β)} (hu : P.underlying t = some (.map kt et)) (hx : lkO Γ x = some (pv (.map (some b)))) (hj : Ω[j]? = some (om κ ν b d)) :
    Rd P E N (.call ⟨.builtin .len, #[x], #[t]⟩) ty Γ Ω [j] (iv .i64 (d.length : Int)) := fun a w hs => by
  have h1 : a.eval x = .map (some b) := hs.op hx
  obtain ⟨es, clock, hb, hE, _⟩ := hs.objAt hj
  refine ⟨.int .i64 d.length, [b], rfl, ?_, fun w' hw' o ho _ => ?_⟩
  · intro b' hb'; rw [List.mem_singleton.1 hb']; exact ⟨size_of_get hb, .inr ⟨j, by simp, _, hj, by simp [om]⟩⟩
  · have hb2 : w'.heap[b]? = some (.map es clock) := by rw [hw' b (by simp)]; exact hb
    have := MapKept.run_getObj_map (P := P) hb2
    have hl : es.size = d.length := by rw [← hE.1]; simp
    simp [execOp, ho, resolve, invoke, builtin, Builtin.len_, h1, run_underlying hu, this, goInt, hl]

theorem s_mput {t kt et : TypeId} {m k v : Operand} {b j : Nat} {d : List (α × β)} {x : α} {y : β} (hu : P.underlying t = some (.map kt et)) (hK : KeyT P kt κ) (hm : lkO Γ m = some (pv (.map (some b))))
    (hj : Ω[j]? = some (om κ ν b d)) (hk : lkO Γ k = some (sh κ x)) (hv : lkO Γ v = some (sh ν y)) : St P E N (.mapUpdate t m k v) ty Γ Ω [j] (fun _ : Unit => pv undef) (fun _ => Ω.set j (om κ ν b (mapPut d x y))) := by
  intro a w hs
  have h1 : a.eval m = .map (some b) := hs.op hm
  have h2 := hs.op hk
  have h3 := hs.op hv
  obtain ⟨es, clock, hb, hE, hB, hN⟩ := hs.objAt hj
  obtain ⟨r, r1, r2, r3⟩ := run_find hK h2 hE w
  have hck := hK.check x _ _ _ h2 false w
  have fin : ∀ es' clock', Ents κ ν (fr E Ω) w es'.toList (mapPut d x y) → (∀ e ∈ es'.toList, e.born < clock') → (es'.toList.map (·.born)).Nodup →
      ∃ x' : Unit, Sat E N Γ (Ω.set j (om κ ν b (mapPut d x y))) a { w with heap := w.heap.setIfInBounds b (.map es' clock') } ∧ (pv undef).h (fr E (Ω.set j (om κ ν b (mapPut d x y)))) { w with heap := w.heap.setIfInBounds b (.map es' clock') } undef ∧ Eff Ω (Ω.set j (om κ ν b (mapPut d x y))) [j] w { w with heap := w.heap.setIfInBounds b (.map es' clock') } := by
    intro es' clock' q1 q2 q3
    have hset := MapKept.heap_set (o' := .map es' clock') hb
    have hlt := size_of_get hb
    refine ⟨(), ?_, rfl, by simp, fun b' hb' hn' => hset.2 b' fun e => hn' j (by simp) _ hj (by rw [e]; simp [om]), own_set hj fun b hb => .inl hb⟩
    refine hs.upd hj ⟨rfl, rfl, rfl, by first | exact Nat.le_refl _ | exact Nat.le_add_right _ _⟩ (by simp) (fun b' _ hn' => hset.2 b' fun e => hn' (by rw [e]; simp [om])) (fun b' hb' => .inl hb') (by simp [om]) ?_
    have hag : Ag (fr E Ω) (fr E (Ω.set j (om κ ν b (mapPut d x y)))) w { w with heap := w.heap.setIfInBounds b (.map es' clock') } :=
      ⟨fun b' _ hf => fr_set hj hf fun hm => hf.2 (Sat.notin hj (b := b') hm), fun b' _ hf => hset.2 b' fun e => hf.2 (Sat.notin hj (b := b') (by rw [e]; simp [om]))⟩
    exact ⟨es', clock', hset.1, q1.mono hag, q2, q3⟩
  intro o hop ht
  cases hr : r with
  | none =>
    rw [hr] at r1 r2
    have hix : mapIx d x = none := by simpa using r2.symm
    have hrun : (execOp a.eval o).run P w = .ok .skip { w with heap := w.heap.setIfInBounds b (.map (es.push ⟨a.eval k, a.eval v, clock⟩) (clock + 1)) } := by
      simp [execOp, hop, h1, Instr.mapUpdate, run_underlying hu, MapKept.run_getObj_map hb, hck, r1, MapKept.run_setObj_map _ hb]
    rw [hrun]
    refine fin _ _ ?_ ?_ ?_
    · unfold mapPut; rw [hix]
      refine ⟨by simp [hE.1], fun i e p e1 e2 => ?_⟩
      rw [Array.toList_push] at e1
      have hl := hE.1
      rcases Nat.lt_or_ge i d.length with hlt | hge
      · rw [List.getElem?_append_left (by omega)] at e1
        rw [List.getElem?_append_left (by omega)] at e2
        exact hE.2 i e p e1 e2
      · rw [List.getElem?_append_right (by omega)] at e1
        rw [List.getElem?_append_right (by omega)] at e2
        rw [show i - es.toList.length = i - d.length by rw [hl]] at e1
        rcases Nat.eq_zero_or_pos (i - d.length) with h0 | h0
        · rw [h0] at e1 e2
          simp only [List.getElem?_cons_zero, Option.some.injEq] at e1 e2
          subst e1; subst e2
          exact ⟨h2, h3⟩
        · rw [List.getElem?_eq_none (by simp; omega)] at e2; cases e2
    · intro e he
      simp only [Array.toList_push, List.mem_append, List.mem_singleton] at he
      rcases he with he | rfl
      · have := hB e he; omega
      · exact Nat.lt_succ_self _
    · rw [Array.toList_push, List.map_append]
      refine List.nodup_append.2 ⟨hN, by simp, fun p hp q hq e => ?_⟩
      simp only [List.map_cons, List.map_nil, List.mem_singleton] at hq
      obtain ⟨e', he', rfl⟩ := List.mem_map.1 hp
      have := hB e' he'; omega
  | some iu =>
    obtain ⟨i, u⟩ := iu
    obtain ⟨e, he, rfl⟩ := r3 i u hr
    rw [hr] at r1 r2
    have hix : mapIx d x = some i := by simpa using r2.symm
    have hid : ∃ p, d[i]? = some p ∧ p.1 = x := by
      unfold mapIx at hix
      rw [List.findIdx?_eq_some_iff_getElem] at hix
      obtain ⟨hlt, hp, _⟩ := hix
      exact ⟨d[i], List.getElem?_eq_getElem hlt, of_decide_eq_true hp⟩
    obtain ⟨p, hp, rfl⟩ := hid
    have he2 : es[i]? = some e := by simpa using he
    have hst := hK.stay p.1 _ _ _ _ (hE.2 i e p he hp).1 h2
    have hrun : (execOp a.eval o).run P w = .ok .skip { w with heap := w.heap.setIfInBounds b (.map (es.modify i fun e => { e with key := a.eval k, val := a.eval v }) clock) } := by
      simp [execOp, hop, h1, Instr.mapUpdate, run_underlying hu, MapKept.run_getObj_map hb, hck, r1, MapKept.run_setObj_map _ hb, Instr.keyThatStays, he2, hst]
    rw [hrun]
    have hlt : i < es.toList.length := (List.getElem?_eq_some_iff.1 he).1
    have hml : (es.modify i fun e => { e with key := a.eval k, val := a.eval v }).toList = es.toList.set i { e with key := a.eval k, val := a.eval v } := by
      apply List.ext_getElem?
      intro n
      rw [Array.getElem?_toList, Array.getElem?_modify]
      by_cases c : i = n
      · subst c; rw [if_pos rfl, he2, List.getElem?_set_self hlt]; rfl
      · rw [if_neg c, List.getElem?_set_ne c, Array.getElem?_toList]
    refine fin _ _ ?_ ?_ ?_
    · unfold mapPut; rw [hix, hml]
      refine ⟨by simp [hE.1], fun n e' p' e1 e2 => ?_⟩
      by_cases c : i = n
      · subst c
        rw [List.getElem?_set_self hlt] at e1
        rw [List.getElem?_set_self (by rw [← hE.1]; exact hlt)] at e2
        simp only [Option.some.injEq] at e1 e2
        subst e1; subst e2
        exact ⟨h2, h3⟩
      · rw [List.getElem?_set_ne c] at e1
        rw [List.getElem?_set_ne c] at e2
        exact hE.2 n e' p' e1 e2
    · rw [hml]
      intro e' he'
      rcases List.mem_or_eq_of_mem_set he' with he' | rfl
      · exact hB e' he'
      · exact hB e (List.mem_of_getElem? he)
    · rw [hml, List.map_set]
      have : (es.toList.map (·.born)).set i e.born = es.toList.map (·.born) := by
        apply List.ext_getElem?
        intro n
        by_cases c : i = n
        · subst c; rw [List.getElem?_set_self (by simpa using hlt), List.getElem?_map, he]; rfl
        · rw [List.getElem?_set_ne c]
      rw [this]; exact hN

/-- v, ok := m[k] -/
theorem r_mget {t kt et : TypeId} {m k : Operand} {b j : Nat} {d : List (α × β)} {x : α} {z : β} (hu : P.underlying t = some (.map kt et)) (hK : KeyT P kt κ) (hz : ∃ zv, (∀ w, (zeroValue et).run P w = .ok zv w) ∧ ∀ F w, (sh ν z).h F w zv)
    (hm : lkO Γ m = some (pv (.map (some b)))) (hj : Ω[j]? = some (om κ ν b d)) (hk : lkO Γ k = some (sh κ x)) : Rd P E N (.lookup t m k true) ty Γ Ω [j] (tup [sh ν (mapGet d x z), bv (mapHas d x)]) := fun a w hs => by
  have h1 : a.eval m = .map (some b) := hs.op hm
  have h2 := hs.op hk
  obtain ⟨es, clock, hb, hE, _⟩ := hs.objAt hj
  obtain ⟨zv, z1, z2⟩ := hz
  obtain ⟨r, r1, r2, r3⟩ := run_find hK h2 hE w
  cases hr : r with
  | none =>
    rw [hr] at r2
    have hix : mapIx d x = none := by simpa using r2.symm
    refine ⟨.tuple #[zv, .bool false], [b], ⟨#[zv, .bool false], rfl, ?_, ?_, trivial⟩, ?_, fun w' hw' o ho _ => ?_⟩
    · unfold mapGet; rw [hix]; exact z2 _ _
    · unfold mapHas; rw [hix]; rfl
    · intro b' hb'; rw [List.mem_singleton.1 hb']; exact ⟨size_of_get hb, .inr ⟨j, by simp, _, hj, by simp [om]⟩⟩
    · have hb2 : w'.heap[b]? = some (.map es clock) := by rw [hw' b (by simp)]; exact hb
      obtain ⟨r', r1', r2', _⟩ := run_find hK h2 hE w'
      have : r' = none := by rw [hix] at r2'; simpa using r2'
      subst this
      simp [execOp, ho, h1, Instr.lookup, run_underlying hu, MapKept.run_getObj_map hb2, hK.check x _ _ _ h2, r1', z1]
  | some iu =>
    obtain ⟨i, u⟩ := iu
    obtain ⟨e, he, rfl⟩ := r3 i u hr
    rw [hr] at r2
    have hix : mapIx d x = some i := by simpa using r2.symm
    have hlt : i < d.length := by rw [← hE.1]; exact (List.getElem?_eq_some_iff.1 he).1
    refine ⟨.tuple #[e.val, .bool true], [b], ⟨#[e.val, .bool true], rfl, ?_, ?_, trivial⟩, ?_, fun w' hw' o ho _ => ?_⟩
    · have eg : mapGet d x z = d[i].2 := by unfold mapGet; rw [hix]; simp [hlt]
      rw [eg]
      exact (hE.2 i e d[i] he (List.getElem?_eq_getElem hlt)).2
    · unfold mapHas; rw [hix]; rfl
    · intro b' hb'; rw [List.mem_singleton.1 hb']; exact ⟨size_of_get hb, .inr ⟨j, by simp, _, hj, by simp [om]⟩⟩
    · have hb2 : w'.heap[b]? = some (.map es clock) := by rw [hw' b (by simp)]; exact hb
      obtain ⟨r', r1', r2', r3'⟩ := run_find hK h2 hE w'
      have : ∃ u', r' = some (i, u') := by
        rw [hix] at r2'
        cases r' with
        | none => simp at r2'
        | some q => simp at r2'; exact ⟨q.2, by rw [← r2']⟩
      obtain ⟨u', rfl⟩ := this
      obtain ⟨e', he', rfl⟩ := r3' i u' rfl
      rw [he] at he'; cases he'
      simp [execOp, ho, h1, Instr.lookup, run_underlying hu, MapKept.run_getObj_map hb2, hK.check x _ _ _ h2, r1']

/-! ### strings in their order -/
end Go.Dc
