/- Part Dc.Rng of a proof: lemmas. -/
import Derived.Test.YtejhbimlekcllaaDoorDcSub
import Derived.Test.YtejhbimlekcllaaDoorDcGlue
set_option linter.unusedSectionVars false
set_option linter.unusedVariables false
/-! A range over a map that is ours: the order is drawn; what follows must not hang on it. -/
namespace Go.Dc
variable {P : Program} {E : Env} {N : Nat} {Γ : List (Nat × RP)} {Ω : List OB} {ty : TypeId} {α β : Type} [DecidableEq α] {κ : Rep α} {ν : Rep β}

def bornAt (es : List MapEntry) (i : Nat) : Nat := (es[i]?.map (·.born)).getD 0
/-- a map over which a loop ranges; ix: the places of the entries that were handed out -/
def omi {α β : Type} (κ : Rep α) (ν : Rep β) (b it : Nat) (d : List (α × β)) (ix : List Nat) : OB where
  S := [b, it]
  h := fun F w => b ≠ it ∧ ∃ es clock seen last, w.heap[b]? = some (.map es clock) ∧ Ents κ ν F w es.toList d ∧ (∀ e ∈ es.toList, e.born < clock) ∧ (es.toList.map (·.born)).Nodup ∧
    w.heap[it]? = some (.mapIter (some b) clock seen last) ∧ clock ≤ last ∧ (ix ≠ [] → last = clock) ∧ seen.toList = ix.map (bornAt es.toList) ∧ ix.Nodup ∧ ∀ i ∈ ix, i < d.length
  mono := by
    rintro F F' w w' ag hs ⟨hne, es, clock, seen, last, h1, h2, h3, h4, h5, h6⟩
    exact ⟨hne, es, clock, seen, last, by rw [hs b (by simp)]; exact h1, h2.mono ag, h3, h4, by rw [hs it (by simp)]; exact h5, h6⟩

/-- what a step hands out -/
def nxT (κ : Rep α) (ν : Rep β) : Option (Nat × α × β) → RP
  | none => tup [bv false]
  | some p => tup [bv true, sh κ p.2.1, sh ν p.2.2]
def ixn (ix : List Nat) : Option (Nat × α × β) → List Nat
  | none => ix
  | some p => ix ++ [p.1]
def NxOk (d : List (α × β)) (ix : List Nat) : Option (Nat × α × β) → Prop
  | none => ∀ i, i < d.length → i ∈ ix
  | some p => p.1 ∉ ix ∧ d[p.1]? = some p.2

theorem s_range {t kt et : TypeId} {x : Operand} {b j : Nat} {d : List (α × β)} (hu : P.underlying t = some (.map kt et)) (hx : lkO Γ x = some (pv (.map (some b)))) (hj : Ω[j]? = some (om κ ν b d)) :
    St P E N (.range t x) ty Γ Ω [j] (fun it : Nat => pv (ptr it 0)) (fun it => Ω.set j (omi κ ν b it d [])) := by
  intro a w hs
  have h1 : a.eval x = .map (some b) := hs.op hx
  obtain ⟨es, clock, hb, hE, hB, hN⟩ := hs.objAt hj
  have hlt := size_of_get hb
  refine opwp_val (v := ptr w.heap.size 0) (w' := w.alloc (.mapIter (some b) clock #[] clock)) (fun o ho ht => ?_) ⟨w.heap.size, ?_, rfl, by simp, fun b' hb' _ => heap_alloc_lt w _ hb', own_set hj fun b' hb' => ?_⟩
  · have := run_range_map (P := P) w t kt et b es clock hu hb
    simp [execOp, ho, h1, this]; rfl
  · refine hs.upd hj ⟨rfl, rfl, rfl, by first | exact Nat.le_refl _ | exact Nat.le_add_right _ _⟩ (by simp) (fun b' hb' _ => heap_alloc_lt w _ hb') (fun b' hb' => ?_) ?_ ?_
    · have hb2 : b' = b ∨ b' = w.heap.size := by simpa [omi] using hb'
      rcases hb2 with rfl | rfl
      · exact .inl (by simp [om])
      · exact .inr ⟨Nat.le_refl _, by simp⟩
    · have : b ≠ w.heap.size := by omega
      simp [omi, this]
    · have hag : Ag (fr E Ω) (fr E (Ω.set j (omi κ ν b w.heap.size d []))) w (w.alloc (.mapIter (some b) clock #[] clock)) :=
        ⟨fun b' hb' hf => fr_set hj hf fun hm => by
          have hb2 : b' = b ∨ b' = w.heap.size := by simpa [omi] using hm
          rcases hb2 with rfl | rfl
          · exact hf.2 (Sat.notin hj (b := b') (by simp [om]))
          · omega, fun b' hb' _ => heap_alloc_lt w _ hb'⟩
      exact ⟨by omega, es, clock, #[], clock, (heap_alloc_lt w _ hlt).trans hb, hE.mono hag, hB, hN, heap_alloc_new' w _, Nat.le_refl _, fun h => absurd rfl h, rfl, List.nodup_nil, by simp⟩
  · have hb2 : b' = b ∨ b' = w.heap.size := by simpa [omi] using hb'
    rcases hb2 with rfl | rfl
    · exact .inl (by simp [om])
    · exact .inr (Nat.le_refl _)

/-- 'next', wherever the iterator lies -/
theorem run_next_at (w : World) (ty : TypeId) (bm it since c0 : Nat) (seen : Array Nat) (es : Array MapEntry) (clock : Nat) (hb : w.heap[bm]? = some (.map es clock)) (hi : w.heap[it]? = some (.mapIter (some bm) since seen c0))
    (hold : ∀ x ∈ es.toList, x.born < since) (hsc : since ≤ c0) :
    ((leftOf es seen).size = 0 ∧ (Instr.next (.pointer (some ⟨it, 0, none⟩)) false ty).run P w = .ok (.tuple #[.bool false]) w) ∨
    ∃ e ∈ (leftOf es seen).toList, ∃ q, (Instr.next (.pointer (some ⟨it, 0, none⟩)) false ty).run P w = .ok (.tuple #[.bool true, e.key, e.val]) { w with drawn := w.drawn + q, heap := w.heap.setIfInBounds it (.mapIter (some bm) since (seen.push e.born) clock) } := by
  simp only [Instr.next, getObj, Sem.run_bind, Sem.run, hi, hb, Result.andThen, next_test_false seen es since c0 hold hsc, Bool.false_eq_true, if_false]
  unfold leftOf
  have hmem : ∀ x ∈ (Array.filter (fun e => !seen.contains e.born) es).toList, x.born < since := fun x hx => hold x (by simp at hx ⊢; exact hx.1)
  generalize Array.filter (fun e => !seen.contains e.born) es = L at hmem ⊢
  have e1 : L.filter (fun x => decide (x.born < since)) = L := Array.filter_eq_self.2 (fun x hx => by simpa using hmem x (by simpa using hx))
  have e2 : L.filter (fun x => decide (x.born ≥ since)) = #[] := by
    rw [Array.filter_eq_empty_iff]
    intro x hx
    have := hmem x (by simpa using hx)
    simp
    omega
  simp only [e1, e2, Array.append_empty]
  by_cases h0 : L.size = 0
  · left
    have : L = #[] := Array.eq_empty_of_size_eq_zero h0
    subst this
    refine ⟨rfl, ?_⟩
    simp [choose, Sem.run, Question.forced]
  · right
    have hne : L.isEmpty = false := by simp [Array.isEmpty, h0]
    simp only [hne, Bool.false_eq_true, if_false, Array.empty_append, Array.size_map]
    have hch : ∃ (j : Nat) (q : Nat), j < L.size ∧ (choose (Question.mapNext L.size)).run P w = .ok j { w with drawn := w.drawn + q } := by
      by_cases hf : L.size ≤ 1
      · exact ⟨0, 0, by omega, by simp [choose, Sem.run, Question.forced, hf]⟩
      · exact ⟨_, 1, Nat.mod_lt _ (by omega), by
          simp only [choose, Sem.run, Question.forced, decide_eq_true_eq, hf, if_false, Question.cut]
          rfl⟩
    obtain ⟨j, q, hj, hrun⟩ := hch
    refine ⟨L[j], by simp, q, ?_⟩
    have hset : ∀ (o' : Obj), (setObj it o').run P { w with drawn := w.drawn + q } = .ok () { w with drawn := w.drawn + q, heap := w.heap.setIfInBounds it o' } := fun o' => by
      have hl := (Array.getElem?_eq_some_iff.1 hi).1
      simp only [setObj, Sem.run, hi]
    simp only [hrun, Array.getElem?_map, Array.getElem?_eq_getElem hj, Option.map_some, Sem.run_bind, hset, Result.andThen]
    rfl

section
variable {it b j : Nat} {d : List (α × β)} {ix : List Nat} {x : Operand}
theorem s_next (hx : lkO Γ x = some (pv (ptr it 0))) (hj : Ω[j]? = some (omi κ ν b it d ix)) :
    St P E N (.next x false) ty Γ Ω [j] (fun o : { o : Option (Nat × α × β) // NxOk d ix o } => nxT κ ν o.1) (fun o => Ω.set j (omi κ ν b it d (ixn ix o.1))) := by
  intro a w hs
  have h1 : a.eval x = .pointer (some ⟨it, 0, none⟩) := hs.op hx
  obtain ⟨hne, es, clock, seen, last, q1, q2, q3, q4, q5, q6, q7, q8, q9, q10⟩ := hs.objAt hj
  have hsame : Ω.set j (omi κ ν b it d ix) = Ω := by
    apply List.ext_getElem?
    intro n
    by_cases e : j = n
    · subst e; rw [List.getElem?_set_self (List.getElem?_eq_some_iff.1 hj).1]; exact hj.symm
    · rw [List.getElem?_set_ne e]
  have hlen : es.toList.length = d.length := q2.1
  rcases run_next_at (P := P) w ty b it clock last seen es clock q1 q5 q3 q6 with ⟨hz, hrun⟩ | ⟨e, he, q, hrun⟩
  · refine opwp_val (v := .tuple #[.bool false]) (w' := w) (fun o ho ht => by simp [execOp, ho, ht, h1, hrun]) ⟨⟨none, ?_⟩, ?_, ⟨_, rfl, rfl, trivial⟩, Nat.le_refl _, fun _ _ _ => rfl, ?_⟩
    · intro i hi
      have hi' : i < es.toList.length := by rw [hlen]; exact hi
      by_cases hc : seen.contains (es.toList[i]).born = true
      · have hm : (es.toList[i]).born ∈ seen.toList := by rw [Array.mem_toList_iff]; exact Array.contains_iff_mem.1 hc
        rw [q8, List.mem_map] at hm
        obtain ⟨k, hk, e⟩ := hm
        have hk' : k < es.toList.length := by rw [hlen]; exact q10 k hk
        have e2 : bornAt es.toList k = (es.toList[k]).born := by unfold bornAt; rw [List.getElem?_eq_getElem hk']; rfl
        rw [e2] at e
        have := (List.pairwise_iff_getElem.1 q4)
        rcases Nat.lt_trichotomy k i with h | h | h
        · exact absurd (by rw [List.getElem_map, List.getElem_map]; exact e) (this k i (by simpa using hk') (by simpa using hi') h)
        · exact h ▸ hk
        · exact absurd (by rw [List.getElem_map, List.getElem_map]; exact e.symm) (this i k (by simpa using hi') (by simpa using hk') h)
      · have : es.toList[i] ∈ (leftOf es seen).toList := by
          unfold leftOf
          rw [Array.mem_toList_iff, Array.mem_filter]
          exact ⟨by simp, by simpa using hc⟩
        have hz' : (leftOf es seen).toList = [] := List.eq_nil_of_length_eq_zero (by simpa using hz)
        rw [hz'] at this; cases this
    · show Sat E N Γ (Ω.set j (omi κ ν b it d ix)) a w
      rw [hsame]; exact hs
    · show ∀ b', b' < w.heap.size → b' ∈ ow (Ω.set j (omi κ ν b it d ix)) → b' ∈ ow Ω
      rw [hsame]; exact fun _ _ h => h
  · obtain ⟨hm, hnc⟩ := mem_left he
    obtain ⟨i, hi, rfl⟩ := List.getElem_of_mem hm
    have hid : i < d.length := by rw [← hlen]; exact hi
    have hset := MapKept.heap_set (o' := .mapIter (some b) clock (seen.push (es.toList[i]).born) clock) q5
    have hbi : bornAt es.toList i = (es.toList[i]).born := by unfold bornAt; rw [List.getElem?_eq_getElem hi]; rfl
    have hnix : i ∉ ix := fun h => by
      have : (es.toList[i]).born ∈ seen.toList := by rw [q8, ← hbi]; exact List.mem_map.2 ⟨i, h, rfl⟩
      rw [Array.mem_toList_iff, ← Array.contains_iff_mem, hnc] at this
      cases this
    have hblt := size_of_get q1
    refine opwp_val (v := .tuple #[.bool true, (es.toList[i]).key, (es.toList[i]).val]) (w' := { w with drawn := w.drawn + q, heap := w.heap.setIfInBounds it (.mapIter (some b) clock (seen.push (es.toList[i]).born) clock) }) (fun o ho ht => by simp [execOp, ho, ht, h1, hrun])
      ⟨⟨some (i, d[i]), ⟨hnix, by rw [List.getElem?_eq_getElem hid]⟩⟩, ?_, ?_, by simp, fun b' hb' hn' => hset.2 b' fun e => hn' j (by simp) _ hj (by rw [e]; simp [omi]), own_set hj fun b hb => .inl hb⟩
    · refine hs.upd hj ⟨rfl, rfl, rfl, Nat.le_add_right _ _⟩ (by simp) (fun b' _ hn' => hset.2 b' fun e => hn' (by rw [e]; simp [omi])) (fun b' hb' => .inl hb') (by simp [omi, hne]) ?_
      have hag : Ag (fr E Ω) (fr E (Ω.set j (omi κ ν b it d (ixn ix (some (i, d[i])))))) w { w with drawn := w.drawn + q, heap := w.heap.setIfInBounds it (.mapIter (some b) clock (seen.push (es.toList[i]).born) clock) } :=
        ⟨fun b' _ hf => fr_set hj hf fun hm => hf.2 (Sat.notin hj (b := b') hm), fun b' _ hf => hset.2 b' fun e => hf.2 (Sat.notin hj (b := b') (by rw [e]; simp [omi]))⟩
      refine ⟨hne, es, clock, seen.push (es.toList[i]).born, clock, (hset.2 b hne).trans q1, q2.mono hag, q3, q4, hset.1, Nat.le_refl _, fun _ => rfl, ?_, ?_, fun k hk => ?_⟩
      · simp [ixn, q8, hbi]
      · exact List.nodup_append.2 ⟨q9, by simp, fun x hx y hy e => by simp at hy; rw [hy] at e; exact hnix (e ▸ hx)⟩
      · rcases List.mem_append.1 hk with hk | hk
        · exact q10 k hk
        · rw [List.mem_singleton.1 hk]; exact hid
    · obtain ⟨u1, u2⟩ := q2.2 i (es.toList[i]) d[i] (List.getElem?_eq_getElem hi) (List.getElem?_eq_getElem hid)
      have hag : Ag (fr E Ω) (fr E (Ω.set j (omi κ ν b it d (ixn ix (some (i, d[i])))))) w { w with drawn := w.drawn + q, heap := w.heap.setIfInBounds it (.mapIter (some b) clock (seen.push (es.toList[i]).born) clock) } :=
        ⟨fun b' _ hf => fr_set hj hf fun hm => hf.2 (Sat.notin hj (b := b') hm), fun b' _ hf => hset.2 b' fun e => hf.2 (Sat.notin hj (b := b') (by rw [e]; simp [omi]))⟩
      exact ⟨_, rfl, rfl, (sh κ _).mono hag u1, (sh ν _).mono hag u2, trivial⟩

theorem r_nxt0 {o : Option (Nat × α × β)} (hx : lkO Γ x = some (nxT κ ν o)) : Rd P E N (.extract x 0) ty Γ Ω [] (bv o.isSome) := by
  cases o with
  | none => exact r_extract hx rfl
  | some p => exact r_extract hx rfl

theorem r_entry {i : Nat} {u : α} {v : β} (hx : lkO Γ x = some (pv (ptr it 0))) (hj : Ω[j]? = some (omi κ ν b it d (ix ++ [i]))) (hd : d[i]? = some (u, v)) :
    Rd P E N (.entry x) ty Γ Ω [j] (tup [sh κ u, sh ν v]) := fun a w hs => by
  have h1 : a.eval x = .pointer (some ⟨it, 0, none⟩) := hs.op hx
  obtain ⟨hne, es, clock, seen, last, q1, q2, q3, q4, q5, q6, q7, q8, q9, q10⟩ := hs.objAt hj
  have hi : i < d.length := q10 i (by simp)
  have hlen : es.toList.length = d.length := q2.1
  have hi' : i < es.toList.length := by rw [hlen]; exact hi
  have hbi : bornAt es.toList i = (es.toList[i]).born := by unfold bornAt; rw [List.getElem?_eq_getElem hi']; rfl
  obtain ⟨u1, u2⟩ := q2.2 i (es.toList[i]) (u, v) (List.getElem?_eq_getElem hi') hd
  refine ⟨.tuple #[(es.toList[i]).key, (es.toList[i]).val], [b, it], ⟨_, rfl, u1, u2, trivial⟩, ?_, fun w' hw' o ho _ => ?_⟩
  · intro b' hb'
    have hb2 : b' = b ∨ b' = it := by simpa using hb'
    rcases hb2 with rfl | rfl
    · exact ⟨size_of_get q1, .inr ⟨j, by simp, _, hj, by simp [omi]⟩⟩
    · exact ⟨size_of_get q5, .inr ⟨j, by simp, _, hj, by simp [omi]⟩⟩
  · have p1 : w'.heap[b]? = some (.map es clock) := by rw [hw' b (by simp)]; exact q1
    have p2 : w'.heap[it]? = some (.mapIter (some b) clock seen last) := by rw [hw' it (by simp)]; exact q5
    have hl : last = clock := q7 (by simp)
    have hback : seen.back? = some (es.toList[i]).born := by
      rw [← Array.getLast?_toList, q8, List.map_append]
      simp [hbi]
    have hf : es.find? (·.born == (es.toList[i]).born) = some (es.toList[i]) := by rw [← Array.find?_toList]; exact find_born _ es.toList q4 (List.getElem_mem hi')
    have hrun : (Instr.entry (.pointer (some ⟨it, 0, none⟩))).run P w' = .ok (.tuple #[(es.toList[i]).key, (es.toList[i]).val]) w' := by
      simp only [Instr.entry, getObj, Sem.run_bind, Sem.run, p1, p2, Result.andThen, hback, hl, bne_self_eq_false, Bool.false_eq_true, if_false, hf]
      rfl
    simp [execOp, ho, h1, hrun]
end

/-! ### the loop -/
open Classical in
/-- what comes of a loop over the entries in any order: only where the order does not matter -/
noncomputable def rngM {γ σ R : Type} (d : List γ) (f : σ → γ → Option σ) (s0 : σ) (k : σ → Option R) : Option R :=
  if ∀ l : List γ, l.Perm d → (l.foldlM f s0).bind k = (d.foldlM f s0).bind k then (d.foldlM f s0).bind k else none
theorem rngM_some {γ σ R : Type} {d : List γ} {f : σ → γ → Option σ} {s0 : σ} {k : σ → Option R} {r : R} (h : rngM d f s0 k = some r) : ∀ l : List γ, l.Perm d → (l.foldlM f s0).bind k = some r := by
  unfold rngM at h
  by_cases c : ∀ l : List γ, l.Perm d → (l.foldlM f s0).bind k = (d.foldlM f s0).bind k
  · rw [if_pos c] at h
    exact fun l hl => (c l hl).trans h
  · rw [if_neg c] at h; cases h
theorem perm_rest {n : Nat} {l : List Nat} (hn : l.Nodup) (hl : ∀ i ∈ l, i < n) : ∃ m, (l ++ m).Perm (List.range n) := by
  refine ⟨(List.range n).filter fun i => decide (i ∉ l), ?_⟩
  refine (List.perm_ext_iff_of_nodup ?_ List.nodup_range).2 fun i => ?_
  · refine List.nodup_append.2 ⟨hn, List.Pairwise.filter _ List.nodup_range, fun x hx y hy e => ?_⟩
    have := (List.mem_filter.1 hy).2
    rw [← e] at this
    exact of_decide_eq_true this hx
  · rw [List.mem_append, List.mem_filter, List.mem_range]
    constructor
    · rintro (h | ⟨h, _⟩)
      · exact hl i h
      · exact h
    · intro h
      by_cases c : i ∈ l
      · exact .inl c
      · exact .inr ⟨h, decide_eq_true c⟩

section
variable {σ X Y R γ : Type} {id : Nat} {Γl : σ → X → List (Nat × RP)} {Ωl : σ → X → List Nat → List OB} {Γb : σ → Y → List (Nat × RP)} {Ωb : σ → Y → List Nat → List OB} {k : σ → Option R} {K : KT R}
/-- where a round ends -/
def rngK (E : Env) (N : Nat) (id : Nat) (d : List γ) (f : σ → γ → Option σ) (Γl : σ → X → List (Nat × RP)) (Ωl : σ → X → List Nat → List OB) (Γb : σ → Y → List (Nat × RP)) (Ωb : σ → Y → List Nat → List OB) (ix : List Nat) (s : σ) : KT Unit :=
  fun _ e a w => (e = .exit id ∧ (∀ i, i < d.length → i ∈ ix) ∧ ∃ y, Sat E N (Γb s y) (Ωb s y ix) a w) ∨
    (e = .normal ∧ ∃ i p s', i ∉ ix ∧ d[i]? = some p ∧ f s p = some s' ∧ ∃ x', Sat E N (Γl s' x') (Ωl s' x' (ix ++ [i])) a w)

theorem ref_rng {body : Code} {d : List γ} {f : σ → γ → Option σ} (s0 : σ) (x0 : X) (h0 : ∀ a w, Sat E N Γ Ω a w → Sat E N (Γl s0 x0) (Ωl s0 x0 []) a w)
    (round : ∀ ix s x, (∀ i, i ∉ ix → ∀ p, d[i]? = some p → ∃ s', f s p = some s') → Ref P E N (some ()) body (Γl s x) (Ωl s x ix) (rngK E N id d f Γl Ωl Γb Ωb ix s))
    (hB : ∀ q y ix, RefE E N .normal (k q) (Γb q y) (Ωb q y ix) K) : Ref P E N (rngM d f s0 k) (.block id (.loop body)) Γ Ω K := by
  refine ref_block ?_
  intro r hr a w hs
  have hall := rngM_some hr
  have hperm : ∀ l : List Nat, l.Perm (List.range d.length) → (l.filterMap fun i => d[i]?).Perm d := fun l hl => by
    have h1 := hl.filterMap fun i => d[i]?
    have h2 : (List.range d.length).filterMap (fun i => d[i]?) = d := by
      apply List.ext_getElem?
      intro n
      have : ∀ m (hm : m ≤ d.length), (List.range m).filterMap (fun i => d[i]?) = d.take m := fun m => by
        induction m with
        | zero => intro _; simp
        | succ m ih => intro hm; rw [List.range_succ, List.filterMap_append, ih (by omega), List.take_add_one]; simp [List.getElem?_eq_getElem (show m < d.length by omega)]
      rw [this d.length (Nat.le_refl _), List.take_length]
    rwa [h2] at h1
  refine wp_loop_ind (fun n a w => ∃ ix s x, ix.length + n = d.length ∧ ix.Nodup ∧ (∀ i ∈ ix, i < d.length) ∧ (ix.filterMap fun i => d[i]?).foldlM f s0 = some s ∧ Sat E N (Γl s x) (Ωl s x ix) a w) ?_ (n := d.length) ⟨[], s0, x0, by simp, List.nodup_nil, by simp, rfl, h0 a w hs⟩
  rintro n a w ⟨ix, s, x, hn, hnd, hlt, hf, hs⟩
  have H : ∀ i, i ∉ ix → ∀ p, d[i]? = some p → ∃ s', f s p = some s' := fun i hi p hp => by
    have hid : i < d.length := (List.getElem?_eq_some_iff.1 hp).1
    have hnd' : (ix ++ [i]).Nodup := List.nodup_append.2 ⟨hnd, by simp, fun x hx y hy e => by simp at hy; rw [hy] at e; exact hi (e ▸ hx)⟩
    have hlt' : ∀ j ∈ ix ++ [i], j < d.length := fun j hj => by
      rcases List.mem_append.1 hj with hj | hj
      · exact hlt j hj
      · rw [List.mem_singleton.1 hj]; exact hid
    obtain ⟨m, hm⟩ := perm_rest hnd' hlt'
    have := hall _ (hperm _ hm)
    rw [List.filterMap_append, List.filterMap_append, List.foldlM_append, List.foldlM_append, hf] at this
    cases hfp : f s p with
    | some s' => exact ⟨s', rfl⟩
    | none =>
      have e1 : ([i].filterMap fun i => d[i]?) = [p] := by simp [hp]
      rw [e1] at this
      simp [hfp] at this
  refine wp_mono (round ix s x H () rfl a w hs) ?_
  intro e a' w' he
  rcases he with ⟨rfl, hin, y, hy⟩ | ⟨rfl, i, p, s', hi, hp, hs', x', hx'⟩
  · have hpm : ix.Perm (List.range d.length) := (List.perm_ext_iff_of_nodup hnd List.nodup_range).2 fun i => by
      rw [List.mem_range]; exact ⟨hlt i, hin i⟩
    have := hall _ (hperm _ hpm)
    rw [hf] at this
    show (if id = id then _ else _)
    rw [if_pos rfl]
    exact hB s y ix r this a' w' hy
  · have hid : i < d.length := (List.getElem?_eq_some_iff.1 hp).1
    have hnd' : (ix ++ [i]).Nodup := List.nodup_append.2 ⟨hnd, by simp, fun x hx y hy e => by simp at hy; rw [hy] at e; exact hi (e ▸ hx)⟩
    have hlt' : ∀ j ∈ ix ++ [i], j < d.length := fun j hj => by
      rcases List.mem_append.1 hj with hj | hj
      · exact hlt j hj
      · rw [List.mem_singleton.1 hj]; exact hid
    have hle : (ix ++ [i]).length ≤ d.length := by
      obtain ⟨m, hm⟩ := perm_rest hnd' hlt'
      have := hm.length_eq
      simp at this ⊢; omega
    refine ⟨n - 1, ?_, ix ++ [i], s', x', ?_, hnd', hlt', ?_, hx'⟩
    · simp at hle; omega
    · simp at hle ⊢; omega
    · rw [List.filterMap_append, List.foldlM_append, hf]
      simp [hp, hs']

/-- the end of a round's own code -/
def rngG (E : Env) (N : Nat) (Γl : σ → X → List (Nat × RP)) (Ωl : σ → X → List Nat → List OB) (ix : List Nat) : KT σ := fun s' e a w => e = .normal ∧ ∃ x', Sat E N (Γl s' x') (Ωl s' x' ix) a w
/-- the entry that came is looked at; the model of the round begins -/
theorem rng_pick {d : List γ} {f : σ → γ → Option σ} {c : Code} {ix : List Nat} {s : σ} {i : Nat} {p : γ} {A : List (Nat × RP)} {B : List OB} (H : ∀ i, i ∉ ix → ∀ p, d[i]? = some p → ∃ s', f s p = some s') (hi : i ∉ ix) (hp : d[i]? = some p)
    (h : Ref P E N (f s p) c A B (rngG E N Γl Ωl (ix ++ [i]))) : Ref P E N (some ()) c A B (rngK E N id d f Γl Ωl Γb Ωb ix s) := by
  intro r hr a w hs
  obtain ⟨s', hs'⟩ := H i hi p hp
  refine wp_mono (h s' hs' a w hs) ?_
  rintro e a' w' ⟨rfl, x', hx'⟩
  exact .inr ⟨rfl, i, p, s', hi, hp, hs', x', hx'⟩
theorem rng_over {d : List γ} {f : σ → γ → Option σ} {ix : List Nat} {s : σ} (hin : ∀ i, i < d.length → i ∈ ix) (y : Y) {A : List (Nat × RP)} {B : List OB} (h : ∀ a w, Sat E N A B a w → Sat E N (Γb s y) (Ωb s y ix) a w) :
    RefE E N (.exit id) (some ()) A B (rngK E N id d f Γl Ωl Γb Ωb ix s) := by
  intro r hr a w hs
  exact .inl ⟨rfl, hin, y, h a w hs⟩
theorem rng_go {s' : σ} {ix : List Nat} (x' : X) {A : List (Nat × RP)} {B : List OB} (h : ∀ a w, Sat E N A B a w → Sat E N (Γl s' x') (Ωl s' x' ix) a w) :
    RefE E N .normal (some s') A B (rngG E N Γl Ωl ix) := by
  intro r hr a w hs; cases hr; exact ⟨rfl, x', h a w hs⟩
end
end Go.Dc
