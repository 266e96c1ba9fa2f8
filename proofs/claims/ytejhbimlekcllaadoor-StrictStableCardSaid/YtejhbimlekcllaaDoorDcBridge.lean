/- Part Dc.Bridge of a proof: lemmas. -/
import Derived.Test.YtejhbimlekcllaaDoorDcGlue
import Derived.OpenShut
import Derived.ChangeSame
import Derived.ChangeStays
import Derived.ChangeOld
import Derived.JoinedCond
import Derived.RowKit3
/-! From the contract of a law to the given statement. -/
namespace Go.Dc
open Go.ChangeShapes Go.WideShapes Go.RowKit

/-! ### what a law reads stays as it was -/
def fieldsB (P : Program) (L : List TypeId) (t : TypeId) (fs : List Field) : Bool :=
  fs.all (fun f => L.elem f.type) && Nat.beq (P.cellsOf t) (fs.map fun f => P.cellsOf f.type).sum &&
    (List.range fs.length).all fun j => match fs[j]? with | some f => Nat.beq f.offset ((fs.take j).map fun f => P.cellsOf f.type).sum | none => true

def kidB (P : Program) (L : List TypeId) (t : TypeId) : Bool :=
  match P.underlying t with
  | some (.pointer e) => L.elem e
  | some (.slice e) => L.elem e && Nat.blt 0 (P.cellsOf e)
  | some (.array n e) => L.elem e && Nat.beq (P.cellsOf t) (n * P.cellsOf e)
  | some (.struct fs) => fieldsB P L t fs.toList
  | some (.map _ e) => L.elem e
  | _ => true

variable {P : Program} {L : List TypeId}

theorem kids_of (h : L.all (kidB P L) = true) : Kids P (· ∈ L) ∧ ∀ {t e : TypeId}, t ∈ L → P.underlying t = some (.slice e) → 0 < P.cellsOf e := by
  have hk : ∀ t ∈ L, kidB P L t = true := fun t ht => List.all_eq_true.1 h t ht
  refine ⟨⟨fun ht hu => ?_, fun ht hu => ?_, fun ht hu => ?_, fun ht hu => ?_, fun ht hu => ?_⟩, fun ht hu => ?_⟩
  all_goals have h1 := hk _ ht; simp only [kidB, hu] at h1
  · simpa using h1
  · simp only [Bool.and_eq_true] at h1; simpa using h1.1
  · simp only [Bool.and_eq_true] at h1; exact ⟨by simpa using h1.1, Nat.eq_of_beq_eq_true h1.2⟩
  · simp only [fieldsB, Bool.and_eq_true] at h1
    obtain ⟨⟨h2, h3⟩, h4⟩ := h1
    refine ⟨fun f hf => by simpa using List.all_eq_true.1 h2 f hf, Nat.eq_of_beq_eq_true h3, fun j f hf => ?_⟩
    have h5 := List.all_eq_true.1 h4 j (List.mem_range.2 (List.getElem?_eq_some_iff.1 hf).1)
    rw [hf] at h5
    exact Nat.eq_of_beq_eq_true h5
  · simpa using h1
  · simp only [Bool.and_eq_true] at h1; exact Nat.blt_eq.mp h1.2

theorem Kept.same {M : List Nat} {w w' : World} (h : Kept M w w') {p : MemPlace} (hp : p.block < w.heap.size) (hm : p.block ∉ M) : w.sameAt w' p := by
  have := h.blk _ hp hm
  cases p with
  | cell b off => simp only [World.sameAt, World.cell?]; rw [show w'.heap[b]? = w.heap[b]? from this]
  | map b => exact this

section
variable {H : Type} {enc : TypeId × Value → H}
theorem trodAll_stays (h : L.all (kidB P L) = true) {W W' : World} (hk : Kept [] W W') {sp : Nat → Bool} : ∀ {ts : List TypeId} {vs : List Value} {ds : List (DataW H)} {ps : List MemPlace}, (∀ t ∈ ts, t ∈ L) →
    DataW.TrodAll enc P W 0 (fun _ => true) true ts vs ds ps → (∀ p ∈ ps, sp p.block = true) → DataW.TrodAll enc P W' 0 sp true ts vs ds ps
  | [], _, _, _, _, h1, _ => by
    obtain ⟨rfl, rfl, rfl⟩ := trodAll_nil h1
    exact trodAll_mk0
  | t :: ts, _, _, _, hL, h1, hs => by
    obtain ⟨v, vs, d, ds, p, q, rfl, rfl, rfl, ⟨fuel, h2⟩, h3⟩ := trodAll_cons h1
    refine trodAll_cons_mk ⟨fuel, ?_⟩ (trodAll_stays h hk (fun u hu => hL u (by simp [hu])) h3 fun p hp => hs p (by simp [hp]))
    obtain ⟨K, hsz⟩ := kids_of h
    exact DataW.trod_stays K hsz (fun hh => by cases hh) (hL t (by simp)) h2 (fun x hx => hk.same (DataW.trod_lt _ _ _ _ h2 x hx) (by simp)) fun x hx => hs x (by simp; exact .inl hx)

theorem Kept.but {W W' : World} (h : Kept [] W W') (may : MemPlace → Prop) : W.keptBut W' may := by
  refine ⟨h.os, h.output, fun i hi => ?_⟩
  rw [h.blk i hi (by simp)]
  split
  · rename_i h1 h2; rw [h1] at h2; cases h2; exact ⟨rfl, rfl, rfl, fun _ _ => rfl⟩
  · rename_i h1 h2; rw [h1] at h2; cases h2; exact .inr ⟨rfl, rfl⟩
  · rfl

theorem post_true {f : Func} {s : ChangeSpec} {apart fresh handsOn : Bool} {W W' : World} {args : Array Value} {ds gs : List (DataW H)} {before : List MemPlace} {tb : TypeId}
    (hW : DataW.Whole enc P f.params.toList s.vars apart W args.toList ds gs before) (hv : s.vars = []) (hr : f.resultTypes = #[tb]) (hb : P.underlying tb = some .bool)
    (hK : L.all (kidB P L) = true) (hL : f.params.toList.all (fun t => L.elem t) = true) (hs : s.fn H ds = { results := [.lit (.bool true)], args := ds }) (hk : Kept [] W W') :
    s.post enc P f apart fresh handsOn false W args (.bool true) W' := by
  have hlt : ∀ x ∈ before, (fun b => decide (b < W.heap.size)) x.block = true := fun x hx => by simpa using hW.lt x hx
  obtain ⟨p, q, hA, hV, rfl, hfz, hnd⟩ := hW
  rw [hv] at hV
  obtain ⟨rfl, rfl⟩ := trodVars_none hV
  refine ⟨ds, [], p ++ [], [], p, [], ⟨p, [], hA, by rw [hv]; exact hV, rfl, hfz, hnd⟩, ?_, ?_, ?_, hk.but _, fun h => by cases h⟩
  · rw [List.append_nil, hs, hr]
    exact trodAll_cons_mk (shut_bool hb _) trodAll_mk0
  · rw [List.append_nil, hs]
    exact trodAll_stays hK hk (fun t ht => by simpa using List.all_eq_true.1 hL t ht) hA fun x hx => hlt x (by simpa using hx)
  · rw [List.append_nil, hs, hv]; rfl
end

/-! ### arguments, opened -/
structure Opens (P : Program) (t : TypeId) {α : Type} (ρ : Rep α) (G : α → Prop) : Prop where
  rd : ∀ {H : Type} {enc : TypeId × Value → H} {W : World} {base fuel : Nat} {cs : List Value} {x : DataW H × List MemPlace}, DataW.trod enc P W base (fun _ => true) true fuel t cs = some x →
    ∃ d : α, AllP (fun _ => True) W (ρ.cp d) cs ∧ G d
  vl : ∀ {W : World} {b : Nat} {v : Value}, Value.okWide P W .any b t v → v = mkV ρ.agg v.cells.toList

theorem Opens.val {t : TypeId} {α : Type} {ρ : Rep α} {G : α → Prop} (h : Opens P t ρ G) {H : Type} {enc : TypeId × Value → H} {W : World} {b b2 : Nat} {v : Value} {d : DataW H} {ps : List MemPlace}
    (hok : Value.okWide P W .any b2 t v) (hd : DataW.Trod enc P W b (fun _ => true) true t v d ps) : ∃ x : α, (sh ρ x).h (fun _ => True) W v ∧ G x := by
  obtain ⟨fuel, hd⟩ := hd
  obtain ⟨x, h1, h2⟩ := h.rd hd
  exact ⟨x, sh_iff.2 ⟨_, h1, h.vl hok⟩, h2⟩

theorem opens_int {t : TypeId} {k : IntKind} (hu : P.underlying t = some (.int k)) : Opens P t (rI k) (fun n => (Lit.int k n).wf = true) :=
  ⟨fun h => by obtain ⟨n, rfl, _, hw⟩ := DataW.trod_int hu h; exact ⟨n, ⟨rfl, trivial⟩, hw⟩,
   fun h => by obtain ⟨n, rfl⟩ := okWide_int hu h; rfl⟩
theorem choose_list {α : Type} {p : Nat → α → Prop} : ∀ n, (∀ i, i < n → ∃ x, p i x) → ∃ l : List α, l.length = n ∧ ∀ i (hi : i < l.length), p i l[i]
  | 0, _ => ⟨[], rfl, fun i hi => by simp at hi⟩
  | n + 1, h => by
    obtain ⟨l, hl, hp⟩ := choose_list n fun i hi => h i (by omega)
    obtain ⟨x, hx⟩ := h n (by omega)
    refine ⟨l ++ [x], by simp [hl], fun i hi => ?_⟩
    by_cases e : i < l.length
    · rw [List.getElem_append_left e]; exact hp i e
    · have : i = n := by simp at hi; omega
      subst this
      rw [List.getElem_append_right (by omega)]
      simpa [hl] using hx

theorem cells_at {w : World} {base : Nat} {a : Addr} {n : Nat} {cs : List Value} (h : w.cells? base a n = some cs) : ∀ i, i < n → w.cell? (a.add i) = cs[i]? := by
  unfold World.cells? at h
  split at h
  · intro i hi; exact mapM_some_get h i i (by simp [hi])
  · cases h
theorem cells_len {w : World} {base : Nat} {a : Addr} {n : Nat} {cs : List Value} (h : w.cells? base a n = some cs) : cs.length = n := by
  unfold World.cells? at h
  split at h
  · simpa using mapM_some_length h
  · cases h

theorem opens_slice {t e : TypeId} {α : Type} {ρ : Rep α} {G : α → Prop} (hu : P.underlying t = some (.slice e)) (he : Opens P e ρ G) (hc : P.cellsOf e = ρ.size) (hpos : Nat.blt 0 ρ.size = true) :
    Opens P t (rSl ρ) (fun d => d.length ≤ maxLen ∧ ∀ x ∈ d, G x) := by
  have hpos' : 0 < ρ.size := Nat.blt_eq.mp hpos
  refine ⟨fun {H enc W base fuel cs x} h => ?_, fun h => by obtain ⟨a, l, c, rfl⟩ := okWide_slice hu h; rfl⟩
  rcases DataW.trod_slice hu h with ⟨rfl, _⟩ | ⟨a, len, cap, elems, rest, n, _, rfl, _, hb, hl, hm, hlen, hel, _, _⟩
  · exact ⟨[], ⟨⟨none, 0, rfl, Nat.le_refl _, fun h => absurd rfl h⟩, trivial⟩, by simp, fun x hx => by simp at hx⟩
  · have hch : ∀ i, i < len → ∃ x : α, G x ∧ ∃ es, AllP (fun _ => True) W (ρ.cp x) es ∧ W.cells? base (a.add (i * P.cellsOf e)) (P.cellsOf e) = some es := fun i hi => by
      have h1 := hel i hi
      rw [List.getElem?_eq_getElem (by omega)] at h1
      obtain ⟨es, h2, h3⟩ := Option.bind_eq_some_iff.1 h1
      obtain ⟨x, h4, h5⟩ := he.rd h3
      exact ⟨x, h5, es, h4, h2⟩
    obtain ⟨d, hd, hp⟩ := choose_list len hch
    refine ⟨d, ⟨⟨some a, cap, by rw [hd], by omega, fun hne => ?_⟩, trivial⟩, by omega, fun x hx => ?_⟩
    · have h0 : 0 < d.length := List.length_pos_iff.2 hne
      obtain ⟨_, es, _, h2⟩ := hp 0 h0
      have h3 := cells_at h2 0 (by omega)
      have hes : 0 < es.length := by rw [cells_len h2]; omega
      rw [List.getElem?_eq_getElem hes, show (a.add (0 * P.cellsOf e)).add 0 = a from by simp [Addr.add]] at h3
      unfold World.cell? at h3
      split at h3
      · rename_i c ty fz hbl
        split at h3
        · cases h3
        · rename_i hsp
          have hsp' : a.spot = none := by cases hh : a.spot; rfl; simp [hh] at hsp
          refine ⟨a.block, a.off, c, ty, fz, by cases a; simp at hsp'; subst hsp'; rfl, trivial, hbl, fun i hi => ?_⟩
          obtain ⟨_, es', h4, h5⟩ := hp i hi
          refine ⟨es', h4, fun j hj => ?_⟩
          have h6 := cells_at h5 j (by omega)
          rw [← h6]
          have ha : (a.add (i * P.cellsOf e)).add j = ⟨a.block, a.off + i * ρ.size + j, none⟩ := by
            rw [hc]
            cases a; simp at hsp'; subst hsp'
            unfold Addr.add
            by_cases e1 : i * ρ.size = 0 <;> by_cases e2 : j = 0 <;> simp [e1, e2]
          rw [ha]
          simp [World.cell?, hbl]
      · cases h3
    · obtain ⟨i, hi, rfl⟩ := List.mem_iff_getElem.1 hx
      exact (hp i hi).1

/-! ### the call -/
end Go.Dc
