/- Part Dc.Bridge4 of a proof: lemmas. -/
import Derived.Test.YtcpkdjlfgfikcaaGreatDoorDcGlue
import Derived.OpenShut
import Derived.ChangeSame
import Derived.ChangeStays
import Derived.ChangeOld
import Derived.JoinedCond
import Derived.RowKit3
import Derived.Test.YtcpkdjlfgfikcaaGreatDoorDcTab
import Derived.Lib.LaidTab
import Derived.LaidHandle
/-! From the contract of a law to the given statement. -/
namespace Go.Dc
open Go.ChangeShapes Go.WideShapes Go.RowKit

/-! ### what a law reads stays as it was -/
def fieldsB (P : Program) (L : List TypeId) (t : TypeId) (fs : List Field) : Bool :=
  fs.all (fun f => L.elem f.type) && Nat.beq (P.cellsOf t) (fs.map fun f => P.cellsOf f.type).sum &&
    (List.range fs.length).all fun j => match fs[j]? with | some f => Nat.beq f.offset ((fs.take j).map fun f => P.cellsOf f.type).sum | none => true

def kidB (P : Program) (L : List TypeId) (t : TypeId) : Bool :=
  match P.underlying t with
  | some (.pointer e) => L.elem e
  | some (.slice e) => L.elem e && Nat.blt 0 (P.cellsOf e)
  | some (.array n e) => L.elem e && Nat.beq (P.cellsOf t) (n * P.cellsOf e)
  | some (.struct fs) => fieldsB P L t fs.toList
  | some (.map _ e) => L.elem e
  | _ => true

variable {P : Program} {L : List TypeId}

theorem kids_of (h : L.all (kidB P L) = true) : Kids P (· ∈ L) ∧ ∀ {t e : TypeId}, t ∈ L → P.underlying t = some (.slice e) → 0 < P.cellsOf e := by
  have hk : ∀ t ∈ L, kidB P L t = true := fun t ht => List.all_eq_true.1 h t ht
  refine ⟨⟨fun ht hu => ?_, fun ht hu => ?_, fun ht hu => ?_, fun ht hu => ?_, fun ht hu => ?_⟩, fun ht hu => ?_⟩
  all_goals have h1 := hk _ ht; simp only [kidB, hu] at h1
  · simpa using h1
  · simp only [Bool.and_eq_true] at h1; simpa using h1.1
  · simp only [Bool.and_eq_true] at h1; exact ⟨by simpa using h1.1, Nat.eq_of_beq_eq_true h1.2⟩
  · simp only [fieldsB, Bool.and_eq_true] at h1
    obtain ⟨⟨h2, h3⟩, h4⟩ := h1
    refine ⟨fun f hf => by simpa using List.all_eq_true.1 h2 f hf, Nat.eq_of_beq_eq_true h3, fun j f hf => ?_⟩
    have h5 := List.all_eq_true.1 h4 j (List.mem_range.2 (List.getElem?_eq_some_iff.1 hf).1)
    rw [hf] at h5
    exact Nat.eq_of_beq_eq_true h5
  · simpa using h1
  · simp only [Bool.and_eq_true] at h1; exact Nat.blt_eq.mp h1.2

theorem Kept.same {M : List Nat} {w w' : World} (h : Kept M w w') {p : MemPlace} (hp : p.block < w.heap.size) (hm : p.block ∉ M) : w.sameAt w' p := by
  have := h.blk _ hp hm
  cases p with
  | cell b off => simp only [World.sameAt, World.cell?]; rw [show w'.heap[b]? = w.heap[b]? from this]
  | map b => exact this

section
variable {H : Type} {enc : TypeId × Value → H}
theorem trodAll_stays (h : L.all (kidB P L) = true) {W W' : World} (hk : Kept [] W W') {sp : Nat → Bool} : ∀ {ts : List TypeId} {vs : List Value} {ds : List (DataW H)} {ps : List MemPlace}, (∀ t ∈ ts, t ∈ L) →
    DataW.TrodAll enc P W 0 (fun _ => true) true ts vs ds ps → (∀ p ∈ ps, sp p.block = true) → DataW.TrodAll enc P W' 0 sp true ts vs ds ps
  | [], _, _, _, _, h1, _ => by
    obtain ⟨rfl, rfl, rfl⟩ := trodAll_nil h1
    exact trodAll_mk0
  | t :: ts, _, _, _, hL, h1, hs => by
    obtain ⟨v, vs, d, ds, p, q, rfl, rfl, rfl, ⟨fuel, h2⟩, h3⟩ := trodAll_cons h1
    refine trodAll_cons_mk ⟨fuel, ?_⟩ (trodAll_stays h hk (fun u hu => hL u (by simp [hu])) h3 fun p hp => hs p (by simp [hp]))
    obtain ⟨K, hsz⟩ := kids_of h
    exact DataW.trod_stays K hsz (fun hh => by cases hh) (hL t (by simp)) h2 (fun x hx => hk.same (DataW.trod_lt _ _ _ _ h2 x hx) (by simp)) fun x hx => hs x (by simp; exact .inl hx)

theorem Kept.but {W W' : World} (h : Kept [] W W') (may : MemPlace → Prop) : W.keptBut W' may := by
  refine ⟨h.os, h.output, fun i hi => ?_⟩
  rw [h.blk i hi (by simp)]
  split
  · rename_i h1 h2; rw [h1] at h2; cases h2; exact ⟨rfl, rfl, rfl, fun _ _ => rfl⟩
  · rename_i h1 h2; rw [h1] at h2; cases h2; exact .inr ⟨rfl, rfl⟩
  · rfl

theorem post_true {f : Func} {s : ChangeSpec} {apart fresh handsOn : Bool} {W W' : World} {args : Array Value} {ds gs : List (DataW H)} {before : List MemPlace} {tb : TypeId}
    (hW : DataW.Whole enc P f.params.toList s.vars apart W args.toList ds gs before) (hv : s.vars = []) (hr : f.resultTypes = #[tb]) (hb : P.underlying tb = some .bool)
    (hK : L.all (kidB P L) = true) (hL : f.params.toList.all (fun t => L.elem t) = true) (hs : s.fn H ds = { results := [.lit (.bool true)], args := ds }) (hk : Kept [] W W') :
    s.post enc P f apart fresh handsOn false W args (.bool true) W' := by
  have hlt : ∀ x ∈ before, (fun b => decide (b < W.heap.size)) x.block = true := fun x hx => by simpa using hW.lt x hx
  obtain ⟨p, q, hA, hV, rfl, hfz, hnd⟩ := hW
  rw [hv] at hV
  obtain ⟨rfl, rfl⟩ := trodVars_none hV
  refine ⟨ds, [], p ++ [], [], p, [], ⟨p, [], hA, by rw [hv]; exact hV, rfl, hfz, hnd⟩, ?_, ?_, ?_, hk.but _, fun h => by cases h⟩
  · rw [List.append_nil, hs, hr]
    exact trodAll_cons_mk (shut_bool hb _) trodAll_mk0
  · rw [List.append_nil, hs]
    exact trodAll_stays hK hk (fun t ht => by simpa using List.all_eq_true.1 hL t ht) hA fun x hx => hlt x (by simpa using hx)
  · rw [List.append_nil, hs, hv]; rfl
end

/-! ### arguments, opened -/
structure Opens (P : Program) (t : TypeId) {α : Type} (ρ : Rep α) (G : α → Prop) : Prop where
  rd : ∀ {H : Type} {enc : TypeId × Value → H} {W : World} {base fuel : Nat} {cs : List Value} {x : DataW H × List MemPlace}, DataW.trod enc P W base (fun _ => true) true fuel t cs = some x →
    ∃ d : α, AllP (fun _ => True) W (ρ.cp d) cs ∧ G d
  vl : ∀ {W : World} {b : Nat} {v : Value}, Value.okWide P W .any b t v → v = mkV ρ.agg v.cells.toList

theorem Opens.val {t : TypeId} {α : Type} {ρ : Rep α} {G : α → Prop} (h : Opens P t ρ G) {H : Type} {enc : TypeId × Value → H} {W : World} {b b2 : Nat} {v : Value} {d : DataW H} {ps : List MemPlace}
    (hok : Value.okWide P W .any b2 t v) (hd : DataW.Trod enc P W b (fun _ => true) true t v d ps) : ∃ x : α, (sh ρ x).h (fun _ => True) W v ∧ G x := by
  obtain ⟨fuel, hd⟩ := hd
  obtain ⟨x, h1, h2⟩ := h.rd hd
  exact ⟨x, sh_iff.2 ⟨_, h1, h.vl hok⟩, h2⟩

theorem opens_int {t : TypeId} {k : IntKind} (hu : P.underlying t = some (.int k)) : Opens P t (rI k) (fun n => (Lit.int k n).wf = true) :=
  ⟨fun h => by obtain ⟨n, rfl, _, hw⟩ := DataW.trod_int hu h; exact ⟨n, ⟨rfl, trivial⟩, hw⟩,
   fun h => by obtain ⟨n, rfl⟩ := okWide_int hu h; rfl⟩
theorem opens_string {t : TypeId} (hu : P.underlying t = some .string) : Opens P t rS (fun s => s.size ≤ maxLen) :=
  ⟨fun h => by obtain ⟨n, rfl, _, hw⟩ := DataW.trod_string hu h; exact ⟨n, ⟨rfl, trivial⟩, hw⟩,
   fun h => by obtain ⟨n, rfl⟩ := okWide_string hu h; rfl⟩

theorem choose_list {α : Type} {p : Nat → α → Prop} : ∀ n, (∀ i, i < n → ∃ x, p i x) → ∃ l : List α, l.length = n ∧ ∀ i (hi : i < l.length), p i l[i]
  | 0, _ => ⟨[], rfl, fun i hi => by simp at hi⟩
  | n + 1, h => by
    obtain ⟨l, hl, hp⟩ := choose_list n fun i hi => h i (by omega)
    obtain ⟨x, hx⟩ := h n (by omega)
    refine ⟨l ++ [x], by simp [hl], fun i hi => ?_⟩
    by_cases e : i < l.length
    · rw [List.getElem_append_left e]; exact hp i e
    · have : i = n := by simp at hi; omega
      subst this
      rw [List.getElem_append_right (by omega)]
      simpa [hl] using hx

theorem cells_at {w : World} {base : Nat} {a : Addr} {n : Nat} {cs : List Value} (h : w.cells? base a n = some cs) : ∀ i, i < n → w.cell? (a.add i) = cs[i]? := by
  unfold World.cells? at h
  split at h
  · intro i hi; exact mapM_some_get h i i (by simp [hi])
  · cases h
theorem cells_len {w : World} {base : Nat} {a : Addr} {n : Nat} {cs : List Value} (h : w.cells? base a n = some cs) : cs.length = n := by
  unfold World.cells? at h
  split at h
  · simpa using mapM_some_length h
  · cases h

/-! ### the call -/
end Go.Dc

/-! Structs among the arguments of a law. -/
namespace Go.Dc
open Go.ChangeShapes Go.WideShapes Go.RowKit
variable {P : Program}

theorem AllP.glue {F : FP} {w : World} {cs : List Value} {φs ψs : List RP} {off k : Nat} (h1 : AllP F w φs ((cs.drop off).take k)) (h2 : AllP F w ψs (cs.drop (off + k))) : AllP F w (φs ++ ψs) (cs.drop off) := by
  rw [← List.take_append_drop k (cs.drop off), List.drop_drop]
  exact h1.append h2

end Go.Dc

/-! Laws that lean on a table of the library's. -/
namespace Go.Dc
open Go.ChangeShapes Go.WideShapes Go.RowKit
variable {P : Program}

theorem tb_of_tab {W : World} {name : String} {k : IntKind} {d : List Int} {g : Nat} (h : Lib.TabIs P W name k d) (hg : P.globalNamed name = some g) (h0 : 0 < d.length) : (tbO (rI k) g d).h (fun _ => True) W := by
  have h1 := h.cell hg
  have h2 := h1 0 h0
  unfold World.cell? at h2
  split at h2
  · rename_i c ty fz hbl
    refine ⟨trivial, c, ty, fz, hbl, fun i hi => ⟨[.int k d[i]], ⟨rfl, trivial⟩, fun j hj => ?_⟩⟩
    have hj0 : j = 0 := by have : j < 1 := hj; omega
    subst hj0
    have h3 := h1 i hi
    have h4 : W.heap[g]? = some (.cells c ty fz) := hbl
    simp [World.cell?, h4] at h3
    simpa [rI, one, hi] using h3
  · cases h2

theorem calls_trueT {X : Type} {f : FuncId} {φs : List RP} {W : World} {args : Array Value} {Ω0 : List OB} {res : X → List RP} {Ω1 : X → List OB} (h : FnOk P f φs Ω0 res Ω1) (hr : ∀ x, res x = [bv true]) (hS : ow Ω0 = [])
    (hob : ∀ o ∈ Ω0, o.h (fun _ => True) W) (ha : AllP (fun _ => True) W φs args.toList) : Calls P f args W fun e W' => e = .returned (.bool true) ∧ Kept [] W W' := by
  have h1 := h (fun _ => True) W args.toList (fun _ _ => trivial) (fun _ _ => trivial) (fun b hb => by rw [hS] at hb; simp at hb) (by rw [hS]; simp)
    (fun o ho => o.mono (.refl fun b _ _ => ⟨trivial, by rw [hS]; simp⟩) (fun _ _ => rfl) (hob o ho)) (AllP.mono (.refl fun b _ _ => ⟨trivial, by rw [hS]; simp⟩) ha)
  refine h1.mono fun e W' ⟨x, v, he, hk, _, _, _, hv⟩ => ?_
  rw [hr] at hv
  rw [hS] at hk
  exact ⟨by rw [he]; exact congrArg _ hv, hk⟩
end Go.Dc

/-! Arguments of a law, opened, with what they weigh: how long a slice may be. -/
namespace Go.Dc
open Go.ChangeShapes Go.WideShapes Go.RowKit
variable {P : Program}

def lightB (l : List Nat) : Prop := ∀ n ∈ l, n ≤ reachBytes
structure OpensW (P : Program) (t : TypeId) {α : Type} (ρ : Rep α) (G : α → Prop) : Prop where
  rd : ∀ {H : Type} {enc : TypeId × Value → H} {W : World} {base fuel : Nat} {cs : List Value} {x : DataW H × List MemPlace}, DataW.trod enc P W base (fun _ => true) true fuel t cs = some x →
    lightB (x.1.weights P t) → ∃ d : α, AllP (fun _ => True) W (ρ.cp d) cs ∧ G d
  vl : ∀ {W : World} {b : Nat} {v : Value}, Value.okWide P W .any b t v → v = mkV ρ.agg v.cells.toList
theorem OpensW.val {t : TypeId} {α : Type} {ρ : Rep α} {G : α → Prop} (h : OpensW P t ρ G) {H : Type} {enc : TypeId × Value → H} {W : World} {b b2 : Nat} {v : Value} {d : DataW H} {ps : List MemPlace}
    (hok : Value.okWide P W .any b2 t v) (hd : DataW.Trod enc P W b (fun _ => true) true t v d ps) (hl : lightB (d.weights P t)) : ∃ x : α, (sh ρ x).h (fun _ => True) W v ∧ G x := by
  obtain ⟨fuel, hd⟩ := hd
  obtain ⟨x, h1, h2⟩ := h.rd hd hl
  exact ⟨x, sh_iff.2 ⟨_, h1, h.vl hok⟩, h2⟩
theorem Opens.w {t : TypeId} {α : Type} {ρ : Rep α} {G : α → Prop} (h : Opens P t ρ G) : OpensW P t ρ G := ⟨fun q _ => h.rd q, h.vl⟩

section
variable {H : Type}
theorem weightsAll_mem {e : TypeId} {n : Nat} : ∀ {l : List (DataW H)} {d : DataW H}, d ∈ l → n ∈ d.weights P e → n ∈ DataW.weightsAll P e l
  | [], _, hd, _ => by simp at hd
  | x :: r, d, hd, hn => by
    rw [DataW.weightsAll, List.mem_append]
    rcases List.mem_cons.1 hd with e | hd
    · exact .inl (e ▸ hn)
    · exact .inr (weightsAll_mem hd hn)
theorem weightsEach_get {n : Nat} : ∀ {ts : List TypeId} {l : List (DataW H)} {i : Nat} {t : TypeId} {d : DataW H}, ts[i]? = some t → l[i]? = some d → n ∈ d.weights P t → n ∈ DataW.weightsEach P ts l
  | [], _, _, _, _, h, _, _ => by simp at h
  | _ :: _, [], _, _, _, _, h, _ => by simp at h
  | u :: ts, x :: l, 0, t, d, h1, h2, hn => by
    simp at h1 h2
    subst h1; subst h2
    rw [DataW.weightsEach, List.mem_append]; exact .inl hn
  | u :: ts, x :: l, i + 1, t, d, h1, h2, hn => by
    rw [DataW.weightsEach, List.mem_append]
    exact .inr (weightsEach_get (by simpa using h1) (by simpa using h2) hn)
theorem light_of {ts : List TypeId} {ds gs : List (DataW H)} {us : List TypeId} (h : (DataW.weightsEach P (ts ++ us) (ds ++ gs)).all (· ≤ reachBytes) = true) {i : Nat} {t : TypeId} {d : DataW H} (h1 : (ts ++ us)[i]? = some t) (h2 : (ds ++ gs)[i]? = some d) : lightB (d.weights P t) := fun n hn => by
  simpa using List.all_eq_true.1 h n (weightsEach_get h1 h2 hn)
end

theorem opensW_slice {t e : TypeId} {α : Type} {ρ : Rep α} {G : α → Prop} {k : Nat} (hu : P.underlying t = some (.slice e)) (he : OpensW P e ρ G) (hc : P.cellsOf e = ρ.size) (hpos : Nat.blt 0 ρ.size = true) (hk : P.bytesOf e = k) :
    OpensW P t (rSl ρ) (fun d => d.length * k ≤ reachBytes ∧ ∀ x ∈ d, G x) := by
  have hpos' : 0 < ρ.size := Nat.blt_eq.mp hpos
  refine ⟨fun {H enc W base fuel cs x} h hw => ?_, fun h => by obtain ⟨a, l, c, rfl⟩ := okWide_slice hu h; rfl⟩
  rcases DataW.trod_slice hu h with ⟨rfl, _⟩ | ⟨a, len, cap, elems, rest, n, _, rfl, hx, hb, hl, hm, hlen, hel, _, _⟩
  · exact ⟨[], ⟨⟨none, 0, rfl, Nat.le_refl _, fun h => absurd rfl h⟩, trivial⟩, by simp, fun x hx => by simp at hx⟩
  · subst hx
    simp only [DataW.weights, hu] at hw
    have hw0 := hw _ (List.mem_cons_self ..)
    have hwe : ∀ i, (hi : i < elems.length) → lightB ((elems[i]).1.weights P e) := fun i hi n hn =>
      hw n (List.mem_cons_of_mem _ (List.mem_append_left _ (weightsAll_mem (List.mem_map.2 ⟨_, List.getElem_mem hi, rfl⟩) hn)))
    have hch : ∀ i, i < len → ∃ x : α, G x ∧ ∃ es, AllP (fun _ => True) W (ρ.cp x) es ∧ W.cells? base (a.add (i * P.cellsOf e)) (P.cellsOf e) = some es := fun i hi => by
      have h1 := hel i hi
      rw [List.getElem?_eq_getElem (by omega)] at h1
      obtain ⟨es, h2, h3⟩ := Option.bind_eq_some_iff.1 h1
      obtain ⟨x, h4, h5⟩ := he.rd h3 (hwe i (by omega))
      exact ⟨x, h5, es, h4, h2⟩
    obtain ⟨d, hd, hp⟩ := choose_list len hch
    refine ⟨d, ⟨⟨some a, cap, by rw [hd], by omega, fun hne => ?_⟩, trivial⟩, ?_, fun x hx => ?_⟩
    · have h0 : 0 < d.length := List.length_pos_iff.2 hne
      obtain ⟨_, es, _, h2⟩ := hp 0 h0
      have h3 := cells_at h2 0 (by omega)
      have hes : 0 < es.length := by rw [cells_len h2]; omega
      rw [List.getElem?_eq_getElem hes, show (a.add (0 * P.cellsOf e)).add 0 = a from by simp [Addr.add]] at h3
      unfold World.cell? at h3
      split at h3
      · rename_i c ty fz hbl
        split at h3
        · cases h3
        · rename_i hsp
          have hsp' : a.spot = none := by cases hh : a.spot; rfl; simp [hh] at hsp
          refine ⟨a.block, a.off, c, ty, fz, by cases a; simp at hsp'; subst hsp'; rfl, trivial, hbl, fun i hi => ?_⟩
          obtain ⟨_, es', h4, h5⟩ := hp i hi
          refine ⟨es', h4, fun j hj => ?_⟩
          have h6 := cells_at h5 j (by omega)
          rw [← h6]
          have ha : (a.add (i * P.cellsOf e)).add j = ⟨a.block, a.off + i * ρ.size + j, none⟩ := by
            rw [hc]
            cases a; simp at hsp'; subst hsp'
            unfold Addr.add
            by_cases e1 : i * ρ.size = 0 <;> by_cases e2 : j = 0 <;> simp [e1, e2]
          rw [ha]
          simp [World.cell?, hbl]
      · cases h3
    · rw [hk, List.length_map, List.length_map, hlen] at hw0
      rw [hd]
      exact Nat.le_trans (Nat.mul_le_mul_right _ (by omega)) hw0
    · obtain ⟨i, hi, rfl⟩ := List.mem_iff_getElem.1 hx
      exact (hp i hi).1

theorem rd_fieldW {H : Type} {enc : TypeId × Value → H} {W : World} {base n : Nat} {cs : List Value} {xs : List (DataW H × List MemPlace)} {fs : Array Field} {i : Nat} {f : Field} {β : Type} {ρ : Rep β} {G : β → Prop}
    (hf : ∀ (i : Nat) (f : Field), fs[i]? = some f → DataW.trod enc P W base (fun _ => true) true n f.type ((cs.drop f.offset).take (P.cellsOf f.type)) = xs[i]?) (hl : xs.length = fs.size)
    (hw : lightB (DataW.weightsEach P (fs.toList.map (·.type)) (xs.map (·.1)))) (hi : fs[i]? = some f) (ho : OpensW P f.type ρ G) :
    ∃ d : β, AllP (fun _ => True) W (ρ.cp d) ((cs.drop f.offset).take (P.cellsOf f.type)) ∧ G d := by
  have h := hf i f hi
  have hlt : i < xs.length := by rw [hl]; exact (Array.getElem?_eq_some_iff.1 hi).1
  rw [List.getElem?_eq_getElem hlt] at h
  refine ho.rd h fun m hm => hw m (weightsEach_get (i := i) (t := f.type) (d := xs[i].1) ?_ ?_ hm)
  · rw [List.getElem?_map, Array.getElem?_toList, hi]; rfl
  · rw [List.getElem?_map, List.getElem?_eq_getElem hlt]; rfl

theorem opensW_st2 {t : TypeId} {α β γ : Type} {f0 f1 : Field} {r0 : Rep β} {r1 : Rep γ} {G0 : β → Prop} {G1 : γ → Prop} {g0 : α → β} {g1 : α → γ} (mk : β → γ → α) (hu : P.underlying t = some (.struct #[f0, f1]))
    (o0 : OpensW P f0.type r0 G0) (o1 : OpensW P f1.type r1 G1) (e0 : f0.offset = 0) (c0 : P.cellsOf f0.type = r0.size) (e1 : f1.offset = 0 + r0.size) (c1 : P.cellsOf f1.type = r1.size)
    (hm0 : ∀ x y, g0 (mk x y) = x) (hm1 : ∀ x y, g1 (mk x y) = y) (hc : P.cellsOf t = 0 + r0.size + r1.size) : OpensW P t (rSt [⟨r0, g0⟩, ⟨r1, g1⟩]) (fun d => G0 (g0 d) ∧ G1 (g1 d)) := by
  refine ⟨fun {H enc W base fuel cs x} h hw => ?_, fun h => ?_⟩
  · obtain ⟨xs, n, _, hx, hl, hxl, hf⟩ := DataW.trod_struct hu h
    subst hx
    simp only [DataW.weights, hu] at hw
    obtain ⟨d0, a0, b0⟩ := rd_fieldW hf hxl hw (i := 0) (f := f0) rfl o0
    obtain ⟨d1, a1, b1⟩ := rd_fieldW hf hxl hw (i := 1) (f := f1) rfl o1
    rw [e0, c0] at a0; rw [e1, c1] at a1
    have hend : cs.drop (0 + r0.size + r1.size) = [] := List.drop_of_length_le (by omega)
    refine ⟨mk d0 d1, ?_, by rw [hm0, hm1]; exact ⟨b0, b1⟩⟩
    show AllP _ _ (r0.cp (g0 (mk d0 d1)) ++ (r1.cp (g1 (mk d0 d1)) ++ [])) cs
    rw [hm0, hm1]
    exact a0.glue (a1.glue (by rw [hend]; trivial))
  · obtain ⟨cs, rfl, _⟩ := okWide_struct hu h; rfl
theorem opensW_st4 {t : TypeId} {α β γ δ ε : Type} {f0 f1 f2 f3 : Field} {r0 : Rep β} {r1 : Rep γ} {r2 : Rep δ} {r3 : Rep ε} {G0 : β → Prop} {G1 : γ → Prop} {G2 : δ → Prop} {G3 : ε → Prop} {g0 : α → β} {g1 : α → γ} {g2 : α → δ} {g3 : α → ε}
    (mk : β → γ → δ → ε → α) (hu : P.underlying t = some (.struct #[f0, f1, f2, f3]))
    (o0 : OpensW P f0.type r0 G0) (o1 : OpensW P f1.type r1 G1) (o2 : OpensW P f2.type r2 G2) (o3 : OpensW P f3.type r3 G3) (e0 : f0.offset = 0) (c0 : P.cellsOf f0.type = r0.size) (e1 : f1.offset = 0 + r0.size) (c1 : P.cellsOf f1.type = r1.size)
    (e2 : f2.offset = 0 + r0.size + r1.size) (c2 : P.cellsOf f2.type = r2.size) (e3 : f3.offset = 0 + r0.size + r1.size + r2.size) (c3 : P.cellsOf f3.type = r3.size)
    (hm0 : ∀ x y z u, g0 (mk x y z u) = x) (hm1 : ∀ x y z u, g1 (mk x y z u) = y) (hm2 : ∀ x y z u, g2 (mk x y z u) = z) (hm3 : ∀ x y z u, g3 (mk x y z u) = u) (hc : P.cellsOf t = 0 + r0.size + r1.size + r2.size + r3.size) :
    OpensW P t (rSt [⟨r0, g0⟩, ⟨r1, g1⟩, ⟨r2, g2⟩, ⟨r3, g3⟩]) (fun d => G0 (g0 d) ∧ G1 (g1 d) ∧ G2 (g2 d) ∧ G3 (g3 d)) := by
  refine ⟨fun {H enc W base fuel cs x} h hw => ?_, fun h => ?_⟩
  · obtain ⟨xs, n, _, hx, hl, hxl, hf⟩ := DataW.trod_struct hu h
    subst hx
    simp only [DataW.weights, hu] at hw
    obtain ⟨d0, a0, b0⟩ := rd_fieldW hf hxl hw (i := 0) (f := f0) rfl o0
    obtain ⟨d1, a1, b1⟩ := rd_fieldW hf hxl hw (i := 1) (f := f1) rfl o1
    obtain ⟨d2, a2, b2⟩ := rd_fieldW hf hxl hw (i := 2) (f := f2) rfl o2
    obtain ⟨d3, a3, b3⟩ := rd_fieldW hf hxl hw (i := 3) (f := f3) rfl o3
    rw [e0, c0] at a0; rw [e1, c1] at a1; rw [e2, c2] at a2; rw [e3, c3] at a3
    have hend : cs.drop (0 + r0.size + r1.size + r2.size + r3.size) = [] := List.drop_of_length_le (by omega)
    refine ⟨mk d0 d1 d2 d3, ?_, by rw [hm0, hm1, hm2, hm3]; exact ⟨b0, b1, b2, b3⟩⟩
    show AllP _ _ (r0.cp (g0 (mk d0 d1 d2 d3)) ++ (r1.cp (g1 (mk d0 d1 d2 d3)) ++ (r2.cp (g2 (mk d0 d1 d2 d3)) ++ (r3.cp (g3 (mk d0 d1 d2 d3)) ++ [])))) cs
    rw [hm0, hm1, hm2, hm3]
    exact a0.glue (a1.glue (a2.glue (a3.glue (by rw [hend]; trivial))))
  · obtain ⟨cs, rfl, _⟩ := okWide_struct hu h; rfl

/-- an array of two -/
theorem opensW_arr2 {t e : TypeId} {α β : Type} {r : Rep β} {G : β → Prop} {g0 g1 : α → β} (mk : β → β → α) (hu : P.underlying t = some (.array 2 e)) (o : OpensW P e r G) (c0 : P.cellsOf e = r.size)
    (hm0 : ∀ x y, g0 (mk x y) = x) (hm1 : ∀ x y, g1 (mk x y) = y) (hc : P.cellsOf t = 0 + r.size + r.size) : OpensW P t (rSt [⟨r, g0⟩, ⟨r, g1⟩]) (fun d => G (g0 d) ∧ G (g1 d)) := by
  refine ⟨fun {H enc W base fuel cs x} h hw => ?_, fun h => ?_⟩
  · obtain ⟨xs, n, _, hx, hl, hxl, hf⟩ := DataW.trod_array hu h
    subst hx
    simp only [DataW.weights, hu] at hw
    have rdi : ∀ i, (hi : i < 2) → ∃ d : β, AllP (fun _ => True) W (r.cp d) ((cs.drop (i * P.cellsOf e)).take (P.cellsOf e)) ∧ G d := fun i hi => by
      have h := hf i hi
      rw [List.getElem?_eq_getElem (by omega)] at h
      exact o.rd h fun m hm => hw m (weightsAll_mem (List.mem_map.2 ⟨_, List.getElem_mem (by omega), rfl⟩) hm)
    obtain ⟨d0, a0, b0⟩ := rdi 0 (by omega)
    obtain ⟨d1, a1, b1⟩ := rdi 1 (by omega)
    rw [c0, Nat.zero_mul] at a0; rw [c0, Nat.one_mul] at a1
    have hend : cs.drop (0 + r.size + r.size) = [] := List.drop_of_length_le (by omega)
    refine ⟨mk d0 d1, ?_, by rw [hm0, hm1]; exact ⟨b0, b1⟩⟩
    show AllP _ _ (r.cp (g0 (mk d0 d1)) ++ (r.cp (g1 (mk d0 d1)) ++ [])) cs
    rw [hm0, hm1]
    refine AllP.glue (off := 0) (k := r.size) a0 (AllP.glue (k := r.size) ?_ (by rw [hend]; trivial))
    rw [Nat.zero_add]; exact a1
  · simp only [Value.okWide, hu] at h
    obtain ⟨cs, rfl, _⟩ := h; rfl
end Go.Dc
