/- Part Dc.Mem5 of a proof that a law of the program returns true: general lemmas, no condition. -/
import Derived.Test.YtodnndlcnignbaaDcMem4
/-! Slices written out, bytes as strings, fields of values, calls that change objects. -/
namespace Go.Dc

variable {P : Program} {E : Env} {N : Nat} {Γ : List (Nat × RP)} {Ω : List OB} {ty : TypeId}

def enumP : Nat → List Operand → List (Nat × Operand)
  | _, [] => []
  | n, x :: xs => (n, x) :: enumP (n + 1) xs

def AllPart {α : Type} (E : Env) (N : Nat) (Γ : List (Nat × RP)) (Ω : List OB) (ρ : Rep α) : List Operand → List α → Prop
  | [], [] => True
  | x :: xs, d :: ds => PartOk E N Γ Ω x (ρ.cp d) ∧ AllPart E N Γ Ω ρ xs ds
  | _, _ => False

theorem AllPart.length {α : Type} {ρ : Rep α} : ∀ {xs : List Operand} {ds : List α}, AllPart E N Γ Ω ρ xs ds → xs.length = ds.length
  | [], [], _ => rfl
  | _ :: _, _ :: _, ⟨_, h⟩ => by simp [h.length]
  | [], _ :: _, h => h.elim
  | _ :: _, [], h => h.elim

theorem enum_fill {α : Type} {ρ : Rep α} {F : FP} {w : World} (g : Operand → Value) : ∀ {xs : List Operand} {ds : List α} {k : Nat} {cells : Array Value},
    (∀ (i : Nat) (x : Operand) (d : α), xs[i]? = some x → ds[i]? = some d → AllP F w (ρ.cp d) (g x).cells.toList) → xs.length = ds.length → (k + xs.length) * ρ.size ≤ cells.size →
    ∃ es, AllP F w (ds.flatMap ρ.cp) es ∧
      Instr.fill (fun i => some (i * ρ.size, ρ.size)) cells ((enumP k xs).map fun p => (p.1, g p.2)) = some (cells.toList.take (k * ρ.size) ++ es ++ cells.toList.drop ((k + xs.length) * ρ.size)).toArray
  | [], [], k, cells, _, _, _ => ⟨[], trivial, by simp [enumP, Instr.fill]⟩
  | x :: xs, d :: ds, k, cells, h, hl, hs => by
    have hx := h 0 x d (by simp) (by simp)
    have hxl : (g x).cells.size = ρ.size := by rw [← Array.length_toList, hx.length, ρ.len]
    simp only [List.length_cons, Nat.add_right_cancel_iff] at hl
    simp only [List.length_cons] at hs
    have hk1 : (k + 1) * ρ.size ≤ (k + (xs.length + 1)) * ρ.size := Nat.mul_le_mul_right _ (by omega)
    rw [Nat.succ_mul] at hk1
    have hfold := fold_set (g x).cells.toList (k * ρ.size) 0 cells (by rw [Array.length_toList]; omega)
    rw [Nat.add_zero, Array.length_toList, hxl] at hfold
    generalize hc' : (g x).cells.zipIdx.foldl (fun cs (c, j) => cs.setIfInBounds (k * ρ.size + j) c) cells = cells'
    have hcl : cells'.toList = cells.toList.take (k * ρ.size) ++ (g x).cells.toList ++ cells.toList.drop (k * ρ.size + ρ.size) := by
      rw [← hc', ← Array.foldl_toList, Array.toList_zipIdx]; exact hfold
    have hll : cells.toList.length = cells.size := Array.length_toList
    have hsz' : cells'.size = cells.size := by
      rw [← Array.length_toList, hcl]; simp [hxl]; omega
    have hxl' : (g x).cells.toList.length = ρ.size := by rw [Array.length_toList, hxl]
    obtain ⟨es, hes, hfill⟩ := enum_fill (w := w) (F := F) g (xs := xs) (ds := ds) (k := k + 1) (cells := cells') (fun i y e hy he => h (i + 1) y e (by simpa using hy) (by simpa using he)) hl
      (by rw [hsz']; rw [show k + 1 + xs.length = k + (xs.length + 1) from by omega]; exact hs)
    refine ⟨(g x).cells.toList ++ es, by rw [List.flatMap_cons]; exact hx.append hes, ?_⟩
    simp only [enumP, List.map_cons, Instr.fill]
    rw [if_neg (by simp [hxl]; omega)]
    have hc2 : (g x).cells.zipIdx.foldl (fun cs (x : Value × Nat) => match x with | (c, j) => cs.setIfInBounds (k * ρ.size + j) c) cells = cells' := hc'
    rw [hc2, hfill, hcl]
    have ht : (cells.toList.take (k * ρ.size)).length = k * ρ.size := by rw [List.length_take]; omega
    congr 2
    rw [show (k + 1) * ρ.size = k * ρ.size + ρ.size from Nat.succ_mul k _]
    have e1 : (cells.toList.take (k * ρ.size) ++ (g x).cells.toList ++ cells.toList.drop (k * ρ.size + ρ.size)).take (k * ρ.size + ρ.size) = cells.toList.take (k * ρ.size) ++ (g x).cells.toList := by
      rw [List.take_append_of_le_length (by simp [hxl', ht]), List.take_of_length_le (by simp [hxl', ht])]
    have hlen : (k + (x :: xs).length) * ρ.size = (k + 1 + xs.length) * ρ.size := by congr 1; simp; omega
    have hk2 : k * ρ.size + ρ.size ≤ (k + 1 + xs.length) * ρ.size := by rw [← Nat.succ_mul]; exact Nat.mul_le_mul_right _ (by omega)
    have e2 : (cells.toList.take (k * ρ.size) ++ (g x).cells.toList ++ cells.toList.drop (k * ρ.size + ρ.size)).drop ((k + 1 + xs.length) * ρ.size) = cells.toList.drop ((k + (x :: xs).length) * ρ.size) := by
      rw [hlen, List.drop_append, List.drop_eq_nil_of_le (by simp [hxl', ht]; omega), List.nil_append, List.drop_drop]
      congr 1
      simp [hxl', ht]; omega
    rw [e1, e2]; simp
  | [], _ :: _, _, _, _, hl, _ => by simp at hl
  | _ :: _, [], _, _, _, hl, _ => by simp at hl

theorem AllPart.all {α : Type} {ρ : Rep α} {a : Act} {w : World} (hs : Sat E N Γ Ω a w) : ∀ {xs : List Operand} {ds : List α}, AllPart E N Γ Ω ρ xs ds →
    ∀ (i : Nat) (x : Operand) (d : α), xs[i]? = some x → ds[i]? = some d → AllP (fr E Ω) w (ρ.cp d) (a.eval x).cells.toList
  | [], [], _, i, x, d, h, _ => by simp at h
  | y :: xs, e :: ds, ⟨h1, h2⟩, i, x, d, hx, hd => by
    cases i with
    | zero => simp at hx hd; subst hx; subst hd; exact (h1 a w hs).1
    | succ i => simp at hx hd; exact h2.all hs i x d hx hd
  | [], _ :: _, h, _, _, _, _, _ => h.elim
  | _ :: _, [], h, _, _, _, _, _ => h.elim

theorem run_bslice {α : Type} {e t : TypeId} {ρ : Rep α} {bytes n : Nat} {xs : List Operand} {ds : List α} (hu : P.underlying t = some (.slice e)) (h : ElT P e ρ bytes) (hn : n = ds.length)
    (h24 : ds.length * ρ.size ≤ 16777216) {a : Act} {w : World} (hs : Sat E N Γ Ω a w) (hp : AllPart E N Γ Ω ρ xs ds) :
    ∃ es, AllP (fr E Ω) w (ds.flatMap ρ.cp) es ∧ ∀ o : Oper, o.op = .buildSlice t n (enumP 0 xs).toArray →
      (execOp a.eval o).run P w = .ok (.value (.slice (some ⟨w.heap.size, 0, none⟩) ds.length ds.length)) (w.alloc (.cells es.toArray e)) := by
  subst hn
  obtain ⟨i, hi, his, _, z, hz, hzs⟩ := h.info
  have hzv : (zeroValue e).run P w = .ok z w := by simp [zeroValue, typeInfo, hi, hz]
  have hlen := hp.length
  have hh : ¬ 16777216 < ds.length * ρ.size := by omega
  by_cases h0 : ds.length * ρ.size = 0
  · have hd : ds = [] := by
      rcases Nat.mul_eq_zero.1 h0 with h1 | h1
      · exact List.eq_nil_of_length_eq_zero h1
      · have := h.pos; omega
    subst hd
    have hx : xs = [] := List.eq_nil_of_length_eq_zero (by simpa using hlen)
    subst hx
    refine ⟨[], trivial, fun o ho => ?_⟩
    simp [execOp, ho, Instr.buildSlice, run_underlying hu, h.sizeOf, enumP, Instr.fill, newRow]
    rw [show Array.range 0 = #[] from by first | rfl | simp, Array.map_empty]
  · obtain ⟨es, hes, hfill⟩ := enum_fill (w := w) (F := fr E Ω) (ρ := ρ) a.eval (xs := xs) (ds := ds) (k := 0) (cells := (Array.range (ds.length * ρ.size)).map (z.cells[· % z.cells.size]!)) (hp.all hs) hlen (by simp [hlen])
    refine ⟨es, hes, fun o ho => ?_⟩
    have hfill' : Instr.fill (fun i => some (i * ρ.size, ρ.size)) ((Array.range (ds.length * ρ.size)).map (z.cells[· % z.cells.size]!)) ((enumP 0 xs).map fun p => (p.1, a.eval p.2)) = some es.toArray := by
      rw [hfill]; simp [hlen]
    simp [execOp, ho, Instr.buildSlice, run_underlying hu, h.sizeOf, hh, h0, hzv] at hfill' ⊢
    simp [hfill', newRow]

theorem bslice_at {α : Type} {ρ : Rep α} {F F' : FP} {w : World} {e : TypeId} {ds : List α} {es : List Value} (h : AllP F w (ds.flatMap ρ.cp) es) (hag : Ag F F' w (w.alloc (.cells es.toArray e))) :
    SlH ρ F' (w.alloc (.cells es.toArray e)) es.toArray 0 ds := SlH.of (h.mono hag) fun j _ => by simp

/-- []T{..} that nobody will write -/
theorem s_bslice {α : Type} {e t : TypeId} {ρ : Rep α} {bytes n : Nat} {xs : List Operand} {ds : List α} (hu : P.underlying t = some (.slice e)) (h : ElT P e ρ bytes) (hn : n = ds.length)
    (h24 : ds.length * ρ.size ≤ 16777216) (hp : AllPart E N Γ Ω ρ xs ds) : St P E N (.buildSlice t n (enumP 0 xs).toArray) ty Γ Ω [] (fun _ : Unit => slv ρ ds) (fun _ => Ω) := by
  intro a w hs
  obtain ⟨es, hes, hrun⟩ := run_bslice hu h hn h24 hs hp
  refine opwp_val (fun o ho _ => hrun o ho) ⟨(), hs.new _, ⟨some ⟨w.heap.size, 0, none⟩, ds.length, rfl, Nat.le_refl _, fun _ => ⟨w.heap.size, 0, _, e, (0, 0), rfl, hs.newFr, heap_alloc_new' w _, bslice_at hes (Sat.agNew _)⟩⟩,
    by simp, fun b hb _ => heap_alloc_lt w _ hb, fun _ _ h => h⟩

/-- []T{..} that is ours -/
theorem s_bsliceO {α : Type} {e t : TypeId} {ρ : Rep α} {bytes n : Nat} {xs : List Operand} {ds : List α} (hu : P.underlying t = some (.slice e)) (h : ElT P e ρ bytes) (hn : n = ds.length)
    (h24 : ds.length * ρ.size ≤ 16777216) (hp : AllPart E N Γ Ω ρ xs ds) :
    St P E N (.buildSlice t n (enumP 0 xs).toArray) ty Γ Ω [] (fun X : Value × List Nat => pv X.1) (fun X => Ω ++ [oa ρ X.1 X.2 ds]) := by
  intro a w hs
  obtain ⟨es, hes, hrun⟩ := run_bslice hu h hn h24 hs hp
  have hel : es.length = ds.length * ρ.size := by rw [hes.length, cp_len]
  refine opwp_val (fun o ho _ => hrun o ho) ⟨(.slice (some ⟨w.heap.size, 0, none⟩) ds.length ds.length, [w.heap.size]), ?_, rfl, by simp, fun b hb _ => heap_alloc_lt w _ hb, own_add (by simp [oa])⟩
  refine hs.add ⟨rfl, rfl, rfl⟩ (by simp) (fun _ hb => heap_alloc_lt w _ hb) (fun b hb => ?_) (by simp [oa]) ?_
  · rw [show b = w.heap.size from by simpa [oa] using hb]; exact ⟨Nat.le_refl _, by simp⟩
  · refine ⟨some ⟨w.heap.size, 0, none⟩, ds.length, rfl, Nat.le_refl _, .inr ⟨w.heap.size, 0, _, e, rfl, rfl, heap_alloc_new' w _, by simp [hel], bslice_at hes ⟨fun b hb hf => fr_add hf ?_, fun b hb _ => heap_alloc_lt w _ hb⟩⟩⟩
    simp [oa]; omega

/-- a nil slice that is ours -/
theorem nil_sl {α : Type} {ρ : Rep α} {F : FP} {w : World} {v : Value} : (pv (.slice none 0 0)).h F w v → (slv ρ ([] : List α)).h F w v := fun h => by
  rw [show v = _ from h]; exact ⟨none, 0, rfl, Nat.le_refl _, fun h => absurd rfl h⟩
theorem imp_rfl {φ : RP} {F : FP} {w : World} {v : Value} : φ.h F w v → φ.h F w v := fun h => h
def ImpAll : List RP → List RP → Prop
  | [], [] => True
  | φ :: φs, ψ :: ψs => (∀ {F w v}, φ.h F w v → ψ.h F w v) ∧ ImpAll φs ψs
  | _, _ => False
theorem ImpAll.all {F : FP} {w : World} : ∀ {φs ψs : List RP} {vs : List Value}, ImpAll φs ψs → AllP F w φs vs → AllP F w ψs vs
  | [], [], [], _, _ => trivial
  | _ :: _, _ :: _, _ :: _, ⟨h1, h2⟩, ⟨h3, h4⟩ => ⟨h1 h3, h2.all h4⟩
  | [], [], _ :: _, _, h => h.elim
  | _ :: _, _ :: _, [], _, h => h.elim
  | [], _ :: _, _, h, _ => h.elim
  | _ :: _, [], _, h, _ => h.elim

/-- less is said of a variable's cells -/
theorem ocW (j : Nat) {b : Nat} {φs : List RP} (ψs : List RP) (hj : Ω[j]? = some (oc b φs)) (h : ImpAll φs ψs) : ∀ a w, Sat E N Γ Ω a w → Sat E N Γ (Ω.set j (oc b ψs)) a w := fun a w hs => by
  have hob := hs.objAt hj
  obtain ⟨cells, ty, hb, hall⟩ := hob
  refine hs.upd hj ⟨rfl, rfl, rfl⟩ (Nat.le_refl _) (fun _ _ _ => rfl) (fun b hb => .inl hb) (by simp [oc]) ?_
  exact ⟨cells, ty, hb, h.all (hall.mono (.refl fun b' hb' hf => fr_set (o' := oc b ψs) hj hf fun hm => hf.2 (Sat.notin hj (b := b') hm)))⟩

/-- less is said of a struct in a slot -/
theorem agW (t : Nat) {φs : List RP} (ψs : List RP) (ht : lk Γ t = some (ag φs)) (h : ImpAll φs ψs) : ∀ a w, Sat E N Γ Ω a w → Sat E N ((t, ag ψs) :: Γ) Ω a w := fun a w hs =>
  ⟨hs.sz, hs.df, fun s φ hl => by
    by_cases e2 : t = s
    · subst e2; rw [lk_cons_eq] at hl; cases hl
      obtain ⟨cs, e, hc⟩ := hs.sl t _ ht
      exact ⟨cs, e, h.all hc⟩
    · rw [lk_cons_ne e2] at hl; exact hs.sl s φ hl, hs.ob, hs.nd, hs.bd, hs.kp, hs.fs⟩

theorem own_nil {α : Type} (ρ : Rep α) : ∀ a w, Sat E N Γ Ω a w → Sat E N Γ (Ω ++ [oa ρ (.slice none 0 0) [] ([] : List α)]) a w := fun _ _ hs =>
  hs.add ⟨rfl, rfl, rfl⟩ (Nat.le_refl _) (fun _ _ => rfl) (fun b hb => by simp [oa] at hb) (by simp [oa]) ⟨none, 0, rfl, Nat.le_refl _, .inl ⟨rfl, rfl, rfl⟩⟩

/-- a nil slice that is read -/
theorem sl_nil {α : Type} (ρ : Rep α) {t : Nat} (ht : lk Γ t = some (pv (.slice none 0 0))) : ∀ a w, Sat E N Γ Ω a w → Sat E N ((t, slv ρ ([] : List α)) :: Γ) Ω a w := fun a w hs =>
  ⟨hs.sz, hs.df, fun s φ h => by
    by_cases e2 : t = s
    · subst e2; rw [lk_cons_eq] at h; cases h
      rw [show a.tmps.getD t undef = _ from hs.sl t _ ht]
      exact ⟨none, 0, rfl, Nat.le_refl _, fun h => absurd rfl h⟩
    · rw [lk_cons_ne e2] at h; exact hs.sl s φ h, hs.ob, hs.nd, hs.bd, hs.kp, hs.fs⟩

theorem arg_nil {α : Type} (ρ : Rep α) {x : Operand} (hx : lkO Γ x = some (pv (.slice none 0 0))) : ArgOk E N Γ Ω frF x (slv ρ ([] : List α)) := fun a w hs => by
  rw [show a.eval x = _ from hs.op hx]
  exact ⟨none, 0, rfl, Nat.le_refl _, fun h => absurd rfl h⟩

/-- string(b) -/
def bstr (d : List Int) : ByteArray := d.foldl (fun s n => s.push (UInt8.ofNat n.toNat)) ByteArray.empty

theorem r_b2s {t u e : TypeId} {x : Operand} {d : List Int} (ht : P.underlying t = some (.slice e)) (hu : P.underlying u = some .string) (he : P.underlying e = some (.int .u8)) (hx : lkO Γ x = some (slv (rI .u8) d)) :
    Rd P E N (.convert t u x) ty Γ Ω [] (sv (bstr d)) := fun a w hs => by
  obtain ⟨ad, c, hv, hc, hat⟩ := hs.op hx
  have hloop : ∀ (l : List Int) (s0 : ByteArray) (w : World), (forIn (m := Sem) (l.map fun n => Value.int .u8 n) s0 fun c r =>
      match c with
      | Value.int .u8 n => pure (ForInStep.yield (r.push (UInt8.ofNat n.toNat)))
      | _ => Functor.map (fun (_ : PUnit) => ForInStep.yield r) (stuck "bytesToString: byte expected")).run P w = .ok (l.foldl (fun s n => s.push (UInt8.ofNat n.toNat)) s0) w := by
    intro l
    induction l with
    | nil => intro s0 w; simp
    | cons x l ih => intro s0 w; simp at ih ⊢ <;> exact ih _ w
  by_cases hd : d = []
  · subst hd
    refine ⟨.string .empty, [], rfl, by simp, fun w' _ o ho _ => ?_⟩
    cases ad with
    | none => simp [execOp, ho, hv, convert, run_underlying ht, run_underlying hu, run_underlying he, Conv.bytesToString]
    | some b => simp [execOp, ho, hv, convert, run_underlying ht, run_underlying hu, run_underlying he, Conv.bytesToString, loadCells, loadCellsFrom]
  · obtain ⟨b, off, cells, cty, fz, rfl, hF, hb, hH⟩ := hat hd
    obtain ⟨es, hes, hec⟩ := hH.list
    have hese : es = d.map fun n => Value.int .u8 n := by
      clear hec hH hv hc hat hx hd hloop
      induction d generalizing es with
      | nil => cases es with
        | nil => rfl
        | cons _ _ => exact hes.elim
      | cons x d ih => cases es with
        | nil => exact hes.elim
        | cons v es => rw [List.map_cons, show v = _ from hes.1, ih _ hes.2]
    refine ⟨.string (bstr d), [b], rfl, ?_, fun w' hw' o ho _ => ?_⟩
    · intro b' hb'; rw [List.mem_singleton.1 hb']; exact ⟨size_of_get hb, .inl hF.2⟩
    · have hb2 : w'.heap[b]? = some (.cells cells cty fz) := by rw [hw' b (by simp)]; exact hb
      have hel : es.length = d.length := by rw [hese, List.length_map]
      have := run_loadCells_list (P := P) w' ⟨b, off, none⟩ es fun j v hv => by
        have hj : j < es.length := (List.getElem?_eq_some_iff.1 hv).1
        rw [addr_add, cell_at hb2, hec j (by simp [rI, one]; omega), hv]
      rw [hel] at this
      have hl := hloop d ByteArray.empty w'
      rw [← hese] at hl
      simp [execOp, ho, hv, convert, run_underlying ht, run_underlying hu, run_underlying he, Conv.bytesToString, this]
      exact (congrArg (fun r : Result ByteArray => (r.andThen fun a w' => Result.ok (Value.string a) w').andThen fun a w' => Result.ok (Next.value a) w') hl).trans rfl
end Go.Dc
