/- Part Dc.EqS of a proof: lemmas. -/
import Derived.Test.YtpnhpildieghpaaGreatDoorDcMem4
import Derived.OpenShut
import Derived.ChangeSame
import Derived.ChangeStays
import Derived.ChangeOld
import Derived.JoinedCond
import Derived.RowKit3
import Derived.Laws.StructEq
set_option linter.unusedSectionVars false
/-! Slices written out, bytes as strings, fields of values, calls that change objects. -/
namespace Go.Dc
variable [DrawMode]

variable {P : Program} {E : Env} {N : Nat} {Γ : List (Nat × RP)} {Ω : List OB} {ty : TypeId}

def enumP : Nat → List Operand → List (Nat × Operand)
  | _, [] => []
  | n, x :: xs => (n, x) :: enumP (n + 1) xs

def AllPart {α : Type} (E : Env) (N : Nat) (Γ : List (Nat × RP)) (Ω : List OB) (ρ : Rep α) : List Operand → List α → Prop
  | [], [] => True
  | x :: xs, d :: ds => PartOk E N Γ Ω x (ρ.cp d) ∧ AllPart E N Γ Ω ρ xs ds
  | _, _ => False

theorem AllPart.length {α : Type} {ρ : Rep α} : ∀ {xs : List Operand} {ds : List α}, AllPart E N Γ Ω ρ xs ds → xs.length = ds.length
  | [], [], _ => rfl
  | _ :: _, _ :: _, ⟨_, h⟩ => by simp [h.length]
  | [], _ :: _, h => h.elim
  | _ :: _, [], h => h.elim

theorem enum_fill {α : Type} {ρ : Rep α} {F : FP} {w : World} (g : Operand → Value) : ∀ {xs : List Operand} {ds : List α} {k : Nat} {cells : Array Value},
    (∀ (i : Nat) (x : Operand) (d : α), xs[i]? = some x → ds[i]? = some d → AllP F w (ρ.cp d) (g x).cells.toList) → xs.length = ds.length → (k + xs.length) * ρ.size ≤ cells.size →
    ∃ es, AllP F w (ds.flatMap ρ.cp) es ∧
      Instr.fill (fun i => some (i * ρ.size, ρ.size)) cells ((enumP k xs).map fun p => (p.1, g p.2)) = some (cells.toList.take (k * ρ.size) ++ es ++ cells.toList.drop ((k + xs.length) * ρ.size)).toArray
  | [], [], k, cells, _, _, _ => ⟨[], trivial, by simp [enumP, Instr.fill]⟩
  | x :: xs, d :: ds, k, cells, h, hl, hs => by
    have hx := h 0 x d (by simp) (by simp)
    have hxl : (g x).cells.size = ρ.size := by rw [← Array.length_toList, hx.length, ρ.len]
    simp only [List.length_cons, Nat.add_right_cancel_iff] at hl
    simp only [List.length_cons] at hs
    have hk1 : (k + 1) * ρ.size ≤ (k + (xs.length + 1)) * ρ.size := Nat.mul_le_mul_right _ (by omega)
    rw [Nat.succ_mul] at hk1
    have hfold := fold_set (g x).cells.toList (k * ρ.size) 0 cells (by rw [Array.length_toList]; omega)
    rw [Nat.add_zero, Array.length_toList, hxl] at hfold
    generalize hc' : (g x).cells.zipIdx.foldl (fun cs (c, j) => cs.setIfInBounds (k * ρ.size + j) c) cells = cells'
    have hcl : cells'.toList = cells.toList.take (k * ρ.size) ++ (g x).cells.toList ++ cells.toList.drop (k * ρ.size + ρ.size) := by
      rw [← hc', ← Array.foldl_toList, Array.toList_zipIdx]; exact hfold
    have hll : cells.toList.length = cells.size := Array.length_toList
    have hsz' : cells'.size = cells.size := by
      rw [← Array.length_toList, hcl]; simp [hxl]; omega
    have hxl' : (g x).cells.toList.length = ρ.size := by rw [Array.length_toList, hxl]
    obtain ⟨es, hes, hfill⟩ := enum_fill (w := w) (F := F) g (xs := xs) (ds := ds) (k := k + 1) (cells := cells') (fun i y e hy he => h (i + 1) y e (by simpa using hy) (by simpa using he)) hl
      (by rw [hsz']; rw [show k + 1 + xs.length = k + (xs.length + 1) from by omega]; exact hs)
    refine ⟨(g x).cells.toList ++ es, by rw [List.flatMap_cons]; exact hx.append hes, ?_⟩
    simp only [enumP, List.map_cons, Instr.fill]
    rw [if_neg (by simp [hxl]; omega)]
    have hc2 : (g x).cells.zipIdx.foldl (fun cs (x : Value × Nat) => match x with | (c, j) => cs.setIfInBounds (k * ρ.size + j) c) cells = cells' := hc'
    rw [hc2, hfill, hcl]
    have ht : (cells.toList.take (k * ρ.size)).length = k * ρ.size := by rw [List.length_take]; omega
    congr 2
    rw [show (k + 1) * ρ.size = k * ρ.size + ρ.size from Nat.succ_mul k _]
    have e1 : (cells.toList.take (k * ρ.size) ++ (g x).cells.toList ++ cells.toList.drop (k * ρ.size + ρ.size)).take (k * ρ.size + ρ.size) = cells.toList.take (k * ρ.size) ++ (g x).cells.toList := by
      rw [List.take_append_of_le_length (by simp [hxl', ht]), List.take_of_length_le (by simp [hxl', ht])]
    have hlen : (k + (x :: xs).length) * ρ.size = (k + 1 + xs.length) * ρ.size := by congr 1; simp; omega
    have hk2 : k * ρ.size + ρ.size ≤ (k + 1 + xs.length) * ρ.size := by rw [← Nat.succ_mul]; exact Nat.mul_le_mul_right _ (by omega)
    have e2 : (cells.toList.take (k * ρ.size) ++ (g x).cells.toList ++ cells.toList.drop (k * ρ.size + ρ.size)).drop ((k + 1 + xs.length) * ρ.size) = cells.toList.drop ((k + (x :: xs).length) * ρ.size) := by
      rw [hlen, List.drop_append, List.drop_eq_nil_of_le (by simp [hxl', ht]; omega), List.nil_append, List.drop_drop]
      congr 1
      simp [hxl', ht]; omega
    rw [e1, e2]; simp
  | [], _ :: _, _, _, _, hl, _ => by simp at hl
  | _ :: _, [], _, _, _, hl, _ => by simp at hl

theorem AllPart.all {α : Type} {ρ : Rep α} {a : Act} {w : World} (hs : Sat E N Γ Ω a w) : ∀ {xs : List Operand} {ds : List α}, AllPart E N Γ Ω ρ xs ds →
    ∀ (i : Nat) (x : Operand) (d : α), xs[i]? = some x → ds[i]? = some d → AllP (fr E Ω) w (ρ.cp d) (a.eval x).cells.toList
  | [], [], _, i, x, d, h, _ => by simp at h
  | y :: xs, e :: ds, ⟨h1, h2⟩, i, x, d, hx, hd => by
    cases i with
    | zero => simp at hx hd; subst hx; subst hd; exact (h1 a w hs).1
    | succ i => simp at hx hd; exact h2.all hs i x d hx hd
  | [], _ :: _, h, _, _, _, _, _ => h.elim
  | _ :: _, [], h, _, _, _, _, _ => h.elim

theorem run_bslice {α : Type} {e t : TypeId} {ρ : Rep α} {bytes n : Nat} {xs : List Operand} {ds : List α} (hu : P.underlying t = some (.slice e)) (h : ElT P e ρ bytes) (hn : n = ds.length)
    (h24 : ds.length * ρ.size ≤ 16777216) {a : Act} {w : World} (hs : Sat E N Γ Ω a w) (hp : AllPart E N Γ Ω ρ xs ds) :
    ∃ es, AllP (fr E Ω) w (ds.flatMap ρ.cp) es ∧ ∀ o : Oper, o.op = .buildSlice t n (enumP 0 xs).toArray →
      (execOp a.eval o).run P w = .ok (.value (.slice (some ⟨w.heap.size, 0, none⟩) ds.length ds.length)) (w.alloc (.cells es.toArray e)) := by
  subst hn
  obtain ⟨i, hi, his, _, z, hz, hzs⟩ := h.info
  have hzv : (zeroValue e).run P w = .ok z w := by simp [zeroValue, typeInfo, hi, hz]
  have hlen := hp.length
  have hh : ¬ 16777216 < ds.length * ρ.size := by omega
  by_cases h0 : ds.length * ρ.size = 0
  · have hd : ds = [] := by
      rcases Nat.mul_eq_zero.1 h0 with h1 | h1
      · exact List.eq_nil_of_length_eq_zero h1
      · have := h.pos; omega
    subst hd
    have hx : xs = [] := List.eq_nil_of_length_eq_zero (by simpa using hlen)
    subst hx
    refine ⟨[], trivial, fun o ho => ?_⟩
    simp [execOp, ho, Instr.buildSlice, run_underlying hu, h.sizeOf, enumP, Instr.fill, newRow]
    rw [show Array.range 0 = #[] from by first | rfl | simp, Array.map_empty]
  · obtain ⟨es, hes, hfill⟩ := enum_fill (w := w) (F := fr E Ω) (ρ := ρ) a.eval (xs := xs) (ds := ds) (k := 0) (cells := (Array.range (ds.length * ρ.size)).map (z.cells[· % z.cells.size]!)) (hp.all hs) hlen (by simp [hlen])
    refine ⟨es, hes, fun o ho => ?_⟩
    have hfill' : Instr.fill (fun i => some (i * ρ.size, ρ.size)) ((Array.range (ds.length * ρ.size)).map (z.cells[· % z.cells.size]!)) ((enumP 0 xs).map fun p => (p.1, a.eval p.2)) = some es.toArray := by
      rw [hfill]; simp [hlen]
    simp [execOp, ho, Instr.buildSlice, run_underlying hu, h.sizeOf, hh, h0, hzv] at hfill' ⊢
    simp [hfill', newRow]

theorem bslice_at {α : Type} {ρ : Rep α} {F F' : FP} {w : World} {e : TypeId} {ds : List α} {es : List Value} (h : AllP F w (ds.flatMap ρ.cp) es) (hag : Ag F F' w (w.alloc (.cells es.toArray e))) :
    SlH ρ F' (w.alloc (.cells es.toArray e)) es.toArray 0 ds := SlH.of (h.mono hag) fun j _ => by simp

/-- []T{..} that nobody will write -/
theorem s_bslice {α : Type} {e t : TypeId} {ρ : Rep α} {bytes n : Nat} {xs : List Operand} {ds : List α} (hu : P.underlying t = some (.slice e)) (h : ElT P e ρ bytes) (hn : n = ds.length)
    (h24 : ds.length * ρ.size ≤ 16777216) (hp : AllPart E N Γ Ω ρ xs ds) : St P E N (.buildSlice t n (enumP 0 xs).toArray) ty Γ Ω [] (fun _ : Unit => slv ρ ds) (fun _ => Ω) := by
  intro a w hs
  obtain ⟨es, hes, hrun⟩ := run_bslice hu h hn h24 hs hp
  refine opwp_val (fun o ho _ => hrun o ho) ⟨(), hs.new _, ⟨some ⟨w.heap.size, 0, none⟩, ds.length, rfl, Nat.le_refl _, fun _ => ⟨w.heap.size, 0, _, e, (0, 0), rfl, hs.newFr, heap_alloc_new' w _, bslice_at hes (Sat.agNew _)⟩⟩,
    by simp, fun b hb _ => heap_alloc_lt w _ hb, fun _ _ h => h⟩

/-- []T{..} that is ours -/
theorem s_bsliceO {α : Type} {e t : TypeId} {ρ : Rep α} {bytes n : Nat} {xs : List Operand} {ds : List α} (hu : P.underlying t = some (.slice e)) (h : ElT P e ρ bytes) (hn : n = ds.length)
    (h24 : ds.length * ρ.size ≤ 16777216) (hp : AllPart E N Γ Ω ρ xs ds) :
    St P E N (.buildSlice t n (enumP 0 xs).toArray) ty Γ Ω [] (fun X : Value × List Nat => pv X.1) (fun X => Ω ++ [oa ρ X.1 X.2 ds]) := by
  intro a w hs
  obtain ⟨es, hes, hrun⟩ := run_bslice hu h hn h24 hs hp
  have hel : es.length = ds.length * ρ.size := by rw [hes.length, cp_len]
  refine opwp_val (fun o ho _ => hrun o ho) ⟨(.slice (some ⟨w.heap.size, 0, none⟩) ds.length ds.length, [w.heap.size]), ?_, rfl, by simp, fun b hb _ => heap_alloc_lt w _ hb, own_add (by simp [oa])⟩
  refine hs.add ⟨rfl, rfl, rfl, by first | exact fun _ => Nat.le_refl _ | exact fun _ => Nat.le_add_right _ _⟩ (by simp) (fun _ hb => heap_alloc_lt w _ hb) (fun b hb => ?_) (by simp [oa]) ?_
  · rw [show b = w.heap.size from by simpa [oa] using hb]; exact ⟨Nat.le_refl _, by simp⟩
  · refine ⟨some ⟨w.heap.size, 0, none⟩, ds.length, rfl, Nat.le_refl _, .inr ⟨w.heap.size, 0, _, e, rfl, rfl, heap_alloc_new' w _, by simp [hel], bslice_at hes ⟨fun b hb hf => fr_add hf ?_, fun b hb _ => heap_alloc_lt w _ hb⟩⟩⟩
    simp [oa]; omega

/-- a nil slice that is ours -/
theorem nil_sl {α : Type} {ρ : Rep α} {F : FP} {w : World} {v : Value} : (pv (.slice none 0 0)).h F w v → (slv ρ ([] : List α)).h F w v := fun h => by
  rw [show v = _ from h]; exact ⟨none, 0, rfl, Nat.le_refl _, fun h => absurd rfl h⟩
def ImpAll : List RP → List RP → Prop
  | [], [] => True
  | φ :: φs, ψ :: ψs => (∀ {F w v}, φ.h F w v → ψ.h F w v) ∧ ImpAll φs ψs
  | _, _ => False
theorem ImpAll.all {F : FP} {w : World} : ∀ {φs ψs : List RP} {vs : List Value}, ImpAll φs ψs → AllP F w φs vs → AllP F w ψs vs
  | [], [], [], _, _ => trivial
  | _ :: _, _ :: _, _ :: _, ⟨h1, h2⟩, ⟨h3, h4⟩ => ⟨h1 h3, h2.all h4⟩
  | [], [], _ :: _, _, h => h.elim
  | _ :: _, _ :: _, [], _, h => h.elim
  | [], _ :: _, _, h, _ => h.elim
  | _ :: _, [], _, h, _ => h.elim

theorem own_nil {α : Type} (ρ : Rep α) : ∀ a w, Sat E N Γ Ω a w → Sat E N Γ (Ω ++ [oa ρ (.slice none 0 0) [] ([] : List α)]) a w := fun _ _ hs =>
  hs.add ⟨rfl, rfl, rfl, by first | exact fun _ => Nat.le_refl _ | exact fun _ => Nat.le_add_right _ _⟩ (Nat.le_refl _) (fun _ _ => rfl) (fun b hb => by simp [oa] at hb) (by simp [oa]) ⟨none, 0, rfl, Nat.le_refl _, .inl ⟨rfl, rfl, rfl⟩⟩

/-- string(b) -/
def bstr (d : List Int) : ByteArray := d.foldl (fun s n => s.push (UInt8.ofNat n.toNat)) ByteArray.empty

theorem r_b2s {t u e : TypeId} {x : Operand} {d : List Int} (ht : P.underlying t = some (.slice e)) (hu : P.underlying u = some .string) (he : P.underlying e = some (.int .u8)) (hx : lkO Γ x = some (slv (rI .u8) d)) :
    Rd P E N (.convert t u x) ty Γ Ω [] (sv (bstr d)) := fun a w hs => by
  obtain ⟨ad, c, hv, hc, hat⟩ := hs.op hx
  have hloop : ∀ (l : List Int) (s0 : ByteArray) (w : World), (forIn (m := Sem) (l.map fun n => Value.int .u8 n) s0 fun c r =>
      match c with
      | Value.int .u8 n => pure (ForInStep.yield (r.push (UInt8.ofNat n.toNat)))
      | _ => Functor.map (fun (_ : PUnit) => ForInStep.yield r) (stuck "bytesToString: byte expected")).run P w = .ok (l.foldl (fun s n => s.push (UInt8.ofNat n.toNat)) s0) w := by
    intro l
    induction l with
    | nil => intro s0 w; simp
    | cons x l ih => intro s0 w; simp at ih ⊢ <;> exact ih _ w
  by_cases hd : d = []
  · subst hd
    refine ⟨.string .empty, [], rfl, by simp, fun w' _ o ho _ => ?_⟩
    cases ad with
    | none => simp [execOp, ho, hv, convert, run_underlying ht, run_underlying hu, run_underlying he, Conv.bytesToString]
    | some b => simp [execOp, ho, hv, convert, run_underlying ht, run_underlying hu, run_underlying he, Conv.bytesToString, loadCells, loadCellsFrom]
  · obtain ⟨b, off, cells, cty, fz, rfl, hF, hb, hH⟩ := hat hd
    obtain ⟨es, hes, hec⟩ := hH.list
    have hese : es = d.map fun n => Value.int .u8 n := by
      clear hec hH hv hc hat hx hd hloop
      induction d generalizing es with
      | nil => cases es with
        | nil => rfl
        | cons _ _ => exact hes.elim
      | cons x d ih => cases es with
        | nil => exact hes.elim
        | cons v es => rw [List.map_cons, show v = _ from hes.1, ih _ hes.2]
    refine ⟨.string (bstr d), [b], rfl, ?_, fun w' hw' o ho _ => ?_⟩
    · intro b' hb'; rw [List.mem_singleton.1 hb']; exact ⟨size_of_get hb, .inl hF.2⟩
    · have hb2 : w'.heap[b]? = some (.cells cells cty fz) := by rw [hw' b (by simp)]; exact hb
      have hel : es.length = d.length := by rw [hese, List.length_map]
      have := run_loadCells_list (P := P) w' ⟨b, off, none⟩ es fun j v hv => by
        have hj : j < es.length := (List.getElem?_eq_some_iff.1 hv).1
        rw [addr_add, cell_at hb2, hec j (by simp [rI, one]; omega), hv]
      rw [hel] at this
      have hl := hloop d ByteArray.empty w'
      rw [← hese] at hl
      simp [execOp, ho, hv, convert, run_underlying ht, run_underlying hu, run_underlying he, Conv.bytesToString, this]
      exact (congrArg (fun r : Result ByteArray => (r.andThen fun a w' => Result.ok (Value.string a) w').andThen fun a w' => Result.ok (Next.value a) w') hl).trans rfl
end Go.Dc

/-! Regions whose order Go leaves open. -/
namespace Go.Dc
variable [DrawMode]

variable {P : Program} {E : Env} {N : Nat} {Γ : List (Nat × RP)} {Ω : List OB} {R : Type} {m : Option R} {K : KT R} {ops : Array Oper} {fl : List Nat}

def predsOf (o : Oper) : List Nat := (o.after.toList.filter (Region.binds .any)).map (·.on)
def hasN (l : List Nat) (n : Nat) : Bool := l.any (Nat.beq n)
theorem hasN_iff {l : List Nat} {n : Nat} : hasN l n = true ↔ n ∈ l := by
  simp [hasN]
def isDst (o : Oper) (t : Nat) : Bool := match o.dst with | some d => Nat.beq d t | none => false

/-- the edges are enough: fl are the operations that only look -/
def okPair (ops : Array Oper) (fl : List Nat) (i : Nat) (oi : Oper) (j : Nat) (oj : Oper) : Bool :=
  match oi.dst with
  | none => true
  | some t => bif Nat.beq i j then !(hasN fl i && hasN (oj.looksAt ops) t)
    else !(hasN (oj.looksAt ops) t || isDst oj t) || hasN (predsOf oj) i || (!hasN fl i && hasN (predsOf oi) j)

def okDraw (ops : Array Oper) (fl : List Nat) : Bool :=
  (ops.toList.zipIdx.all fun (oi, i) => (predsOf oi).all (Nat.blt · i) && ops.toList.zipIdx.all fun (oj, j) => okPair ops fl i oi j oj) &&
  Region.noSelect ops && fl.all fun i => match ops[i]? with | some o => o.dst.isSome | none => true

theorem okDraw_pair (h : okDraw ops fl = true) {i j : Nat} {oi oj : Oper} (hi : ops[i]? = some oi) (hj : ops[j]? = some oj) : okPair ops fl i oi j oj = true := by
  simp only [okDraw, Bool.and_eq_true, List.all_eq_true] at h
  have h1 := h.1.1 (oi, i) (List.mk_mem_zipIdx_iff_getElem?.2 (by simpa using hi))
  exact h1.2 (oj, j) (List.mk_mem_zipIdx_iff_getElem?.2 (by simpa using hj))

theorem okDraw_lt (h : okDraw ops fl = true) {i : Nat} {oi : Oper} (hi : ops[i]? = some oi) {e : Edge} (he : e ∈ oi.after) (hb : Region.binds .any e = true) : e.on < i := by
  simp only [okDraw, Bool.and_eq_true, List.all_eq_true] at h
  have h1 := h.1.1 (oi, i) (List.mk_mem_zipIdx_iff_getElem?.2 (by simpa using hi))
  have := h1.1 e.on (List.mem_map.2 ⟨e, List.mem_filter.2 ⟨Array.mem_toList_iff.2 he, hb⟩, rfl⟩)
  simpa [Nat.blt_eq] using this

theorem okDraw_sel (h : okDraw ops fl = true) : Region.noSelect ops = true := by
  simp only [okDraw, Bool.and_eq_true] at h; exact h.1.2

/-- a float i that writes t comes before each operation that reads or writes t -/
theorem okDraw_fl (h : okDraw ops fl = true) {i j : Nat} {oi oj : Oper} (hi : ops[i]? = some oi) (hj : ops[j]? = some oj) (hf : hasN fl i = true) {t : Nat} (ht : oi.dst = some t) (hij : i ≠ j)
    (hr : t ∈ oj.looksAt ops ∨ oj.dst = some t) : ∃ e ∈ oj.after, Region.binds .any e = true ∧ e.on = i := by
  have h1 := okDraw_pair h hi hj
  simp only [okPair, ht, beq_ne hij, cond_false, Bool.or_eq_true, hf, Bool.not_true, Bool.false_and, Bool.false_eq_true, or_false] at h1
  rcases h1 with h1 | h1
  · exfalso
    rcases hr with hr | hr
    · simp [hasN_iff.2 hr] at h1
    · simp [isDst, hr] at h1
  · obtain ⟨e, he, heq⟩ := List.mem_map.1 (hasN_iff.1 h1)
    obtain ⟨h2, h3⟩ := List.mem_filter.1 he
    exact ⟨e, Array.mem_toList_iff.1 h2, h3, heq⟩

theorem okDraw_self (h : okDraw ops fl = true) {i : Nat} {oi : Oper} (hi : ops[i]? = some oi) (hf : hasN fl i = true) {t : Nat} (ht : oi.dst = some t) : t ∉ oi.looksAt ops := fun hm => by
  have h1 := okDraw_pair h hi hi
  simp [okPair, ht, hf, hasN_iff.2 hm] at h1

/-- whoever writes t and whoever reads or writes it are ordered -/
theorem okDraw_any (h : okDraw ops fl = true) {i j : Nat} {oi oj : Oper} (hi : ops[i]? = some oi) (hj : ops[j]? = some oj) {t : Nat} (ht : oi.dst = some t) (hij : i ≠ j)
    (hr : t ∈ oj.looksAt ops ∨ oj.dst = some t) : (∃ e ∈ oj.after, Region.binds .any e = true ∧ e.on = i) ∨ (∃ e ∈ oi.after, Region.binds .any e = true ∧ e.on = j) := by
  have h1 := okDraw_pair h hi hj
  simp only [okPair, ht, beq_ne hij, cond_false, Bool.or_eq_true, Bool.and_eq_true] at h1
  have get : ∀ {o : Oper} {k : Nat}, hasN (predsOf o) k = true → ∃ e ∈ o.after, Region.binds .any e = true ∧ e.on = k := fun hh => by
    obtain ⟨e, he, heq⟩ := List.mem_map.1 (hasN_iff.1 hh)
    obtain ⟨h2, h3⟩ := List.mem_filter.1 he
    exact ⟨e, Array.mem_toList_iff.1 h2, h3, heq⟩
  rcases h1 with (h1 | h1) | h1
  · exfalso
    rcases hr with hr | hr
    · simp [hasN_iff.2 hr] at h1
    · simp [isDst, hr] at h1
  · exact .inl (get h1)
  · exact .inr (get h1.2)

abbrev isL (l : Array Bool) (i : Nat) : Prop := l.getD i false = true

/-- a float that has been carried out in our order, and may be still to come in the real one -/
def PendOk (P : Program) (ops : Array Oper) (aV : Act) (w : World) (Ω : List OB) (i : Nat) (J : List Nat) : Prop :=
  ∃ o d, ops[i]? = some o ∧ o.dst = some d ∧
    ((Region.wanted o (yielded ops aV.tmps) = false ∧ aV.tmps.getD d undef = undef) ∨
     (Region.wanted o (yielded ops aV.tmps) = true ∧ ∃ B : List Nat, (∀ b ∈ B, b < w.heap.size ∧ (b ∉ ow Ω ∨ ∃ j ∈ J, ∃ ob, Ω[j]? = some ob ∧ b ∈ ob.S)) ∧
        ∀ w', (∀ b ∈ B, w'.heap[b]? = w.heap[b]?) → (execOp aV.eval o).run P w' = .ok (.value (aV.tmps.getD d undef)) w'))

structure Cons (P : Program) (ops : Array Oper) (fl : List Nat) (l lA : Array Bool) (aV aA : Act) (w : World) (Ω : List OB) (pend : List (Nat × List Nat)) : Prop where
  s1 : l.size = ops.size
  s2 : lA.size = ops.size
  sub : ∀ i, isL lA i → isL l i
  pd : ∀ i, isL l i → isL lA i ∨ hasN fl i = true ∧ ∃ J, (i, J) ∈ pend ∧ PendOk P ops aV w Ω i J
  dc : ∀ i o, isL l i → ops[i]? = some o → ∀ e ∈ o.after, Region.binds .any e = true → isL l e.on
  ts : aA.tmps.size = aV.tmps.size
  ag : ∀ t, (∀ i o, ops[i]? = some o → o.dst = some t → isL l i → isL lA i) → aA.tmps.getD t undef = aV.tmps.getD t undef
  df : aA.defers = aV.defers

def cntF (l : Array Bool) : Nat := (l.toList.filter (!·)).length

/-- what is left of a region in whatever order -/
abbrev RefA {R : Type} (P : Program) (E : Env) (N : Nat) (m : Option R) (ops : Array Oper) (fl : List Nat) (l : Array Bool) (pend : List (Nat × List Nat)) (Γ : List (Nat × RP)) (Ω : List OB) (K : KT R) : Prop :=
  RefB E N m Γ Ω fun r aV w => ∀ lA aA, Cons P ops fl l lA aV aA w Ω pend → wpAny P .any ops (K r) (cntF lA) lA aA w

theorem isL_set {l : Array Bool} {i j : Nat} (hi : i < l.size) : isL (l.setIfInBounds i true) j ↔ j = i ∨ isL l j := by
  unfold isL
  by_cases e : i = j
  · subst e; simp [hi]
  · rw [getD_set_ne false e]; simp [Ne.symm e]

theorem cntF_set {l : Array Bool} {i : Nat} (hi : i < l.size) (h : ¬ isL l i) : cntF l = cntF (l.setIfInBounds i true) + 1 := by
  have h0 : l[i] = false := by
    unfold isL at h
    simpa [Array.getD, hi] using h
  unfold cntF
  rw [Array.toList_setIfInBounds]
  have hs : l.toList = l.toList.take i ++ false :: l.toList.drop (i + 1) := by
    rw [← h0, ← Array.getElem_toList, List.getElem_cons_drop, List.take_append_drop]
  have ht : (l.toList.take i).length = i := by rw [List.length_take, Array.length_toList]; omega
  have hset : l.toList.set i true = l.toList.take i ++ true :: l.toList.drop (i + 1) := by
    conv => lhs; rw [hs]
    rw [List.set_append_right _ _ (by omega), ht]; simp
  rw [hset]
  conv => lhs; rw [hs]
  simp [List.filter_append]
  omega

theorem cntF_zero {l : Array Bool} (h : cntF l = 0) {i : Nat} (hi : i < l.size) : isL l i := by
  unfold cntF at h
  have h1 := List.filter_eq_nil_iff.1 (List.eq_nil_of_length_eq_zero h) l[i] (by simp)
  unfold isL
  simp [Array.getD, hi]
  simpa using h1

theorem ready_iff {l : Array Bool} (hs : l.size = ops.size) {i : Nat} : i ∈ Region.ready .any ops l ↔ ¬ isL l i ∧ ∃ o, ops[i]? = some o ∧ ∀ e ∈ o.after, Region.binds .any e = true → isL l e.on := by
  rw [mem_ready]
  constructor
  · rintro ⟨h1, o, ho, h2⟩
    have hi : i < l.size := by rw [hs]; exact (Array.getElem?_eq_some_iff.1 ho).1
    refine ⟨?_, o, ho, h2⟩
    unfold isL
    simp [Array.getD, hi] at h1 ⊢
    exact h1
  · rintro ⟨h1, o, ho, h2⟩
    have hi : i < l.size := by rw [hs]; exact (Array.getElem?_eq_some_iff.1 ho).1
    refine ⟨?_, o, ho, h2⟩
    unfold isL at h1
    simp [Array.getD, hi] at h1 ⊢
    exact h1

theorem ready_nil (hok : okDraw ops fl = true) {l : Array Bool} (hs : l.size = ops.size) (h : Region.ready .any ops l = []) : ∀ i, i < ops.size → isL l i := by
  intro i
  induction i using Nat.strongRecOn with
  | _ i ih =>
    intro hi
    refine Classical.byContradiction fun hn => ?_
    have hm : i ∈ Region.ready .any ops l := (ready_iff hs).2 ⟨hn, ops[i], Array.getElem?_eq_getElem hi, fun e he hb => by
      have hlt := okDraw_lt hok (Array.getElem?_eq_getElem hi) he hb
      exact ih e.on hlt (by omega)⟩
    rw [h] at hm; cases hm

theorem eval_same {aA aV : Act} {o : Oper} (hsel : ∀ cs b, o.op ≠ .select cs b) (h : ∀ t, t ∈ o.looksAt ops → aA.tmps.getD t undef = aV.tmps.getD t undef) : execOp aA.eval o = execOp aV.eval o :=
  execOp_congr o hsel fun x hx => by
    cases x with
    | tmp t => exact h t (List.mem_append_left _ (List.mem_filterMap.2 ⟨.tmp t, Array.mem_toList_iff.2 hx, rfl⟩))
    | _ => rfl

theorem getE_of {a b : Array Value} (hts : a.size = b.size) {d : Nat} (h : a.getD d undef = b.getD d undef) : a[d]? = b[d]? := by
  by_cases hlt : d < a.size
  · have hlt' : d < b.size := hts ▸ hlt
    simp [Array.getD, hlt, hlt'] at h
    rw [Array.getElem?_eq_getElem hlt, Array.getElem?_eq_getElem hlt', h]
  · rw [Array.getElem?_eq_none (Nat.le_of_not_lt hlt), Array.getElem?_eq_none (by rw [← hts]; exact Nat.le_of_not_lt hlt)]

theorem yield_same {aA aV : Act} (hts : aA.tmps.size = aV.tmps.size) {o : Oper} (h : ∀ t, t ∈ o.looksAt ops → aA.tmps.getD t undef = aV.tmps.getD t undef) :
    Region.wanted o (yielded ops aA.tmps) = Region.wanted o (yielded ops aV.tmps) := by
  unfold Region.wanted
  cases hg : o.guard with
  | none => rfl
  | some g =>
    obtain ⟨j, b⟩ := g
    simp only
    have : yielded ops aA.tmps j = yielded ops aV.tmps j := by
      unfold yielded
      cases hd : (ops[j]?).bind (·.dst) with
      | none => rfl
      | some d =>
        have h1 := h d (List.mem_append_right _ (by rw [hg]; simp [hd]))
        simp only [Option.bind_some, getE_of hts h1]
    rw [this]

theorem put_other {a : Act} {d t : Nat} {v : Value} (h : t ≠ d) : (a.put (some d) v).tmps.getD t undef = a.tmps.getD t undef := by
  simp [Act.put, Array.getElem?_setIfInBounds_ne (Ne.symm h)]

theorem put_size {a : Act} {d : Option Nat} {v : Value} : (a.put d v).tmps.size = a.tmps.size := by cases d <;> simp [Act.put]

theorem put_self {a : Act} {d : Nat} {v : Value} (hd : d < a.tmps.size) : (a.put (some d) v).tmps.getD d undef = v := by rw [put_getD hd, if_pos rfl]

/-- what is still to come does not hang on what is written -/
def SafeJ (js : List Nat) (Ω Ω' : List OB) : List Nat → Prop
  | [] => True
  | j :: J => (hasN js j = false ∧ Ω'[j]? = Ω[j]?) ∧ SafeJ js Ω Ω' J
def Safe (pre : List Nat) (js : List Nat) (Ω Ω' : List OB) : List (Nat × List Nat) → Prop
  | [] => True
  | (p, J) :: r => (bif hasN pre p then True else SafeJ js Ω Ω' J) ∧ Safe pre js Ω Ω' r

theorem SafeJ.at {js : List Nat} {Ω Ω' : List OB} : ∀ {J : List Nat}, SafeJ js Ω Ω' J → ∀ j ∈ J, j ∉ js ∧ Ω'[j]? = Ω[j]?
  | [], _, j, hj => by simp at hj
  | k :: J, h, j, hj => by
    obtain ⟨⟨h1, h2⟩, h3⟩ := h
    rcases List.mem_cons.1 hj with e | e
    · subst e; exact ⟨fun h => (by rw [hasN_iff.2 h] at h1; cases h1), h2⟩
    · exact SafeJ.at h3 j e

theorem Safe.at {pre js : List Nat} {Ω Ω' : List OB} : ∀ {pend : List (Nat × List Nat)}, Safe pre js Ω Ω' pend → ∀ p J, (p, J) ∈ pend → p ∉ pre → ∀ j ∈ J, j ∉ js ∧ Ω'[j]? = Ω[j]?
  | [], _, p, J, h, _ => by simp at h
  | (q, J') :: r, hs, p, J, h, hp => by
    obtain ⟨h1, h2⟩ := hs
    rcases List.mem_cons.1 h with e | e
    · rw [show q = p from (congrArg Prod.fst e).symm, show J' = J from (congrArg Prod.snd e).symm] at h1
      have : hasN pre p = false := by cases hh : hasN pre p; rfl; exact absurd (hasN_iff.1 hh) hp
      rw [this] at h1
      exact SafeJ.at h1
    · exact Safe.at h2 p J e hp

def putΓ (Γ : List (Nat × RP)) (dst : Option Nat) (φ : RP) : List (Nat × RP) := match dst with | some d => (d, φ) :: Γ | none => Γ

theorem disj {q k : Nat} {o o' : OB} (hq : Ω[q]? = some o) (hk : Ω[k]? = some o') (hqk : q ≠ k) (hnd : (ow Ω).Nodup) {b : Nat} (h1 : b ∈ o.S) (h2 : b ∈ o'.S) : False := by
  have hk2 : (Ω.set q dead)[k]? = some o' := by rw [List.getElem?_set_ne hqk]; exact hk
  exact mem_ow_set (o' := dead) hq hnd h1 (by simp [dead]) (Sat.notin hk2 h2)

/-- a loud operation that only looks (an assignment) -/
theorem St.ofRd {op : Op} {ty : TypeId} {φ : RP} {J : List Nat} (h : Rd P E N op ty Γ Ω J φ) : St P E N op ty Γ Ω [] (fun _ : Unit => φ) (fun _ => Ω) := by
  intro a w hs o ho ht
  obtain ⟨v, B, hv, _, hrun⟩ := h a w hs
  rw [hrun w (fun _ _ => rfl) o ho ht]
  exact ⟨(), hs, hv, Nat.le_refl _, fun _ _ _ => rfl, fun _ _ h => h⟩

section
variable (hok : okDraw ops fl = true) {l lA : Array Bool} {aV aA : Act} {w : World} {pend : List (Nat × List Nat)}
include hok

/-- operands of an operation that is ready read the same in both states -/
theorem Cons.look (hc : Cons P ops fl l lA aV aA w Ω pend) {j : Nat} {oj : Oper} (hj : ops[j]? = some oj) (hr : ∀ e ∈ oj.after, Region.binds .any e = true → isL lA e.on) (hjA : ¬ isL lA j) :
    ∀ t, t ∈ oj.looksAt ops → aA.tmps.getD t undef = aV.tmps.getD t undef := fun t ht => hc.ag t fun i oi hi hd hl => by
  refine Classical.byContradiction fun hn => ?_
  rcases hc.pd i hl with h1 | ⟨hf, _⟩
  · exact hn h1
  · by_cases hij : i = j
    · subst hij
      have : oi = oj := by rw [hi] at hj; exact Option.some.inj hj
      subst this
      exact okDraw_self hok hi hf hd ht
    · obtain ⟨e, he, hb, heq⟩ := okDraw_fl hok hi hj hf hd hij (.inl ht)
      exact hn (heq ▸ hr e he hb)

/-- the real state comes to a float that was taken first -/
theorem Cons.catch (hc : Cons P ops fl l lA aV aA w Ω pend) {j : Nat} {oj : Oper} (hj : ops[j]? = some oj) (hr : ∀ e ∈ oj.after, Region.binds .any e = true → isL lA e.on) (hjA : ¬ isL lA j) (hjV : isL l j)
    {K : Act → World → Prop} {Q : Exit → Act → World → Prop} (hK : ∀ aA', Cons P ops fl l (lA.setIfInBounds j true) aV aA' w Ω pend → K aA' w) : wpOp P ops Q j K aA w := by
  have hlook := hc.look hok hj hr hjA
  rcases hc.pd j hjV with h1 | ⟨hf, J, hJ, o, d, ho, hd, hP⟩
  · exact absurd h1 hjA
  have : o = oj := by rw [hj] at ho; exact (Option.some.inj ho).symm
  subst this
  have hjs : j < lA.size := by rw [hc.s2]; exact (Array.getElem?_eq_some_iff.1 hj).1
  have hcons : ∀ v, v = aV.tmps.getD d undef → Cons P ops fl l (lA.setIfInBounds j true) aV (aA.put o.dst v) w Ω pend := fun v hv => by
    rw [hd]
    refine ⟨hc.s1, by simpa using hc.s2, fun i hi => ?_, fun i hi => ?_, hc.dc, by rw [put_size]; exact hc.ts, fun t ht => ?_, hc.df⟩
    · rcases (isL_set hjs).1 hi with e | e
      · rw [e]; exact hjV
      · exact hc.sub i e
    · exact (hc.pd i hi).imp (fun h => (isL_set hjs).2 (.inr h)) id
    · by_cases e : t = d
      · subst e
        by_cases hlt : t < aA.tmps.size
        · rw [put_self hlt, hv]
        · rw [hv]
          simp [Array.getD, put_size, hlt, hc.ts ▸ hlt]
      · rw [put_other e]
        refine hc.ag t fun i oi hi hdi hl => ?_
        rcases (isL_set hjs).1 (ht i oi hi hdi hl) with e2 | e2
        · exfalso
          rw [e2] at hi
          have : oi = o := by rw [hj] at hi; exact (Option.some.inj hi).symm
          rw [this, hd] at hdi
          exact e (Option.some.inj hdi).symm
        · exact e2
  unfold wpOp
  simp only [hj]
  rw [yield_same hc.ts hlook]
  rcases hP with ⟨hw, hu⟩ | ⟨hw, B, hB, hrun⟩
  · rw [if_neg (by simp [hw])]
    exact hK _ (hcons undef hu.symm)
  · rw [if_pos hw]
    refine .inl ?_
    unfold Oper.wp
    rw [eval_same (fun cs b => Region.noSelect_spec (okDraw_sel hok) j o cs b hj) hlook, hrun w fun _ _ => rfl]
    exact hK _ (hcons _ rfl)

/-- nothing is left in our order -/
theorem a_end (hl : ∀ i, i < ops.size → isL l i) (h : RefE E N .normal m Γ Ω K) : RefA P E N m ops fl l pend Γ Ω K := by
  intro r hr aV w hs lA aA hc
  generalize hn : cntF lA = n
  induction n generalizing lA aA with
  | zero =>
    have hall : ∀ i, i < ops.size → isL lA i := fun i hi => cntF_zero hn (by rw [hc.s2]; exact hi)
    have hrd : Region.ready .any ops lA = [] := List.eq_nil_iff_forall_not_mem.2 fun i hi => by
      obtain ⟨h1, o, ho, _⟩ := (ready_iff hc.s2).1 hi
      exact h1 (hall i (Array.getElem?_eq_some_iff.1 ho).1)
    have haa : aA = aV := by
      have ht : aA.tmps = aV.tmps := Array.ext hc.ts fun i h1 h2 => by
        have := hc.ag i fun j oj hj _ _ => hall j (Array.getElem?_eq_some_iff.1 hj).1
        simpa [Array.getD, h1, h2] using this
      cases aA; cases aV; simp at ht; simp [ht]; exact hc.df
    subst haa
    exact wpAny_done hrd (h r hr _ w hs) 0
  | succ n ih =>
    have hrd : Region.ready .any ops lA = [] → (K r) .normal aA w := fun h0 => by
      have hall := ready_nil hok hc.s2 h0
      have : cntF lA = 0 := by
        unfold cntF
        rw [List.length_eq_zero_iff, List.filter_eq_nil_iff]
        intro x hx
        obtain ⟨i, hi, rfl⟩ := List.getElem_of_mem hx
        have := hall i (by rw [← hc.s2]; simpa using hi)
        unfold isL at this
        simp at hi
        simp [Array.getD, hi] at this
        simp [this]
      omega
    refine ⟨hrd, fun j hj => ?_⟩
    obtain ⟨hjA, oj, hoj, hpre⟩ := (ready_iff hc.s2).1 hj
    have hjs : j < lA.size := by rw [hc.s2]; exact (Array.getElem?_eq_some_iff.1 hoj).1
    refine hc.catch hok hoj hpre hjA (hl j (Array.getElem?_eq_some_iff.1 hoj).1) fun aA' hc' => ?_
    exact ih _ _ hc' (by have := cntF_set hjs hjA; omega)

/-- a float is taken -/
theorem Cons.take (hc : Cons P ops fl l lA aV aA w Ω pend) {i : Nat} {o : Oper} {d : Nat} {v : Value} (hi : ops[i]? = some o) (hf : hasN fl i = true) (hd : o.dst = some d) (hpre : ∀ e ∈ o.after, Region.binds .any e = true → isL l e.on)
    (hil : ¬ isL l i) {J : List Nat} (hP : PendOk P ops (aV.put (some d) v) w Ω i J) : Cons P ops fl (l.setIfInBounds i true) lA (aV.put (some d) v) aA w Ω ((i, J) :: pend) := by
  have his : i < l.size := by rw [hc.s1]; exact (Array.getElem?_eq_some_iff.1 hi).1
  refine ⟨by simpa using hc.s1, hc.s2, fun j hj => (isL_set his).2 (.inr (hc.sub j hj)), fun j hj => ?_, fun j oj hj hoj e he hb => (isL_set his).2 ?_, by rw [put_size]; exact hc.ts, fun t ht => ?_, hc.df⟩
  · rcases (isL_set his).1 hj with e | hj
    · subst e; exact .inr ⟨hf, J, by simp, hP⟩
    · refine (hc.pd j hj).imp id fun ⟨h1, J', h2, o', d', ho', hd', h3⟩ => ⟨h1, J', List.mem_cons_of_mem _ h2, o', d', ho', hd', ?_⟩
      -- the older floats do not see what this one writes
      have hij : i ≠ j := fun e => hil (e ▸ hj)
      have hno : ∀ t, t ∈ o'.looksAt ops ∨ o'.dst = some t → t ≠ d := fun t ht e => by
        subst e
        obtain ⟨e, he, hb, heq⟩ := okDraw_fl hok hi ho' hf hd hij ht
        exact hil (heq ▸ hc.dc j o' hj ho' e he hb)
      have e1 : ∀ t, t ∈ o'.looksAt ops → (aV.put (some d) v).tmps.getD t undef = aV.tmps.getD t undef := fun t ht => put_other (hno t (.inl ht))
      have e2 := put_other (a := aV) (v := v) (hno d' (.inr hd'))
      have e3 : Region.wanted o' (yielded ops (aV.put (some d) v).tmps) = Region.wanted o' (yielded ops aV.tmps) := yield_same (ops := ops) put_size e1
      have e4 : execOp (aV.put (some d) v).eval o' = execOp aV.eval o' := eval_same (ops := ops) (fun cs b => Region.noSelect_spec (okDraw_sel hok) j o' cs b ho') e1
      rw [e2, e3, e4]; exact h3
  · rcases (isL_set his).1 hj with e2 | hj
    · subst e2
      have : oj = o := by rw [hi] at hoj; exact (Option.some.inj hoj).symm
      subst this
      exact .inr (hpre e he hb)
    · exact .inr (hc.dc j oj hj hoj e he hb)
  · have hne : t ≠ d := fun e => by
      subst e
      exact hil (hc.sub i (ht i o hi hd ((isL_set his).2 (.inl rfl))))
    rw [put_other hne]
    exact hc.ag t fun j oj hj hdj hl => ht j oj hj hdj ((isL_set his).2 (.inr hl))

theorem a_rd {i : Nat} {op : Op} {ty : TypeId} {pos : String} {aft : Array Edge} {d : Nat} {φ : RP} {J : List Nat} (hi : ops[i]? = some ⟨some d, op, ty, pos, aft, none⟩) (hrd : hasN (Region.ready .any ops l) i = true) (hf : hasN fl i = true)
    (hr : Rd P E N op ty Γ Ω J φ) (hd : Nat.blt d N = true) (h : RefA P E N m ops fl (l.setIfInBounds i true) ((i, J) :: pend) ((d, φ) :: Γ) Ω K) : RefA P E N m ops fl l pend Γ Ω K := by
  intro r hm aV w hs lA aA hc
  obtain ⟨hil, o, ho, hpre⟩ := (ready_iff hc.s1).1 (hasN_iff.1 hrd)
  rw [hi] at ho; cases ho
  have hlt : d < N := by simpa [Nat.blt_eq] using hd
  obtain ⟨v, B, hv, hB, hrun⟩ := hr aV w hs
  have hself : aV.put (some d) v = aV.put (some d) v := rfl
  have hlk : ∀ t, t ∈ (⟨some d, op, ty, pos, aft, none⟩ : Oper).looksAt ops → (aV.put (some d) v).tmps.getD t undef = aV.tmps.getD t undef := fun t ht => put_other fun e => okDraw_self hok hi hf (e ▸ rfl) ht
  refine h r hm _ w (hs.put hlt hv) lA aA (hc.take hok hi hf rfl hpre hil ⟨_, d, hi, rfl, .inr ⟨by simp [Region.wanted], B, hB, fun w' hw' => ?_⟩⟩)
  rw [eval_same (ops := ops) (fun cs b => Region.noSelect_spec (okDraw_sel hok) i _ cs b hi) hlk, put_self (by rw [hs.sz]; exact hlt)]
  exact hrun w' hw' _ rfl rfl

/-- a guarded float that is wanted -/
theorem a_rdOn {i : Nat} {op : Op} {ty : TypeId} {pos : String} {aft : Array Edge} {d g t : Nat} {b : Bool} {φ : RP} {J : List Nat} (hi : ops[i]? = some ⟨some d, op, ty, pos, aft, some (g, b)⟩)
    (hg : (ops[g]?).bind (·.dst) = some t) (ht : lk Γ t = some (bv b)) (hN : Nat.blt t N = true) (hrd : hasN (Region.ready .any ops l) i = true) (hf : hasN fl i = true)
    (hr : Rd P E N op ty Γ Ω J φ) (hd : Nat.blt d N = true) (h : RefA P E N m ops fl (l.setIfInBounds i true) ((i, J) :: pend) ((d, φ) :: Γ) Ω K) : RefA P E N m ops fl l pend Γ Ω K := by
  intro r hm aV w hs lA aA hc
  obtain ⟨hil, o, ho, hpre⟩ := (ready_iff hc.s1).1 (hasN_iff.1 hrd)
  rw [hi] at ho; cases ho
  have hlt : d < N := by simpa [Nat.blt_eq] using hd
  obtain ⟨v, B, hv, hB, hrun⟩ := hr aV w hs
  have hlk : ∀ t, t ∈ (⟨some d, op, ty, pos, aft, some (g, b)⟩ : Oper).looksAt ops → (aV.put (some d) v).tmps.getD t undef = aV.tmps.getD t undef := fun t ht => put_other fun e => okDraw_self hok hi hf (e ▸ rfl) ht
  have hw : Region.wanted ⟨some d, op, ty, pos, aft, some (g, b)⟩ (yielded ops aV.tmps) = true := by simp [Region.wanted, yielded_of hs hg ht hN]
  refine h r hm _ w (hs.put hlt hv) lA aA (hc.take hok hi hf rfl hpre hil ⟨_, d, hi, rfl, .inr ⟨?_, B, hB, fun w' hw' => ?_⟩⟩)
  · rw [yield_same (ops := ops) put_size hlk]; exact hw
  · rw [eval_same (ops := ops) (fun cs b => Region.noSelect_spec (okDraw_sel hok) i _ cs b hi) hlk, put_self (by rw [hs.sz]; exact hlt)]
    exact hrun w' hw' _ rfl rfl

/-- a guarded operation that is not wanted -/
theorem a_off {i : Nat} {op : Op} {ty : TypeId} {pos : String} {aft : Array Edge} {d g t : Nat} {b c : Bool} (hi : ops[i]? = some ⟨some d, op, ty, pos, aft, some (g, b)⟩)
    (hg : (ops[g]?).bind (·.dst) = some t) (ht : lk Γ t = some (bv c)) (hN : Nat.blt t N = true) (hbc : (c == b) = false) (hrd : hasN (Region.ready .any ops l) i = true) (hf : hasN fl i = true)
    (hd : Nat.blt d N = true) (h : RefA P E N m ops fl (l.setIfInBounds i true) ((i, []) :: pend) ((d, pv undef) :: Γ) Ω K) : RefA P E N m ops fl l pend Γ Ω K := by
  intro r hm aV w hs lA aA hc
  obtain ⟨hil, o, ho, hpre⟩ := (ready_iff hc.s1).1 (hasN_iff.1 hrd)
  rw [hi] at ho; cases ho
  have hlt : d < N := by simpa [Nat.blt_eq] using hd
  have hlk : ∀ t, t ∈ (⟨some d, op, ty, pos, aft, some (g, b)⟩ : Oper).looksAt ops → (aV.put (some d) undef).tmps.getD t undef = aV.tmps.getD t undef := fun t ht => put_other fun e => okDraw_self hok hi hf (e ▸ rfl) ht
  have hw : Region.wanted ⟨some d, op, ty, pos, aft, some (g, b)⟩ (yielded ops aV.tmps) = false := by
    simp [Region.wanted, yielded_of hs hg ht hN]; simpa using hbc
  refine h r hm _ w (hs.put (v := undef) hlt rfl) lA aA (hc.take hok hi hf rfl hpre hil ⟨_, d, hi, rfl, .inl ⟨?_, ?_⟩⟩)
  · rw [yield_same (ops := ops) put_size hlk]; exact hw
  · rw [put_self (by rw [hs.sz]; exact hlt)]

/-- what a loud operation leaves -/
def Loud (P : Program) (E : Env) (N : Nat) (m : Option R) (ops : Array Oper) (fl : List Nat) (l : Array Bool) (pend : List (Nat × List Nat)) (Γ : List (Nat × RP)) (Ω : List OB) (K : KT R) (i : Nat) : Prop :=
  RefB E N m Γ Ω fun r aV w => ∀ lA aA, Cons P ops fl l lA aV aA w Ω pend → ¬ isL lA i → i ∈ Region.ready .any ops lA → wpOp P ops (K r) i (wpAny P .any ops (K r) (cntF (lA.setIfInBounds i true)) (lA.setIfInBounds i true)) aA w

/-- all that may come next, if no float is left -/
theorem a_all {rs : List Nat} (hrs : Region.ready .any ops l = rs) (hne : rs ≠ []) (h : ∀ i ∈ rs, Loud P E N m ops fl l pend Γ Ω K i) : RefA P E N m ops fl l pend Γ Ω K := by
  intro r hr aV w hs lA aA hc
  generalize hn : cntF lA = n
  induction n generalizing lA aA with
  | zero =>
    exfalso
    obtain ⟨i, hi⟩ := List.exists_mem_of_ne_nil rs hne
    rw [← hrs] at hi
    obtain ⟨h1, o, ho, _⟩ := (ready_iff hc.s1).1 hi
    exact h1 (hc.sub i (cntF_zero hn (by rw [hc.s2]; exact (Array.getElem?_eq_some_iff.1 ho).1)))
  | succ n ih =>
    refine ⟨fun h0 => ?_, fun j hj => ?_⟩
    · exfalso
      obtain ⟨i, hi⟩ := List.exists_mem_of_ne_nil rs hne
      rw [← hrs] at hi
      obtain ⟨h1, o, ho, _⟩ := (ready_iff hc.s1).1 hi
      exact h1 (hc.sub i (ready_nil hok hc.s2 h0 i (Array.getElem?_eq_some_iff.1 ho).1))
    · obtain ⟨hjA, oj, hoj, hpre⟩ := (ready_iff hc.s2).1 hj
      have hjs : j < lA.size := by rw [hc.s2]; exact (Array.getElem?_eq_some_iff.1 hoj).1
      have hcnt := cntF_set hjs hjA
      by_cases hjV : isL l j
      · exact hc.catch hok hoj hpre hjA hjV fun aA' hc' => ih _ _ hc' (by omega)
      · have hjr : j ∈ rs := hrs ▸ (ready_iff hc.s1).2 ⟨hjV, oj, hoj, fun e he hb => hc.sub _ (hpre e he hb)⟩
        have h1 := h j hjr r hr aV w hs lA aA hc hjA hj
        rwa [show cntF (lA.setIfInBounds j true) = n from by omega] at h1

theorem a_loud {X : Type} {i : Nat} {op : Op} {ty : TypeId} {pos : String} {aft : Array Edge} {gd : Option (Nat × Bool)} {dst : Option Nat} {js : List Nat} {φ : X → RP} {Ω' : X → List OB} (hi : ops[i]? = some ⟨dst, op, ty, pos, aft, gd⟩)
    (hf : hasN fl i = false)
    (hr : ∀ a w, Sat E N Γ Ω a w → (Region.wanted ⟨dst, op, ty, pos, aft, gd⟩ (yielded ops a.tmps) = true ∧ opwp P op ty a.eval w fun v w' => ∃ x, Sat E N Γ (Ω' x) a w' ∧ (φ x).h (fr E (Ω' x)) w' v ∧ Eff Ω (Ω' x) js w w') ∨
      (Region.wanted ⟨dst, op, ty, pos, aft, gd⟩ (yielded ops a.tmps) = false ∧ ∃ x, Sat E N Γ (Ω' x) a w ∧ (φ x).h (fr E (Ω' x)) w undef ∧ Eff Ω (Ω' x) js w w))
    (hd : ∀ d, dst = some d → Nat.blt d N = true)
    (hsafe : ∀ x, Safe (predsOf ⟨dst, op, ty, pos, aft, gd⟩) js Ω (Ω' x) pend)
    (h : ∀ x, RefA P E N m ops fl (l.setIfInBounds i true) pend (putΓ Γ dst (φ x)) (Ω' x) K) : Loud P E N m ops fl l pend Γ Ω K i := by
  intro r hm aV w hs lA aA hc hiA hiR
  obtain ⟨_, o, ho, hpre⟩ := (ready_iff hc.s2).1 hiR
  rw [hi] at ho; cases ho
  have hlook := hc.look hok hi hpre hiA
  have hiN : i < ops.size := (Array.getElem?_eq_some_iff.1 hi).1
  have his : i < l.size := by rw [hc.s1]; exact hiN
  have hisA : i < lA.size := by rw [hc.s2]; exact hiN
  have hdN : ∀ d, dst = some d → d < N := fun d h => by simpa [Nat.blt_eq] using hd d h
  have key : ∀ v w', (∃ x, Sat E N Γ (Ω' x) aV w' ∧ (φ x).h (fr E (Ω' x)) w' v ∧ Eff Ω (Ω' x) js w w') →
      wpAny P .any ops (K r) (cntF (lA.setIfInBounds i true)) (lA.setIfInBounds i true) (aA.put dst v) w' := ?key
  · unfold wpOp
    simp only [hi]
    rw [yield_same (ops := ops) hc.ts hlook]
    rcases hr aV w hs with ⟨hw, hrr⟩ | ⟨hw, hrr⟩
    · rw [if_pos hw]
      refine .inl ?_
      unfold Oper.wp
      rw [eval_same (ops := ops) (fun cs b => Region.noSelect_spec (okDraw_sel hok) i _ cs b hi) hlook]
      exact resW.upon key (hrr _ rfl rfl)
    · rw [if_neg (by simp [hw])]
      exact key _ _ hrr
  rintro v w' ⟨x, hs', hv, heff⟩
  have hsz := heff.size
  have hsat : Sat E N (putΓ Γ dst (φ x)) (Ω' x) (aV.put dst v) w' := by
    unfold putΓ
    split
    · rename_i d; exact hs'.put (hdN d rfl) hv
    · exact hs'
  refine h x r hm _ w' hsat _ _ ?_
  refine ⟨by simpa using hc.s1, by simpa using hc.s2, fun j hj => (isL_set his).2 (((isL_set hisA).1 hj).imp id (hc.sub j)), fun j hj => ?_, fun j oj hj hoj e he hb => (isL_set his).2 ?_,
    by rw [put_size, put_size]; exact hc.ts, fun t ht => ?_, by cases dst <;> exact hc.df⟩
  · rcases (isL_set his).1 hj with e | hj
    · exact .inl ((isL_set hisA).2 (.inl e))
    · by_cases hjA : isL lA j
      · exact .inl ((isL_set hisA).2 (.inr hjA))
      · rcases hc.pd j hj with h2 | ⟨hjf, J, hJ, o', d', ho', hd', h3⟩
        · exact absurd h2 hjA
        · refine .inr ⟨hjf, J, hJ, o', d', ho', hd', ?_⟩
          have hij : j ≠ i := fun e => by rw [e, hf] at hjf; cases hjf
          -- the float j does not look at what i writes, nor write it
          have hno : ∀ t, t ∈ o'.looksAt ops ∨ o'.dst = some t → dst ≠ some t := fun t ht e => by
            rcases okDraw_any hok hi ho' e (Ne.symm hij) ht with ⟨e2, he, hb, heq⟩ | ⟨e2, he, hb, heq⟩
            · have := hc.dc j o' hj ho' e2 he hb
              rw [heq] at this
              rcases hc.pd i this with h4 | ⟨h4, _⟩
              · exact hiA h4
              · rw [h4] at hf; cases hf
            · exact hjA (heq ▸ hpre e2 he hb)
          have e0 : ∀ t, dst ≠ some t → (aV.put dst v).tmps.getD t undef = aV.tmps.getD t undef := fun t ht => by
            cases dst with
            | none => rfl
            | some d => exact put_other fun e => ht (by rw [e])
          have e1 : ∀ t, t ∈ o'.looksAt ops → (aV.put dst v).tmps.getD t undef = aV.tmps.getD t undef := fun t ht => e0 t (hno t (.inl ht))
          rw [e0 d' (hno d' (.inr hd')), yield_same (ops := ops) put_size e1, eval_same (ops := ops) (fun cs b => Region.noSelect_spec (okDraw_sel hok) j o' cs b ho') e1]
          have hnp : j ∉ predsOf ⟨dst, op, ty, pos, aft, gd⟩ := fun hp => by
            obtain ⟨e2, he, heq⟩ := List.mem_map.1 hp
            obtain ⟨he1, he2⟩ := List.mem_filter.1 he
            exact hjA (heq ▸ hpre e2 (Array.mem_toList_iff.1 he1) he2)
          have hJs := Safe.at (hsafe x) j J hJ hnp
          refine h3.imp id fun ⟨hw, B, hB, hrun⟩ => ⟨hw, B, fun b hb => ?_, fun w'' hw'' => hrun w'' fun b hb => ?_⟩
          · obtain ⟨hbl, hbo⟩ := hB b hb
            exact ⟨by omega, hbo.elim (fun h => .inl fun hm => h (heff.own b hbl hm)) fun ⟨k, hk, ob, hob, hbS⟩ => .inr ⟨k, hk, ob, by rw [(hJs k hk).2]; exact hob, hbS⟩⟩
          · obtain ⟨hbl, hbo⟩ := hB b hb
            rw [hw'' b hb]
            refine heff.keep b hbl fun k hk ob hob hbS => ?_
            rcases hbo with h5 | ⟨q, hq, ob', hob', hbS'⟩
            · exact h5 (Sat.notin hob hbS)
            · exact disj hob' hob (fun e => (hJs q hq).1 (e ▸ hk)) hs.nd hbS' hbS
  · rcases (isL_set his).1 hj with e2 | hj
    · subst e2
      rw [hi] at hoj; cases hoj
      exact .inr (hc.sub _ (hpre e he hb))
    · exact .inr (hc.dc j oj hj hoj e he hb)
  · cases dst with
    | none =>
      refine hc.ag t fun j oj hj hdj hl => ?_
      rcases (isL_set hisA).1 (ht j oj hj hdj ((isL_set his).2 (.inr hl))) with e | e
      · subst e; rw [hi] at hj; cases hj; cases hdj
      · exact e
    | some d =>
      by_cases e : t = d
      · subst e
        have hlt : t < aV.tmps.size := by rw [hs.sz]; exact hdN t rfl
        rw [put_self hlt, put_self (by rw [hc.ts]; exact hlt)]
      · rw [put_other e, put_other e]
        refine hc.ag t fun j oj hj hdj hl => ?_
        rcases (isL_set hisA).1 (ht j oj hj hdj ((isL_set his).2 (.inr hl))) with e2 | e2
        · subst e2; rw [hi] at hj; cases hj; exact absurd (Option.some.inj hdj).symm e
        · exact e2

theorem a_st {X : Type} {i : Nat} {op : Op} {ty : TypeId} {pos : String} {aft : Array Edge} {dst : Option Nat} {js : List Nat} {φ : X → RP} {Ω' : X → List OB} (hi : ops[i]? = some ⟨dst, op, ty, pos, aft, none⟩)
    (hf : hasN fl i = false) (hr : St P E N op ty Γ Ω js φ Ω') (hd : ∀ d, dst = some d → Nat.blt d N = true)
    (hsafe : ∀ x, Safe (predsOf ⟨dst, op, ty, pos, aft, none⟩) js Ω (Ω' x) pend)
    (h : ∀ x, RefA P E N m ops fl (l.setIfInBounds i true) pend (putΓ Γ dst (φ x)) (Ω' x) K) : Loud P E N m ops fl l pend Γ Ω K i :=
  a_loud hok hi hf (fun a w hs => .inl ⟨by simp [Region.wanted], hr a w hs⟩) hd hsafe h

/-- a loud operation under a guard that is not met -/
theorem a_stOff {i g t : Nat} {b c : Bool} {op : Op} {ty : TypeId} {pos : String} {aft : Array Edge} {dst : Option Nat} (hi : ops[i]? = some ⟨dst, op, ty, pos, aft, some (g, b)⟩)
    (hg : (ops[g]?).bind (·.dst) = some t) (ht : lk Γ t = some (bv c)) (hN : Nat.blt t N = true) (hbc : (c == b) = false)
    (hf : hasN fl i = false) (hd : ∀ d, dst = some d → Nat.blt d N = true)
    (hsafe : Safe (predsOf ⟨dst, op, ty, pos, aft, some (g, b)⟩) [] Ω Ω pend)
    (h : RefA P E N m ops fl (l.setIfInBounds i true) pend (putΓ Γ dst (pv undef)) Ω K) : Loud P E N m ops fl l pend Γ Ω K i :=
  a_loud (X := Unit) (js := []) (φ := fun _ => pv undef) (Ω' := fun _ => Ω) hok hi hf
    (fun a w hs => .inr ⟨by simp [Region.wanted, yielded_of hs hg ht hN]; simpa using hbc, (), hs, rfl, Nat.le_refl _, fun _ _ _ => rfl, fun _ _ h => h⟩) hd (fun _ => hsafe) (fun _ => h)
end

def LoudAll (P : Program) (E : Env) (N : Nat) (m : Option R) (ops : Array Oper) (fl : List Nat) (l : Array Bool) (pend : List (Nat × List Nat)) (Γ : List (Nat × RP)) (Ω : List OB) (K : KT R) : List Nat → Prop
  | [] => True
  | i :: is => Loud P E N m ops fl l pend Γ Ω K i ∧ LoudAll P E N m ops fl l pend Γ Ω K is

theorem a_next (hok : okDraw ops fl = true) {l : Array Bool} {pend : List (Nat × List Nat)} (i : Nat) (is : List Nat) (hrs : Region.ready .any ops l = i :: is) (h1 : Loud P E N m ops fl l pend Γ Ω K i)
    (h2 : LoudAll P E N m ops fl l pend Γ Ω K is) : RefA P E N m ops fl l pend Γ Ω K := a_all hok hrs (by simp) fun j hj => by
  rcases List.mem_cons.1 hj with e | e
  · rw [e]; exact h1
  · clear hj hrs
    induction is with
    | nil => simp at e
    | cons k is ih =>
      rcases List.mem_cons.1 e with e2 | e2
      · rw [e2]; exact h2.1
      · exact ih h2.2 e2

def allIn : Nat → Array Bool → Bool
  | 0, _ => true
  | n + 1, l => l.getD n false && allIn n l
theorem allIn_iff {l : Array Bool} : ∀ {n : Nat}, allIn n l = true → ∀ i, i < n → isL l i
  | 0, _, i, h => by omega
  | n + 1, h, i, hi => by
    simp only [allIn, Bool.and_eq_true] at h
    by_cases e : i = n
    · rw [e]; exact h.1
    · exact allIn_iff h.2 i (by omega)

theorem a_fin (hok : okDraw ops fl = true) {l : Array Bool} {pend : List (Nat × List Nat)} (hl : allIn ops.size l = true) (h : RefE E N .normal m Γ Ω K) : RefA P E N m ops fl l pend Γ Ω K :=
  a_end hok (allIn_iff hl) h

/-- a region whose order is drawn -/
theorem ref_draw {id : Nat} {lo : List Oper} (fl : List Nat) (hm : P.follows .mixedOrders = true) (hok : okDraw lo.toArray fl = true)
    (h : okDraw lo.toArray fl = true → RefA P E N m lo.toArray fl (Array.replicate lo.length false) [] Γ Ω K) : Ref P E N m (.region id lo.toArray true) Γ Ω K := by
  intro r hr a w hs
  refine wp_region_any hm ?_
  have hs' : Sat E N Γ Ω a { w with drawn := w.drawn + 1 } := hs.ext ⟨rfl, rfl, rfl, by first | exact fun _ => Nat.le_refl _ | exact fun _ => Nat.le_add_right _ _⟩ (Nat.le_refl _) fun _ _ => rfl
  have hno : ∀ i, ¬ isL (Array.replicate lo.length false) i := fun i hi => by
    unfold isL at hi
    by_cases hlt : i < lo.length
    · simp [Array.getD, hlt] at hi
    · simp [Array.getD, hlt] at hi
  have := h hok r hr a _ hs' (Array.replicate lo.length false) a ⟨by simp, by simp, fun _ hi => hi, fun i hi => absurd hi (hno i), fun i o hi => absurd hi (hno i), rfl, fun _ _ => rfl, rfl⟩
  have hc : cntF (Array.replicate lo.length false) = lo.length := by simp [cntF]
  rw [hc] at this
  simpa using this
end Go.Dc

/-! Calls that change objects of ours; calls that look at owned slices. -/
namespace Go.Dc
variable [DrawMode]

variable {P : Program} {E : Env} {N : Nat} {Γ : List (Nat × RP)} {Ω : List OB} {ty : TypeId}

/-- the objects js of Ω -/
def Picks : List OB → List Nat → List OB → Prop
  | _, [], [] => True
  | Ω, j :: js, o :: os => Ω[j]? = some o ∧ Picks (Ω.set j dead) js os
  | _, _, _ => False
def delL : List OB → List Nat → List OB
  | Ω, [] => Ω
  | Ω, j :: js => delL (Ω.set j dead) js
def putL : List OB → List Nat → List OB → List OB
  | Ω, j :: js, o :: os => putL (Ω.set j o) js os
  | Ω, _, _ => Ω
def Puts : List OB → List Nat → List OB → Prop
  | _, [], [] => True
  | Ω, j :: js, o :: os => Ω[j]? = some dead ∧ Puts (Ω.set j o) js os
  | _, _, _ => False

theorem ow_perm {j : Nat} {o o' : OB} (hj : Ω[j]? = some o) : (ow Ω ++ o'.S).Perm (ow (Ω.set j o') ++ o.S) := by
  obtain ⟨A, B, rfl, rfl⟩ := ow_split hj
  rw [set_split, ow_mid, ow_mid]
  refine List.perm_iff_count.2 fun x => ?_
  simp only [List.count_append]; omega

theorem Picks.perm : ∀ {js : List Nat} {Ω os : List OB}, Picks Ω js os → (ow Ω).Perm (ow (delL Ω js) ++ ow os)
  | [], Ω, [], _ => by simp [delL, ow]
  | j :: js, Ω, o :: os, ⟨h1, h2⟩ => by
    have e1 := ow_perm (o' := dead) h1
    simp only [dead, List.append_nil] at e1
    refine e1.trans ?_
    have e2 := h2.perm
    rw [show ow (o :: os) = o.S ++ ow os from by simp [ow]]
    refine (e2.append_right _).trans ?_
    simp only [delL]
    refine List.perm_iff_count.2 fun x => ?_
    simp only [List.count_append]; omega
  | [], _, _ :: _, h => h.elim
  | _ :: _, _, [], h => h.elim

theorem Puts.perm : ∀ {js : List Nat} {Ω os : List OB}, Puts Ω js os → (ow (putL Ω js os)).Perm (ow Ω ++ ow os)
  | [], Ω, [], _ => by simp [putL, ow]
  | j :: js, Ω, o :: os, ⟨h1, h2⟩ => by
    have e1 := ow_perm (o' := o) h1
    simp only [dead, List.append_nil] at e1
    have e2 := h2.perm
    rw [show ow (o :: os) = o.S ++ ow os from by simp [ow]]
    simp only [putL]
    refine e2.trans ?_
    refine List.perm_iff_count.2 fun x => ?_
    have e3 := e1.count_eq x
    simp only [List.count_append] at e3 ⊢; omega
  | [], _, _ :: _, h => h.elim
  | _ :: _, _, [], h => h.elim

theorem Picks.mem : ∀ {js : List Nat} {Ω os : List OB}, Picks Ω js os → ∀ b ∈ ow os, ∃ j ∈ js, ∃ ob, Ω[j]? = some ob ∧ b ∈ ob.S
  | [], Ω, [], _, b, hb => by simp [ow] at hb
  | j :: js, Ω, o :: os, ⟨h1, h2⟩, b, hb => by
    rw [show ow (o :: os) = o.S ++ ow os from by simp [ow], List.mem_append] at hb
    rcases hb with hb | hb
    · exact ⟨j, by simp, o, h1, hb⟩
    · obtain ⟨k, hk, ob, hob, hbS⟩ := h2.mem b hb
      by_cases e : j = k
      · subst e
        rw [List.getElem?_set_self ((List.getElem?_eq_some_iff.1 h1).1)] at hob
        cases hob
        simp [dead] at hbS
      · rw [List.getElem?_set_ne e] at hob
        exact ⟨k, List.mem_cons_of_mem _ hk, ob, hob, hbS⟩
  | [], _, _ :: _, h, _, _ => h.elim
  | _ :: _, _, [], h, _, _ => h.elim

theorem Picks.os : ∀ {js : List Nat} {Ω os : List OB}, Picks Ω js os → ∀ o ∈ os, o ∈ Ω ∨ o = dead
  | [], Ω, [], _, o, ho => by simp at ho
  | j :: js, Ω, o' :: os, ⟨h1, h2⟩, o, ho => by
    rcases List.mem_cons.1 ho with e | e
    · exact .inl (e ▸ List.mem_of_getElem? h1)
    · rcases h2.os o e with h3 | h3
      · rcases List.mem_or_eq_of_mem_set h3 with h4 | h4
        · exact .inl h4
        · exact .inr h4
      · exact .inr h3
  | [], _, _ :: _, h, _, _ => h.elim
  | _ :: _, _, [], h, _, _ => h.elim

theorem delL_mem : ∀ {js : List Nat} {Ω : List OB} {o : OB}, o ∈ delL Ω js → o ∈ Ω ∨ o = dead
  | [], _, _, h => .inl h
  | j :: js, Ω, o, h => by
    rcases delL_mem (js := js) h with h1 | h1
    · exact List.mem_or_eq_of_mem_set h1
    · exact .inr h1

theorem putL_mem : ∀ {js : List Nat} {Ω os : List OB} {o : OB}, o ∈ putL Ω js os → o ∈ Ω ∨ o ∈ os
  | [], _, _, _, h => by simp only [putL] at h; exact .inl h
  | _ :: _, _, [], _, h => by simp only [putL] at h; exact .inl h
  | j :: js, Ω, o' :: os, o, h => by
    simp only [putL] at h
    rcases putL_mem h with h1 | h1
    · rcases List.mem_or_eq_of_mem_set h1 with h2 | h2
      · exact .inl h2
      · exact .inr (by simp [h2])
    · exact .inr (List.mem_cons_of_mem _ h1)

theorem capsOk {F : List OB → Env → FP} {args : List Operand} {caps : List Value} {φs : List RP} {a : Act} {w : World} (hs : Sat E N Γ Ω a w)
    (ha : ArgsOk E N Γ Ω F (args ++ caps.map .const) φs) : AllP (F Ω E) w φs (args.map a.eval ++ caps) := by
  have h := ha.all hs
  have e : (args ++ caps.map Operand.const).map a.eval = args.map a.eval ++ caps := by
    rw [List.map_append, List.map_map]
    congr 1
    exact List.map_id'' (fun _ => rfl) caps
  rw [e] at h; exact h

/-- a call that is handed the objects js -/
theorem s_callO {X : Type} {f : FuncId} {x : Operand} {args : List Operand} {caps : List Value} {ats : Array TypeId} {φs : List RP} {js : List Nat} {Ω0 : List OB} {res : X → List RP} {Ω1 os ex : X → List OB} {ψ : X → RP}
    (hcall : ∀ args w, (callFunc f args).run P w = .ok (.enter f args) w) (hx : lkO Γ x = some (pv (.func (.func f) #[] caps.toArray)))
    (hf : FnOk P f φs Ω0 res Ω1) (hpick : Picks Ω js Ω0) (hex : ∀ x, Ω1 x = os x ++ ex x) (hput : ∀ x, Puts (delL Ω js) js (os x)) (ha : ArgsOk E N Γ Ω frF (args ++ caps.map .const) φs)
    (hψ : ∀ x F w v, resH F w (res x) v → (ψ x).h F w v) :
    St P E N (.call ⟨.value x, args.toArray, ats⟩) ty Γ Ω js ψ (fun x => putL (delL Ω js) js (os x) ++ ex x) := by
  intro a w hs o ho ht
  rw [run_call hcall (show _ = _ from hs.op hx) o ho]
  simp only [resW, List.append_toArray]
  have hperm := hpick.perm
  have hnd := (hperm.nodup_iff).1 hs.nd
  obtain ⟨nR, n0, d0⟩ := List.nodup_append.1 hnd
  have hmem : ∀ b, b ∈ ow Ω ↔ b ∈ ow (delL Ω js) ∨ b ∈ ow Ω0 := fun b => by rw [hperm.mem_iff, List.mem_append]
  have hF0 : ∀ b, ((E.Fr b ∧ b ∉ ow (delL Ω js)) ∧ b ∉ ow Ω0) ↔ fr E Ω b := fun b => by
    unfold fr; rw [hmem b]; constructor
    · rintro ⟨⟨h1, h2⟩, h3⟩; exact ⟨h1, fun h => h.elim h2 h3⟩
    · rintro ⟨h1, h2⟩; exact ⟨⟨h1, fun h => h2 (.inl h)⟩, fun h => h2 (.inr h)⟩
  refine (hf (fun b => E.Fr b ∧ b ∉ ow (delL Ω js)) w (args.map a.eval ++ caps) ?_ (fun b hb => ⟨hs.mine ((hmem b).2 (.inr hb)), fun h => d0 b h b hb rfl⟩) (fun b hb => (hs.bd b ((hmem b).2 (.inr hb))).1) n0 ?_ ?_ (hs.tb.mono fun b _ hb => ⟨(hF0 b).2 hb, rfl⟩)).mono ?_
  · exact fun b hb => ⟨hs.fs b (Nat.le_trans hs.kp.size hb), fun hm => by have := (hs.bd b ((hmem b).2 (.inl hm))).1; omega⟩
  · intro o ho
    rcases hpick.os o ho with h1 | h1
    · exact o.mono (.refl fun b _ hb => (hF0 b).2 hb) (fun _ _ => rfl) (hs.ob o h1)
    · rw [h1]; trivial
  · exact (capsOk hs ha).mono (.refl fun b _ hb => (hF0 b).2 hb)
  · rintro e w' ⟨x, v, rfl, hk, hbd, hnd1, hob, hres⟩
    have how : (ow (putL (delL Ω js) js (os x) ++ ex x)).Perm (ow (delL Ω js) ++ ow (Ω1 x)) := by
      rw [hex x, ow_append, ow_append, ← List.append_assoc]
      exact (hput x).perm.append_right _
    have hmem' : ∀ b, b ∈ ow (putL (delL Ω js) js (os x) ++ ex x) ↔ b ∈ ow (delL Ω js) ∨ b ∈ ow (Ω1 x) := fun b => by rw [how.mem_iff, List.mem_append]
    have hF1 : ∀ b, ((E.Fr b ∧ b ∉ ow (delL Ω js)) ∧ b ∉ ow (Ω1 x)) → fr E (putL (delL Ω js) js (os x) ++ ex x) b := fun b ⟨⟨h1, h2⟩, h3⟩ =>
      ⟨h1, fun h => ((hmem' b).1 h).elim h2 h3⟩
    have hblk : ∀ b, b < w.heap.size → b ∉ ow Ω0 → w'.heap[b]? = w.heap[b]? := fun b hb h => hk.blk b hb h
    refine ⟨v, rfl, x, ?_, (ψ x).mono (.refl fun b _ => hF1 b) (hψ x _ _ _ hres), hk.size, ?_, ?_⟩
    · refine hs.world ⟨hk.os, hk.tape, hk.output, hk.drawn⟩ hk.size (fun b hb hn => hblk b hb fun h => hn ((hmem b).2 (.inr h))) ?_ ?_ ?_
      · intro b hb
        rcases (hmem' b).1 hb with h1 | h1
        · exact .inl ((hmem b).2 (.inl h1))
        · obtain ⟨h2, h3⟩ := hbd b h1
          rcases h3 with h3 | h3
          · exact .inr ⟨h3, h2⟩
          · exact .inl ((hmem b).2 (.inr h3))
      · refine (how.nodup_iff).2 (List.nodup_append.2 ⟨nR, hnd1, fun p hp q hq e => ?_⟩)
        subst e
        obtain ⟨h2, h3⟩ := hbd p hq
        rcases h3 with h3 | h3
        · have := (hs.bd p ((hmem p).2 (.inl hp))).1; omega
        · exact d0 p hp p h3 rfl
      · have old : ∀ o, o ∈ Ω → (∀ b ∈ o.S, b ∈ ow (delL Ω js)) → o.h (fr E (putL (delL Ω js) js (os x) ++ ex x)) w' := fun o ho hS =>
          o.mono ⟨fun b hb hf => hF1 b ⟨((hF0 b).2 hf).1, fun h => by
            obtain ⟨_, h3⟩ := hbd b h
            rcases h3 with h3 | h3
            · omega
            · exact ((hF0 b).2 hf).2 h3⟩, fun b hb hf => hblk b hb ((hF0 b).2 hf).2⟩ (fun b hb => hblk b (hs.bd b (List.mem_flatMap.2 ⟨o, ho, hb⟩)).1 fun h => d0 b (hS b hb) b h rfl) (hs.ob o ho)
        intro o ho
        have new : ∀ o, o ∈ Ω1 x → o.h (fr E (putL (delL Ω js) js (os x) ++ ex x)) w' := fun o ho => o.mono (.refl fun b _ => hF1 b) (fun _ _ => rfl) (hob o ho)
        rcases List.mem_append.1 ho with ho | ho
        · rcases putL_mem ho with h1 | h1
          · rcases delL_mem h1 with h2 | h2
            · exact old o h2 fun b hb => List.mem_flatMap.2 ⟨o, h1, hb⟩
            · rw [h2]; trivial
          · exact new o (by rw [hex x]; exact List.mem_append_left _ h1)
        · exact new o (by rw [hex x]; exact List.mem_append_right _ ho)
    · exact fun b hb hn => hblk b hb fun h => by
        obtain ⟨j, hj, ob, hob, hbS⟩ := hpick.mem b h
        exact hn j hj ob hob hbS
    · intro b hb hm
      rcases (hmem' b).1 hm with h1 | h1
      · exact (hmem b).2 (.inl h1)
      · obtain ⟨_, h3⟩ := hbd b h1
        rcases h3 with h3 | h3
        · omega
        · exact (hmem b).2 (.inr h3)

/-! ### arguments that are only looked at -/
def allF (_ : List OB) (_ : Env) : FP := fun _ => True

end Go.Dc

/-! What the printed proofs use. -/
namespace Go.Dc
variable [DrawMode]

variable {R S : Type} {P : Program} {E : Env} {N : Nat} {Γ Γ' : List (Nat × RP)} {Ω Ω' : List OB} {K : KT R} {m : Option R} {ops : Array Oper}

theorem pnone {Φ : R → Prop} : RefG (none : Option R) Φ := fun _ h => by cases h

theorem Sat.pick {a : Act} {w : World} {is : List Nat} (hs : Sat E N Γ Ω a w) (h : Picks Ω is Ω') : Sat E N Γ Ω' a w := by
  have hperm := h.perm
  have hmem : ∀ b, b ∈ ow Ω' → b ∈ ow Ω := fun b hb => hperm.mem_iff.2 (List.mem_append_right _ hb)
  have hnd := (List.nodup_append.1 ((hperm.nodup_iff).1 hs.nd)).2.1
  have hf : ∀ b, b < w.heap.size → fr E Ω b → fr E Ω' b := fun _ _ ⟨h1, h2⟩ => ⟨h1, fun hb => h2 (hmem _ hb)⟩
  refine ⟨hs.sz, hs.df, fun t φ ht => φ.mono (.refl hf) (hs.sl t φ ht), fun o ho => ?_, hnd, fun b hb => hs.bd b (hmem b hb), hs.kp, hs.fs⟩
  rcases h.os o ho with h1 | h1
  · exact o.mono (.refl hf) (fun _ _ => rfl) (hs.ob o h1)
  · rw [h1]; trivial

/-- what is known is weakened to Γ', and the objects `is` are kept -/
theorem weak (is : List Nat) (hΓ : SubΓ Γ Γ') (hΩ : Picks Ω is Ω') : ∀ a w, Sat E N Γ Ω a w → Sat E N Γ' Ω' a w := fun _ _ hs => (hs.weak hΓ.lk).pick hΩ

/-! ### joins -/
theorem ref_join {X : Type} {c : Code} {f : S → Option R} {g : (S → Option R) → Option R} (Γj : S → X → List (Nat × RP)) (Ωj : S → X → List OB)
    (h : ∀ k : S → Option R, (∀ s x, RefE E N .normal (k s) (Γj s x) (Ωj s x) K) → Ref P E N (g k) c Γ Ω K)
    (hB : ∀ s x, RefE E N .normal (f s) (Γj s x) (Ωj s x) K) : Ref P E N (joinM f g) c Γ Ω K := h f hB

/-! ### loops in a block -/
section
variable {σ A B X Y : Type}
def loopBK (E : Env) (N : Nat) (id : Nat) (Γl : σ → X → List (Nat × RP)) (Ωl : σ → X → List OB) (Γb : B → Y → List (Nat × RP)) (Ωb : B → Y → List OB) : KT (Sum B σ) :=
  fun o e a w => match o with
    | .inr s' => e = .normal ∧ ∃ x', Sat E N (Γl s' x') (Ωl s' x') a w
    | .inl q => e = .exit id ∧ ∃ y, Sat E N (Γb q y) (Ωb q y) a w

def sumK (kr : A → Option R) (kb : B → Option R) : Sum A B → Option R
  | .inl a => kr a
  | .inr b => kb b

def loopXK (E : Env) (N : Nat) (id : Nat) (Γl : σ → X → List (Nat × RP)) (Ωl : σ → X → List OB) (Γb : B → Y → List (Nat × RP)) (Ωb : B → Y → List OB) (kr : A → Option R) (K : KT R) : KT (Sum (Sum A B) σ) :=
  fun o e a w => match o with
    | .inr s' => e = .normal ∧ ∃ x', Sat E N (Γl s' x') (Ωl s' x') a w
    | .inl (.inr q) => e = .exit id ∧ ∃ y, Sat E N (Γb q y) (Ωb q y) a w
    | .inl (.inl q) => e ≠ .normal ∧ ∀ r, kr q = some r → blockK id K r e a w

variable {id : Nat} {body : Code} {Γl : σ → X → List (Nat × RP)} {Ωl : σ → X → List OB} {Γb : B → Y → List (Nat × RP)} {Ωb : B → Y → List OB} {k : B → Option R} {kr : A → Option R}

theorem ref_loopX {f : σ → Option (Sum (Sum A B) σ)} (s0 : σ) (x0 : X) (h0 : ∀ a w, Sat E N Γ Ω a w → Sat E N (Γl s0 x0) (Ωl s0 x0) a w)
    (round : ∀ s x, Ref P E N (f s) body (Γl s x) (Ωl s x) (loopXK E N id Γl Ωl Γb Ωb kr K))
    (hB : ∀ q y, RefE E N .normal (k q) (Γb q y) (Ωb q y) K) : Ref P E N ((loopC f s0).bind (sumK kr k)) (.block id (.loop body)) Γ Ω K := by
  refine ref_block (ref_loop (Γl := Γl) (Ωl := Ωl) s0 x0 h0 fun s x r hr a w hs => wp_mono (round s x r hr a w hs) ?_)
  intro e a w h
  match r, h with
  | .inr s', h => exact h
  | .inl (.inl q), h => exact h
  | .inl (.inr q), ⟨h1, y, h2⟩ =>
    subst h1
    refine ⟨by simp, fun r hr => ?_⟩
    show (if id = id then _ else _)
    rw [if_pos rfl]
    exact hB q y r hr a w h2

theorem ref_loopB {f : σ → Option (Sum B σ)} (s0 : σ) (x0 : X) (h0 : ∀ a w, Sat E N Γ Ω a w → Sat E N (Γl s0 x0) (Ωl s0 x0) a w)
    (round : ∀ s x, Ref P E N (f s) body (Γl s x) (Ωl s x) (loopBK E N id Γl Ωl Γb Ωb))
    (hB : ∀ q y, RefE E N .normal (k q) (Γb q y) (Ωb q y) K) : Ref P E N ((loopC f s0).bind k) (.block id (.loop body)) Γ Ω K := by
  refine ref_block (ref_loop (Γl := Γl) (Ωl := Ωl) s0 x0 h0 fun s x r hr a w hs => wp_mono (round s x r hr a w hs) ?_)
  intro e a w h
  match r, h with
  | .inr s', h => exact h
  | .inl q, ⟨h1, y, h2⟩ =>
    subst h1
    refine ⟨by simp, fun r hr => ?_⟩
    show (if id = id then _ else _)
    rw [if_pos rfl]
    exact hB q y r hr a w h2

theorem brkB {q : B} (y : Y) (h : ∀ a w, Sat E N Γ Ω a w → Sat E N (Γb q y) (Ωb q y) a w) : RefE E N (.exit id) (some (Sum.inl q)) Γ Ω (loopBK E N id Γl Ωl Γb Ωb) := by
  intro r hr a w hs; cases hr; exact ⟨rfl, y, h a w hs⟩
theorem goB {s' : σ} (x' : X) (h : ∀ a w, Sat E N Γ Ω a w → Sat E N (Γl s' x') (Ωl s' x') a w) : RefE E N .normal (some (Sum.inr s')) Γ Ω (loopBK E N id Γl Ωl Γb Ωb) := by
  intro r hr a w hs; cases hr; exact ⟨rfl, x', h a w hs⟩
theorem brkX {q : B} (y : Y) (h : ∀ a w, Sat E N Γ Ω a w → Sat E N (Γb q y) (Ωb q y) a w) : RefE E N (.exit id) (some (Sum.inl (Sum.inr q))) Γ Ω (loopXK E N id Γl Ωl Γb Ωb kr K) := by
  intro r hr a w hs; cases hr; exact ⟨rfl, y, h a w hs⟩
theorem goX {s' : σ} (x' : X) (h : ∀ a w, Sat E N Γ Ω a w → Sat E N (Γl s' x') (Ωl s' x') a w) : RefE E N .normal (some (Sum.inr s')) Γ Ω (loopXK E N id Γl Ωl Γb Ωb kr K) := by
  intro r hr a w hs; cases hr; exact ⟨rfl, x', h a w hs⟩
theorem retX {q : A} (h : RefE E N .ret (kr q) Γ Ω (blockK id K)) : RefE E N .ret (some (Sum.inl (Sum.inl q))) Γ Ω (loopXK E N id Γl Ωl Γb Ωb kr K) := by
  intro r hr a w hs; cases hr; exact ⟨by simp, fun r hr => h r hr a w hs⟩
theorem outX {i : Nat} {q : A} (h : RefE E N (.exit i) (kr q) Γ Ω (blockK id K)) : RefE E N (.exit i) (some (Sum.inl (Sum.inl q))) Γ Ω (loopXK E N id Γl Ωl Γb Ωb kr K) := by
  intro r hr a w hs; cases hr; exact ⟨by simp, fun r hr => h r hr a w hs⟩
end

/-! ### results -/
section
variable {X : Type} {fn : Func} {res : R → X → List RP} {Ω1 : R → X → List OB} {r : R} {e : Exit}
theorem finN (he : e = .ret ∨ e = .normal) (x : X) (is : List Nat) {φs : List RP} (hsub : Picks Ω is (Ω1 r x)) (hres : res r x = φs)
    (h : ∀ a w, Sat E N Γ Ω a w → ∃ v, (results fn a.tmps).run P w = .ok v w ∧ resH (fr E Ω) w φs v) : RefE E N e (some r) Γ Ω (fnK P fn E N res Ω1) := by
  intro r' hr a w hs; cases hr
  obtain ⟨v, hv, hφ⟩ := h a w hs
  have hmem : ∀ b, b ∈ ow (Ω1 r x) → b ∈ ow Ω := fun b hb => hsub.perm.mem_iff.2 (List.mem_append_right _ hb)
  have hag : Ag (fr E Ω) (fr E (Ω1 r x)) w w := .refl fun _ _ ⟨h1, h2⟩ => ⟨h1, fun hb => h2 (hmem _ hb)⟩
  refine ⟨he, x, (hs.pick hsub).weak (fun t φ h => by simp [lk] at h), v, hv, ?_⟩
  rw [hres]
  match φs, hφ with
  | [φ], hφ => exact φ.mono hag hφ
  | [], ⟨vs, e, h⟩ => exact ⟨vs, e, h.mono hag⟩
  | _ :: _ :: _, ⟨vs, e, h⟩ => exact ⟨vs, e, h.mono hag⟩

theorem fin1 (he : e = .ret ∨ e = .normal) (x : X) (is : List Nat) {a1 : ResultVar} {φ : RP} (hrs : fn.results = #[a1]) (hsub : Picks Ω is (Ω1 r x)) (hres : res r x = [φ]) (h1 : RvOk P E N Γ Ω a1 φ) :
    RefE E N e (some r) Γ Ω (fnK P fn E N res Ω1) := finN he x is hsub hres fun a w hs => let ⟨v, hv, hφ⟩ := h1 a w hs; ⟨v, results1 hrs hv, hφ⟩
theorem fin2 (he : e = .ret ∨ e = .normal) (x : X) (is : List Nat) {a1 a2 : ResultVar} {φ ψ : RP} (hrs : fn.results = #[a1, a2]) (hsub : Picks Ω is (Ω1 r x)) (hres : res r x = [φ, ψ])
    (h1 : RvOk P E N Γ Ω a1 φ) (h2 : RvOk P E N Γ Ω a2 ψ) : RefE E N e (some r) Γ Ω (fnK P fn E N res Ω1) := finN he x is hsub hres fun a w hs =>
  let ⟨_, hv, hφ⟩ := h1 a w hs; let ⟨_, hu, hψ⟩ := h2 a w hs; ⟨_, results2 hrs hv hu, _, rfl, hφ, hψ, trivial⟩
/-- a result that lies in a variable -/
theorem rv_cell {t e n b j off : Nat} {φs ψs : List RP} (ht : lk Γ t = some (pv (ptr b off))) (hj : Ω[j]? = some (oc b φs)) (hg : ∀ w, (isAgg e).run P w = .ok true w) (hn : ∀ w, (Go.sizeOf e).run P w = .ok n w)
    (hψ : (φs.drop off).take n = ψs) (hl : Nat.beq ψs.length n = true) : RvOk P E N Γ Ω (.cell t e) (ag ψs) := fun a w hs => by
  have h1 : a.tmps.getD t undef = ptr b off := hs.sl t _ ht
  obtain ⟨v, B, hv, _, hrun⟩ := r_cloadS (P := P) (ty := 0) (x := .tmp t) hg hn ht hj hψ hl a w hs
  have := hrun w (fun _ _ => rfl) ⟨none, .load e (.tmp t), 0, "", #[], none⟩ rfl rfl
  refine ⟨v, ?_, hv⟩
  have h2 : a.eval (.tmp t) = ptr b off := h1
  simp only [execOp, Instr.loadAt, h2, ptr, Instr.sureAddr] at this
  simp only [rvSem, h1, ptr, asAddr]
  simp at this ⊢
  cases hr : (loadVar e ⟨b, off, none⟩).run P w with
  | ok u w' => rw [hr] at this; simp at this; rw [this.1, this.2]
  | halt hh w' => rw [hr] at this; simp at this
theorem rv_cell1 {t e b j off : Nat} {φs : List RP} {φ : RP} (ht : lk Γ t = some (pv (ptr b off))) (hj : Ω[j]? = some (oc b φs)) (hg : ∀ w, (isAgg e).run P w = .ok false w)
    (hφ : φs[off]? = some φ) : RvOk P E N Γ Ω (.cell t e) φ := fun a w hs => by
  have h1 : a.tmps.getD t undef = ptr b off := hs.sl t _ ht
  obtain ⟨v, B, hv, _, hrun⟩ := r_cload (P := P) (ty := 0) (x := .tmp t) hg ht hj hφ a w hs
  have := hrun w (fun _ _ => rfl) ⟨none, .load e (.tmp t), 0, "", #[], none⟩ rfl rfl
  refine ⟨v, ?_, hv⟩
  have h2 : a.eval (.tmp t) = ptr b off := h1
  simp only [execOp, Instr.loadAt, h2, ptr, Instr.sureAddr] at this
  simp only [rvSem, h1, ptr, asAddr]
  simp at this ⊢
  cases hr : (loadVar e ⟨b, off, none⟩).run P w with
  | ok u w' => rw [hr] at this; simp at this; rw [this.1, this.2]
  | halt hh w' => rw [hr] at this; simp at this
end

/-! ### owned slices become common -/
def AllT (Γ : List (Nat × RP)) (φ : RP) : List Nat → Prop
  | [] => True
  | t :: ts => lk Γ t = some φ ∧ AllT Γ φ ts

theorem AllT.mem {φ : RP} : ∀ {ts : List Nat}, AllT Γ φ ts → ∀ t ∈ ts, lk Γ t = some φ
  | [], _, t, h => by simp at h
  | s :: ts, ⟨h1, h2⟩, t, h => by
    rcases List.mem_cons.1 h with e | e
    · rw [e]; exact h1
    · exact AllT.mem h2 t e

def giveΓ (φ : RP) (Γ : List (Nat × RP)) : List Nat → List (Nat × RP)
  | [] => Γ
  | t :: ts => (t, φ) :: giveΓ φ Γ ts

/-! ### the same between two operations of a region that draws its order -/
theorem a_of {ops : Array Oper} {fl : List Nat} {l : Array Bool} {pend : List (Nat × List Nat)} (hw : ∀ a w, Sat E N Γ Ω a w → Sat E N Γ' Ω' a w)
    (hΩ : (ow Ω).Nodup → ∀ (b : Nat) (J : List Nat), (b ∉ ow Ω ∨ ∃ j ∈ J, ∃ ob, Ω[j]? = some ob ∧ b ∈ ob.S) → (b ∉ ow Ω' ∨ ∃ j ∈ J, ∃ ob, Ω'[j]? = some ob ∧ b ∈ ob.S))
    (h : RefA P E N m ops fl l pend Γ' Ω' K) : RefA P E N m ops fl l pend Γ Ω K := by
  intro r hr a w hs lA aA hc
  refine h r hr a w (hw a w hs) lA aA ⟨hc.s1, hc.s2, hc.sub, fun i hi => ?_, hc.dc, hc.ts, hc.ag, hc.df⟩
  rcases hc.pd i hi with h1 | ⟨h1, J, hJ, o, d, ho, hd, h2⟩
  · exact .inl h1
  · refine .inr ⟨h1, J, hJ, o, d, ho, hd, ?_⟩
    rcases h2 with h2 | ⟨h2, B, hB, h3⟩
    · exact .inl h2
    · exact .inr ⟨h2, B, fun b hb => ⟨(hB b hb).1, hΩ hs.nd b J (hB b hb).2⟩, h3⟩

theorem dead_keeps {j : Nat} {o : OB} (hj : Ω[j]? = some o) : (ow Ω).Nodup → ∀ (b : Nat) (J : List Nat), (b ∉ ow Ω ∨ ∃ k ∈ J, ∃ ob, Ω[k]? = some ob ∧ b ∈ ob.S) →
    (b ∉ ow (Ω.set j dead) ∨ ∃ k ∈ J, ∃ ob, (Ω.set j dead)[k]? = some ob ∧ b ∈ ob.S) := by
  intro hnd b J h
  have hsub : b ∈ ow (Ω.set j dead) → b ∈ ow Ω ∧ b ∉ o.S := fun hm => by
    refine ⟨?_, fun hb => mem_ow_set hj hnd hb (by simp [dead]) hm⟩
    obtain ⟨A, B, rfl, rfl⟩ := ow_split hj
    rw [set_split] at hm
    rw [ow_mid] at hm ⊢
    simp [dead] at hm
    simp only [List.mem_append]
    exact hm.imp id .inr
  rcases h with h | ⟨k, hk, ob, h1, h2⟩
  · exact .inl fun hm => h (hsub hm).1
  · by_cases e : k = j
    · subst e
      rw [hj] at h1; cases h1
      exact .inl fun hm => (hsub hm).2 h2
    · exact .inr ⟨k, hk, ob, by rw [List.getElem?_set_ne (fun h => e h.symm)]; exact h1, h2⟩

end Go.Dc

/-! From the contract of a law to the given statement. -/
namespace Go.Dc
variable [DrawMode]
open Go.ChangeShapes Go.WideShapes Go.RowKit

/-! ### what a law reads stays as it was -/
def fieldsB (P : Program) (L : List TypeId) (t : TypeId) (fs : List Field) : Bool :=
  fs.all (fun f => L.elem f.type) && Nat.beq (P.cellsOf t) (fs.map fun f => P.cellsOf f.type).sum &&
    (List.range fs.length).all fun j => match fs[j]? with | some f => Nat.beq f.offset ((fs.take j).map fun f => P.cellsOf f.type).sum | none => true

def kidB (P : Program) (L : List TypeId) (t : TypeId) : Bool :=
  match P.underlying t with
  | some (.pointer e) => L.elem e
  | some (.slice e) => L.elem e && Nat.blt 0 (P.cellsOf e)
  | some (.array n e) => L.elem e && Nat.beq (P.cellsOf t) (n * P.cellsOf e)
  | some (.struct fs) => fieldsB P L t fs.toList
  | some (.map _ e) => L.elem e
  | _ => true

variable {P : Program} {L : List TypeId}

theorem kids_of (h : L.all (kidB P L) = true) : Kids P (· ∈ L) ∧ ∀ {t e : TypeId}, t ∈ L → P.underlying t = some (.slice e) → 0 < P.cellsOf e := by
  have hk : ∀ t ∈ L, kidB P L t = true := fun t ht => List.all_eq_true.1 h t ht
  refine ⟨⟨fun ht hu => ?_, fun ht hu => ?_, fun ht hu => ?_, fun ht hu => ?_, fun ht hu => ?_⟩, fun ht hu => ?_⟩
  all_goals have h1 := hk _ ht; simp only [kidB, hu] at h1
  · simpa using h1
  · simp only [Bool.and_eq_true] at h1; simpa using h1.1
  · simp only [Bool.and_eq_true] at h1; exact ⟨by simpa using h1.1, Nat.eq_of_beq_eq_true h1.2⟩
  · simp only [fieldsB, Bool.and_eq_true] at h1
    obtain ⟨⟨h2, h3⟩, h4⟩ := h1
    refine ⟨fun f hf => by simpa using List.all_eq_true.1 h2 f hf, Nat.eq_of_beq_eq_true h3, fun j f hf => ?_⟩
    have h5 := List.all_eq_true.1 h4 j (List.mem_range.2 (List.getElem?_eq_some_iff.1 hf).1)
    rw [hf] at h5
    exact Nat.eq_of_beq_eq_true h5
  · simpa using h1
  · simp only [Bool.and_eq_true] at h1; exact Nat.blt_eq.mp h1.2

theorem Kept.same {M : List Nat} {w w' : World} (h : Kept M w w') {p : MemPlace} (hp : p.block < w.heap.size) (hm : p.block ∉ M) : w.sameAt w' p := by
  have := h.blk _ hp hm
  cases p with
  | cell b off => simp only [World.sameAt, World.cell?]; rw [show w'.heap[b]? = w.heap[b]? from this]
  | map b => exact this

section
variable {H : Type} {enc : TypeId × Value → H}
theorem trodAll_stays (h : L.all (kidB P L) = true) {W W' : World} (hk : Kept [] W W') {sp : Nat → Bool} : ∀ {ts : List TypeId} {vs : List Value} {ds : List (DataW H)} {ps : List MemPlace}, (∀ t ∈ ts, t ∈ L) →
    DataW.TrodAll enc P W 0 (fun _ => true) true ts vs ds ps → (∀ p ∈ ps, sp p.block = true) → DataW.TrodAll enc P W' 0 sp true ts vs ds ps
  | [], _, _, _, _, h1, _ => by
    obtain ⟨rfl, rfl, rfl⟩ := trodAll_nil h1
    exact trodAll_mk0
  | t :: ts, _, _, _, hL, h1, hs => by
    obtain ⟨v, vs, d, ds, p, q, rfl, rfl, rfl, ⟨fuel, h2⟩, h3⟩ := trodAll_cons h1
    refine trodAll_cons_mk ⟨fuel, ?_⟩ (trodAll_stays h hk (fun u hu => hL u (by simp [hu])) h3 fun p hp => hs p (by simp [hp]))
    obtain ⟨K, hsz⟩ := kids_of h
    exact DataW.trod_stays K hsz (fun hh => by cases hh) (hL t (by simp)) h2 (fun x hx => hk.same (DataW.trod_lt _ _ _ _ h2 x hx) (by simp)) fun x hx => hs x (by simp; exact .inl hx)

theorem Kept.but {W W' : World} (h : Kept [] W W') (may : MemPlace → Prop) : W.keptBut W' may := by
  refine ⟨h.os, h.output, fun i hi => ?_⟩
  rw [h.blk i hi (by simp)]
  split
  · rename_i h1 h2; rw [h1] at h2; cases h2; exact ⟨rfl, rfl, rfl, fun _ _ => rfl⟩
  · rename_i h1 h2; rw [h1] at h2; cases h2; exact .inr ⟨rfl, rfl⟩
  · rfl

theorem post_true {f : Func} {s : ChangeSpec} {apart fresh handsOn : Bool} {W W' : World} {args : Array Value} {ds gs : List (DataW H)} {before : List MemPlace} {tb : TypeId}
    (hW : DataW.Whole enc P f.params.toList s.vars apart W args.toList ds gs before) (hv : s.vars = []) (hr : f.resultTypes = #[tb]) (hb : P.underlying tb = some .bool)
    (hK : L.all (kidB P L) = true) (hL : f.params.toList.all (fun t => L.elem t) = true) (hs : s.fn H ds = { results := [.lit (.bool true)], args := ds }) (hk : Kept [] W W') :
    s.post enc P f apart fresh handsOn false W args (.bool true) W' := by
  have hlt : ∀ x ∈ before, (fun b => decide (b < W.heap.size)) x.block = true := fun x hx => by simpa using hW.lt x hx
  obtain ⟨p, q, hA, hV, rfl, hfz, hnd⟩ := hW
  rw [hv] at hV
  obtain ⟨rfl, rfl⟩ := trodVars_none hV
  refine ⟨ds, [], p ++ [], [], p, [], ⟨p, [], hA, by rw [hv]; exact hV, rfl, hfz, hnd⟩, ?_, ?_, ?_, hk.but _, fun h => by cases h⟩
  · rw [List.append_nil, hs, hr]
    exact trodAll_cons_mk (shut_bool hb _) trodAll_mk0
  · rw [List.append_nil, hs]
    exact trodAll_stays hK hk (fun t ht => by simpa using List.all_eq_true.1 hL t ht) hA fun x hx => hlt x (by simpa using hx)
  · rw [List.append_nil, hs, hv]; rfl
end

/-! ### arguments, opened -/
structure Opens (P : Program) (t : TypeId) {α : Type} (ρ : Rep α) (G : α → Prop) : Prop where
  rd : ∀ {H : Type} {enc : TypeId × Value → H} {W : World} {base fuel : Nat} {cs : List Value} {x : DataW H × List MemPlace}, DataW.trod enc P W base (fun _ => true) true fuel t cs = some x →
    ∃ d : α, AllP (fun _ => True) W (ρ.cp d) cs ∧ G d
  vl : ∀ {W : World} {b : Nat} {v : Value}, Value.okWide P W .any b t v → v = mkV ρ.agg v.cells.toList

theorem Opens.val {t : TypeId} {α : Type} {ρ : Rep α} {G : α → Prop} (h : Opens P t ρ G) {H : Type} {enc : TypeId × Value → H} {W : World} {b b2 : Nat} {v : Value} {d : DataW H} {ps : List MemPlace}
    (hok : Value.okWide P W .any b2 t v) (hd : DataW.Trod enc P W b (fun _ => true) true t v d ps) : ∃ x : α, (sh ρ x).h (fun _ => True) W v ∧ G x := by
  obtain ⟨fuel, hd⟩ := hd
  obtain ⟨x, h1, h2⟩ := h.rd hd
  exact ⟨x, sh_iff.2 ⟨_, h1, h.vl hok⟩, h2⟩

theorem opens_int {t : TypeId} {k : IntKind} (hu : P.underlying t = some (.int k)) : Opens P t (rI k) (fun n => (Lit.int k n).wf = true) :=
  ⟨fun h => by obtain ⟨n, rfl, _, hw⟩ := DataW.trod_int hu h; exact ⟨n, ⟨rfl, trivial⟩, hw⟩,
   fun h => by obtain ⟨n, rfl⟩ := okWide_int hu h; rfl⟩
theorem choose_list {α : Type} {p : Nat → α → Prop} : ∀ n, (∀ i, i < n → ∃ x, p i x) → ∃ l : List α, l.length = n ∧ ∀ i (hi : i < l.length), p i l[i]
  | 0, _ => ⟨[], rfl, fun i hi => by simp at hi⟩
  | n + 1, h => by
    obtain ⟨l, hl, hp⟩ := choose_list n fun i hi => h i (by omega)
    obtain ⟨x, hx⟩ := h n (by omega)
    refine ⟨l ++ [x], by simp [hl], fun i hi => ?_⟩
    by_cases e : i < l.length
    · rw [List.getElem_append_left e]; exact hp i e
    · have : i = n := by simp at hi; omega
      subst this
      rw [List.getElem_append_right (by omega)]
      simpa [hl] using hx

theorem cells_at {w : World} {base : Nat} {a : Addr} {n : Nat} {cs : List Value} (h : w.cells? base a n = some cs) : ∀ i, i < n → w.cell? (a.add i) = cs[i]? := by
  unfold World.cells? at h
  split at h
  · intro i hi; exact mapM_some_get h i i (by simp [hi])
  · cases h
theorem cells_len {w : World} {base : Nat} {a : Addr} {n : Nat} {cs : List Value} (h : w.cells? base a n = some cs) : cs.length = n := by
  unfold World.cells? at h
  split at h
  · simpa using mapM_some_length h
  · cases h

theorem opens_slice {t e : TypeId} {α : Type} {ρ : Rep α} {G : α → Prop} (hu : P.underlying t = some (.slice e)) (he : Opens P e ρ G) (hc : P.cellsOf e = ρ.size) (hpos : Nat.blt 0 ρ.size = true) :
    Opens P t (rSl ρ) (fun d => d.length ≤ maxLen ∧ ∀ x ∈ d, G x) := by
  have hpos' : 0 < ρ.size := Nat.blt_eq.mp hpos
  refine ⟨fun {H enc W base fuel cs x} h => ?_, fun h => by obtain ⟨a, l, c, rfl⟩ := okWide_slice hu h; rfl⟩
  rcases DataW.trod_slice hu h with ⟨rfl, _⟩ | ⟨a, len, cap, elems, rest, n, _, rfl, _, hb, hl, hm, hlen, hel, _, _⟩
  · exact ⟨[], ⟨⟨none, 0, rfl, Nat.le_refl _, fun h => absurd rfl h⟩, trivial⟩, by simp, fun x hx => by simp at hx⟩
  · have hch : ∀ i, i < len → ∃ x : α, G x ∧ ∃ es, AllP (fun _ => True) W (ρ.cp x) es ∧ W.cells? base (a.add (i * P.cellsOf e)) (P.cellsOf e) = some es := fun i hi => by
      have h1 := hel i hi
      rw [List.getElem?_eq_getElem (by omega)] at h1
      obtain ⟨es, h2, h3⟩ := Option.bind_eq_some_iff.1 h1
      obtain ⟨x, h4, h5⟩ := he.rd h3
      exact ⟨x, h5, es, h4, h2⟩
    obtain ⟨d, hd, hp⟩ := choose_list len hch
    refine ⟨d, ⟨⟨some a, cap, by rw [hd], by omega, fun hne => ?_⟩, trivial⟩, by omega, fun x hx => ?_⟩
    · have h0 : 0 < d.length := List.length_pos_iff.2 hne
      obtain ⟨_, es, _, h2⟩ := hp 0 h0
      have h3 := cells_at h2 0 (by omega)
      have hes : 0 < es.length := by rw [cells_len h2]; omega
      rw [List.getElem?_eq_getElem hes, show (a.add (0 * P.cellsOf e)).add 0 = a from by simp [Addr.add]] at h3
      unfold World.cell? at h3
      split at h3
      · rename_i c ty fz hbl
        split at h3
        · cases h3
        · rename_i hsp
          have hsp' : a.spot = none := by cases hh : a.spot; rfl; simp [hh] at hsp
          refine ⟨a.block, a.off, c, ty, fz, by cases a; simp at hsp'; subst hsp'; rfl, trivial, hbl, fun i hi => ?_⟩
          obtain ⟨_, es', h4, h5⟩ := hp i hi
          refine ⟨es', h4, fun j hj => ?_⟩
          have h6 := cells_at h5 j (by omega)
          rw [← h6]
          have ha : (a.add (i * P.cellsOf e)).add j = ⟨a.block, a.off + i * ρ.size + j, none⟩ := by
            rw [hc]
            cases a; simp at hsp'; subst hsp'
            unfold Addr.add
            by_cases e1 : i * ρ.size = 0 <;> by_cases e2 : j = 0 <;> simp [e1, e2]
          rw [ha]
          simp [World.cell?, hbl]
      · cases h3
    · obtain ⟨i, hi, rfl⟩ := List.mem_iff_getElem.1 hx
      exact (hp i hi).1

/-! ### the call -/
end Go.Dc

/-! Structs among the arguments of a law. -/
namespace Go.Dc
open Go.ChangeShapes Go.WideShapes Go.RowKit
variable {P : Program}

end Go.Dc

/-! Operations that can fail, and some more. -/
namespace Go.Dc
variable [DrawMode]
variable {P : Program} {E : Env} {N : Nat} {Γ : List (Nat × RP)} {Ω : List OB} {ty : TypeId}

def iremM (k : IntKind) (x y : Int) : Option Int := if y = 0 then none else some (irem k x y)
def iquoM (k : IntKind) (x y : Int) : Option Int := if y = 0 then none else some (iquo k x y)
def ishlM (k : IntKind) (x y : Int) : Option Int := if y < 0 then none else some (ishl k x y)
def ishrM (k : IntKind) (x y : Int) : Option Int := if y < 0 then none else some (ishr k x y)

section
variable {t yt : TypeId} {x y c : Operand} {k k' : IntKind} {m n v : Int}
theorem r_remM (hd : iremM k m n = some v) (hx : lkO Γ x = some (iv k m)) (hy : lkO Γ y = some (iv k n)) : Rd P E N (.binOp .rem t x y yt) ty Γ Ω [] (iv k v) := by
  unfold iremM at hd; split at hd
  · cases hd
  · cases hd; exact r_rem hx hy (by assumption)
theorem r_quoM (hd : iquoM k m n = some v) (hx : lkO Γ x = some (iv k m)) (hy : lkO Γ y = some (iv k n)) : Rd P E N (.binOp .quo t x y yt) ty Γ Ω [] (iv k v) := by
  unfold iquoM at hd; split at hd
  · cases hd
  · cases hd; exact r_quo hx hy (by assumption)
theorem r_shlM (hd : ishlM k m n = some v) (hx : lkO Γ x = some (iv k m)) (hy : lkO Γ y = some (iv k' n)) : Rd P E N (.binOp .shl t x y yt) ty Γ Ω [] (iv k v) := by
  unfold ishlM at hd; split at hd
  · cases hd
  · cases hd; exact r_shl hx hy (by omega)
theorem r_shrM (hd : ishrM k m n = some v) (hx : lkO Γ x = some (iv k m)) (hy : lkO Γ y = some (iv k' n)) : Rd P E N (.binOp .shr t x y yt) ty Γ Ω [] (iv k v) := by
  unfold ishrM at hd; split at hd
  · cases hd
  · cases hd; exact r_shr hx hy (by omega)

/-- min(x, y) and max(x, y) of ints -/
def imin (x y : Int) : Int := if y < x then y else x
def imax (x y : Int) : Int := if y > x then y else x
theorem r_min {t1 t2 : TypeId} (hx : lkO Γ x = some (iv k m)) (hy : lkO Γ y = some (iv k n)) : Rd P E N (.call ⟨.builtin .min, #[x, y], #[t1, t2]⟩) ty Γ Ω [] (iv k (imin m n)) := .mk fun a w hs => by
  have h1 : a.eval x = .int k m := hs.op hx
  have h2 : a.eval y = .int k n := hs.op hy
  refine ⟨_, rfl, fun w' o ho _ => ?_⟩
  simp [execOp, ho, resolve, invoke, builtin, Builtin.min_, Builtin.min2, h1, h2, imin]
theorem r_max {t1 t2 : TypeId} (hx : lkO Γ x = some (iv k m)) (hy : lkO Γ y = some (iv k n)) : Rd P E N (.call ⟨.builtin .max, #[x, y], #[t1, t2]⟩) ty Γ Ω [] (iv k (imax m n)) := .mk fun a w hs => by
  have h1 : a.eval x = .int k m := hs.op hx
  have h2 : a.eval y = .int k n := hs.op hy
  refine ⟨_, rfl, fun w' o ho _ => ?_⟩
  simp [execOp, ho, resolve, invoke, builtin, Builtin.max_, Builtin.max2, h1, h2, imax]
end

/-- a part of a struct value -/
theorem r_field {s i n off : Nat} {x : Operand} {fields : Array Go.Field} {fd : Go.Field} {φs ψs : List RP} (hu : P.underlying s = some (.struct fields)) (hf : fields[i]? = some fd) (ho : fd.offset = off)
    (hg : ∀ w, (isAgg fd.type).run P w = .ok true w) (hn : ∀ w, (Go.sizeOf fd.type).run P w = .ok n w) (hx : lkO Γ x = some (ag φs)) (hψ : (φs.drop off).take n = ψs) :
    Rd P E N (.field s x i) ty Γ Ω [] (ag ψs) := .mk fun a w hs => by
  obtain ⟨cs, hv, hall⟩ := hs.op hx
  refine ⟨.agg (cs.extract off (off + n)), ⟨_, rfl, ?_⟩, fun w' o hop _ => by simp [execOp, hop, Instr.field, run_underlying hu, hf, hv, asAgg, part, hg, hn, ho]⟩
  rw [← hψ]
  have := (hall.drop off).take n
  rw [Array.toList_extract]
  simpa [List.extract_eq_take_drop] using this
theorem r_field1 {s i off : Nat} {x : Operand} {fields : Array Go.Field} {fd : Go.Field} {φs : List RP} {φ : RP} (hu : P.underlying s = some (.struct fields)) (hf : fields[i]? = some fd) (ho : fd.offset = off)
    (hg : ∀ w, (isAgg fd.type).run P w = .ok false w) (hx : lkO Γ x = some (ag φs)) (hφ : φs[off]? = some φ) : Rd P E N (.field s x i) ty Γ Ω [] φ := .mk fun a w hs => by
  obtain ⟨cs, hv, hall⟩ := hs.op hx
  obtain ⟨v, h1, h2⟩ := hall.get hφ
  have h1' : cs[off]? = some v := by simpa using h1
  exact ⟨v, h2, fun w' o hop _ => by simp [execOp, hop, Instr.field, run_underlying hu, hf, hv, asAgg, part, hg, ho, h1']⟩
end Go.Dc

/-! Some more operations on slices. -/
namespace Go.Dc
variable [DrawMode]
variable {P : Program} {E : Env} {N : Nat} {Γ : List (Nat × RP)} {Ω : List OB} {ty : TypeId}

section
variable {α : Type} {e t yt : TypeId} {ρ : Rep α} {bytes : Nat} {x : Operand}

theorem run_isnil {a : Option Addr} {n c : Nat} (hu : P.underlying t = some (.slice e)) (w : World) : (Op.equal t (.slice a n c) (.slice none 0 0)).run P w = .ok a.isNone w := by
  unfold Op.equal
  rw [show Op.maxDepth = 9999 + 1 from rfl, Op.equalIn, Sem.run_bind, run_underlying hu]
  cases a <;> rfl

/-- x == nil -/
theorem s_isnil {d : List α} (hu : P.underlying t = some (.slice e)) (hx : lkO Γ x = some (slv ρ d)) :
    St P E N (.binOp .eql t x (.const (.slice none 0 0)) yt) ty Γ Ω [] (fun b : { b : Bool // b = true → d = [] } => bv b.1) (fun _ => Ω) := by
  intro a w hs o ho ht
  obtain ⟨ad, c, hv, hc, hat⟩ := hs.op hx
  have hg : (eqGuard .eql t x (.const (.slice none 0 0)) (.slice ad d.length c) (.slice none 0 0)).run P w = .ok () w := by unfold eqGuard; rfl
  have hb : binOp .eql t (.slice ad d.length c) (.slice none 0 0) = (do pure (.bool (← Op.equal t (.slice ad d.length c) (.slice none 0 0)))) := rfl
  have hr : (execOp a.eval o).run P w = .ok (.value (.bool ad.isNone)) w := by
    have he : a.eval (.const (.slice none 0 0)) = .slice none 0 0 := rfl
    simp [execOp, ho, hv, he, hg, hb, run_isnil hu]
  rw [hr]
  refine ⟨⟨ad.isNone, fun h => ?_⟩, hs, rfl, Nat.le_refl _, fun _ _ _ => rfl, fun _ _ h => h⟩
  refine Classical.byContradiction fun hd => ?_
  obtain ⟨b, off, _, _, _, h1, _⟩ := hat hd
  rw [h1] at h; cases h

theorem r_lenN (hu : P.underlying t = some (.slice e)) (hx : lkO Γ x = some (pv (.slice none 0 0))) : Rd P E N (.call ⟨.builtin .len, #[x], #[t]⟩) ty Γ Ω [] (iv .i64 0) := .mk fun a w hs => by
  have hv : a.eval x = .slice none 0 0 := hs.op hx
  exact ⟨_, rfl, fun w' o ho _ => by simp [execOp, ho, resolve, invoke, builtin, Builtin.len_, hv, run_underlying hu, goInt]⟩

/-- nil[:0] -/
theorem r_sliceN {hi : Operand} {k : IntKind} (hu : P.underlying t = some (.slice e)) (h : ElT P e ρ bytes) (hx : lkO Γ x = some (pv (.slice none 0 0))) (hh : lkO Γ hi = some (iv k 0)) :
    Rd P E N (.slice t x none (some hi) none) ty Γ Ω [] (pv (.slice none 0 0)) := .mk fun a w hs => by
  have hv : a.eval x = .slice none 0 0 := hs.op hx
  have h2 : a.eval hi = .int k 0 := hs.op hh
  refine ⟨_, rfl, fun w' o ho _ => ?_⟩
  have := run_slice (P := P) hu h (ad := none) (n := 0) (c := 0) (lo := none) (hi := some (.int k 0)) (l := 0) (hh := 0) (.inl ⟨rfl, rfl⟩) (.inr ⟨_, rfl⟩) (Nat.le_refl _) (Nat.le_refl _) w'
  simp [execOp, ho, hv, h2, this]

/-- x[lo:hi] of a slice that is ours -/
theorem s_oslice {lo hi : Option Operand} {d d' : List α} {l m : Int} {hv : Value} {S : List Nat} {j : Nat} (hd : slM d l m = some d') (hu : P.underlying t = some (.slice e)) (h : ElT P e ρ bytes)
    (hx : lkO Γ x = some (pv hv)) (hj : Ω[j]? = some (oa ρ hv S d)) (hlo : BdOk Γ 0 lo l) (hhi : BdOk Γ d.length hi m) :
    St P E N (.slice t x lo hi none) ty Γ Ω [j] (fun X : Value × List Nat => pv X.1) (fun X => Ω.set j (oa ρ X.1 X.2 d')) := by
  intro a w hs
  obtain ⟨h0, h1, h2, rfl⟩ := slM_some hd
  have hvx : a.eval x = hv := hs.op hx
  obtain ⟨ad, c, rfl, hc, hob⟩ := hs.objAt hj
  obtain ⟨l, rfl⟩ := Int.eq_ofNat_of_zero_le h0
  obtain ⟨m, rfl⟩ := Int.eq_ofNat_of_zero_le (Int.le_trans h0 h1)
  have hl := hlo.val hs
  have hm := hhi.val hs
  have e1 : l ≤ m := by omega
  have e2 : m ≤ d.length := by omega
  simp only [Int.toNat_natCast]
  have hrun := run_slice (P := P) hu h (ad := ad) (n := d.length) (c := c) (lo := lo.map a.eval) (hi := hi.map a.eval) (l := l) (hh := m)
    (hl.imp (fun ⟨e1, e2⟩ => ⟨e1, by omega⟩) id) (hm.imp (fun ⟨e1, e2⟩ => ⟨e1, by omega⟩) id) e1 (by omega) w
  have hlen : ((d.take m).drop l).length = m - l := by simp; omega
  refine opwp_val (v := .slice (if c = l then ad else ad.map (·.add (l * ρ.size))) (m - l) (c - l)) (w' := w) (fun o ho _ => by simp [execOp, ho, hvx, hrun])
    ⟨(.slice (if c = l then ad else ad.map (·.add (l * ρ.size))) (m - l) (c - l), S), ?_, rfl, Nat.le_refl _, fun _ _ _ => rfl, own_set hj fun b hb => .inl hb⟩
  refine hs.upd hj ⟨rfl, rfl, rfl, by first | exact fun _ => Nat.le_refl _ | exact fun _ => Nat.le_add_right _ _⟩ (Nat.le_refl _) (fun _ _ _ => rfl) (fun b hb => .inl hb) ?_ ?_
  · rcases hob with ⟨_, rfl, _⟩ | ⟨b, _, _, _, _, rfl, _⟩ <;> simp [oa]
  · have hag : Ag (fr E Ω) (fr E (Ω.set j (oa ρ (.slice (if c = l then ad else ad.map (·.add (l * ρ.size))) (m - l) (c - l)) S ((d.take m).drop l)))) w w :=
      .refl fun b hb hf => fr_set hj hf fun hm => hf.2 (Sat.notin hj (b := b) hm)
    refine ⟨_, c - l, by rw [hlen], by rw [hlen]; omega, ?_⟩
    rcases hob with ⟨rfl, rfl, rfl⟩ | ⟨b, off, cells, ct, rfl, rfl, hb, hsz, hH⟩
    · exact .inl ⟨by split <;> rfl, rfl, by omega⟩
    · by_cases hcl : c = l
      · have hnil : (d.take m).drop l = [] := List.eq_nil_of_length_eq_zero (by omega)
        refine .inr ⟨b, off, cells, ct, by rw [if_pos hcl], rfl, hb, ?_, ?_⟩
        · rw [hcl, Nat.sub_self, Nat.zero_mul]; omega
        · rw [hnil]; intro i hi; simp at hi
      · refine .inr ⟨b, off + l * ρ.size, cells, ct, by rw [if_neg hcl]; simp [addr_add], rfl, hb, ?_, (hH.sub l m).mono hag⟩
        have : l * ρ.size + (c - l) * ρ.size = c * ρ.size := by rw [← Nat.add_mul]; congr 1; omega
        omega

end

theorem b_to {R : Type} {m : Option R} {Γ' : List (Nat × RP)} {Ω' : List OB} {B : R → Act → World → Prop} (h : RefB E N m Γ' Ω' B) (hw : ∀ a w, Sat E N Γ Ω a w → Sat E N Γ' Ω' a w) : RefB E N m Γ Ω B :=
  b_of hw h

theorem ref_condE {R : Type} {m : Option R} {K : KT R} {c : Operand} {thn els : Code} {b : Bool} (hc : lkO Γ c = some (bv b))
    (h1 : b = true → Ref P E N m thn Γ Ω K) (h2 : b = false → Ref P E N m els Γ Ω K) : Ref P E N m (.cond c thn els) Γ Ω K := by
  cases b with
  | true => exact ref_condT hc rfl (h1 rfl)
  | false => exact ref_condF hc rfl (h2 rfl)
end Go.Dc

/-! Fields of elements of slices. -/
namespace Go.Dc
variable [DrawMode]
variable {R S : Type} {P : Program} {E : Env} {N : Nat} {Γ Γ' : List (Nat × RP)} {Ω Ω' : List OB} {ty : TypeId} {α β : Type} {ρ : Rep α} {ρ' : Rep β} {y : α} {z : β} {bytes : Nat} {e : TypeId}

theorem drop_take_get {γ : Type} {l : List γ} {a k j : Nat} (hj : j < k) : ((l.drop a).take k)[j]? = l[a + j]? := by
  rw [List.getElem?_take_of_lt hj, List.getElem?_drop]

/-- a field of data in shared memory -/
theorem r_fea {t f fo : Nat} {x : Operand} {fields : Array Go.Field} {fd : Go.Field} (hu : P.underlying t = some (.struct fields)) (hf : fields[f]? = some fd) (ho : fd.offset = fo) {n : Nat}
    (hn : ∀ w, (Go.sizeOf fd.type).run P w = .ok (n + 1) w) (hx : lkO Γ x = some (ea ρ y)) (hz : ((ρ.cp y).drop fo).take ρ'.size = ρ'.cp z) (hs : Nat.ble (fo + ρ'.size) ρ.size = true) :
    Rd P E N (.fieldAddr t x f) ty Γ Ω [] (ea ρ' z) := .mk fun a w hs' => by
  obtain ⟨b, off, cells, ty', fz, es, hv, hF, hb, hes, hcs⟩ := hs'.op hx
  have hle := Nat.le_of_ble_eq_true hs
  refine ⟨.pointer (some ⟨b, off + fo, none⟩), ⟨b, off + fo, cells, ty', fz, (es.drop fo).take ρ'.size, rfl, hF, hb, hz ▸ (hes.drop fo).take _, fun j hj => ?_⟩, fun w' o hop _ => ?_⟩
  · rw [drop_take_get hj, ← hcs (fo + j) (by omega), Nat.add_assoc]
  · simp [execOp, hop, hv, Instr.fieldAt, run_underlying hu, hf, Instr.sureAddr, fieldPlace, hn, addr_add, ho]

/-- the address of a field of an element of an owned slice -/
def elF (hv : Value) (sz : Nat) (n : Int) (fo : Nat) : Value :=
  match hv with
  | .slice (some a) _ _ => .pointer (some ((a.add (n.toNat * sz)).add fo))
  | _ => .pointer none

variable {d : List α} {n : Int} {hv : Value} {Sx : List Nat} {j : Nat}
theorem r_foea {t f fo : Nat} {x : Operand} {fields : Array Go.Field} {fd : Go.Field} (hy : idxM d n = some y) (hu : P.underlying t = some (.struct fields)) (hf : fields[f]? = some fd) (ho : fd.offset = fo) {m : Nat}
    (hn : ∀ w, (Go.sizeOf fd.type).run P w = .ok (m + 1) w) (hx : lkO Γ x = some (pv (elA hv ρ.size n))) (hj : Ω[j]? = some (oa ρ hv Sx d)) :
    Rd P E N (.fieldAddr t x f) ty Γ Ω [] (pv (elF hv ρ.size n fo)) := .mk fun a w hs => by
  obtain ⟨h0, h1, hlt, hd⟩ := idxM_some hy
  have hv' : a.eval x = elA hv ρ.size n := hs.op hx
  obtain ⟨ad, c, rfl, hc, hat⟩ := hs.objAt hj
  rcases hat with ⟨rfl, _, rfl⟩ | ⟨b, off, cells, ty', rfl, hS, hb, hsz, hH⟩
  · omega
  · refine ⟨_, rfl, fun w' o hop _ => ?_⟩
    simp [execOp, hop, hv', elA, elF, Instr.fieldAt, run_underlying hu, hf, Instr.sureAddr, fieldPlace, hn, addr_add, ho]
theorem r_foload {x : Operand} {fo : Nat} (hy : idxM d n = some y) (h : ElT P e ρ' bytes) (hx : lkO Γ x = some (pv (elF hv ρ.size n fo))) (hj : Ω[j]? = some (oa ρ hv Sx d))
    (hz : ((ρ.cp y).drop fo).take ρ'.size = ρ'.cp z) (hsz : Nat.ble (fo + ρ'.size) ρ.size = true) : Rd P E N (.load e x) ty Γ Ω [j] (sh ρ' z) := fun a w hs => by
  obtain ⟨h0, h1, hlt, hd⟩ := idxM_some hy
  have hle := Nat.le_of_ble_eq_true hsz
  have hv' : a.eval x = elF hv ρ.size n fo := hs.op hx
  have hob := hs.objAt hj
  obtain ⟨ad, c, rfl, hc, hat⟩ := hob
  rcases hat with ⟨rfl, _, rfl⟩ | ⟨b, off, cells, ty', rfl, hS, hb, hsz, hH⟩
  · omega
  · obtain ⟨es, hes, hcs⟩ := hH n.toNat hlt
    rw [hd] at hes
    have hes2 : AllP (fr E Ω) w (ρ'.cp z) ((es.drop fo).take ρ'.size) := hz ▸ (hes.drop fo).take _
    refine ⟨mkV ρ'.agg ((es.drop fo).take ρ'.size), [b], sh_iff.2 ⟨_, hes2, rfl⟩, ?_, fun w' hw' o ho _ => ?_⟩
    · intro b' hb'; rw [List.mem_singleton.1 hb']; exact ⟨size_of_get hb, .inr ⟨j, by simp, _, hj, by rw [show (oa ρ _ Sx d).S = Sx from rfl, hS]; simp⟩⟩
    · have hb2 : w'.heap[b]? = some (.cells cells ty' (0, 0)) := by rw [hw' b (by simp)]; exact hb
      have := h.load (off := off + n.toNat * ρ.size + fo) hb2 (by rw [hes2.length, ρ'.len]) (fun i hi => by rw [drop_take_get hi, ← hcs (fo + i) (by omega)]; congr 1; omega)
      simp [execOp, ho, hv', elF, addr_add, Instr.loadAt, Instr.sureAddr, this]

theorem s_fostore {x v : Operand} {fo : Nat} {u : α} {φs : List RP} (hy : idxM d n = some y) (hsz : ∀ w, (Go.sizeOf e).run P w = .ok φs.length w) (hx : lkO Γ x = some (pv (elF hv ρ.size n fo))) (hj : Ω[j]? = some (oa ρ hv Sx d))
    (hp : PartOk E N Γ Ω v φs) (hu : ρ.cp u = (ρ.cp y).take fo ++ φs ++ (ρ.cp y).drop (fo + φs.length)) (hle : Nat.ble (fo + φs.length) ρ.size = true) :
    St P E N (.store e x v) ty Γ Ω [j] (fun _ : Unit => pv undef) (fun _ => Ω.set j (oa ρ hv Sx (d.set n.toNat u))) := by
  intro a w hs
  obtain ⟨h0, h1, hlt, hd⟩ := idxM_some hy
  have hle' := Nat.le_of_ble_eq_true hle
  have hv' : a.eval x = elF _ ρ.size n fo := hs.op hx
  obtain ⟨hall, hat⟩ := hp a w hs
  obtain ⟨ad, c, rfl, hc, hob⟩ := hs.objAt hj
  rcases hob with ⟨rfl, _, rfl⟩ | ⟨b, off, cells, ct, rfl, rfl, hb, hcs, hH⟩
  · omega
  · have hvl : (a.eval v).cells.size = φs.length := by rw [← Array.length_toList, hall.length]
    have hlm : (n.toNat + 1) * ρ.size ≤ c * ρ.size := Nat.mul_le_mul_right _ (by omega)
    rw [Nat.succ_mul] at hlm
    have hst := run_storeVar (P := P) (e := e) (off := off + n.toNat * ρ.size + fo) (w := w) hsz hb hvl (by omega) hat
    intro o hop ht
    have hr : (execOp a.eval o).run P w = .ok .skip (w.setRow b (cells.toList.take (off + n.toNat * ρ.size + fo) ++ (a.eval v).cells.toList ++ cells.toList.drop (off + n.toNat * ρ.size + fo + φs.length)).toArray) := by
      simp only [execOp, hop, Instr.storeAt, hv', elF, addr_add, Instr.sureAddr]
      simp [hst]
    rw [hr]
    refine ⟨(), ?_, rfl, by simp, fun b' hb' hn' => setRow_other w b b' _ fun e => hn' j (by simp) _ hj (by rw [e]; simp [oa]), own_set hj fun b hb => .inl hb⟩
    refine hs.upd hj ⟨rfl, rfl, rfl, by first | exact fun _ => Nat.le_refl _ | exact fun _ => Nat.le_add_right _ _⟩ (by simp) (fun b' _ hn' => setRow_other w b b' _ fun e => hn' (by rw [e]; simp [oa])) (fun b' hb' => .inl hb') (by simp [oa]) ?_
    have hag : Ag (fr E Ω) (fr E (Ω.set j (oa ρ (.slice (some ⟨b, off, none⟩) d.length c) [b] (d.set n.toNat u)))) w
        (w.setRow b (cells.toList.take (off + n.toNat * ρ.size + fo) ++ (a.eval v).cells.toList ++ cells.toList.drop (off + n.toNat * ρ.size + fo + φs.length)).toArray) :=
      ⟨fun b' _ hf => fr_set hj hf fun hm => hf.2 (Sat.notin hj (b := b') hm), fun b' _ hf => setRow_other w b b' _ fun e => hf.2 (Sat.notin hj (b := b') (by rw [e]; simp [oa]))⟩
    refine ⟨some ⟨b, off, none⟩, c, by rw [List.length_set], by rw [List.length_set]; exact hc, .inr ⟨b, off, _, ct, rfl, rfl, setRow_heap w b cells _ ct (0, 0) hb, ?_, ?_⟩⟩
    · simp only [List.size_toArray, List.length_append, List.length_take, List.length_drop, Array.length_toList, hvl]; omega
    · intro i hi
      rw [List.length_set] at hi
      have hle2 : (i + 1) * ρ.size ≤ c * ρ.size := Nat.mul_le_mul_right _ (by omega)
      rw [Nat.succ_mul] at hle2
      have hll : cells.toList.length = cells.size := Array.length_toList
      have hvl' : (a.eval v).cells.toList.length = φs.length := by rw [Array.length_toList, hvl]
      have htk : (cells.toList.take (off + n.toNat * ρ.size + fo)).length = off + n.toNat * ρ.size + fo := by rw [List.length_take]; omega
      obtain ⟨es, hes, hcc⟩ := hH i hi
      by_cases hin : i = n.toNat
      · subst hin
        rw [hd] at hes
        have hel : es.length = ρ.size := by rw [hes.length, ρ.len]
        refine ⟨es.take fo ++ (a.eval v).cells.toList ++ es.drop (fo + φs.length), ?_, fun k hk => ?_⟩
        · rw [List.getElem_set_self, hu]
          exact AllP.append (AllP.append ((hes.take fo).mono hag) (hall.mono hag)) ((hes.drop _).mono hag)
        · have h1l : (es.take fo).length = fo := by rw [List.length_take]; omega
          rw [List.getElem?_toArray, List.append_assoc, List.append_assoc]
          by_cases k1 : k < fo
          · rw [List.getElem?_append_left (by omega), List.getElem?_append_left (by omega), List.getElem?_take_of_lt (by omega), List.getElem?_take_of_lt k1, ← hcc k hk]; simp
          · rw [List.getElem?_append_right (l₁ := cells.toList.take (off + n.toNat * ρ.size + fo)) (by omega), List.getElem?_append_right (l₁ := es.take fo) (by omega), htk, h1l,
              show off + n.toNat * ρ.size + k - (off + n.toNat * ρ.size + fo) = k - fo from by omega]
            by_cases k2 : k < fo + φs.length
            · rw [List.getElem?_append_left (by omega), List.getElem?_append_left (by omega)]
            · rw [List.getElem?_append_right (by omega), List.getElem?_append_right (by omega), List.getElem?_drop, List.getElem?_drop, hvl', show fo + φs.length + (k - fo - φs.length) = k from by omega, ← hcc k hk, ← Array.getElem?_toList]
              congr 1; omega
      · refine ⟨es, by rw [List.getElem_set_ne (Ne.symm hin)]; exact hes.mono hag, fun k hk => ?_⟩
        rw [← hcc k hk, List.getElem?_toArray, List.append_assoc]
        rcases Nat.lt_or_gt_of_ne hin with hlt2 | hgt2
        · have : (i + 1) * ρ.size ≤ n.toNat * ρ.size := Nat.mul_le_mul_right _ hlt2
          rw [Nat.succ_mul] at this
          rw [List.getElem?_append_left (by omega), List.getElem?_take, if_pos (by omega)]
          simp
        · have : (n.toNat + 1) * ρ.size ≤ i * ρ.size := Nat.mul_le_mul_right _ hgt2
          rw [Nat.succ_mul] at this
          rw [List.getElem?_append_right (by omega), List.getElem?_append_right (by omega), List.getElem?_drop, htk, hvl']
          simp
          congr 1; omega
end Go.Dc

/-! Slices that stand in structs and in variables become common. -/
namespace Go.Dc
variable [DrawMode]
variable {R : Type} {P : Program} {E : Env} {N : Nat} {Γ Γ' : List (Nat × RP)} {Ω Ω' : List OB} {K : KT R} {m : Option R}

def UpL (hv : Value) (χ : RP) : List RP → List RP → Prop
  | [], [] => True
  | φ :: φs, ψ :: ψs => (φ = ψ ∨ (φ = pv hv ∧ ψ = χ)) ∧ UpL hv χ φs ψs
  | _, _ => False
def Up (hv : Value) (χ : RP) (φ ψ : RP) : Prop := (φ = pv hv ∧ ψ = χ) ∨ ∃ φs ψs, φ = ag φs ∧ ψ = ag ψs ∧ UpL hv χ φs ψs

theorem UpL.all {hv : Value} {χ : RP} {F F' : FP} {w : World} (hF : ∀ b, b < w.heap.size → F b → F' b) (hχ : χ.h F' w hv) : ∀ {φs ψs : List RP} {vs : List Value}, UpL hv χ φs ψs → AllP F w φs vs → AllP F' w ψs vs
  | [], [], _, _, h => by match h with | h => exact AllP.mono (.refl hF) h
  | φ :: φs, ψ :: ψs, v :: vs, ⟨h1, h2⟩, ⟨h3, h4⟩ => by
    refine ⟨?_, UpL.all hF hχ h2 h4⟩
    rcases h1 with rfl | ⟨rfl, rfl⟩
    · exact φ.mono (.refl hF) h3
    · rw [show v = hv from h3]; exact hχ
  | _ :: _, _ :: _, [], _, h => h.elim
  | [], _ :: _, _, h, _ => h.elim
  | _ :: _, [], _, h, _ => h.elim

theorem Up.to {hv : Value} {χ φ ψ : RP} {F F' : FP} {w : World} (hF : ∀ b, b < w.heap.size → F b → F' b) (hχ : χ.h F' w hv) {v : Value} (h : Up hv χ φ ψ) (hv' : φ.h F w v) : ψ.h F' w v := by
  rcases h with ⟨rfl, rfl⟩ | ⟨φs, ψs, rfl, rfl, h⟩
  · rw [show v = hv from hv']; exact hχ
  · obtain ⟨cs, rfl, h1⟩ := hv'
    exact ⟨cs, rfl, h.all hF hχ h1⟩

/-- slots that are turned -/
def OkS (hv : Value) (χ : RP) (Γ : List (Nat × RP)) : List (Nat × RP) → Prop
  | [] => True
  | (t, ψ) :: l => (∃ φ, lk Γ t = some φ ∧ Up hv χ φ ψ) ∧ OkS hv χ Γ l

theorem OkS.mem {hv : Value} {χ : RP} : ∀ {l : List (Nat × RP)}, OkS hv χ Γ l → ∀ t ψ, (t, ψ) ∈ l → ∃ φ, lk Γ t = some φ ∧ Up hv χ φ ψ
  | [], _, t, ψ, h => by simp at h
  | (s, χ') :: l, ⟨h1, h2⟩, t, ψ, h => by
    rcases List.mem_cons.1 h with e | e
    · cases e; exact h1
    · exact OkS.mem h2 t ψ e

/-- variables that are turned -/
def setO (Ω : List OB) : List (Nat × Nat × List RP) → List OB
  | [] => Ω
  | (k, b, ψs) :: l => setO (Ω.set k (oc b ψs)) l
def OkO (hv : Value) (χ : RP) (Ω : List OB) : List (Nat × Nat × List RP) → Prop
  | [] => True
  | (k, b, ψs) :: l => (∃ φs, Ω[k]? = some (oc b φs) ∧ UpL hv χ φs ψs) ∧ OkO hv χ (Ω.set k (oc b ψs)) l

theorem ow_set_same {j : Nat} {o o' : OB} (hj : Ω[j]? = some o) (h : o'.S = o.S) : ow (Ω.set j o') = ow Ω := by
  obtain ⟨A, B, rfl, rfl⟩ := ow_split hj
  rw [set_split, ow_mid, ow_mid, h]

section
variable {α : Type} {ρ : Rep α} {j : Nat} {hv : Value} {S : List Nat} {d : List α}
theorem frz_chi (hj : Ω[j]? = some (oa ρ hv S d)) {a : Act} {w : World} (hs : Sat E N Γ Ω a w) (hF : ∀ b ∈ S, E.Fr b) : (slv ρ d).h (fr E (Ω.set j dead)) w hv := by
  refine oa_sl (hs.objAt hj) (fun b hb ⟨h1, h2⟩ => ⟨h1, fun hm => h2 ?_⟩) (fun b hb => ⟨hF b hb, mem_ow_set hj hs.nd hb (by simp [dead])⟩)
  obtain ⟨A, B, rfl, rfl⟩ := ow_split hj
  rw [set_split] at hm
  rw [ow_mid] at hm ⊢
  simp [dead] at hm
  simp only [List.mem_append]
  exact hm.imp id .inr

end

/-! ### operations whose guard was not carried out itself -/
section
variable {ops : Array Oper} {rest : List Oper}
theorem yielded_un {a : Act} {w : World} (hs : Sat E N Γ Ω a w) {i t : Nat} (hi : (ops[i]?).bind (·.dst) = some t) (ht : lk Γ t = some (pv undef)) : yielded ops a.tmps i = none := by
  have hv := id (hs.sl t _ ht)
  unfold yielded
  rw [hi]
  simp only [Option.bind_some]
  cases h : a.tmps[t]? with
  | none => rfl
  | some v =>
    have : a.tmps.getD t undef = v := by simp [Array.getD_eq_getD_getElem?, h]
    rw [this] at hv
    rw [show v = undef from hv]
    rfl

theorem s_offU {op : Op} {ty : TypeId} {d : Nat} {pos : String} {aft : Array Edge} {i t : Nat} {b : Bool} (hi : (ops[i]?).bind (·.dst) = some t)
    (ht : lk Γ t = some (pv undef)) (hd : Nat.blt d N = true)
    (h : RefL P E N m ops rest ((d, pv undef) :: Γ) Ω K) : RefL P E N m ops (⟨some d, op, ty, pos, aft, some (i, b)⟩ :: rest) Γ Ω K := by
  intro r hm a w hs
  have hlt : d < N := by simpa [Nat.blt_eq] using hd
  have h1 := h r hm _ _ (hs.put (v := undef) hlt rfl)
  have hw : Region.wanted ⟨some d, op, ty, pos, aft, some (i, b)⟩ (yielded ops a.tmps) = false := by simp [Region.wanted, yielded_un hs hi ht]
  unfold wpList
  rw [if_neg (by simp [hw])]
  exact h1

variable {fl : List Nat} (hok : okDraw ops fl = true) {l : Array Bool} {pend : List (Nat × List Nat)}
include hok
theorem a_offU {i : Nat} {op : Op} {ty : TypeId} {pos : String} {aft : Array Edge} {d g t : Nat} {b : Bool} (hi : ops[i]? = some ⟨some d, op, ty, pos, aft, some (g, b)⟩)
    (hg : (ops[g]?).bind (·.dst) = some t) (ht : lk Γ t = some (pv undef)) (hrd : hasN (Region.ready .any ops l) i = true) (hf : hasN fl i = true)
    (hd : Nat.blt d N = true) (h : RefA P E N m ops fl (l.setIfInBounds i true) ((i, []) :: pend) ((d, pv undef) :: Γ) Ω K) : RefA P E N m ops fl l pend Γ Ω K := by
  intro r hm aV w hs lA aA hc
  obtain ⟨hil, o, ho, hpre⟩ := (ready_iff hc.s1).1 (hasN_iff.1 hrd)
  rw [hi] at ho; cases ho
  have hlt : d < N := by simpa [Nat.blt_eq] using hd
  have hlk : ∀ t, t ∈ (⟨some d, op, ty, pos, aft, some (g, b)⟩ : Oper).looksAt ops → (aV.put (some d) undef).tmps.getD t undef = aV.tmps.getD t undef := fun t ht => put_other fun e => okDraw_self hok hi hf (e ▸ rfl) ht
  have hw : Region.wanted ⟨some d, op, ty, pos, aft, some (g, b)⟩ (yielded ops aV.tmps) = false := by simp [Region.wanted, yielded_un hs hg ht]
  refine h r hm _ w (hs.put (v := undef) hlt rfl) lA aA (hc.take hok hi hf rfl hpre hil ⟨_, d, hi, rfl, .inl ⟨?_, ?_⟩⟩)
  · rw [yield_same (ops := ops) put_size hlk]; exact hw
  · rw [put_self (by rw [hs.sz]; exact hlt)]

theorem a_stOffU {i g t : Nat} {b : Bool} {op : Op} {ty : TypeId} {pos : String} {aft : Array Edge} {dst : Option Nat} (hi : ops[i]? = some ⟨dst, op, ty, pos, aft, some (g, b)⟩)
    (hg : (ops[g]?).bind (·.dst) = some t) (ht : lk Γ t = some (pv undef))
    (hf : hasN fl i = false) (hd : ∀ d, dst = some d → Nat.blt d N = true)
    (hsafe : Safe (predsOf ⟨dst, op, ty, pos, aft, some (g, b)⟩) [] Ω Ω pend)
    (h : RefA P E N m ops fl (l.setIfInBounds i true) pend (putΓ Γ dst (pv undef)) Ω K) : Loud P E N m ops fl l pend Γ Ω K i :=
  a_loud (X := Unit) (js := []) (φ := fun _ => pv undef) (Ω' := fun _ => Ω) hok hi hf
    (fun a w hs => .inr ⟨by simp [Region.wanted, yielded_un hs hg ht], (), hs, rfl, Nat.le_refl _, fun _ _ _ => rfl, fun _ _ h => h⟩) hd (fun _ => hsafe) (fun _ => h)
end
end Go.Dc

/-! Arrays. -/
namespace Go.Dc
variable [DrawMode]
variable {P : Program} {E : Env} {N : Nat} {Γ : List (Nat × RP)} {Ω : List OB} {ty : TypeId} {α : Type} {ρ : Rep α}

theorem r_acload {e : TypeId} {x : Operand} {b off j : Nat} {φs : List RP} {es : List α} {n : Int} {y : α} (hy : idxM es n = some y) (hg : ∀ w, (isAgg e).run P w = .ok false w) (hx : lkO Γ x = some (pv (ptr b (off + n.toNat)))) (hj : Ω[j]? = some (oc b φs))
    (hφ : (φs.drop off).take es.length = es.flatMap ρ.cp) (h1 : ρ.size = 1) (ha : ρ.agg = false) : Rd P E N (.load e x) ty Γ Ω [j] (sh ρ y) := by
  obtain ⟨h0, hlt, hi, hd⟩ := idxM_some hy
  refine r_cload hg hx hj ?_
  have hlen : ∀ l : List α, ∀ k (hk : k < l.length), (l.flatMap ρ.cp)[k]? = some (sh ρ l[k]) := fun l => by
    induction l with
    | nil => intro k hk; simp at hk
    | cons z l ih =>
      intro k hk
      obtain ⟨φ, hφ⟩ : ∃ φ, ρ.cp z = [φ] := List.length_eq_one_iff.1 (by rw [ρ.len, h1])
      have hsh : sh ρ z = φ := by unfold sh; rw [ha, hφ]; rfl
      cases k with
      | zero => simp [hφ, hsh]
      | succ k => simp [hφ]; simpa using ih k (by simpa using hk)
  have h3 := hlen es n.toNat hi
  rw [← hφ, List.getElem?_take_of_lt (by omega), List.getElem?_drop, hd] at h3
  exact h3

/-- the element j of an array behind a store of v at n -/
def aset {α : Type} (n j : Int) (v e : α) : α := bif n == j then v else e

theorem s_acstore {e : TypeId} {x v : Operand} {b off j : Nat} {φs out : List RP} {φ : RP} {es : List α} {n : Int} {y : α} (hy : idxM es n = some y) (hn : ∀ w, (Go.sizeOf e).run P w = .ok 1 w)
    (hx : lkO Γ x = some (pv (ptr b (off + n.toNat)))) (hj : Ω[j]? = some (oc b φs)) (hv : PartOk E N Γ Ω v [φ]) (hfit : Nat.ble (off + es.length) φs.length = true)
    (ho : ∀ i : Nat, i < es.length → n = (i : Int) → φs.take (off + i) ++ [φ] ++ φs.drop (off + i + 1) = out) : St P E N (.store e x v) ty Γ Ω [j] (fun _ : Unit => pv undef) (fun _ => Ω.set j (oc b out)) := by
  obtain ⟨h0, hlt, hi, hd⟩ := idxM_some hy
  have hf := Nat.le_of_ble_eq_true hfit
  exact s_cstore hn hx hj hv rfl (Nat.ble_eq_true_of_le (by omega)) (ho n.toNat hi (by omega))

/-! a struct that holds owned slices is stored -/
def AtO (Ω : List OB) : List RP → Prop
  | [] => True
  | φ :: r => (φ.At ∨ ∃ (α : Type) (ρ : Rep α) (hv : Value) (S : List Nat) (d : List α) (j : Nat), φ = pv hv ∧ Ω[j]? = some (oa ρ hv S d)) ∧ AtO Ω r

theorem AtO.all {a : Act} {w : World} (hs : Sat E N Γ Ω a w) : ∀ {φs : List RP} {cs : List Value}, AtO Ω φs → AllP (fr E Ω) w φs cs → ∀ v ∈ cs, v.oneCell' = true
  | [], [], _, _, v, hv => by simp at hv
  | φ :: _, u :: _, ⟨h0, h0'⟩, ⟨h1, h2⟩, v, hv => by
    rcases List.mem_cons.1 hv with e | e
    · rw [e]
      rcases h0 with h0 | ⟨α, ρ, hv, S, d, j, rfl, hj⟩
      · exact h0 h1
      · obtain ⟨ad, c, rfl, _⟩ := hs.objAt hj
        rw [show u = _ from h1]; rfl
    · exact AtO.all hs h0' h2 v e
  | [], _ :: _, _, h, _, _ => h.elim
  | _ :: _, [], _, h, _, _ => h.elim

end Go.Dc

/-! Structs and arrays that are compared. -/
namespace Go.Dc
variable [DrawMode]
variable {P : Program} {E : Env} {N : Nat} {Γ : List (Nat × RP)} {Ω : List OB} {ty : TypeId} {α : Type} [DecidableEq α] {ρ : Rep α}

structure EqT {α : Type} [DecidableEq α] (P : Program) (t : TypeId) (ρ : Rep α) : Prop where
  guard : P.eqGuardType P.depth t = false
  run : ∀ (x y : α) (F : FP) (w : World) (cs ds : Array Value), AllP F w (ρ.cp x) cs.toList → AllP F w (ρ.cp y) ds.toList → ∀ w' : World, (Op.equal t (.agg cs) (.agg ds)).run P w' = .ok (decide (x = y)) w'

theorem r_steql {t yt : TypeId} {x y : Operand} {u v : α} {φs ψs : List RP} (h : EqT P t ρ) (hx : lkO Γ x = some (ag φs)) (hy : lkO Γ y = some (ag ψs)) (hu : ρ.cp u = φs) (hv : ρ.cp v = ψs) :
    Rd P E N (.binOp .eql t x y yt) ty Γ Ω [] (bv (decide (u = v))) := .mk fun a w hs => by
  subst hu; subst hv
  obtain ⟨cs, h1, h2⟩ := hs.op hx
  obtain ⟨ds, h3, h4⟩ := hs.op hy
  refine ⟨.bool (decide (u = v)), rfl, fun w' o hop _ => ?_⟩
  have hr := h.run u v _ w cs ds h2 h4 w'
  have hg := h.guard
  simp [execOp, hop, h1, h3, eqGuard, binOp, hr, hg]
theorem r_stneq {t yt : TypeId} {x y : Operand} {u v : α} {φs ψs : List RP} (h : EqT P t ρ) (hx : lkO Γ x = some (ag φs)) (hy : lkO Γ y = some (ag ψs)) (hu : ρ.cp u = φs) (hv : ρ.cp v = ψs) :
    Rd P E N (.binOp .neq t x y yt) ty Γ Ω [] (bv (!decide (u = v))) := .mk fun a w hs => by
  subst hu; subst hv
  obtain ⟨cs, h1, h2⟩ := hs.op hx
  obtain ⟨ds, h3, h4⟩ := hs.op hy
  refine ⟨.bool (!decide (u = v)), rfl, fun w' o hop _ => ?_⟩
  have hr := h.run u v _ w cs ds h2 h4 w'
  have hg := h.guard
  simp [execOp, hop, h1, h3, eqGuard, binOp, hr, hg]

/-! the fields one after another -/
inductive EqC (P : Program) : TypeId → Value → Value → Bool → Prop
  | int {t : TypeId} {k : IntKind} {a b : Int} (h : P.underlying t = some (.int k)) : EqC P t (.int k a) (.int k b) (a == b)
  | bool {t : TypeId} {a b : Bool} (h : P.underlying t = some .bool) : EqC P t (.bool a) (.bool b) (a == b)
  | str {t : TypeId} {a b : ByteArray} (h : P.underlying t = some .string) : EqC P t (.string a) (.string b) (a.toList == b.toList)

theorem EqC.run {t : TypeId} {x y : Value} {b : Bool} (h : EqC P t x y b) (d : Nat) (w : World) : (Op.equalIn (d + 1) t x y).run P w = .ok b w := by
  cases h with
  | int h => exact run_equalIn_int w d t _ _ _ _ h
  | bool h => exact run_equalIn_bool' w d t _ _ h
  | str h => exact run_equalIn_string w d t _ _ h

/-- fields of one cell each -/
def EqFs (P : Program) : List Go.Field → Nat → List Value → List Value → Bool → Prop
  | [], _, [], [], r => r = true
  | f :: fs, n, x :: xs, y :: ys, r => (f.name ≠ "_" ∧ f.offset = n ∧ (∀ w, (isAgg f.type).run P w = .ok false w)) ∧ ∃ b r', EqC P f.type x y b ∧ EqFs P fs (n + 1) xs ys r' ∧ r = (b && r')
  | _, _, _, _, _ => False

theorem EqFs.run : ∀ {fs : List Go.Field} {n : Nat} {xs ys : List Value} {r : Bool}, EqFs P fs n xs ys r → ∀ (X Y : List Value), X.drop n = xs → Y.drop n = ys → ∀ (d : Nat) (w : World), (Op.eqFields (d + 1) ⟨X⟩ ⟨Y⟩ fs).run P w = .ok r w
  | [], _, [], [], _, h, _, _, _, _, _, _ => by rw [show _ = true from h]; simp [Op.eqFields]
  | f :: fs, n, x :: xs, y :: ys, r, ⟨⟨h1, h2, h3⟩, b, r', h4, h5, h6⟩, X, Y, hX, hY, d, w => by
    have hx : X[n]? = some x := by
      have e : (X.drop n)[0]? = some x := by rw [hX]; rfl
      rwa [List.getElem?_drop, Nat.add_zero] at e
    have hy : Y[n]? = some y := by
      have e : (Y.drop n)[0]? = some y := by rw [hY]; rfl
      rwa [List.getElem?_drop, Nat.add_zero] at e
    have hX' : X.drop (n + 1) = xs := by rw [← List.drop_drop, hX]; rfl
    have hY' : Y.drop (n + 1) = ys := by rw [← List.drop_drop, hY]; rfl
    have hr := EqFs.run h5 X Y hX' hY' d w
    subst h2
    simp only [Op.eqFields, if_pos h1]
    simp [part, h3, hx, hy, h4.run, hr, h6]
    cases b <;> simp
  | [], _, [], _ :: _, _, h, _, _, _, _, _, _ => h.elim
  | [], _, _ :: _, _, _, h, _, _, _, _, _, _ => h.elim
  | _ :: _, _, [], _, _, h, _, _, _, _, _, _ => h.elim
  | _ :: _, _, _ :: _, [], _, h, _, _, _, _, _, _ => h.elim

end Go.Dc
