/- Part Dc.Draw of a proof: lemmas. -/
import Derived.Test.YtejhbimlekcllaaDoorDcMem5
/-! Regions whose order Go leaves open. -/
namespace Go.Dc

variable {P : Program} {E : Env} {N : Nat} {Γ : List (Nat × RP)} {Ω : List OB} {R : Type} {m : Option R} {K : KT R} {ops : Array Oper} {fl : List Nat}

def predsOf (o : Oper) : List Nat := (o.after.toList.filter (Region.binds .any)).map (·.on)
def hasN (l : List Nat) (n : Nat) : Bool := l.any (Nat.beq n)
theorem hasN_iff {l : List Nat} {n : Nat} : hasN l n = true ↔ n ∈ l := by
  simp [hasN]
def isDst (o : Oper) (t : Nat) : Bool := match o.dst with | some d => Nat.beq d t | none => false

/-- the edges are enough: fl are the operations that only look -/
def okPair (ops : Array Oper) (fl : List Nat) (i : Nat) (oi : Oper) (j : Nat) (oj : Oper) : Bool :=
  match oi.dst with
  | none => true
  | some t => bif Nat.beq i j then !(hasN fl i && hasN (oj.looksAt ops) t)
    else !(hasN (oj.looksAt ops) t || isDst oj t) || hasN (predsOf oj) i || (!hasN fl i && hasN (predsOf oi) j)

def okDraw (ops : Array Oper) (fl : List Nat) : Bool :=
  (ops.toList.zipIdx.all fun (oi, i) => (predsOf oi).all (Nat.blt · i) && ops.toList.zipIdx.all fun (oj, j) => okPair ops fl i oi j oj) &&
  Region.noSelect ops && fl.all fun i => match ops[i]? with | some o => o.dst.isSome | none => true

theorem okDraw_pair (h : okDraw ops fl = true) {i j : Nat} {oi oj : Oper} (hi : ops[i]? = some oi) (hj : ops[j]? = some oj) : okPair ops fl i oi j oj = true := by
  simp only [okDraw, Bool.and_eq_true, List.all_eq_true] at h
  have h1 := h.1.1 (oi, i) (List.mk_mem_zipIdx_iff_getElem?.2 (by simpa using hi))
  exact h1.2 (oj, j) (List.mk_mem_zipIdx_iff_getElem?.2 (by simpa using hj))

theorem okDraw_lt (h : okDraw ops fl = true) {i : Nat} {oi : Oper} (hi : ops[i]? = some oi) {e : Edge} (he : e ∈ oi.after) (hb : Region.binds .any e = true) : e.on < i := by
  simp only [okDraw, Bool.and_eq_true, List.all_eq_true] at h
  have h1 := h.1.1 (oi, i) (List.mk_mem_zipIdx_iff_getElem?.2 (by simpa using hi))
  have := h1.1 e.on (List.mem_map.2 ⟨e, List.mem_filter.2 ⟨Array.mem_toList_iff.2 he, hb⟩, rfl⟩)
  simpa [Nat.blt_eq] using this

theorem okDraw_sel (h : okDraw ops fl = true) : Region.noSelect ops = true := by
  simp only [okDraw, Bool.and_eq_true] at h; exact h.1.2

/-- a float i that writes t comes before each operation that reads or writes t -/
theorem okDraw_fl (h : okDraw ops fl = true) {i j : Nat} {oi oj : Oper} (hi : ops[i]? = some oi) (hj : ops[j]? = some oj) (hf : hasN fl i = true) {t : Nat} (ht : oi.dst = some t) (hij : i ≠ j)
    (hr : t ∈ oj.looksAt ops ∨ oj.dst = some t) : ∃ e ∈ oj.after, Region.binds .any e = true ∧ e.on = i := by
  have h1 := okDraw_pair h hi hj
  simp only [okPair, ht, beq_ne hij, cond_false, Bool.or_eq_true, hf, Bool.not_true, Bool.false_and, Bool.false_eq_true, or_false] at h1
  rcases h1 with h1 | h1
  · exfalso
    rcases hr with hr | hr
    · simp [hasN_iff.2 hr] at h1
    · simp [isDst, hr] at h1
  · obtain ⟨e, he, heq⟩ := List.mem_map.1 (hasN_iff.1 h1)
    obtain ⟨h2, h3⟩ := List.mem_filter.1 he
    exact ⟨e, Array.mem_toList_iff.1 h2, h3, heq⟩

theorem okDraw_self (h : okDraw ops fl = true) {i : Nat} {oi : Oper} (hi : ops[i]? = some oi) (hf : hasN fl i = true) {t : Nat} (ht : oi.dst = some t) : t ∉ oi.looksAt ops := fun hm => by
  have h1 := okDraw_pair h hi hi
  simp [okPair, ht, hf, hasN_iff.2 hm] at h1

/-- whoever writes t and whoever reads or writes it are ordered -/
theorem okDraw_any (h : okDraw ops fl = true) {i j : Nat} {oi oj : Oper} (hi : ops[i]? = some oi) (hj : ops[j]? = some oj) {t : Nat} (ht : oi.dst = some t) (hij : i ≠ j)
    (hr : t ∈ oj.looksAt ops ∨ oj.dst = some t) : (∃ e ∈ oj.after, Region.binds .any e = true ∧ e.on = i) ∨ (∃ e ∈ oi.after, Region.binds .any e = true ∧ e.on = j) := by
  have h1 := okDraw_pair h hi hj
  simp only [okPair, ht, beq_ne hij, cond_false, Bool.or_eq_true, Bool.and_eq_true] at h1
  have get : ∀ {o : Oper} {k : Nat}, hasN (predsOf o) k = true → ∃ e ∈ o.after, Region.binds .any e = true ∧ e.on = k := fun hh => by
    obtain ⟨e, he, heq⟩ := List.mem_map.1 (hasN_iff.1 hh)
    obtain ⟨h2, h3⟩ := List.mem_filter.1 he
    exact ⟨e, Array.mem_toList_iff.1 h2, h3, heq⟩
  rcases h1 with (h1 | h1) | h1
  · exfalso
    rcases hr with hr | hr
    · simp [hasN_iff.2 hr] at h1
    · simp [isDst, hr] at h1
  · exact .inl (get h1)
  · exact .inr (get h1.2)

abbrev isL (l : Array Bool) (i : Nat) : Prop := l.getD i false = true

/-- a float that has been carried out in our order, and may be still to come in the real one -/
def PendOk (P : Program) (ops : Array Oper) (aV : Act) (w : World) (Ω : List OB) (i : Nat) (J : List Nat) : Prop :=
  ∃ o d, ops[i]? = some o ∧ o.dst = some d ∧
    ((Region.wanted o (yielded ops aV.tmps) = false ∧ aV.tmps.getD d undef = undef) ∨
     (Region.wanted o (yielded ops aV.tmps) = true ∧ ∃ B : List Nat, (∀ b ∈ B, b < w.heap.size ∧ (b ∉ ow Ω ∨ ∃ j ∈ J, ∃ ob, Ω[j]? = some ob ∧ b ∈ ob.S)) ∧
        ∀ w', (∀ b ∈ B, w'.heap[b]? = w.heap[b]?) → (execOp aV.eval o).run P w' = .ok (.value (aV.tmps.getD d undef)) w'))

structure Cons (P : Program) (ops : Array Oper) (fl : List Nat) (l lA : Array Bool) (aV aA : Act) (w : World) (Ω : List OB) (pend : List (Nat × List Nat)) : Prop where
  s1 : l.size = ops.size
  s2 : lA.size = ops.size
  sub : ∀ i, isL lA i → isL l i
  pd : ∀ i, isL l i → isL lA i ∨ hasN fl i = true ∧ ∃ J, (i, J) ∈ pend ∧ PendOk P ops aV w Ω i J
  dc : ∀ i o, isL l i → ops[i]? = some o → ∀ e ∈ o.after, Region.binds .any e = true → isL l e.on
  ts : aA.tmps.size = aV.tmps.size
  ag : ∀ t, (∀ i o, ops[i]? = some o → o.dst = some t → isL l i → isL lA i) → aA.tmps.getD t undef = aV.tmps.getD t undef
  df : aA.defers = aV.defers

def cntF (l : Array Bool) : Nat := (l.toList.filter (!·)).length

/-- what is left of a region in whatever order -/
abbrev RefA {R : Type} (P : Program) (E : Env) (N : Nat) (m : Option R) (ops : Array Oper) (fl : List Nat) (l : Array Bool) (pend : List (Nat × List Nat)) (Γ : List (Nat × RP)) (Ω : List OB) (K : KT R) : Prop :=
  RefB E N m Γ Ω fun r aV w => ∀ lA aA, Cons P ops fl l lA aV aA w Ω pend → wpAny P .any ops (K r) (cntF lA) lA aA w

theorem isL_set {l : Array Bool} {i j : Nat} (hi : i < l.size) : isL (l.setIfInBounds i true) j ↔ j = i ∨ isL l j := by
  unfold isL
  by_cases e : i = j
  · subst e; simp [hi]
  · rw [getD_set_ne false e]; simp [Ne.symm e]

theorem cntF_set {l : Array Bool} {i : Nat} (hi : i < l.size) (h : ¬ isL l i) : cntF l = cntF (l.setIfInBounds i true) + 1 := by
  have h0 : l[i] = false := by
    unfold isL at h
    simpa [Array.getD, hi] using h
  unfold cntF
  rw [Array.toList_setIfInBounds]
  have hs : l.toList = l.toList.take i ++ false :: l.toList.drop (i + 1) := by
    rw [← h0, ← Array.getElem_toList, List.getElem_cons_drop, List.take_append_drop]
  have ht : (l.toList.take i).length = i := by rw [List.length_take, Array.length_toList]; omega
  have hset : l.toList.set i true = l.toList.take i ++ true :: l.toList.drop (i + 1) := by
    conv => lhs; rw [hs]
    rw [List.set_append_right _ _ (by omega), ht]; simp
  rw [hset]
  conv => lhs; rw [hs]
  simp [List.filter_append]
  omega

theorem cntF_zero {l : Array Bool} (h : cntF l = 0) {i : Nat} (hi : i < l.size) : isL l i := by
  unfold cntF at h
  have h1 := List.filter_eq_nil_iff.1 (List.eq_nil_of_length_eq_zero h) l[i] (by simp)
  unfold isL
  simp [Array.getD, hi]
  simpa using h1

theorem ready_iff {l : Array Bool} (hs : l.size = ops.size) {i : Nat} : i ∈ Region.ready .any ops l ↔ ¬ isL l i ∧ ∃ o, ops[i]? = some o ∧ ∀ e ∈ o.after, Region.binds .any e = true → isL l e.on := by
  rw [mem_ready]
  constructor
  · rintro ⟨h1, o, ho, h2⟩
    have hi : i < l.size := by rw [hs]; exact (Array.getElem?_eq_some_iff.1 ho).1
    refine ⟨?_, o, ho, h2⟩
    unfold isL
    simp [Array.getD, hi] at h1 ⊢
    exact h1
  · rintro ⟨h1, o, ho, h2⟩
    have hi : i < l.size := by rw [hs]; exact (Array.getElem?_eq_some_iff.1 ho).1
    refine ⟨?_, o, ho, h2⟩
    unfold isL at h1
    simp [Array.getD, hi] at h1 ⊢
    exact h1

theorem ready_nil (hok : okDraw ops fl = true) {l : Array Bool} (hs : l.size = ops.size) (h : Region.ready .any ops l = []) : ∀ i, i < ops.size → isL l i := by
  intro i
  induction i using Nat.strongRecOn with
  | _ i ih =>
    intro hi
    refine Classical.byContradiction fun hn => ?_
    have hm : i ∈ Region.ready .any ops l := (ready_iff hs).2 ⟨hn, ops[i], Array.getElem?_eq_getElem hi, fun e he hb => by
      have hlt := okDraw_lt hok (Array.getElem?_eq_getElem hi) he hb
      exact ih e.on hlt (by omega)⟩
    rw [h] at hm; cases hm

theorem eval_same {aA aV : Act} {o : Oper} (hsel : ∀ cs b, o.op ≠ .select cs b) (h : ∀ t, t ∈ o.looksAt ops → aA.tmps.getD t undef = aV.tmps.getD t undef) : execOp aA.eval o = execOp aV.eval o :=
  execOp_congr o hsel fun x hx => by
    cases x with
    | tmp t => exact h t (List.mem_append_left _ (List.mem_filterMap.2 ⟨.tmp t, Array.mem_toList_iff.2 hx, rfl⟩))
    | _ => rfl

theorem getE_of {a b : Array Value} (hts : a.size = b.size) {d : Nat} (h : a.getD d undef = b.getD d undef) : a[d]? = b[d]? := by
  by_cases hlt : d < a.size
  · have hlt' : d < b.size := hts ▸ hlt
    simp [Array.getD, hlt, hlt'] at h
    rw [Array.getElem?_eq_getElem hlt, Array.getElem?_eq_getElem hlt', h]
  · rw [Array.getElem?_eq_none (Nat.le_of_not_lt hlt), Array.getElem?_eq_none (by rw [← hts]; exact Nat.le_of_not_lt hlt)]

theorem yield_same {aA aV : Act} (hts : aA.tmps.size = aV.tmps.size) {o : Oper} (h : ∀ t, t ∈ o.looksAt ops → aA.tmps.getD t undef = aV.tmps.getD t undef) :
    Region.wanted o (yielded ops aA.tmps) = Region.wanted o (yielded ops aV.tmps) := by
  unfold Region.wanted
  cases hg : o.guard with
  | none => rfl
  | some g =>
    obtain ⟨j, b⟩ := g
    simp only
    have : yielded ops aA.tmps j = yielded ops aV.tmps j := by
      unfold yielded
      cases hd : (ops[j]?).bind (·.dst) with
      | none => rfl
      | some d =>
        have h1 := h d (List.mem_append_right _ (by rw [hg]; simp [hd]))
        simp only [Option.bind_some, getE_of hts h1]
    rw [this]

theorem put_other {a : Act} {d t : Nat} {v : Value} (h : t ≠ d) : (a.put (some d) v).tmps.getD t undef = a.tmps.getD t undef := by
  simp [Act.put, Array.getElem?_setIfInBounds_ne (Ne.symm h)]

theorem put_size {a : Act} {d : Option Nat} {v : Value} : (a.put d v).tmps.size = a.tmps.size := by cases d <;> simp [Act.put]

theorem put_self {a : Act} {d : Nat} {v : Value} (hd : d < a.tmps.size) : (a.put (some d) v).tmps.getD d undef = v := by rw [put_getD hd, if_pos rfl]

/-- what is still to come does not hang on what is written -/
def SafeJ (js : List Nat) (Ω Ω' : List OB) : List Nat → Prop
  | [] => True
  | j :: J => (hasN js j = false ∧ Ω'[j]? = Ω[j]?) ∧ SafeJ js Ω Ω' J
def Safe (pre : List Nat) (js : List Nat) (Ω Ω' : List OB) : List (Nat × List Nat) → Prop
  | [] => True
  | (p, J) :: r => (bif hasN pre p then True else SafeJ js Ω Ω' J) ∧ Safe pre js Ω Ω' r

theorem SafeJ.at {js : List Nat} {Ω Ω' : List OB} : ∀ {J : List Nat}, SafeJ js Ω Ω' J → ∀ j ∈ J, j ∉ js ∧ Ω'[j]? = Ω[j]?
  | [], _, j, hj => by simp at hj
  | k :: J, h, j, hj => by
    obtain ⟨⟨h1, h2⟩, h3⟩ := h
    rcases List.mem_cons.1 hj with e | e
    · subst e; exact ⟨fun h => (by rw [hasN_iff.2 h] at h1; cases h1), h2⟩
    · exact SafeJ.at h3 j e

theorem Safe.at {pre js : List Nat} {Ω Ω' : List OB} : ∀ {pend : List (Nat × List Nat)}, Safe pre js Ω Ω' pend → ∀ p J, (p, J) ∈ pend → p ∉ pre → ∀ j ∈ J, j ∉ js ∧ Ω'[j]? = Ω[j]?
  | [], _, p, J, h, _ => by simp at h
  | (q, J') :: r, hs, p, J, h, hp => by
    obtain ⟨h1, h2⟩ := hs
    rcases List.mem_cons.1 h with e | e
    · rw [show q = p from (congrArg Prod.fst e).symm, show J' = J from (congrArg Prod.snd e).symm] at h1
      have : hasN pre p = false := by cases hh : hasN pre p; rfl; exact absurd (hasN_iff.1 hh) hp
      rw [this] at h1
      exact SafeJ.at h1
    · exact Safe.at h2 p J e hp

def putΓ (Γ : List (Nat × RP)) (dst : Option Nat) (φ : RP) : List (Nat × RP) := match dst with | some d => (d, φ) :: Γ | none => Γ

theorem disj {q k : Nat} {o o' : OB} (hq : Ω[q]? = some o) (hk : Ω[k]? = some o') (hqk : q ≠ k) (hnd : (ow Ω).Nodup) {b : Nat} (h1 : b ∈ o.S) (h2 : b ∈ o'.S) : False := by
  have hk2 : (Ω.set q dead)[k]? = some o' := by rw [List.getElem?_set_ne hqk]; exact hk
  exact mem_ow_set (o' := dead) hq hnd h1 (by simp [dead]) (Sat.notin hk2 h2)

/-- a loud operation that only looks (an assignment) -/
theorem St.ofRd {op : Op} {ty : TypeId} {φ : RP} {J : List Nat} (h : Rd P E N op ty Γ Ω J φ) : St P E N op ty Γ Ω [] (fun _ : Unit => φ) (fun _ => Ω) := by
  intro a w hs o ho ht
  obtain ⟨v, B, hv, _, hrun⟩ := h a w hs
  rw [hrun w (fun _ _ => rfl) o ho ht]
  exact ⟨(), hs, hv, Nat.le_refl _, fun _ _ _ => rfl, fun _ _ h => h⟩

section
variable (hok : okDraw ops fl = true) {l lA : Array Bool} {aV aA : Act} {w : World} {pend : List (Nat × List Nat)}
include hok

/-- operands of an operation that is ready read the same in both states -/
theorem Cons.look (hc : Cons P ops fl l lA aV aA w Ω pend) {j : Nat} {oj : Oper} (hj : ops[j]? = some oj) (hr : ∀ e ∈ oj.after, Region.binds .any e = true → isL lA e.on) (hjA : ¬ isL lA j) :
    ∀ t, t ∈ oj.looksAt ops → aA.tmps.getD t undef = aV.tmps.getD t undef := fun t ht => hc.ag t fun i oi hi hd hl => by
  refine Classical.byContradiction fun hn => ?_
  rcases hc.pd i hl with h1 | ⟨hf, _⟩
  · exact hn h1
  · by_cases hij : i = j
    · subst hij
      have : oi = oj := by rw [hi] at hj; exact Option.some.inj hj
      subst this
      exact okDraw_self hok hi hf hd ht
    · obtain ⟨e, he, hb, heq⟩ := okDraw_fl hok hi hj hf hd hij (.inl ht)
      exact hn (heq ▸ hr e he hb)

/-- the real state comes to a float that was taken first -/
theorem Cons.catch (hc : Cons P ops fl l lA aV aA w Ω pend) {j : Nat} {oj : Oper} (hj : ops[j]? = some oj) (hr : ∀ e ∈ oj.after, Region.binds .any e = true → isL lA e.on) (hjA : ¬ isL lA j) (hjV : isL l j)
    {K : Act → World → Prop} {Q : Exit → Act → World → Prop} (hK : ∀ aA', Cons P ops fl l (lA.setIfInBounds j true) aV aA' w Ω pend → K aA' w) : wpOp P ops Q j K aA w := by
  have hlook := hc.look hok hj hr hjA
  rcases hc.pd j hjV with h1 | ⟨hf, J, hJ, o, d, ho, hd, hP⟩
  · exact absurd h1 hjA
  have : o = oj := by rw [hj] at ho; exact (Option.some.inj ho).symm
  subst this
  have hjs : j < lA.size := by rw [hc.s2]; exact (Array.getElem?_eq_some_iff.1 hj).1
  have hcons : ∀ v, v = aV.tmps.getD d undef → Cons P ops fl l (lA.setIfInBounds j true) aV (aA.put o.dst v) w Ω pend := fun v hv => by
    rw [hd]
    refine ⟨hc.s1, by simpa using hc.s2, fun i hi => ?_, fun i hi => ?_, hc.dc, by rw [put_size]; exact hc.ts, fun t ht => ?_, hc.df⟩
    · rcases (isL_set hjs).1 hi with e | e
      · rw [e]; exact hjV
      · exact hc.sub i e
    · exact (hc.pd i hi).imp (fun h => (isL_set hjs).2 (.inr h)) id
    · by_cases e : t = d
      · subst e
        by_cases hlt : t < aA.tmps.size
        · rw [put_self hlt, hv]
        · rw [hv]
          simp [Array.getD, put_size, hlt, hc.ts ▸ hlt]
      · rw [put_other e]
        refine hc.ag t fun i oi hi hdi hl => ?_
        rcases (isL_set hjs).1 (ht i oi hi hdi hl) with e2 | e2
        · exfalso
          rw [e2] at hi
          have : oi = o := by rw [hj] at hi; exact (Option.some.inj hi).symm
          rw [this, hd] at hdi
          exact e (Option.some.inj hdi).symm
        · exact e2
  unfold wpOp
  simp only [hj]
  rw [yield_same hc.ts hlook]
  rcases hP with ⟨hw, hu⟩ | ⟨hw, B, hB, hrun⟩
  · rw [if_neg (by simp [hw])]
    exact hK _ (hcons undef hu.symm)
  · rw [if_pos hw]
    refine .inl ?_
    unfold Oper.wp
    rw [eval_same (fun cs b => Region.noSelect_spec (okDraw_sel hok) j o cs b hj) hlook, hrun w fun _ _ => rfl]
    exact hK _ (hcons _ rfl)

/-- nothing is left in our order -/
theorem a_end (hl : ∀ i, i < ops.size → isL l i) (h : RefE E N .normal m Γ Ω K) : RefA P E N m ops fl l pend Γ Ω K := by
  intro r hr aV w hs lA aA hc
  generalize hn : cntF lA = n
  induction n generalizing lA aA with
  | zero =>
    have hall : ∀ i, i < ops.size → isL lA i := fun i hi => cntF_zero hn (by rw [hc.s2]; exact hi)
    have hrd : Region.ready .any ops lA = [] := List.eq_nil_iff_forall_not_mem.2 fun i hi => by
      obtain ⟨h1, o, ho, _⟩ := (ready_iff hc.s2).1 hi
      exact h1 (hall i (Array.getElem?_eq_some_iff.1 ho).1)
    have haa : aA = aV := by
      have ht : aA.tmps = aV.tmps := Array.ext hc.ts fun i h1 h2 => by
        have := hc.ag i fun j oj hj _ _ => hall j (Array.getElem?_eq_some_iff.1 hj).1
        simpa [Array.getD, h1, h2] using this
      cases aA; cases aV; simp at ht; simp [ht]; exact hc.df
    subst haa
    exact wpAny_done hrd (h r hr _ w hs) 0
  | succ n ih =>
    have hrd : Region.ready .any ops lA = [] → (K r) .normal aA w := fun h0 => by
      have hall := ready_nil hok hc.s2 h0
      have : cntF lA = 0 := by
        unfold cntF
        rw [List.length_eq_zero_iff, List.filter_eq_nil_iff]
        intro x hx
        obtain ⟨i, hi, rfl⟩ := List.getElem_of_mem hx
        have := hall i (by rw [← hc.s2]; simpa using hi)
        unfold isL at this
        simp at hi
        simp [Array.getD, hi] at this
        simp [this]
      omega
    refine ⟨hrd, fun j hj => ?_⟩
    obtain ⟨hjA, oj, hoj, hpre⟩ := (ready_iff hc.s2).1 hj
    have hjs : j < lA.size := by rw [hc.s2]; exact (Array.getElem?_eq_some_iff.1 hoj).1
    refine hc.catch hok hoj hpre hjA (hl j (Array.getElem?_eq_some_iff.1 hoj).1) fun aA' hc' => ?_
    exact ih _ _ hc' (by have := cntF_set hjs hjA; omega)

/-- a float is taken -/
theorem Cons.take (hc : Cons P ops fl l lA aV aA w Ω pend) {i : Nat} {o : Oper} {d : Nat} {v : Value} (hi : ops[i]? = some o) (hf : hasN fl i = true) (hd : o.dst = some d) (hpre : ∀ e ∈ o.after, Region.binds .any e = true → isL l e.on)
    (hil : ¬ isL l i) {J : List Nat} (hP : PendOk P ops (aV.put (some d) v) w Ω i J) : Cons P ops fl (l.setIfInBounds i true) lA (aV.put (some d) v) aA w Ω ((i, J) :: pend) := by
  have his : i < l.size := by rw [hc.s1]; exact (Array.getElem?_eq_some_iff.1 hi).1
  refine ⟨by simpa using hc.s1, hc.s2, fun j hj => (isL_set his).2 (.inr (hc.sub j hj)), fun j hj => ?_, fun j oj hj hoj e he hb => (isL_set his).2 ?_, by rw [put_size]; exact hc.ts, fun t ht => ?_, hc.df⟩
  · rcases (isL_set his).1 hj with e | hj
    · subst e; exact .inr ⟨hf, J, by simp, hP⟩
    · refine (hc.pd j hj).imp id fun ⟨h1, J', h2, o', d', ho', hd', h3⟩ => ⟨h1, J', List.mem_cons_of_mem _ h2, o', d', ho', hd', ?_⟩
      -- the older floats do not see what this one writes
      have hij : i ≠ j := fun e => hil (e ▸ hj)
      have hno : ∀ t, t ∈ o'.looksAt ops ∨ o'.dst = some t → t ≠ d := fun t ht e => by
        subst e
        obtain ⟨e, he, hb, heq⟩ := okDraw_fl hok hi ho' hf hd hij ht
        exact hil (heq ▸ hc.dc j o' hj ho' e he hb)
      have e1 : ∀ t, t ∈ o'.looksAt ops → (aV.put (some d) v).tmps.getD t undef = aV.tmps.getD t undef := fun t ht => put_other (hno t (.inl ht))
      have e2 := put_other (a := aV) (v := v) (hno d' (.inr hd'))
      have e3 : Region.wanted o' (yielded ops (aV.put (some d) v).tmps) = Region.wanted o' (yielded ops aV.tmps) := yield_same (ops := ops) put_size e1
      have e4 : execOp (aV.put (some d) v).eval o' = execOp aV.eval o' := eval_same (ops := ops) (fun cs b => Region.noSelect_spec (okDraw_sel hok) j o' cs b ho') e1
      rw [e2, e3, e4]; exact h3
  · rcases (isL_set his).1 hj with e2 | hj
    · subst e2
      have : oj = o := by rw [hi] at hoj; exact (Option.some.inj hoj).symm
      subst this
      exact .inr (hpre e he hb)
    · exact .inr (hc.dc j oj hj hoj e he hb)
  · have hne : t ≠ d := fun e => by
      subst e
      exact hil (hc.sub i (ht i o hi hd ((isL_set his).2 (.inl rfl))))
    rw [put_other hne]
    exact hc.ag t fun j oj hj hdj hl => ht j oj hj hdj ((isL_set his).2 (.inr hl))

theorem a_rd {i : Nat} {op : Op} {ty : TypeId} {pos : String} {aft : Array Edge} {d : Nat} {φ : RP} {J : List Nat} (hi : ops[i]? = some ⟨some d, op, ty, pos, aft, none⟩) (hrd : hasN (Region.ready .any ops l) i = true) (hf : hasN fl i = true)
    (hr : Rd P E N op ty Γ Ω J φ) (hd : Nat.blt d N = true) (h : RefA P E N m ops fl (l.setIfInBounds i true) ((i, J) :: pend) ((d, φ) :: Γ) Ω K) : RefA P E N m ops fl l pend Γ Ω K := by
  intro r hm aV w hs lA aA hc
  obtain ⟨hil, o, ho, hpre⟩ := (ready_iff hc.s1).1 (hasN_iff.1 hrd)
  rw [hi] at ho; cases ho
  have hlt : d < N := by simpa [Nat.blt_eq] using hd
  obtain ⟨v, B, hv, hB, hrun⟩ := hr aV w hs
  have hself : aV.put (some d) v = aV.put (some d) v := rfl
  have hlk : ∀ t, t ∈ (⟨some d, op, ty, pos, aft, none⟩ : Oper).looksAt ops → (aV.put (some d) v).tmps.getD t undef = aV.tmps.getD t undef := fun t ht => put_other fun e => okDraw_self hok hi hf (e ▸ rfl) ht
  refine h r hm _ w (hs.put hlt hv) lA aA (hc.take hok hi hf rfl hpre hil ⟨_, d, hi, rfl, .inr ⟨by simp [Region.wanted], B, hB, fun w' hw' => ?_⟩⟩)
  rw [eval_same (ops := ops) (fun cs b => Region.noSelect_spec (okDraw_sel hok) i _ cs b hi) hlk, put_self (by rw [hs.sz]; exact hlt)]
  exact hrun w' hw' _ rfl rfl

/-- a guarded float that is wanted -/
theorem a_rdOn {i : Nat} {op : Op} {ty : TypeId} {pos : String} {aft : Array Edge} {d g t : Nat} {b : Bool} {φ : RP} {J : List Nat} (hi : ops[i]? = some ⟨some d, op, ty, pos, aft, some (g, b)⟩)
    (hg : (ops[g]?).bind (·.dst) = some t) (ht : lk Γ t = some (bv b)) (hN : Nat.blt t N = true) (hrd : hasN (Region.ready .any ops l) i = true) (hf : hasN fl i = true)
    (hr : Rd P E N op ty Γ Ω J φ) (hd : Nat.blt d N = true) (h : RefA P E N m ops fl (l.setIfInBounds i true) ((i, J) :: pend) ((d, φ) :: Γ) Ω K) : RefA P E N m ops fl l pend Γ Ω K := by
  intro r hm aV w hs lA aA hc
  obtain ⟨hil, o, ho, hpre⟩ := (ready_iff hc.s1).1 (hasN_iff.1 hrd)
  rw [hi] at ho; cases ho
  have hlt : d < N := by simpa [Nat.blt_eq] using hd
  obtain ⟨v, B, hv, hB, hrun⟩ := hr aV w hs
  have hlk : ∀ t, t ∈ (⟨some d, op, ty, pos, aft, some (g, b)⟩ : Oper).looksAt ops → (aV.put (some d) v).tmps.getD t undef = aV.tmps.getD t undef := fun t ht => put_other fun e => okDraw_self hok hi hf (e ▸ rfl) ht
  have hw : Region.wanted ⟨some d, op, ty, pos, aft, some (g, b)⟩ (yielded ops aV.tmps) = true := by simp [Region.wanted, yielded_of hs hg ht hN]
  refine h r hm _ w (hs.put hlt hv) lA aA (hc.take hok hi hf rfl hpre hil ⟨_, d, hi, rfl, .inr ⟨?_, B, hB, fun w' hw' => ?_⟩⟩)
  · rw [yield_same (ops := ops) put_size hlk]; exact hw
  · rw [eval_same (ops := ops) (fun cs b => Region.noSelect_spec (okDraw_sel hok) i _ cs b hi) hlk, put_self (by rw [hs.sz]; exact hlt)]
    exact hrun w' hw' _ rfl rfl

/-- a guarded operation that is not wanted -/
theorem a_off {i : Nat} {op : Op} {ty : TypeId} {pos : String} {aft : Array Edge} {d g t : Nat} {b c : Bool} (hi : ops[i]? = some ⟨some d, op, ty, pos, aft, some (g, b)⟩)
    (hg : (ops[g]?).bind (·.dst) = some t) (ht : lk Γ t = some (bv c)) (hN : Nat.blt t N = true) (hbc : (c == b) = false) (hrd : hasN (Region.ready .any ops l) i = true) (hf : hasN fl i = true)
    (hd : Nat.blt d N = true) (h : RefA P E N m ops fl (l.setIfInBounds i true) ((i, []) :: pend) ((d, pv undef) :: Γ) Ω K) : RefA P E N m ops fl l pend Γ Ω K := by
  intro r hm aV w hs lA aA hc
  obtain ⟨hil, o, ho, hpre⟩ := (ready_iff hc.s1).1 (hasN_iff.1 hrd)
  rw [hi] at ho; cases ho
  have hlt : d < N := by simpa [Nat.blt_eq] using hd
  have hlk : ∀ t, t ∈ (⟨some d, op, ty, pos, aft, some (g, b)⟩ : Oper).looksAt ops → (aV.put (some d) undef).tmps.getD t undef = aV.tmps.getD t undef := fun t ht => put_other fun e => okDraw_self hok hi hf (e ▸ rfl) ht
  have hw : Region.wanted ⟨some d, op, ty, pos, aft, some (g, b)⟩ (yielded ops aV.tmps) = false := by
    simp [Region.wanted, yielded_of hs hg ht hN]; simpa using hbc
  refine h r hm _ w (hs.put (v := undef) hlt rfl) lA aA (hc.take hok hi hf rfl hpre hil ⟨_, d, hi, rfl, .inl ⟨?_, ?_⟩⟩)
  · rw [yield_same (ops := ops) put_size hlk]; exact hw
  · rw [put_self (by rw [hs.sz]; exact hlt)]

/-- what a loud operation leaves -/
def Loud (P : Program) (E : Env) (N : Nat) (m : Option R) (ops : Array Oper) (fl : List Nat) (l : Array Bool) (pend : List (Nat × List Nat)) (Γ : List (Nat × RP)) (Ω : List OB) (K : KT R) (i : Nat) : Prop :=
  RefB E N m Γ Ω fun r aV w => ∀ lA aA, Cons P ops fl l lA aV aA w Ω pend → ¬ isL lA i → i ∈ Region.ready .any ops lA → wpOp P ops (K r) i (wpAny P .any ops (K r) (cntF (lA.setIfInBounds i true)) (lA.setIfInBounds i true)) aA w

/-- all that may come next, if no float is left -/
theorem a_all {rs : List Nat} (hrs : Region.ready .any ops l = rs) (hne : rs ≠ []) (h : ∀ i ∈ rs, Loud P E N m ops fl l pend Γ Ω K i) : RefA P E N m ops fl l pend Γ Ω K := by
  intro r hr aV w hs lA aA hc
  generalize hn : cntF lA = n
  induction n generalizing lA aA with
  | zero =>
    exfalso
    obtain ⟨i, hi⟩ := List.exists_mem_of_ne_nil rs hne
    rw [← hrs] at hi
    obtain ⟨h1, o, ho, _⟩ := (ready_iff hc.s1).1 hi
    exact h1 (hc.sub i (cntF_zero hn (by rw [hc.s2]; exact (Array.getElem?_eq_some_iff.1 ho).1)))
  | succ n ih =>
    refine ⟨fun h0 => ?_, fun j hj => ?_⟩
    · exfalso
      obtain ⟨i, hi⟩ := List.exists_mem_of_ne_nil rs hne
      rw [← hrs] at hi
      obtain ⟨h1, o, ho, _⟩ := (ready_iff hc.s1).1 hi
      exact h1 (hc.sub i (ready_nil hok hc.s2 h0 i (Array.getElem?_eq_some_iff.1 ho).1))
    · obtain ⟨hjA, oj, hoj, hpre⟩ := (ready_iff hc.s2).1 hj
      have hjs : j < lA.size := by rw [hc.s2]; exact (Array.getElem?_eq_some_iff.1 hoj).1
      have hcnt := cntF_set hjs hjA
      by_cases hjV : isL l j
      · exact hc.catch hok hoj hpre hjA hjV fun aA' hc' => ih _ _ hc' (by omega)
      · have hjr : j ∈ rs := hrs ▸ (ready_iff hc.s1).2 ⟨hjV, oj, hoj, fun e he hb => hc.sub _ (hpre e he hb)⟩
        have h1 := h j hjr r hr aV w hs lA aA hc hjA hj
        rwa [show cntF (lA.setIfInBounds j true) = n from by omega] at h1

theorem a_loud {X : Type} {i : Nat} {op : Op} {ty : TypeId} {pos : String} {aft : Array Edge} {gd : Option (Nat × Bool)} {dst : Option Nat} {js : List Nat} {φ : X → RP} {Ω' : X → List OB} (hi : ops[i]? = some ⟨dst, op, ty, pos, aft, gd⟩)
    (hf : hasN fl i = false)
    (hr : ∀ a w, Sat E N Γ Ω a w → (Region.wanted ⟨dst, op, ty, pos, aft, gd⟩ (yielded ops a.tmps) = true ∧ opwp P op ty a.eval w fun v w' => ∃ x, Sat E N Γ (Ω' x) a w' ∧ (φ x).h (fr E (Ω' x)) w' v ∧ Eff Ω (Ω' x) js w w') ∨
      (Region.wanted ⟨dst, op, ty, pos, aft, gd⟩ (yielded ops a.tmps) = false ∧ ∃ x, Sat E N Γ (Ω' x) a w ∧ (φ x).h (fr E (Ω' x)) w undef ∧ Eff Ω (Ω' x) js w w))
    (hd : ∀ d, dst = some d → Nat.blt d N = true)
    (hsafe : ∀ x, Safe (predsOf ⟨dst, op, ty, pos, aft, gd⟩) js Ω (Ω' x) pend)
    (h : ∀ x, RefA P E N m ops fl (l.setIfInBounds i true) pend (putΓ Γ dst (φ x)) (Ω' x) K) : Loud P E N m ops fl l pend Γ Ω K i := by
  intro r hm aV w hs lA aA hc hiA hiR
  obtain ⟨_, o, ho, hpre⟩ := (ready_iff hc.s2).1 hiR
  rw [hi] at ho; cases ho
  have hlook := hc.look hok hi hpre hiA
  have hiN : i < ops.size := (Array.getElem?_eq_some_iff.1 hi).1
  have his : i < l.size := by rw [hc.s1]; exact hiN
  have hisA : i < lA.size := by rw [hc.s2]; exact hiN
  have hdN : ∀ d, dst = some d → d < N := fun d h => by simpa [Nat.blt_eq] using hd d h
  have key : ∀ v w', (∃ x, Sat E N Γ (Ω' x) aV w' ∧ (φ x).h (fr E (Ω' x)) w' v ∧ Eff Ω (Ω' x) js w w') →
      wpAny P .any ops (K r) (cntF (lA.setIfInBounds i true)) (lA.setIfInBounds i true) (aA.put dst v) w' := ?key
  · unfold wpOp
    simp only [hi]
    rw [yield_same (ops := ops) hc.ts hlook]
    rcases hr aV w hs with ⟨hw, hrr⟩ | ⟨hw, hrr⟩
    · rw [if_pos hw]
      refine .inl ?_
      unfold Oper.wp
      rw [eval_same (ops := ops) (fun cs b => Region.noSelect_spec (okDraw_sel hok) i _ cs b hi) hlook]
      exact resW.upon key (hrr _ rfl rfl)
    · rw [if_neg (by simp [hw])]
      exact key _ _ hrr
  rintro v w' ⟨x, hs', hv, heff⟩
  have hsz := heff.size
  have hsat : Sat E N (putΓ Γ dst (φ x)) (Ω' x) (aV.put dst v) w' := by
    unfold putΓ
    split
    · rename_i d; exact hs'.put (hdN d rfl) hv
    · exact hs'
  refine h x r hm _ w' hsat _ _ ?_
  refine ⟨by simpa using hc.s1, by simpa using hc.s2, fun j hj => (isL_set his).2 (((isL_set hisA).1 hj).imp id (hc.sub j)), fun j hj => ?_, fun j oj hj hoj e he hb => (isL_set his).2 ?_,
    by rw [put_size, put_size]; exact hc.ts, fun t ht => ?_, by cases dst <;> exact hc.df⟩
  · rcases (isL_set his).1 hj with e | hj
    · exact .inl ((isL_set hisA).2 (.inl e))
    · by_cases hjA : isL lA j
      · exact .inl ((isL_set hisA).2 (.inr hjA))
      · rcases hc.pd j hj with h2 | ⟨hjf, J, hJ, o', d', ho', hd', h3⟩
        · exact absurd h2 hjA
        · refine .inr ⟨hjf, J, hJ, o', d', ho', hd', ?_⟩
          have hij : j ≠ i := fun e => by rw [e, hf] at hjf; cases hjf
          -- the float j does not look at what i writes, nor write it
          have hno : ∀ t, t ∈ o'.looksAt ops ∨ o'.dst = some t → dst ≠ some t := fun t ht e => by
            rcases okDraw_any hok hi ho' e (Ne.symm hij) ht with ⟨e2, he, hb, heq⟩ | ⟨e2, he, hb, heq⟩
            · have := hc.dc j o' hj ho' e2 he hb
              rw [heq] at this
              rcases hc.pd i this with h4 | ⟨h4, _⟩
              · exact hiA h4
              · rw [h4] at hf; cases hf
            · exact hjA (heq ▸ hpre e2 he hb)
          have e0 : ∀ t, dst ≠ some t → (aV.put dst v).tmps.getD t undef = aV.tmps.getD t undef := fun t ht => by
            cases dst with
            | none => rfl
            | some d => exact put_other fun e => ht (by rw [e])
          have e1 : ∀ t, t ∈ o'.looksAt ops → (aV.put dst v).tmps.getD t undef = aV.tmps.getD t undef := fun t ht => e0 t (hno t (.inl ht))
          rw [e0 d' (hno d' (.inr hd')), yield_same (ops := ops) put_size e1, eval_same (ops := ops) (fun cs b => Region.noSelect_spec (okDraw_sel hok) j o' cs b ho') e1]
          have hnp : j ∉ predsOf ⟨dst, op, ty, pos, aft, gd⟩ := fun hp => by
            obtain ⟨e2, he, heq⟩ := List.mem_map.1 hp
            obtain ⟨he1, he2⟩ := List.mem_filter.1 he
            exact hjA (heq ▸ hpre e2 (Array.mem_toList_iff.1 he1) he2)
          have hJs := Safe.at (hsafe x) j J hJ hnp
          refine h3.imp id fun ⟨hw, B, hB, hrun⟩ => ⟨hw, B, fun b hb => ?_, fun w'' hw'' => hrun w'' fun b hb => ?_⟩
          · obtain ⟨hbl, hbo⟩ := hB b hb
            exact ⟨by omega, hbo.elim (fun h => .inl fun hm => h (heff.own b hbl hm)) fun ⟨k, hk, ob, hob, hbS⟩ => .inr ⟨k, hk, ob, by rw [(hJs k hk).2]; exact hob, hbS⟩⟩
          · obtain ⟨hbl, hbo⟩ := hB b hb
            rw [hw'' b hb]
            refine heff.keep b hbl fun k hk ob hob hbS => ?_
            rcases hbo with h5 | ⟨q, hq, ob', hob', hbS'⟩
            · exact h5 (Sat.notin hob hbS)
            · exact disj hob' hob (fun e => (hJs q hq).1 (e ▸ hk)) hs.nd hbS' hbS
  · rcases (isL_set his).1 hj with e2 | hj
    · subst e2
      rw [hi] at hoj; cases hoj
      exact .inr (hc.sub _ (hpre e he hb))
    · exact .inr (hc.dc j oj hj hoj e he hb)
  · cases dst with
    | none =>
      refine hc.ag t fun j oj hj hdj hl => ?_
      rcases (isL_set hisA).1 (ht j oj hj hdj ((isL_set his).2 (.inr hl))) with e | e
      · subst e; rw [hi] at hj; cases hj; cases hdj
      · exact e
    | some d =>
      by_cases e : t = d
      · subst e
        have hlt : t < aV.tmps.size := by rw [hs.sz]; exact hdN t rfl
        rw [put_self hlt, put_self (by rw [hc.ts]; exact hlt)]
      · rw [put_other e, put_other e]
        refine hc.ag t fun j oj hj hdj hl => ?_
        rcases (isL_set hisA).1 (ht j oj hj hdj ((isL_set his).2 (.inr hl))) with e2 | e2
        · subst e2; rw [hi] at hj; cases hj; exact absurd (Option.some.inj hdj).symm e
        · exact e2

theorem a_st {X : Type} {i : Nat} {op : Op} {ty : TypeId} {pos : String} {aft : Array Edge} {dst : Option Nat} {js : List Nat} {φ : X → RP} {Ω' : X → List OB} (hi : ops[i]? = some ⟨dst, op, ty, pos, aft, none⟩)
    (hf : hasN fl i = false) (hr : St P E N op ty Γ Ω js φ Ω') (hd : ∀ d, dst = some d → Nat.blt d N = true)
    (hsafe : ∀ x, Safe (predsOf ⟨dst, op, ty, pos, aft, none⟩) js Ω (Ω' x) pend)
    (h : ∀ x, RefA P E N m ops fl (l.setIfInBounds i true) pend (putΓ Γ dst (φ x)) (Ω' x) K) : Loud P E N m ops fl l pend Γ Ω K i :=
  a_loud hok hi hf (fun a w hs => .inl ⟨by simp [Region.wanted], hr a w hs⟩) hd hsafe h

/-- a loud operation under a guard that is met -/
theorem a_stOn {X : Type} {i g t : Nat} {b : Bool} {op : Op} {ty : TypeId} {pos : String} {aft : Array Edge} {dst : Option Nat} {js : List Nat} {φ : X → RP} {Ω' : X → List OB} (hi : ops[i]? = some ⟨dst, op, ty, pos, aft, some (g, b)⟩)
    (hg : (ops[g]?).bind (·.dst) = some t) (ht : lk Γ t = some (bv b)) (hN : Nat.blt t N = true)
    (hf : hasN fl i = false) (hr : St P E N op ty Γ Ω js φ Ω') (hd : ∀ d, dst = some d → Nat.blt d N = true)
    (hsafe : ∀ x, Safe (predsOf ⟨dst, op, ty, pos, aft, some (g, b)⟩) js Ω (Ω' x) pend)
    (h : ∀ x, RefA P E N m ops fl (l.setIfInBounds i true) pend (putΓ Γ dst (φ x)) (Ω' x) K) : Loud P E N m ops fl l pend Γ Ω K i :=
  a_loud hok hi hf (fun a w hs => .inl ⟨by simp [Region.wanted, yielded_of hs hg ht hN], hr a w hs⟩) hd hsafe h

/-- a loud operation under a guard that is not met -/
theorem a_stOff {i g t : Nat} {b c : Bool} {op : Op} {ty : TypeId} {pos : String} {aft : Array Edge} {dst : Option Nat} (hi : ops[i]? = some ⟨dst, op, ty, pos, aft, some (g, b)⟩)
    (hg : (ops[g]?).bind (·.dst) = some t) (ht : lk Γ t = some (bv c)) (hN : Nat.blt t N = true) (hbc : (c == b) = false)
    (hf : hasN fl i = false) (hd : ∀ d, dst = some d → Nat.blt d N = true)
    (hsafe : Safe (predsOf ⟨dst, op, ty, pos, aft, some (g, b)⟩) [] Ω Ω pend)
    (h : RefA P E N m ops fl (l.setIfInBounds i true) pend (putΓ Γ dst (pv undef)) Ω K) : Loud P E N m ops fl l pend Γ Ω K i :=
  a_loud (X := Unit) (js := []) (φ := fun _ => pv undef) (Ω' := fun _ => Ω) hok hi hf
    (fun a w hs => .inr ⟨by simp [Region.wanted, yielded_of hs hg ht hN]; simpa using hbc, (), hs, rfl, Nat.le_refl _, fun _ _ _ => rfl, fun _ _ h => h⟩) hd (fun _ => hsafe) (fun _ => h)
end

def LoudAll (P : Program) (E : Env) (N : Nat) (m : Option R) (ops : Array Oper) (fl : List Nat) (l : Array Bool) (pend : List (Nat × List Nat)) (Γ : List (Nat × RP)) (Ω : List OB) (K : KT R) : List Nat → Prop
  | [] => True
  | i :: is => Loud P E N m ops fl l pend Γ Ω K i ∧ LoudAll P E N m ops fl l pend Γ Ω K is

theorem a_next (hok : okDraw ops fl = true) {l : Array Bool} {pend : List (Nat × List Nat)} (i : Nat) (is : List Nat) (hrs : Region.ready .any ops l = i :: is) (h1 : Loud P E N m ops fl l pend Γ Ω K i)
    (h2 : LoudAll P E N m ops fl l pend Γ Ω K is) : RefA P E N m ops fl l pend Γ Ω K := a_all hok hrs (by simp) fun j hj => by
  rcases List.mem_cons.1 hj with e | e
  · rw [e]; exact h1
  · clear hj hrs
    induction is with
    | nil => simp at e
    | cons k is ih =>
      rcases List.mem_cons.1 e with e2 | e2
      · rw [e2]; exact h2.1
      · exact ih h2.2 e2

def allIn : Nat → Array Bool → Bool
  | 0, _ => true
  | n + 1, l => l.getD n false && allIn n l
theorem allIn_iff {l : Array Bool} : ∀ {n : Nat}, allIn n l = true → ∀ i, i < n → isL l i
  | 0, _, i, h => by omega
  | n + 1, h, i, hi => by
    simp only [allIn, Bool.and_eq_true] at h
    by_cases e : i = n
    · rw [e]; exact h.1
    · exact allIn_iff h.2 i (by omega)

theorem a_fin (hok : okDraw ops fl = true) {l : Array Bool} {pend : List (Nat × List Nat)} (hl : allIn ops.size l = true) (h : RefE E N .normal m Γ Ω K) : RefA P E N m ops fl l pend Γ Ω K :=
  a_end hok (allIn_iff hl) h

/-- a region whose order is drawn -/
theorem ref_draw {id : Nat} {lo : List Oper} (fl : List Nat) (hm : P.follows .mixedOrders = true) (hok : okDraw lo.toArray fl = true)
    (h : okDraw lo.toArray fl = true → RefA P E N m lo.toArray fl (Array.replicate lo.length false) [] Γ Ω K) : Ref P E N m (.region id lo.toArray true) Γ Ω K := by
  intro r hr a w hs
  refine wp_region_any hm ?_
  have hs' : Sat E N Γ Ω a { w with drawn := w.drawn + 1 } := hs.ext ⟨rfl, rfl, rfl, by first | exact Nat.le_refl _ | exact Nat.le_add_right _ _⟩ (Nat.le_refl _) fun _ _ => rfl
  have hno : ∀ i, ¬ isL (Array.replicate lo.length false) i := fun i hi => by
    unfold isL at hi
    by_cases hlt : i < lo.length
    · simp [Array.getD, hlt] at hi
    · simp [Array.getD, hlt] at hi
  have := h hok r hr a _ hs' (Array.replicate lo.length false) a ⟨by simp, by simp, fun _ hi => hi, fun i hi => absurd hi (hno i), fun i o hi => absurd hi (hno i), rfl, fun _ _ => rfl, rfl⟩
  have hc : cntF (Array.replicate lo.length false) = lo.length := by simp [cntF]
  rw [hc] at this
  simpa using this
end Go.Dc
