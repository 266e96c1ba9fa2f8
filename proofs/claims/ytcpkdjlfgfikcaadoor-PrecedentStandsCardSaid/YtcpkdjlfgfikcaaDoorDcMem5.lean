/- Part Dc.Mem5 of a proof: lemmas. -/
import Derived.Test.YtcpkdjlfgfikcaaDoorDcOps
import Derived.Laws.MakeOwn
/-! What operations on memory do. -/
namespace Go.Dc

variable {P : Program} {E : Env} {N : Nat} {Γ : List (Nat × RP)} {Ω : List OB} {ty : TypeId}

structure ElT {α : Type} (P : Program) (e : TypeId) (ρ : Rep α) (bytes : Nat) : Prop where
  info : ∃ i, P.info? e = some i ∧ i.size = ρ.size ∧ i.bytes = bytes ∧ ∃ z, i.zero = some z ∧ z.cells.size = ρ.size
  agg : ∀ w, (isAgg e).run P w = .ok ρ.agg w
  pos : 0 < ρ.size
  bpos : 0 < bytes

def ZeroT {α : Type} (P : Program) (e : TypeId) (ρ : Rep α) (d : α) : Prop :=
  ∃ i z, P.info? e = some i ∧ i.zero = some z ∧ ∀ F w, AllP F w (ρ.cp d) z.cells.toList

section el
variable {α : Type} {e : TypeId} {ρ : Rep α} {bytes : Nat}
theorem ElT.sizeOf (h : ElT P e ρ bytes) (w : World) : (Go.sizeOf e).run P w = .ok ρ.size w := by
  obtain ⟨i, hi, hs, _⟩ := h.info
  simp [Go.sizeOf, typeInfo, hi, hs]

theorem addr_add (b off n : Nat) : (⟨b, off, none⟩ : Addr).add n = ⟨b, off + n, none⟩ := by
  unfold Addr.add; split
  · simp_all
  · rfl

theorem cell_at {w : World} {b off : Nat} {cells : Array Value} {ty : TypeId} {fz : Nat × Nat} (hb : w.heap[b]? = some (.cells cells ty fz)) :
    w.cell? ⟨b, off, none⟩ = cells[off]? := by simp [World.cell?, hb]

theorem ElT.load (h : ElT P e ρ bytes) {w : World} {b off : Nat} {cells : Array Value} {ty : TypeId} {fz : Nat × Nat} {es : List Value}
    (hb : w.heap[b]? = some (.cells cells ty fz)) (hl : es.length = ρ.size) (hc : ∀ j, j < ρ.size → cells[off + j]? = es[j]?) :
    (loadVar e ⟨b, off, none⟩).run P w = .ok (mkV ρ.agg es) w := by
  have hcell : ∀ j v, es[j]? = some v → w.cell? ((⟨b, off, none⟩ : Addr).add j) = some v := fun j v hv => by
    have hj : j < es.length := (List.getElem?_eq_some_iff.1 hv).1
    rw [addr_add, cell_at hb, hc j (by omega), hv]
  unfold loadVar
  rw [Sem.run_bind, h.agg]
  cases hg : ρ.agg with
  | true =>
    have := run_loadCells_list (P := P) w ⟨b, off, none⟩ es hcell
    rw [hl] at this
    simp [h.sizeOf, this, mkV]
  | false =>
    have h1 := ρ.one hg
    rw [h1] at hl
    obtain ⟨v, rfl⟩ := List.length_eq_one_iff.1 hl
    have := hcell 0 v (by simp)
    rw [addr_add] at this
    simp [run_load, Nat.add_zero] at this ⊢
    simp [this, mkV]

theorem run_index {t : TypeId} (hu : P.underlying t = some (.slice e)) (h : ElT P e ρ bytes) {b off n c : Nat} {k : IntKind} {i : Int} (h0 : 0 ≤ i) (h1 : i < n) (w : World) :
    (Instr.indexAt t (.slice (some ⟨b, off, none⟩) n c) (.int k i)).run P w = .ok (.pointer (some ⟨b, off + i.toNat * ρ.size, none⟩)) w := by
  simp [Instr.indexAt, run_underlying hu, asIntOf, h.sizeOf, h0, h1, addr_add]

/-! ### slices that are shared -/
def idxM (d : List α) (n : Int) : Option α := if 0 ≤ n then d[n.toNat]? else none
theorem idxM_some {d : List α} {n : Int} {x : α} (h : idxM d n = some x) : 0 ≤ n ∧ n < d.length ∧ ∃ hi : n.toNat < d.length, d[n.toNat] = x := by
  unfold idxM at h
  split at h
  · obtain ⟨h1, h2⟩ := List.getElem?_eq_some_iff.1 h
    exact ⟨by assumption, by omega, h1, h2⟩
  · cases h

theorem r_index {t : TypeId} {x i : Operand} {k : IntKind} {d : List α} {n : Int} {y : α} (hy : idxM d n = some y) (hu : P.underlying t = some (.slice e)) (h : ElT P e ρ bytes)
    (hx : lkO Γ x = some (slv ρ d)) (hi : lkO Γ i = some (iv k n)) : Rd P E N (.indexAddr t x i) ty Γ Ω [] (ea ρ y) := .mk fun a w hs => by
  obtain ⟨h0, h1, hlt, hd⟩ := idxM_some hy
  obtain ⟨ad, c, hv, hc, hat⟩ := hs.op hx
  obtain ⟨b, off, cells, ty', fz, rfl, hF, hb, hH⟩ := hat (by intro e; rw [e] at hlt; simp at hlt)
  obtain ⟨es, hes, hcs⟩ := hH n.toNat hlt
  have h2 : a.eval i = .int k n := hs.op hi
  refine ⟨.pointer (some ⟨b, off + n.toNat * ρ.size, none⟩), ⟨b, _, cells, ty', fz, es, rfl, hF, hb, hd ▸ hes, hcs⟩, fun w' o ho _ => ?_⟩
  simp [execOp, ho, hv, h2, run_index hu h h0 h1]

theorem r_load {x : Operand} {y : α} (h : ElT P e ρ bytes) (hx : lkO Γ x = some (ea ρ y)) : Rd P E N (.load e x) ty Γ Ω [] (sh ρ y) := fun a w hs => by
  obtain ⟨b, off, cells, ty', fz, es, hv, hF, hb, hes, hcs⟩ := hs.op hx
  refine ⟨mkV ρ.agg es, [b], sh_iff.2 ⟨es, hes, rfl⟩, ?_, fun w' hw' o ho _ => ?_⟩
  · intro b' hb'; rw [List.mem_singleton.1 hb']; exact ⟨size_of_get hb, .inl hF.2⟩
  · have hb2 : w'.heap[b]? = some (.cells cells ty' fz) := by rw [hw' b (by simp)]; exact hb
    have := h.load hb2 (by rw [hes.length, ρ.len]) hcs
    simp [execOp, ho, hv, Instr.loadAt, Instr.sureAddr, this]

theorem r_len {t : TypeId} {x : Operand} {d : List α} (hu : P.underlying t = some (.slice e)) (hx : lkO Γ x = some (slv ρ d)) :
    Rd P E N (.call ⟨.builtin .len, #[x], #[t]⟩) ty Γ Ω [] (iv .i64 (d.length : Int)) := .mk fun a w hs => by
  obtain ⟨ad, c, hv, hc, hat⟩ := hs.op hx
  exact ⟨.int .i64 d.length, rfl, fun w' o ho _ => by simp [execOp, ho, resolve, invoke, builtin, Builtin.len_, hv, run_underlying hu, goInt]⟩

theorem r_slen {t : TypeId} {x : Operand} {s : ByteArray} (hu : P.underlying t = some .string) (hx : lkO Γ x = some (sv s)) :
    Rd P E N (.call ⟨.builtin .len, #[x], #[t]⟩) ty Γ Ω [] (iv .i64 (s.size : Int)) := .mk fun a w hs => by
  have hv : a.eval x = .string s := hs.op hx
  exact ⟨.int .i64 s.size, rfl, fun w' o ho _ => by simp [execOp, ho, resolve, invoke, builtin, Builtin.len_, hv, run_underlying hu, goInt]⟩

/-- s[lo:hi] -/
def slM (d : List α) (lo hi : Int) : Option (List α) := if 0 ≤ lo ∧ lo ≤ hi ∧ hi ≤ d.length then some ((d.take hi.toNat).drop lo.toNat) else none
theorem slM_some {d d' : List α} {lo hi : Int} (h : slM d lo hi = some d') : 0 ≤ lo ∧ lo ≤ hi ∧ hi ≤ d.length ∧ d' = (d.take hi.toNat).drop lo.toNat := by
  unfold slM at h
  split at h
  · rename_i hh; exact ⟨hh.1, hh.2.1, hh.2.2, by simpa using h.symm⟩
  · cases h

theorem SlH.sub {F : FP} {w : World} {cells : Array Value} {off : Nat} {d : List α} (h : SlH ρ F w cells off d) (lo hi : Nat) :
    SlH ρ F w cells (off + lo * ρ.size) ((d.take hi).drop lo) := by
  intro i hi'
  have hlt : lo + i < d.length := by simp at hi'; omega
  obtain ⟨es, h1, h2⟩ := h (lo + i) hlt
  refine ⟨es, ?_, fun j hj => ?_⟩
  · have : ((d.take hi).drop lo)[i] = d[lo + i] := by simp
    rw [this]; exact h1
  · rw [← h2 j hj, Nat.add_mul]; congr 1; omega

theorem sl_addr {F : FP} {w : World} {ad : Option Addr} {d : List α} {lo hi m l s : Nat} (h : SlAt ρ F w ad d) (hd : (d.take hi).drop lo ≠ []) (hlo : l = lo) (hm : m ≠ l ∨ l = 0) (hs : s = ρ.size) :
    SlAt ρ F w (if m = l then ad else ad.map (·.add (l * s))) ((d.take hi).drop lo) := by
  intro _
  obtain ⟨b, off, cells, ty, fz, rfl, hF, hb, hH⟩ := h (by intro e; rw [e] at hd; simp at hd)
  subst hlo; subst hs
  refine ⟨b, off + l * ρ.size, cells, ty, fz, ?_, hF, hb, hH.sub l hi⟩
  rcases hm with hm | hm
  · rw [if_neg hm]; simp [addr_add]
  · subst hm; split <;> simp [addr_add]

theorem run_slice {t : TypeId} (hu : P.underlying t = some (.slice e)) (h : ElT P e ρ bytes) {ad : Option Addr} {n c : Nat} {lo hi : Option Value} {l hh : Nat}
    (hlo : (lo = none ∧ l = 0) ∨ ∃ k, lo = some (.int k (l : Int))) (hhi : (hi = none ∧ hh = n) ∨ ∃ k, hi = some (.int k (hh : Int))) (h1 : l ≤ hh) (h2 : hh ≤ c) (w : World) :
    (Instr.sliceAt t (.slice ad n c) lo hi none).run P w = .ok (.slice (if c = l then ad else ad.map (·.add (l * ρ.size))) (hh - l) (c - l)) w := by
  have hb : (Instr.sliceBounds true n c lo hi none).run P w = .ok (l, hh, c) w := by
    rcases hlo with ⟨rfl, rfl⟩ | ⟨k, rfl⟩ <;> rcases hhi with ⟨rfl, rfl⟩ | ⟨k', rfl⟩ <;>
      simp [Instr.sliceBounds, Instr.sliceBound, asIntOf, h1, h2]
  simp [Instr.sliceAt, run_underlying hu, Instr.slice, hb, h.sizeOf]

/-- the bounds of a slice expression, as they stand in slots -/
inductive BdOk (Γ : List (Nat × RP)) (dflt : Int) : Option Operand → Int → Prop
  | dft : BdOk Γ dflt none dflt
  | of {x : Operand} {k : IntKind} {n : Int} (h : lkO Γ x = some (iv k n)) : BdOk Γ dflt (some x) n

theorem BdOk.val {lo : Option Operand} {l dflt : Int} (h : BdOk Γ dflt lo l) {a : Act} {w : World} (hs : Sat E N Γ Ω a w) :
    (lo.map a.eval = none ∧ l = dflt) ∨ ∃ k, lo.map a.eval = some (Value.int k l) := by
  cases h with
  | dft => exact .inl ⟨rfl, rfl⟩
  | of hx => exact .inr ⟨_, by simp; exact hs.op hx⟩

theorem r_slice {t : TypeId} {x : Operand} {lo hi : Option Operand} {d d' : List α} {l m : Int} (hd : slM d l m = some d') (hu : P.underlying t = some (.slice e)) (h : ElT P e ρ bytes)
    (hx : lkO Γ x = some (slv ρ d)) (hlo : BdOk Γ 0 lo l) (hhi : BdOk Γ d.length hi m) : Rd P E N (.slice t x lo hi none) ty Γ Ω [] (slv ρ d') := .mk fun a w hs => by
  obtain ⟨h0, h1, h2, rfl⟩ := slM_some hd
  obtain ⟨ad, c, hv, hc, hat⟩ := hs.op hx
  obtain ⟨l, rfl⟩ := Int.eq_ofNat_of_zero_le h0
  obtain ⟨m, rfl⟩ := Int.eq_ofNat_of_zero_le (Int.le_trans h0 h1)
  have hl := hlo.val hs
  have hm := hhi.val hs
  have e1 : l ≤ m := by omega
  have e2 : m ≤ d.length := by omega
  simp only [Int.toNat_natCast]
  refine ⟨.slice (if c = l then ad else ad.map (·.add (l * ρ.size))) (m - l) (c - l), ⟨if c = l then ad else ad.map (·.add (l * ρ.size)), c - l, ?_, ?_, ?_⟩, fun w' o ho _ => ?_⟩
  · congr 1; simp; omega
  · simp; omega
  · by_cases hne : (d.take m).drop l = []
    · intro h; exact absurd hne h
    · refine sl_addr hat hne rfl ?_ rfl
      left; intro e; apply hne; apply List.drop_eq_nil_of_le; simp; omega
  · have := run_slice (P := P) hu h (ad := ad) (n := d.length) (c := c) (lo := lo.map a.eval) (hi := hi.map a.eval) (l := l) (hh := m)
      (hl.imp (fun ⟨e1, e2⟩ => ⟨e1, by omega⟩) id) (hm.imp (fun ⟨e1, e2⟩ => ⟨e1, by omega⟩) id) e1 (by omega) w'
    simp [execOp, ho, hv, this]

/-! ### slices that are owned -/
def elA (hv : Value) (sz : Nat) (n : Int) : Value :=
  match hv with
  | .slice (some a) _ _ => .pointer (some (a.add (n.toNat * sz)))
  | _ => .pointer none

theorem r_olen {t : TypeId} {x : Operand} {d : List α} {hv : Value} {S : List Nat} {j : Nat} (hu : P.underlying t = some (.slice e)) (hx : lkO Γ x = some (pv hv)) (hj : Ω[j]? = some (oa ρ hv S d)) :
    Rd P E N (.call ⟨.builtin .len, #[x], #[t]⟩) ty Γ Ω [] (iv .i64 (d.length : Int)) := .mk fun a w hs => by
  have hv : a.eval x = hv := hs.op hx
  obtain ⟨ad, c, rfl, _⟩ := hs.objAt hj
  exact ⟨.int .i64 d.length, rfl, fun w' o ho _ => by simp [execOp, ho, resolve, invoke, builtin, Builtin.len_, hv, run_underlying hu, goInt]⟩

theorem r_oindex {t : TypeId} {x i : Operand} {k : IntKind} {d : List α} {n : Int} {y : α} {hv : Value} {S : List Nat} {j : Nat} (hy : idxM d n = some y) (hu : P.underlying t = some (.slice e)) (h : ElT P e ρ bytes)
    (hx : lkO Γ x = some (pv hv)) (hj : Ω[j]? = some (oa ρ hv S d)) (hi : lkO Γ i = some (iv k n)) : Rd P E N (.indexAddr t x i) ty Γ Ω [] (pv (elA hv ρ.size n)) := .mk fun a w hs => by
  obtain ⟨h0, h1, hlt, hd⟩ := idxM_some hy
  have hv' : a.eval x = hv := hs.op hx
  obtain ⟨ad, c, rfl, hc, hat⟩ := hs.objAt hj
  have h2 : a.eval i = .int k n := hs.op hi
  rcases hat with ⟨rfl, _, rfl⟩ | ⟨b, off, cells, ty', rfl, hS, hb, hsz, hH⟩
  · omega
  · refine ⟨_, rfl, fun w' o ho _ => ?_⟩
    simp [execOp, ho, hv', h2, run_index hu h h0 h1, elA, addr_add]

theorem r_oload {x : Operand} {d : List α} {n : Int} {y : α} {hv : Value} {S : List Nat} {j : Nat} (hy : idxM d n = some y) (h : ElT P e ρ bytes) (hx : lkO Γ x = some (pv (elA hv ρ.size n)))
    (hj : Ω[j]? = some (oa ρ hv S d)) : Rd P E N (.load e x) ty Γ Ω [j] (sh ρ y) := fun a w hs => by
  obtain ⟨h0, h1, hlt, hd⟩ := idxM_some hy
  have hv' : a.eval x = elA hv ρ.size n := hs.op hx
  have hob := hs.objAt hj
  obtain ⟨ad, c, rfl, hc, hat⟩ := hob
  rcases hat with ⟨rfl, _, rfl⟩ | ⟨b, off, cells, ty', rfl, hS, hb, hsz, hH⟩
  · omega
  · obtain ⟨es, hes, hcs⟩ := hH n.toNat hlt
    rw [hd] at hes
    refine ⟨mkV ρ.agg es, [b], sh_iff.2 ⟨es, hes, rfl⟩, ?_, fun w' hw' o ho _ => ?_⟩
    · intro b' hb'; rw [List.mem_singleton.1 hb']; exact ⟨size_of_get hb, .inr ⟨j, by simp, _, hj, by rw [show (oa ρ _ S d).S = S from rfl, hS]; simp⟩⟩
    · have hb2 : w'.heap[b]? = some (.cells cells ty' (0, 0)) := by rw [hw' b (by simp)]; exact hb
      have := h.load hb2 (by rw [hes.length, ρ.len]) hcs
      simp [execOp, ho, hv', elA, addr_add, Instr.loadAt, Instr.sureAddr, this]

/-- an owned slice is given to all -/
theorem oa_sl {hv : Value} {S : List Nat} {d : List α} {F F' : FP} {w : World} (h : (oa ρ hv S d).h F w) (hF : ∀ b, b < w.heap.size → F b → F' b) (hS : ∀ b ∈ S, F' b) : (slv ρ d).h F' w hv := by
  obtain ⟨ad, c, rfl, hc, hat⟩ := h
  refine ⟨ad, c, rfl, hc, fun hd => ?_⟩
  rcases hat with ⟨rfl, _, rfl⟩ | ⟨b, off, cells, ty', rfl, rfl, hb, hsz, hH⟩
  · exact absurd (List.eq_nil_of_length_eq_zero (by omega)) hd
  · exact ⟨b, off, cells, ty', (0, 0), rfl, hS b (by simp), hb, hH.mono (.refl hF)⟩

theorem Sat.freeze {a : Act} {w : World} (hs : Sat E N Γ Ω a w) {j : Nat} {o : OB} (hj : Ω[j]? = some o) : Sat E N Γ (Ω.set j dead) a w :=
  hs.upd hj ⟨rfl, rfl, rfl⟩ (Nat.le_refl _) (fun _ _ _ => rfl) (fun b hb => by simp [dead] at hb) (by simp [dead]) trivial

theorem mem_ow_set {j : Nat} {o o' : OB} (hj : Ω[j]? = some o) (hnd : (ow Ω).Nodup) {b : Nat} (hb : b ∈ o.S) (hb' : b ∉ o'.S) : b ∉ ow (Ω.set j o') := by
  obtain ⟨A, B, rfl, rfl⟩ := ow_split hj
  rw [set_split]
  rw [ow_mid] at hnd ⊢
  obtain ⟨nA, nR, dA⟩ := List.nodup_append.1 hnd
  obtain ⟨nO, nB, dO⟩ := List.nodup_append.1 nR
  rw [List.mem_append, List.mem_append]
  rintro (h | h | h)
  · exact dA b h b (List.mem_append_left _ hb) rfl
  · exact hb' h
  · exact dO b hb b h rfl

/-- the rule: from now on nobody writes the slice in slot t -/
theorem frz {t j : Nat} {hv : Value} {S : List Nat} {d : List α} (ht : lk Γ t = some (pv hv)) (hj : Ω[j]? = some (oa ρ hv S d)) :
    ∀ a w, Sat E N Γ Ω a w → Sat E N ((t, slv ρ d) :: Γ) (Ω.set j dead) a w := by
  intro a w hs
  have h1 := hs.freeze hj
  refine ⟨h1.sz, h1.df, fun s φ h => ?_, h1.ob, h1.nd, h1.bd, h1.kp, h1.fs⟩
  by_cases e2 : t = s
  · subst e2; rw [lk_cons_eq] at h; cases h
    have hv' : a.tmps.getD t undef = hv := hs.sl t _ ht
    rw [hv']
    have hob := hs.objAt hj
    refine oa_sl hob (fun b hb ⟨h1, h2⟩ => ⟨h1, fun hm => h2 ?_⟩) (fun b hb => ⟨?_, mem_ow_set hj hs.nd hb (by simp [dead])⟩)
    · obtain ⟨A, B, rfl, rfl⟩ := ow_split hj
      rw [set_split] at hm
      rw [ow_mid] at hm ⊢
      simp [dead] at hm
      simp only [List.mem_append]
      exact hm.imp id .inr
    · exact hs.mine (Sat.notin hj hb)
  · rw [lk_cons_ne e2] at h; exact h1.sl s φ h
end el
end Go.Dc

/-! Operations that make or write memory. -/
namespace Go.Dc

variable {P : Program} {E : Env} {N : Nat} {Γ : List (Nat × RP)} {Ω : List OB} {ty : TypeId}

section lists
variable {α : Type} {ρ : Rep α} {F : FP} {w : World} {cells : Array Value}

theorem cp_len (d : List α) : (d.flatMap ρ.cp).length = d.length * ρ.size := by
  induction d with
  | nil => simp
  | cons x d ih => simp [ρ.len, ih, Nat.succ_mul, Nat.add_comm]

theorem SlH.list : ∀ {d : List α} {off : Nat}, SlH ρ F w cells off d → ∃ es, AllP F w (d.flatMap ρ.cp) es ∧ ∀ j, j < d.length * ρ.size → cells[off + j]? = es[j]?
  | [], off, _ => ⟨[], trivial, fun j hj => by simp at hj⟩
  | x :: d, off, h => by
    obtain ⟨es0, h1, h2⟩ := h 0 (by simp)
    obtain ⟨es, h3, h4⟩ := SlH.list (d := d) (off := off + ρ.size) fun i hi => by
      obtain ⟨e, a, b⟩ := h (i + 1) (by simpa using hi)
      exact ⟨e, a, fun j hj => by rw [← b j hj, Nat.succ_mul]; congr 1; omega⟩
    refine ⟨es0 ++ es, by rw [List.flatMap_cons]; exact h1.append h3, fun j hj => ?_⟩
    have hl : es0.length = ρ.size := by rw [h1.length]; exact ρ.len x
    by_cases hlt : j < ρ.size
    · rw [List.getElem?_append_left (by omega)]; have := h2 j hlt; simpa using this
    · rw [List.getElem?_append_right (by omega), hl, ← h4 (j - ρ.size) (by rw [List.length_cons, Nat.succ_mul] at hj; omega)]
      congr 1; omega

theorem SlH.of : ∀ {d : List α} {off : Nat} {es : List Value}, AllP F w (d.flatMap ρ.cp) es → (∀ j, j < d.length * ρ.size → cells[off + j]? = es[j]?) → SlH ρ F w cells off d
  | [], _, _, _, _ => fun i hi => by simp at hi
  | x :: d, off, es, h1, h2 => by
    rw [List.flatMap_cons] at h1
    obtain ⟨e0, e1, rfl, a0, a1⟩ := h1.split
    have hl : e0.length = ρ.size := by rw [a0.length]; exact ρ.len x
    have hs : (x :: d).length * ρ.size = d.length * ρ.size + ρ.size := by rw [List.length_cons, Nat.succ_mul]
    have ih := SlH.of (off := off + ρ.size) a1 fun j hj => by
      have := h2 (ρ.size + j) (by omega)
      rw [List.getElem?_append_right (by omega), hl] at this
      rw [Nat.add_assoc, this]; congr 1; omega
    intro i hi
    cases i with
    | zero => exact ⟨e0, a0, fun j hj => by have := h2 j (by omega); rw [List.getElem?_append_left (by omega)] at this; simpa using this⟩
    | succ i =>
      obtain ⟨e, p, q⟩ := ih i (by simpa using hi)
      exact ⟨e, p, fun j hj => by rw [← q j hj, Nat.succ_mul]; congr 1; omega⟩

theorem cp_atoms (d : List α) {es : List Value} (h : AllP F w (d.flatMap ρ.cp) es) : ∀ v ∈ es, v.oneCell' = true :=
  h.atoms fun φ hφ => by obtain ⟨x, _, hx⟩ := List.mem_flatMap.1 hφ; exact ρ.at_ x φ hx
end lists

/-! ### append -/
def appM {α : Type} (bytes : Nat) (d e : List α) : Option (List α) := if (d.length + e.length) * bytes ≤ 140737488355328 then some (d ++ e) else none
theorem appM_some {α : Type} {bytes : Nat} {d e f : List α} (h : appM bytes d e = some f) : (d.length + e.length) * bytes ≤ 140737488355328 ∧ f = d ++ e := by
  unfold appM at h
  split at h
  · rename_i hh; exact ⟨hh, by simpa using h.symm⟩
  · cases h

theorem run_fc {size m yc : Nat} {ya : Option Addr} {news : List Value} {w : World} (hl : news.length = m * size)
    (h : m * size = 0 ∨ ∃ b off cells ty fz, ya = some ⟨b, off, none⟩ ∧ w.heap[b]? = some (.cells cells ty fz) ∧ ∀ j, j < m * size → cells[off + j]? = news[j]?) :
    (Builtin.firstCells size m (.slice ya m yc)).run P w = .ok news.toArray w := by
  rcases h with h | ⟨b, off, cells, ty, fz, rfl, hb, hc⟩
  · have : news = [] := List.eq_nil_of_length_eq_zero (by omega)
    subst this
    cases ya with
    | none => simp [Builtin.firstCells]
    | some a => simp [Builtin.firstCells, h, loadCells, loadCellsFrom]
  · refine run_firstCells_some w size m _ m yc news hl fun j v hv => ?_
    have hj : j < news.length := (List.getElem?_eq_some_iff.1 hv).1
    rw [addr_add, cell_at hb, hc j (by omega), hv]

theorem run_app_grow (t ty e : TypeId) (i : TypeInfo) (z : Value) (ht : P.underlying t = some (.slice e)) (hi : P.info? e = some i) (hz : i.zero = some z)
    {base ya : Option Addr} {n c m yc : Nat} {olds news : List Value} {w : World}
    (ho : (Builtin.firstCells i.size n (.slice base n c)).run P w.drew = .ok olds.toArray w.drew)
    (hn : (Builtin.firstCells i.size m (.slice ya m yc)).run P w.drew = .ok news.toArray w.drew)
    (hg : c < n + m) (h63 : ((n + m : Nat) : Int) ≤ 9223372036854775807) (hfit : Builtin.nextslicecap (n + m) c * i.bytes ≤ 281474976710656) :
    (Builtin.append_ #[t, t] ty #[.slice base n c, .slice ya m yc]).run P w =
      .ok (.slice (some ⟨w.heap.size, 0, none⟩) (n + m) (grownCap w (n + m) c e))
        (w.drew.alloc (.cells (olds.toArray ++ news.toArray ++ Builtin.zeroCells z.cells (grownCap w (n + m) c e - (n + m))) e)) := by
  have hn' : ¬ (n + m ≤ c) := by omega
  have h63' : ¬ (9223372036854775807 < ((n : Int) + (m : Int))) := by omega
  have h48' : ¬ (281474976710656 < Builtin.nextslicecap (n + m) c * i.bytes) := by omega
  simp [Builtin.append_, run_underlying ht, sizeOf, typeInfo, zeroValue, hi, hz, Builtin.lenOf, hn', h63', h48', Question.forced, ho, hn, newRow, grownCap]
  congr 2
  apply Array.ext'
  simp

theorem run_app_room (t ty e : TypeId) (i : TypeInfo) (ht : P.underlying t = some (.slice e)) (hi : P.info? e = some i)
    {ya : Option Addr} {g off n c m yc : Nat} {cells : Array Value} {et : TypeId} {news : List Value} {w : World} (hb : w.heap[g]? = some (.cells cells et (0, 0)))
    (hn : (Builtin.firstCells i.size m (.slice ya m yc)).run P w = .ok news.toArray w) (hl : news.length = m * i.size) (h1 : ∀ v ∈ news, v.oneCell' = true)
    (hroom : n + m ≤ c) (hfit : off + c * i.size ≤ cells.size) :
    (Builtin.append_ #[t, t] ty #[.slice (some ⟨g, off, none⟩) n c, .slice ya m yc]).run P w =
      .ok (.slice (some ⟨g, off, none⟩) (n + m) c) (w.setRow g (cells.toList.take (off + n * i.size) ++ news ++ cells.toList.drop (off + n * i.size + news.length)).toArray) := by
  have hle : (n + m) * i.size ≤ c * i.size := Nat.mul_le_mul_right _ hroom
  rw [Nat.add_mul] at hle
  have hst := run_storeCells_at P g (off + n * i.size) et news 0 cells w hb (by omega) h1
  simp only [Nat.add_zero] at hst
  simp [Builtin.append_, run_underlying ht, sizeOf, typeInfo, hi, Builtin.lenOf, hroom, hn, addr_add, hst]

section app
variable {α : Type} {e : TypeId} {ρ : Rep α} {bytes : Nat}

theorem sl_news {F : FP} {w : World} {ad : Option Addr} {d : List α} (h : SlAt ρ F w ad d) : ∃ es, AllP F w (d.flatMap ρ.cp) es ∧
    (d.length * ρ.size = 0 ∨ ∃ b off cells ty fz, ad = some ⟨b, off, none⟩ ∧ F b ∧ w.heap[b]? = some (.cells cells ty fz) ∧ ∀ j, j < d.length * ρ.size → cells[off + j]? = es[j]?) := by
  by_cases hd : d = []
  · subst hd; exact ⟨[], trivial, .inl (by simp)⟩
  · obtain ⟨b, off, cells, ty, fz, rfl, hF, hb, hH⟩ := h hd
    obtain ⟨es, h1, h2⟩ := hH.list
    exact ⟨es, h1, .inr ⟨b, off, cells, ty, fz, rfl, hF, hb, h2⟩⟩

theorem heap_alloc_new' (w : World) (o : Obj) : (w.alloc o).heap[w.heap.size]? = some o := by
  show (w.heap.push o)[w.heap.size]? = _
  simp

theorem heap_alloc_lt (w : World) (o : Obj) {b : Nat} (h : b < w.heap.size) : (w.alloc o).heap[b]? = w.heap[b]? := by
  show (w.heap.push o)[b]? = _
  rw [Array.getElem?_push, if_neg (by omega)]

theorem grow_cap {w : World} {n c : Nat} {e : TypeId} : n ≤ grownCap w n c e := by simp [grownCap, Question.cut]

/-- the memory behind an append that made a new row -/
theorem grown_oa {F : FP} {w' : World} {d d' : List α} {es es' : List Value} {zs : Array Value} {c g : Nat} (h1 : AllP F w' (d.flatMap ρ.cp) es) (h2 : AllP F w' (d'.flatMap ρ.cp) es')
    {cells : Array Value} {et : TypeId} (hcl : cells = es.toArray ++ es'.toArray ++ zs) (hb : w'.heap[g]? = some (.cells cells et (0, 0)))
    (hz : zs.size = (c - (d.length + d'.length)) * ρ.size) (hc : d.length + d'.length ≤ c) :
    (oa ρ (.slice (some ⟨g, 0, none⟩) (d.length + d'.length) c) [g] (d ++ d')).h F w' := by
  have l1 : es.length = d.length * ρ.size := by rw [h1.length, cp_len]
  have l2 : es'.length = d'.length * ρ.size := by rw [h2.length, cp_len]
  subst hcl
  refine ⟨some ⟨g, 0, none⟩, c, by rw [List.length_append], by rw [List.length_append]; exact hc, .inr ⟨g, 0, _, et, rfl, rfl, hb, ?_, ?_⟩⟩
  · have h5 : d.length * ρ.size + d'.length * ρ.size + (c - (d.length + d'.length)) * ρ.size = c * ρ.size := by
      rw [← Nat.add_mul, ← Nat.add_mul]; congr 1; omega
    simp only [Array.size_append, List.size_toArray, l1, l2, hz]
    omega
  · refine SlH.of (es := es ++ es') (by rw [List.flatMap_append]; exact h1.append h2) fun j hj => ?_
    rw [List.length_append, Nat.add_mul] at hj
    rw [Nat.zero_add, Array.getElem?_append_left (by simp [l1, l2]; omega)]
    simp

theorem run_append_call {t : TypeId} {x y : Operand} {a : Act} {o : Oper} (ho : o.op = .call ⟨.builtin .append, #[x, y], #[t, t]⟩) {vx vy v : Value} (hx : a.eval x = vx) (hy : a.eval y = vy)
    {w w' : World} (h : (Builtin.append_ #[t, t] o.type #[vx, vy]).run P w = .ok v w') : (execOp a.eval o).run P w = .ok (.value v) w' := by
  simp [execOp, ho, resolve, invoke, builtin, hx, hy, h]

theorem opwp_val {op : Op} {ty : TypeId} {ρ : Operand → Value} {w w' : World} {v : Value} {k : Value → World → Prop}
    (h : ∀ o : Oper, o.op = op → o.type = ty → (execOp ρ o).run P w = .ok (.value v) w') (hk : k v w') : opwp P op ty ρ w k := by
  intro o ho ht
  rw [h o ho ht]
  exact hk

theorem app_num {bytes n m c : Nat} (h : (n + m) * bytes ≤ 140737488355328) (hb : 0 < bytes) (hc : c < n + m) :
    ((n + m : Nat) : Int) ≤ 9223372036854775807 ∧ Builtin.nextslicecap (n + m) c * bytes ≤ 281474976710656 := by
  have : n + m ≤ (n + m) * bytes := Nat.le_mul_of_pos_right _ hb
  exact ⟨by omega, growslice_fits hc h⟩

theorem fr_set {j : Nat} {o o' : OB} (hj : Ω[j]? = some o) {b : Nat} (h : fr E Ω b) (hb : b ∉ o'.S) : fr E (Ω.set j o') b := by
  obtain ⟨A, B, rfl, rfl⟩ := ow_split hj
  rw [set_split]
  refine ⟨h.1, fun hm => h.2 ?_⟩
  rw [ow_mid] at hm ⊢
  simp only [List.mem_append] at hm ⊢
  rcases hm with hm | hm | hm
  · exact .inl hm
  · exact absurd hm hb
  · exact .inr (.inr hm)

theorem fr_add {o : OB} {b : Nat} (h : fr E Ω b) (hb : b ∉ o.S) : fr E (Ω ++ [o]) b := by
  refine ⟨h.1, fun hm => ?_⟩
  rw [ow_append, ow_one, List.mem_append] at hm
  exact hm.elim h.2 hb

theorem s_append {t : TypeId} {x y : Operand} {hv : Value} {S : List Nat} {d d' d'' : List α} {j : Nat} (hd : appM bytes d d' = some d'') (hu : P.underlying t = some (.slice e)) (h : ElT P e ρ bytes)
    (hx : lkO Γ x = some (pv hv)) (hj : Ω[j]? = some (oa ρ hv S d)) (hy : lkO Γ y = some (slv ρ d')) :
    St P E N (.call ⟨.builtin .append, #[x, y], #[t, t]⟩) ty Γ Ω [j] (fun X : Value × List Nat => pv X.1) (fun X => Ω.set j (oa ρ X.1 X.2 d'')) := by
  intro a w hs
  obtain ⟨hsz, rfl⟩ := appM_some hd
  have hvx : a.eval x = hv := hs.op hx
  obtain ⟨ya, yc, hvy, hyc, hyat⟩ := hs.op hy
  obtain ⟨base, c, rfl, hc, hob⟩ := hs.objAt hj
  obtain ⟨i, hi, his, hib, z, hz, hzs⟩ := h.info
  obtain ⟨news, hnews, hnc⟩ := sl_news hyat
  have hnl : news.length = d'.length * ρ.size := by rw [hnews.length, cp_len]
  have hSw : ∀ b ∈ S, b < w.heap.size := fun b hb => (hs.bd b (Sat.notin hj hb)).1
  by_cases hroom : d.length + d'.length ≤ c
  · rcases hob with ⟨rfl, rfl, rfl⟩ | ⟨g, off, cells, et, rfl, rfl, hb, hfit, hH⟩
    · -- nothing there and nothing to come
      have hd0 : d = [] := List.eq_nil_of_length_eq_zero (by omega)
      have hd1 : d' = [] := List.eq_nil_of_length_eq_zero (by omega)
      subst hd0; subst hd1
      have hr : (Builtin.append_ #[t, t] ty #[.slice none 0 0, .slice ya 0 yc]).run P w = .ok (.slice none 0 0) w := by
        have hf := run_fc (P := P) (size := i.size) (m := 0) (yc := yc) (ya := ya) (news := []) (w := w) (by simp) (.inl (by simp))
        simp [Builtin.append_, run_underlying hu, sizeOf, typeInfo, hi, Builtin.lenOf, hf]
      refine opwp_val (v := .slice none 0 0) (w' := w) (fun o ho ht => run_append_call ho hvx hvy (by rw [ht]; exact hr)) ⟨(.slice none 0 0, []), ?_, rfl, Nat.le_refl _, fun _ _ _ => rfl, own_set hj fun b hb => .inl hb⟩
      refine hs.upd hj ⟨rfl, rfl, rfl⟩ (Nat.le_refl _) (fun _ _ _ => rfl) (fun b hb => .inl hb) (by simp [oa]) ?_
      exact ⟨none, 0, rfl, Nat.le_refl _, .inl ⟨rfl, rfl, rfl⟩⟩
    · have hf := run_fc (P := P) (size := i.size) (m := d'.length) (yc := yc) (ya := ya) (news := news) (w := w) (by rw [his, hnl])
        (by rw [his]; exact hnc.imp id fun ⟨b, off, cells, ty, fz, h1, _, h3, h4⟩ => ⟨b, off, cells, ty, fz, h1, h3, h4⟩)
      have hr := run_app_room (P := P) t ty e i hu hi (off := off) (n := d.length) (c := c) hb hf (by rw [his, hnl]) (cp_atoms d' hnews) hroom (by rw [his]; exact hfit)
      rw [his] at hr
      obtain ⟨es, hes, hec⟩ := hH.list
      have hel : es.length = d.length * ρ.size := by rw [hes.length, cp_len]
      have hle : (d.length + d'.length) * ρ.size ≤ c * ρ.size := Nat.mul_le_mul_right _ hroom
      rw [Nat.add_mul] at hle
      refine opwp_val (fun o ho ht => run_append_call ho hvx hvy (by rw [ht]; exact hr)) ⟨(.slice (some ⟨g, off, none⟩) (d.length + d'.length) c, [g]), ?_, rfl, by simp, ?_, own_set hj fun b hb => .inl hb⟩
      · have hst : ∀ b, b < w.heap.size → b ∉ [g] → (w.setRow g (cells.toList.take (off + d.length * ρ.size) ++ news ++ cells.toList.drop (off + d.length * ρ.size + news.length)).toArray).heap[b]? = w.heap[b]? :=
          fun b _ hn => setRow_other w g b _ (by simpa using hn)
        refine hs.upd hj ⟨rfl, rfl, rfl⟩ (by simp) hst (fun b hb => .inl hb) (by simp [oa]) ?_
        have hag : Ag (fr E Ω) (fr E (Ω.set j (oa ρ (.slice (some ⟨g, off, none⟩) (d.length + d'.length) c) [g] (d ++ d')))) w
            (w.setRow g (cells.toList.take (off + d.length * ρ.size) ++ news ++ cells.toList.drop (off + d.length * ρ.size + news.length)).toArray) :=
          ⟨fun b hb hf => fr_set hj hf (fun hm => hf.2 (Sat.notin hj (b := b) hm)), fun b hb hf => hst b hb fun hm => hf.2 (Sat.notin hj (b := b) hm)⟩
        refine ⟨some ⟨g, off, none⟩, c, by rw [List.length_append], by rw [List.length_append]; exact hroom, .inr ⟨g, off, _, et, rfl, rfl, setRow_heap w g cells _ et (0, 0) hb, ?_, ?_⟩⟩
        · simp only [List.size_toArray, List.length_append, List.length_take, List.length_drop, Array.length_toList]; omega
        · refine SlH.of (es := es ++ news) (by rw [List.flatMap_append]; exact (hes.mono hag).append (hnews.mono hag)) fun k hk => ?_
          rw [List.length_append, Nat.add_mul] at hk
          rw [List.getElem?_toArray, List.append_assoc]
          have hlt : (cells.toList.take (off + d.length * ρ.size)).length = off + d.length * ρ.size := by
            have : cells.toList.length = cells.size := Array.length_toList
            rw [List.length_take, this]; omega
          by_cases hk1 : k < d.length * ρ.size
          · rw [List.getElem?_append_left (by omega), List.getElem?_append_left (by omega), List.getElem?_take, if_pos (by omega), ← hec k hk1]
            simp
          · have e1 : (cells.toList.take (off + d.length * ρ.size) ++ (news ++ cells.toList.drop (off + d.length * ρ.size + news.length)))[off + k]? = news[k - d.length * ρ.size]? := by
              rw [List.getElem?_append_right (by omega), List.getElem?_append_left (by omega), hlt]
              congr 1; omega
            have e2 : (es ++ news)[k]? = news[k - d.length * ρ.size]? := by
              rw [List.getElem?_append_right (by omega), hel]
            rw [e1, e2]
      · intro b hb hn
        exact setRow_other w g b _ (fun e => hn j (by simp) _ hj (by rw [e]; simp [oa]))
  · have hnum := app_num hsz h.bpos (Nat.lt_of_not_le hroom)
    have hdw : ∀ b : Nat, w.drew.heap[b]? = w.heap[b]? := fun _ => rfl
    have hf := run_fc (P := P) (size := i.size) (m := d'.length) (yc := yc) (ya := ya) (news := news) (w := w.drew) (by rw [his, hnl])
      (by rw [his]; exact hnc.imp id fun ⟨b, off, cells, ty, fz, h1, _, h3, h4⟩ => ⟨b, off, cells, ty, fz, h1, h3, h4⟩)
    obtain ⟨es, hes, hold⟩ : ∃ es, AllP (fr E Ω) w (d.flatMap ρ.cp) es ∧ (Builtin.firstCells i.size d.length (.slice base d.length c)).run P w.drew = .ok es.toArray w.drew := by
      rcases hob with ⟨rfl, rfl, rfl⟩ | ⟨g, off, cells, et, rfl, rfl, hb, hfit, hH⟩
      · have hd0 : d = [] := List.eq_nil_of_length_eq_zero (by omega)
        subst hd0
        exact ⟨[], trivial, run_fc (by simp) (.inl (by simp))⟩
      · obtain ⟨es, hes, hec⟩ := hH.list
        exact ⟨es, hes, run_fc (by rw [hes.length, cp_len, his]) (.inr ⟨g, off, cells, et, (0, 0), rfl, hb, by rw [his]; exact hec⟩)⟩
    have hr := run_app_grow (P := P) t ty e i z hu hi hz hold hf (Nat.lt_of_not_le hroom) hnum.1 (by rw [hib]; exact hnum.2)
    refine opwp_val (fun o ho ht => run_append_call ho hvx hvy (by rw [ht]; exact hr)) ⟨(.slice (some ⟨w.heap.size, 0, none⟩) (d.length + d'.length) (grownCap w (d.length + d'.length) c e), [w.heap.size]), ?_, rfl, by simp, ?_, own_set hj fun b hb => .inr (by simp [oa] at hb; omega)⟩
    · have hst : ∀ b, b < w.heap.size → ∀ o, (w.drew.alloc o).heap[b]? = w.heap[b]? := fun b hb o => heap_alloc_lt w.drew o hb
      refine hs.upd hj ⟨rfl, rfl, rfl⟩ (by simp) (fun b hb _ => hst b hb _) (fun b hb => .inr ?_) (by simp [oa]) ?_
      · rw [show b = w.heap.size from by simpa [oa] using hb]; exact ⟨Nat.le_refl _, by show _ < (w.drew.alloc _).heap.size; rw [World.size_alloc]; exact Nat.lt_succ_self _⟩
      · have hag : Ag (fr E Ω) (fr E (Ω.set j (oa ρ (.slice (some ⟨w.heap.size, 0, none⟩) (d.length + d'.length) (grownCap w (d.length + d'.length) c e)) [w.heap.size] (d ++ d')))) w
            (w.drew.alloc (.cells (es.toArray ++ news.toArray ++ Builtin.zeroCells z.cells (grownCap w (d.length + d'.length) c e - (d.length + d'.length))) e)) :=
          ⟨fun b hb hf => fr_set hj hf (fun hm => by
            have : b = w.heap.size := (by simpa [oa] using hm)
            omega), fun b hb _ => hst b hb _⟩
        refine grown_oa (hes.mono hag) (hnews.mono hag) rfl (heap_alloc_new' w.drew _) ?_ grow_cap
        simp [Builtin.zeroCells, hzs]
    · intro b hb _; exact heap_alloc_lt w.drew _ hb

end app
end Go.Dc

/-! Variables, composite values, stores. -/
namespace Go.Dc

variable {P : Program} {E : Env} {N : Nat} {Γ : List (Nat × RP)} {Ω : List OB} {ty : TypeId}

/-! ### the cells of an operand -/
def PartOk (E : Env) (N : Nat) (Γ : List (Nat × RP)) (Ω : List OB) (x : Operand) (ψs : List RP) : Prop :=
  ∀ a w, Sat E N Γ Ω a w → AllP (fr E Ω) w ψs (a.eval x).cells.toList ∧ ∀ v ∈ (a.eval x).cells.toList, v.oneCell' = true

theorem iv_at {k : IntKind} {n : Int} : (iv k n).At := pv_at rfl
theorem sv_at {s : ByteArray} : (sv s).At := pv_at rfl
theorem slv_at {α : Type} {ρ : Rep α} {d : List α} : (slv ρ d).At := (rSl ρ).at_ d _ (by simp [rSl, one])

theorem part_at {x : Operand} {φ : RP} (h : lkO Γ x = some φ) (hat : φ.At) : PartOk E N Γ Ω x [φ] := fun a w hs => by
  have h1 := hs.op h
  have h2 := hat h1
  rw [cells_one h2]
  exact ⟨⟨h1, trivial⟩, by simpa using h2⟩

theorem part_own {α : Type} {ρ : Rep α} {d : List α} {x : Operand} {hv : Value} {S : List Nat} {j : Nat} (h : lkO Γ x = some (pv hv)) (hj : Ω[j]? = some (oa ρ hv S d)) :
    PartOk E N Γ Ω x [pv hv] := fun a w hs => by
  have h1 : a.eval x = hv := hs.op h
  obtain ⟨ad, c, rfl, _⟩ := hs.objAt hj
  rw [h1]
  exact ⟨⟨rfl, trivial⟩, by simp [Value.cells, Value.oneCell']⟩

def PartsOk (E : Env) (N : Nat) (Γ : List (Nat × RP)) (Ω : List OB) : List (Nat × Operand) → List (Nat × List RP) → Prop
  | [], [] => True
  | (i, x) :: xs, (k, ψs) :: rs => i = k ∧ PartOk E N Γ Ω x ψs ∧ PartsOk E N Γ Ω xs rs
  | _, _ => False

/-! ### filling cells -/
theorem fold_set : ∀ (vs : List Value) (off k : Nat) (cs : Array Value), off + k + vs.length ≤ cs.size →
    ((vs.zipIdx k).foldl (fun cs (x : Value × Nat) => cs.setIfInBounds (off + x.2) x.1) cs).toList = cs.toList.take (off + k) ++ vs ++ cs.toList.drop (off + k + vs.length)
  | [], off, k, cs, _ => by simp
  | v :: vs, off, k, cs, h => by
    simp only [List.length_cons] at h
    rw [List.zipIdx_cons, List.foldl_cons]
    have ih := fold_set vs off (k + 1) (cs.setIfInBounds (off + k) v) (by simp; omega)
    rw [ih]
    have hlt : off + k < cs.toList.length := by rw [Array.length_toList]; omega
    rw [Array.toList_setIfInBounds]
    have e1 : (cs.toList.set (off + k) v).take (off + (k + 1)) = cs.toList.take (off + k) ++ [v] := by
      rw [← Nat.add_assoc, List.take_add_one, List.take_set_of_le (Nat.le_refl _), List.getElem?_set_self hlt]; rfl
    have e2 : (cs.toList.set (off + k) v).drop (off + (k + 1) + vs.length) = cs.toList.drop (off + k + (v :: vs).length) := by
      rw [List.drop_set_of_lt (by omega)]; congr 1; simp; omega
    rw [e1, e2]; simp

/-- what stands in the cells behind the parts have been filled in -/
def fillRP (place : Nat → Option (Nat × Nat)) : List RP → List (Nat × List RP) → List RP
  | φs, [] => φs
  | φs, (i, ψs) :: r => match place i with
    | none => φs
    | some (off, size) => fillRP place (φs.take off ++ ψs ++ φs.drop (off + size)) r

def fitRP (place : Nat → Option (Nat × Nat)) (n : Nat) : List (Nat × List RP) → Bool
  | [] => true
  | (i, ψs) :: r => (match place i with
    | none => false
    | some (off, size) => Nat.beq ψs.length size && Nat.ble (off + size) n) && fitRP place n r

theorem fill_ok {F : FP} {w : World} {place : Nat → Option (Nat × Nat)} (g : Operand → Value) : ∀ {ps : List (Nat × Operand)} {rs : List (Nat × List RP)} {φs : List RP} {cells : Array Value},
    (∀ i x ψs, (i, x, ψs) ∈ (ps.zip rs).map (fun p => (p.1.1, p.1.2, p.2.2)) → AllP F w ψs (g x).cells.toList) → (ps.map (·.1) = rs.map (·.1)) → AllP F w φs cells.toList → fitRP place φs.length rs = true →
    ∃ out, Instr.fill place cells (ps.map fun p => (p.1, g p.2)) = some out ∧ AllP F w (fillRP place φs rs) out.toList
  | [], [], φs, cells, _, _, hc, _ => ⟨cells, rfl, hc⟩
  | (i, x) :: ps, (k, ψs) :: rs, φs, cells, hp, hk, hc, hf => by
    simp only [List.map_cons, List.cons.injEq] at hk
    obtain ⟨rfl, hk⟩ := hk
    have hx := hp i x ψs (by simp)
    have hl := hx.length
    have hcl := hc.length
    simp only [fitRP, Bool.and_eq_true] at hf
    obtain ⟨hf1, hf2⟩ := hf
    cases hpl : place i with
    | none => simp [hpl] at hf1
    | some q =>
      obtain ⟨off, size⟩ := q
      simp only [hpl, Bool.and_eq_true] at hf1
      have h1 : ψs.length = size := Nat.eq_of_beq_eq_true hf1.1
      have h2 : off + size ≤ φs.length := Nat.le_of_ble_eq_true hf1.2
      have hvs : (g x).cells.size = size := by rw [← Array.length_toList, hl, h1]
      have hcs : cells.size = φs.length := by rw [← Array.length_toList, hcl]
      simp only [List.map_cons, Instr.fill, hpl, fillRP]
      rw [if_neg (by simp [hvs, hcs]; omega)]
      have hfold : ((g x).cells.zipIdx.foldl (fun cs (c, j) => cs.setIfInBounds (off + j) c) cells).toList = cells.toList.take off ++ (g x).cells.toList ++ cells.toList.drop (off + size) := by
        have := fold_set (g x).cells.toList off 0 cells (by rw [Array.length_toList]; omega)
        rw [← Array.foldl_toList, Array.toList_zipIdx]
        simp only [Nat.add_zero, Array.length_toList, hvs] at this
        exact this
      refine fill_ok g (fun i' x' ψ' hm => hp i' x' ψ' (by simp only [List.zip_cons_cons, List.map_cons]; exact List.mem_cons_of_mem _ hm)) hk ?_ ?_
      · rw [hfold]; exact ((hc.take off).append hx).append (hc.drop (off + size))
      · have : (φs.take off ++ ψs ++ φs.drop (off + size)).length = φs.length := by simp; omega
        rw [this]; exact hf2
  | [], _ :: _, _, _, _, hk, _, _ => by simp at hk
  | _ :: _, [], _, _, _, hk, _, _ => by simp at hk

theorem PartsOk.all {a : Act} {w : World} (hs : Sat E N Γ Ω a w) : ∀ {ps : List (Nat × Operand)} {rs : List (Nat × List RP)}, PartsOk E N Γ Ω ps rs →
    (∀ i x ψs, (i, x, ψs) ∈ (ps.zip rs).map (fun p => (p.1.1, p.1.2, p.2.2)) → AllP (fr E Ω) w ψs (a.eval x).cells.toList) ∧ ps.map (·.1) = rs.map (·.1)
  | [], [], _ => ⟨by simp, rfl⟩
  | (i, x) :: ps, (k, ψs) :: rs, ⟨h1, h2, h3⟩ => by
    obtain ⟨h4, h5⟩ := h3.all hs
    refine ⟨fun i' x' ψ' hm => ?_, by simp [h1, h5]⟩
    simp only [List.zip_cons_cons, List.map_cons, List.mem_cons, Prod.mk.injEq] at hm
    rcases hm with ⟨_, rfl, rfl⟩ | hm
    · exact (h2 a w hs).1
    · exact h4 i' x' ψ' hm
  | [], _ :: _, h => h.elim
  | _ :: _, [], h => h.elim

/-- the fields of a struct type: offset and size -/
def StT (P : Program) (t : TypeId) (n : Nat) (places : List (Nat × Nat)) : Prop :=
  ∃ fields, P.underlying t = some (.struct fields) ∧ (∃ i z, P.info? t = some i ∧ i.zero = some z ∧ z.cells.size = n) ∧ ∀ w, (fields.mapM (fun (f : Go.Field) => do pure (f.offset, ← Go.sizeOf f.type)) : Sem (Array (Nat × Nat))).run P w = .ok places.toArray w

/-- T{..} -/
theorem r_build {t : TypeId} {ps : List (Nat × Operand)} {rs : List (Nat × List RP)} {n : Nat} {places : List (Nat × Nat)} {zs : List RP} (hT : StT P t n places)
    (hz : ∀ i z, P.info? t = some i → i.zero = some z → ∀ F w, AllP F w zs z.cells.toList)
    (hp : PartsOk E N Γ Ω ps rs) (hfit : fitRP (fun i => places[i]?) zs.length rs = true) {out : List RP} (ho : fillRP (fun i => places[i]?) zs rs = out) :
    Rd P E N (.build t ps.toArray) ty Γ Ω [] (ag out) := .mk fun a w hs => by
  obtain ⟨fields, hu, ⟨i, z, hi, hzz, _⟩, hpl⟩ := hT
  have hzc := hz i z hi hzz (fr E Ω) w
  obtain ⟨h1, h2⟩ := hp.all hs
  obtain ⟨cells, hfill, hall⟩ := fill_ok (F := fr E Ω) (w := w) (place := fun i => places[i]?) a.eval h1 h2 hzc hfit
  refine ⟨.agg cells, ⟨cells, rfl, ho ▸ hall⟩, fun w' o hop _ => ?_⟩
  have hfill' : Instr.fill (fun i => places.toArray[i]?) z.cells (ps.map fun p => (p.1, a.eval p.2)) = some cells := by simpa using hfill
  have hzv : (zeroValue t).run P w' = .ok z w' := by simp [zeroValue, typeInfo, hi, hzz]
  simp [execOp, hop, Instr.build, hzv, run_underlying hu] at hpl hfill' ⊢
  simp [hpl, hfill']

end Go.Dc

/-! New blocks; variables; stores. -/
namespace Go.Dc

variable {P : Program} {E : Env} {N : Nat} {Γ : List (Nat × RP)} {Ω : List OB} {ty : TypeId}

/-- a new block that all share -/
theorem Sat.new {a : Act} {w : World} (hs : Sat E N Γ Ω a w) (o : Obj) : Sat E N Γ Ω a (w.alloc o) :=
  hs.ext ⟨rfl, rfl, rfl⟩ (by simp) fun _ hb => heap_alloc_lt w o hb

theorem Sat.newFr {a : Act} {w : World} (hs : Sat E N Γ Ω a w) : fr E Ω w.heap.size :=
  ⟨hs.fs _ hs.kp.size, fun h => by have := (hs.bd _ h).1; omega⟩

theorem Sat.agNew {w : World} (o : Obj) : Ag (fr E Ω) (fr E Ω) w (w.alloc o) := ⟨fun _ _ h => h, fun _ hb _ => heap_alloc_lt w o hb⟩

/-! ### variables -/
def ptr (b off : Nat) : Value := .pointer (some ⟨b, off, none⟩)

theorem Sat.newVar {a : Act} {w : World} (hs : Sat E N Γ Ω a w) {cells : Array Value} {e : TypeId} {φs : List RP} (h : AllP (fr E Ω) w φs cells.toList) :
    Sat E N Γ (Ω ++ [oc w.heap.size φs]) a (w.alloc (.cells cells e)) := by
  refine hs.add ⟨rfl, rfl, rfl⟩ (by simp) (fun _ hb => heap_alloc_lt w _ hb) (fun b hb => ?_) (by simp [oc]) ?_
  · rw [show b = w.heap.size from by simpa [oc] using hb]; exact ⟨Nat.le_refl _, by simp⟩
  · refine ⟨cells, e, heap_alloc_new' w _, h.mono ⟨fun b hb hf => fr_add hf ?_, fun b hb _ => heap_alloc_lt w _ hb⟩⟩
    simp [oc]; omega

theorem s_alloc {e : TypeId} {zs : List RP} (hz : ∃ i z, P.info? e = some i ∧ i.zero = some z ∧ ∀ F w, AllP F w zs z.cells.toList) :
    St P E N (.alloc e) ty Γ Ω [] (fun b : Nat => pv (ptr b 0)) (fun b => Ω ++ [oc b zs]) := by
  intro a w hs
  obtain ⟨i, z, hi, hzz, hzs⟩ := hz
  have hzv : (zeroValue e).run P w = .ok z w := by simp [zeroValue, typeInfo, hi, hzz]
  refine opwp_val (v := ptr w.heap.size 0) (w' := w.alloc (.cells z.cells e)) (fun o ho ht => ?_) ⟨w.heap.size, hs.newVar (hzs _ _), rfl, by simp, fun b hb _ => heap_alloc_lt w _ hb, own_add (by simp [oc])⟩
  simp [execOp, ho, Instr.alloc, hzv, newVar, newRow, ptr]

theorem s_box {e : TypeId} {x : Operand} {ψs : List RP} (hp : PartOk E N Γ Ω x ψs) :
    St P E N (.box e x) ty Γ Ω [] (fun b : Nat => pv (ptr b 0)) (fun b => Ω ++ [oc b ψs]) := by
  intro a w hs
  refine opwp_val (v := ptr w.heap.size 0) (w' := w.alloc (.cells (a.eval x).cells e)) (fun o ho ht => ?_) ⟨w.heap.size, hs.newVar (hp a w hs).1, rfl, by simp, fun b hb _ => heap_alloc_lt w _ hb, own_add (by simp [oc])⟩
  simp [execOp, ho, Instr.box, newVar, newRow, ptr]

theorem r_nilc {x : Operand} {b off : Nat} (hx : lkO Γ x = some (pv (ptr b off))) : Rd P E N (.nilCheck x) ty Γ Ω [] (pv (ptr b off)) := .mk fun a w hs => by
  have h1 : a.eval x = ptr b off := hs.op hx
  exact ⟨_, rfl, fun w' o ho _ => by simp [execOp, ho, h1, ptr]⟩

theorem r_faddr {s f fo n : Nat} {x : Operand} {b off : Nat} {fields : Array Go.Field} {fd : Go.Field} (hu : P.underlying s = some (.struct fields)) (hf : fields[f]? = some fd) (ho : fd.offset = fo)
    (hn : ∀ w, (Go.sizeOf fd.type).run P w = .ok (n + 1) w) (hx : lkO Γ x = some (pv (ptr b off))) : Rd P E N (.fieldAddr s x f) ty Γ Ω [] (pv (ptr b (off + fo))) := .mk fun a w hs => by
  have h1 : a.eval x = ptr b off := hs.op hx
  exact ⟨_, rfl, fun w' o hop _ => by simp [execOp, hop, h1, ptr, Instr.fieldAt, run_underlying hu, hf, Instr.sureAddr, fieldPlace, hn, addr_add, ho]⟩

/-- the address of an element of an array variable -/
theorem r_aaddr {t e len sz : Nat} {x i : Operand} {b off : Nat} {k : IntKind} {n : Int} (h0 : 0 ≤ n ∧ n < len) (hu : P.underlying t = some (.array len e))
    (hn : ∀ w, (Go.sizeOf e).run P w = .ok sz w) (hx : lkO Γ x = some (pv (ptr b off))) (hi : lkO Γ i = some (iv k n)) :
    Rd P E N (.indexAddr t x i) ty Γ Ω [] (pv (ptr b (off + n.toNat * sz))) := .mk fun a w hs => by
  have h1 : a.eval x = ptr b off := hs.op hx
  have h2 : a.eval i = .int k n := hs.op hi
  exact ⟨_, rfl, fun w' o hop _ => by simp [execOp, hop, h1, h2, ptr, Instr.indexAt, run_underlying hu, Instr.sureAddr, asIntOf, hn, addr_add, h0]⟩

theorem oc_load {w : World} {b off n : Nat} {φs ψs : List RP} {F : FP} (hob : (oc b φs).h F w) (hψ : (φs.drop off).take n = ψs) (hl : ψs.length = n) :
    ∃ cells ty es, w.heap[b]? = some (.cells cells ty (0, 0)) ∧ AllP F w ψs es ∧ (∀ j, j < n → cells[off + j]? = es[j]?) ∧ es.length = n := by
  obtain ⟨cells, ty, hb, hall⟩ := hob
  refine ⟨cells, ty, (cells.toList.drop off).take n, hb, hψ ▸ (hall.drop off).take n, fun j hj => ?_, ?_⟩
  · rw [List.getElem?_take, if_pos hj, List.getElem?_drop]; simp
  · have := ((hall.drop off).take n).length
    rw [this, hψ, hl]

/-- a variable of one cell is read -/
theorem r_cload {e : TypeId} {x : Operand} {b off j : Nat} {φs : List RP} {φ : RP} (hg : ∀ w, (isAgg e).run P w = .ok false w) (hx : lkO Γ x = some (pv (ptr b off))) (hj : Ω[j]? = some (oc b φs))
    (hφ : φs[off]? = some φ) : Rd P E N (.load e x) ty Γ Ω [j] φ := fun a w hs => by
  have h1 : a.eval x = ptr b off := hs.op hx
  obtain ⟨cells, ct, hb, hall⟩ := hs.objAt hj
  obtain ⟨v, hv, hh⟩ := hall.get hφ
  refine ⟨v, [b], hh, ?_, fun w' hw' o ho _ => ?_⟩
  · intro b' hb'; rw [List.mem_singleton.1 hb']; exact ⟨size_of_get hb, .inr ⟨j, by simp, _, hj, by simp [oc]⟩⟩
  · have hb2 : w'.heap[b]? = some (.cells cells ct (0, 0)) := by rw [hw' b (by simp)]; exact hb
    have hc : w'.cell? ⟨b, off, none⟩ = some v := by rw [cell_at hb2]; simpa using hv
    simp [execOp, ho, h1, ptr, Instr.loadAt, Instr.sureAddr, loadVar, hg, run_load, hc]

/-- a variable of many cells is read -/
theorem r_cloadS {e : TypeId} {x : Operand} {b off j n : Nat} {φs ψs : List RP} (hg : ∀ w, (isAgg e).run P w = .ok true w) (hn : ∀ w, (Go.sizeOf e).run P w = .ok n w)
    (hx : lkO Γ x = some (pv (ptr b off))) (hj : Ω[j]? = some (oc b φs)) (hψ : (φs.drop off).take n = ψs) (hl : Nat.beq ψs.length n = true) : Rd P E N (.load e x) ty Γ Ω [j] (ag ψs) := fun a w hs => by
  have h1 : a.eval x = ptr b off := hs.op hx
  obtain ⟨cells, ct, es, hb, hall, hc, hel⟩ := oc_load (hs.objAt hj) hψ (Nat.eq_of_beq_eq_true hl)
  refine ⟨.agg es.toArray, [b], ⟨es.toArray, rfl, by simpa using hall⟩, ?_, fun w' hw' o ho _ => ?_⟩
  · intro b' hb'; rw [List.mem_singleton.1 hb']; exact ⟨size_of_get hb, .inr ⟨j, by simp, _, hj, by simp [oc]⟩⟩
  · have hb2 : w'.heap[b]? = some (.cells cells ct (0, 0)) := by rw [hw' b (by simp)]; exact hb
    have := run_loadCells_list (P := P) w' ⟨b, off, none⟩ es fun j v hv => by
      have hj : j < es.length := (List.getElem?_eq_some_iff.1 hv).1
      rw [addr_add, cell_at hb2, hc j (by omega), hv]
    rw [hel] at this
    simp [execOp, ho, h1, ptr, Instr.loadAt, Instr.sureAddr, loadVar, hg, hn, this]

theorem run_storeVar {e : TypeId} {b off n : Nat} {cells : Array Value} {et : TypeId} {w : World} {v : Value} (hn : ∀ w, (Go.sizeOf e).run P w = .ok n w) (hb : w.heap[b]? = some (.cells cells et (0, 0)))
    (hl : v.cells.size = n) (hfit : off + n ≤ cells.size) (hat : ∀ u ∈ v.cells.toList, u.oneCell' = true) :
    (storeVar e ⟨b, off, none⟩ v).run P w = .ok () (w.setRow b (cells.toList.take off ++ v.cells.toList ++ cells.toList.drop (off + n)).toArray) := by
  have hst := run_storeCells_at P b off et v.cells.toList 0 cells w hb (by simp [hl]; exact hfit) hat
  simp only [Nat.add_zero, Array.length_toList, hl] at hst
  simp [storeVar, hn, hl, hst]

/-- a variable, or a part of it, is written -/
theorem s_cstore {e : TypeId} {x y : Operand} {b off j n : Nat} {φs ψs out : List RP} (hn : ∀ w, (Go.sizeOf e).run P w = .ok n w)
    (hx : lkO Γ x = some (pv (ptr b off))) (hj : Ω[j]? = some (oc b φs)) (hy : PartOk E N Γ Ω y ψs) (hl : Nat.beq ψs.length n = true) (hfit : Nat.ble (off + n) φs.length = true)
    (ho : φs.take off ++ ψs ++ φs.drop (off + n) = out) : St P E N (.store e x y) ty Γ Ω [j] (fun _ : Unit => pv undef) (fun _ => Ω.set j (oc b out)) := by
  subst ho
  intro a w hs
  have h1 : a.eval x = ptr b off := hs.op hx
  obtain ⟨hall, hat⟩ := hy a w hs
  obtain ⟨cells, ct, hb, hcs⟩ := hs.objAt hj
  have hvl : (a.eval y).cells.size = n := by rw [← Array.length_toList, hall.length]; exact Nat.eq_of_beq_eq_true hl
  have hfit' : off + n ≤ cells.size := by rw [← Array.length_toList, hcs.length]; exact Nat.le_of_ble_eq_true hfit
  have hst := run_storeVar (P := P) (w := w) hn hb hvl hfit' hat
  intro o hop ht
  have hr : (execOp a.eval o).run P w = .ok .skip (w.setRow b (cells.toList.take off ++ (a.eval y).cells.toList ++ cells.toList.drop (off + n)).toArray) := by
    simp only [execOp, hop, Instr.storeAt, h1, ptr, Instr.sureAddr]
    simp [hst]
  rw [hr]
  have hlt := size_of_get hb
  refine ⟨(), ?_, rfl, by simp, fun b' hb' hn' => setRow_other w b b' _ fun e => hn' j (by simp) _ hj (by rw [e]; simp [oc]), own_set hj fun b hb => .inl hb⟩
  refine hs.upd hj ⟨rfl, rfl, rfl⟩ (by simp) (fun b' _ hn' => setRow_other w b b' _ fun e => hn' (by rw [e]; simp [oc])) (fun b' hb' => .inl hb') (by simp [oc]) ?_
  have hag : Ag (fr E Ω) (fr E (Ω.set j (oc b (φs.take off ++ ψs ++ φs.drop (off + n))))) w (w.setRow b (cells.toList.take off ++ (a.eval y).cells.toList ++ cells.toList.drop (off + n)).toArray) :=
    ⟨fun b' _ hf => fr_set hj hf fun hm => hf.2 (Sat.notin hj (b := b') hm), fun b' _ hf => setRow_other w b b' _ fun e => hf.2 (Sat.notin hj (b := b') (by rw [e]; simp [oc]))⟩
  refine ⟨_, ct, setRow_heap w b cells _ ct (0, 0) hb, ?_⟩
  exact (((hcs.take off).append hall).append (hcs.drop (off + n))).mono hag

/-- an element of an owned slice is written -/
theorem s_ostore {α : Type} {e : TypeId} {ρ : Rep α} {bytes : Nat} {x y : Operand} {d : List α} {n : Int} {u u0 : α} {hv : Value} {S : List Nat} {j : Nat} (hu : idxM d n = some u0) (h : ElT P e ρ bytes)
    (hx : lkO Γ x = some (pv (elA hv ρ.size n))) (hj : Ω[j]? = some (oa ρ hv S d)) (hy : PartOk E N Γ Ω y (ρ.cp u)) :
    St P E N (.store e x y) ty Γ Ω [j] (fun _ : Unit => pv undef) (fun _ => Ω.set j (oa ρ hv S (d.set n.toNat u))) := by
  intro a w hs
  obtain ⟨h0, h1, hlt, hd⟩ := idxM_some hu
  have hv' : a.eval x = elA hv ρ.size n := hs.op hx
  obtain ⟨hall, hat⟩ := hy a w hs
  obtain ⟨ad, c, rfl, hc, hob⟩ := hs.objAt hj
  rcases hob with ⟨rfl, _, rfl⟩ | ⟨b, off, cells, ct, rfl, rfl, hb, hsz, hH⟩
  · omega
  · have hvl : (a.eval y).cells.size = ρ.size := by rw [← Array.length_toList, hall.length, ρ.len]
    have hle : (n.toNat + 1) * ρ.size ≤ c * ρ.size := Nat.mul_le_mul_right _ (by omega)
    rw [Nat.succ_mul] at hle
    have hst := run_storeVar (P := P) (e := e) (off := off + n.toNat * ρ.size) (w := w) h.sizeOf hb hvl (by omega) hat
    intro o hop ht
    have hr : (execOp a.eval o).run P w = .ok .skip (w.setRow b (cells.toList.take (off + n.toNat * ρ.size) ++ (a.eval y).cells.toList ++ cells.toList.drop (off + n.toNat * ρ.size + ρ.size)).toArray) := by
      simp only [execOp, hop, Instr.storeAt, hv', elA, addr_add, Instr.sureAddr]
      simp [hst]
    rw [hr]
    refine ⟨(), ?_, rfl, by simp, fun b' hb' hn' => setRow_other w b b' _ fun e => hn' j (by simp) _ hj (by rw [e]; simp [oa]), own_set hj fun b hb => .inl hb⟩
    refine hs.upd hj ⟨rfl, rfl, rfl⟩ (by simp) (fun b' _ hn' => setRow_other w b b' _ fun e => hn' (by rw [e]; simp [oa])) (fun b' hb' => .inl hb') (by simp [oa]) ?_
    have hag : Ag (fr E Ω) (fr E (Ω.set j (oa ρ (.slice (some ⟨b, off, none⟩) d.length c) [b] (d.set n.toNat u)))) w
        (w.setRow b (cells.toList.take (off + n.toNat * ρ.size) ++ (a.eval y).cells.toList ++ cells.toList.drop (off + n.toNat * ρ.size + ρ.size)).toArray) :=
      ⟨fun b' _ hf => fr_set hj hf fun hm => hf.2 (Sat.notin hj (b := b') hm), fun b' _ hf => setRow_other w b b' _ fun e => hf.2 (Sat.notin hj (b := b') (by rw [e]; simp [oa]))⟩
    refine ⟨some ⟨b, off, none⟩, c, by rw [List.length_set], by rw [List.length_set]; exact hc, .inr ⟨b, off, _, ct, rfl, rfl, setRow_heap w b cells _ ct (0, 0) hb, ?_, ?_⟩⟩
    · simp only [List.size_toArray, List.length_append, List.length_take, List.length_drop, Array.length_toList, hvl]; omega
    · intro i hi
      rw [List.length_set] at hi
      have hle2 : (i + 1) * ρ.size ≤ c * ρ.size := Nat.mul_le_mul_right _ (by omega)
      rw [Nat.succ_mul] at hle2
      have hll : cells.toList.length = cells.size := Array.length_toList
      have hvl' : (a.eval y).cells.toList.length = ρ.size := by rw [Array.length_toList, hvl]
      have htk : (cells.toList.take (off + n.toNat * ρ.size)).length = off + n.toNat * ρ.size := by rw [List.length_take]; omega
      by_cases hin : i = n.toNat
      · subst hin
        refine ⟨(a.eval y).cells.toList, by rw [List.getElem_set_self]; exact hall.mono hag, fun k hk => ?_⟩
        rw [List.getElem?_toArray, List.append_assoc, List.getElem?_append_right (by omega), List.getElem?_append_left (by omega)]
        congr 1; omega
      · obtain ⟨es, hes, hcs⟩ := hH i hi
        refine ⟨es, by rw [List.getElem_set_ne (Ne.symm hin)]; exact hes.mono hag, fun k hk => ?_⟩
        rw [← hcs k hk, List.getElem?_toArray, List.append_assoc]
        rcases Nat.lt_or_gt_of_ne hin with hlt2 | hgt2
        · have : (i + 1) * ρ.size ≤ n.toNat * ρ.size := Nat.mul_le_mul_right _ hlt2
          rw [Nat.succ_mul] at this
          rw [List.getElem?_append_left (by omega), List.getElem?_take, if_pos (by omega)]
          simp
        · have : (n.toNat + 1) * ρ.size ≤ i * ρ.size := Nat.mul_le_mul_right _ hgt2
          rw [Nat.succ_mul] at this
          rw [List.getElem?_append_right (by omega), List.getElem?_append_right (by omega), List.getElem?_drop, htk, hvl']
          simp
          congr 1; omega

/-! ### slices that are made -/
def mkM {α : Type} (bytes : Nat) (z : α) (n : Int) : Option (List α) := if 0 ≤ n ∧ bytes * n.toNat ≤ 140737488355328 then some (List.replicate n.toNat z) else none
theorem mkM_some {α : Type} {bytes : Nat} {z : α} {n : Int} {d : List α} (h : mkM bytes z n = some d) : 0 ≤ n ∧ bytes * n.toNat ≤ 140737488355328 ∧ d = List.replicate n.toNat z := by
  unfold mkM at h
  split at h
  · rename_i hh; exact ⟨hh.1, hh.2, by simpa using h.symm⟩
  · cases h

theorem s_make {α : Type} {e t : TypeId} {ρ : Rep α} {bytes : Nat} {x y : Operand} {k : IntKind} {n : Int} {z : α} {d : List α} (hd : mkM bytes z n = some d) (hu : P.underlying t = some (.slice e)) (h : ElT P e ρ bytes)
    (hz : ZeroT P e ρ z) (hx : lkO Γ x = some (iv k n)) (hy : lkO Γ y = some (iv k n)) :
    St P E N (.makeSlice t x y) ty Γ Ω [] (fun X : Value × List Nat => pv X.1) (fun X => Ω ++ [oa ρ X.1 X.2 d]) := by
  intro a w hs
  obtain ⟨h0, hby, rfl⟩ := mkM_some hd
  have h1 : a.eval x = .int k n := hs.op hx
  have h2 : a.eval y = .int k n := hs.op hy
  obtain ⟨i, zv, hi, hzz, hzs⟩ := hz
  obtain ⟨i', hi', his, hib, z', hz', hzsz⟩ := h.info
  rw [hi] at hi'; cases hi'
  rw [hzz] at hz'; cases hz'
  have hbp := h.bpos
  have hn : (n.toNat : Int) = n := Int.toNat_of_nonneg h0
  have hnb : n.toNat ≤ bytes * n.toNat := Nat.le_mul_of_pos_left _ hbp
  have hrun := run_make (P := P) w t e i zv hu hi hzz k k n n h0 (Int.le_refl _) (by rw [hib, ← hn, ← Int.natCast_mul]; omega) (by omega)
  refine opwp_val (v := .slice (some ⟨w.heap.size, 0, none⟩) n.toNat n.toNat) (w' := w.alloc (.cells (madeCells zv.cells (n.toNat * i.size)) e)) (fun o ho ht => ?_)
    ⟨(.slice (some ⟨w.heap.size, 0, none⟩) n.toNat n.toNat, [w.heap.size]), ?_, rfl, by simp, fun b hb _ => heap_alloc_lt w _ hb, own_add (by simp [oa])⟩
  · simp [execOp, ho, h1, h2, hrun]
  · refine hs.add ⟨rfl, rfl, rfl⟩ (by simp) (fun _ hb => heap_alloc_lt w _ hb) (fun b hb => ?_) (by simp [oa]) ?_
    · rw [show b = w.heap.size from by simpa [oa] using hb]; exact ⟨Nat.le_refl _, by simp⟩
    · refine ⟨some ⟨w.heap.size, 0, none⟩, n.toNat, by simp, by simp, .inr ⟨w.heap.size, 0, _, e, rfl, rfl, heap_alloc_new' w _, by simp [size_madeCells, his], ?_⟩⟩
      intro q hq
      rw [List.length_replicate] at hq
      refine ⟨zv.cells.toList, by rw [List.getElem_replicate]; exact hzs _ _, fun k hk => ?_⟩
      have hlt : q * ρ.size + k < n.toNat * ρ.size := by
        have : (q + 1) * ρ.size ≤ n.toNat * ρ.size := Nat.mul_le_mul_right _ hq
        rw [Nat.succ_mul] at this; omega
      rw [Nat.zero_add, madeCells, Array.getElem?_map, Array.getElem?_range, his, if_pos hlt]
      simp [hzsz, hk, Nat.mod_eq_of_lt hk]

end Go.Dc

/-! Slices written out, bytes as strings, fields of values, calls that change objects. -/
namespace Go.Dc

variable {P : Program} {E : Env} {N : Nat} {Γ : List (Nat × RP)} {Ω : List OB} {ty : TypeId}

def enumP : Nat → List Operand → List (Nat × Operand)
  | _, [] => []
  | n, x :: xs => (n, x) :: enumP (n + 1) xs

def AllPart {α : Type} (E : Env) (N : Nat) (Γ : List (Nat × RP)) (Ω : List OB) (ρ : Rep α) : List Operand → List α → Prop
  | [], [] => True
  | x :: xs, d :: ds => PartOk E N Γ Ω x (ρ.cp d) ∧ AllPart E N Γ Ω ρ xs ds
  | _, _ => False

theorem AllPart.length {α : Type} {ρ : Rep α} : ∀ {xs : List Operand} {ds : List α}, AllPart E N Γ Ω ρ xs ds → xs.length = ds.length
  | [], [], _ => rfl
  | _ :: _, _ :: _, ⟨_, h⟩ => by simp [h.length]
  | [], _ :: _, h => h.elim
  | _ :: _, [], h => h.elim

theorem enum_fill {α : Type} {ρ : Rep α} {F : FP} {w : World} (g : Operand → Value) : ∀ {xs : List Operand} {ds : List α} {k : Nat} {cells : Array Value},
    (∀ (i : Nat) (x : Operand) (d : α), xs[i]? = some x → ds[i]? = some d → AllP F w (ρ.cp d) (g x).cells.toList) → xs.length = ds.length → (k + xs.length) * ρ.size ≤ cells.size →
    ∃ es, AllP F w (ds.flatMap ρ.cp) es ∧
      Instr.fill (fun i => some (i * ρ.size, ρ.size)) cells ((enumP k xs).map fun p => (p.1, g p.2)) = some (cells.toList.take (k * ρ.size) ++ es ++ cells.toList.drop ((k + xs.length) * ρ.size)).toArray
  | [], [], k, cells, _, _, _ => ⟨[], trivial, by simp [enumP, Instr.fill]⟩
  | x :: xs, d :: ds, k, cells, h, hl, hs => by
    have hx := h 0 x d (by simp) (by simp)
    have hxl : (g x).cells.size = ρ.size := by rw [← Array.length_toList, hx.length, ρ.len]
    simp only [List.length_cons, Nat.add_right_cancel_iff] at hl
    simp only [List.length_cons] at hs
    have hk1 : (k + 1) * ρ.size ≤ (k + (xs.length + 1)) * ρ.size := Nat.mul_le_mul_right _ (by omega)
    rw [Nat.succ_mul] at hk1
    have hfold := fold_set (g x).cells.toList (k * ρ.size) 0 cells (by rw [Array.length_toList]; omega)
    rw [Nat.add_zero, Array.length_toList, hxl] at hfold
    generalize hc' : (g x).cells.zipIdx.foldl (fun cs (c, j) => cs.setIfInBounds (k * ρ.size + j) c) cells = cells'
    have hcl : cells'.toList = cells.toList.take (k * ρ.size) ++ (g x).cells.toList ++ cells.toList.drop (k * ρ.size + ρ.size) := by
      rw [← hc', ← Array.foldl_toList, Array.toList_zipIdx]; exact hfold
    have hll : cells.toList.length = cells.size := Array.length_toList
    have hsz' : cells'.size = cells.size := by
      rw [← Array.length_toList, hcl]; simp [hxl]; omega
    have hxl' : (g x).cells.toList.length = ρ.size := by rw [Array.length_toList, hxl]
    obtain ⟨es, hes, hfill⟩ := enum_fill (w := w) (F := F) g (xs := xs) (ds := ds) (k := k + 1) (cells := cells') (fun i y e hy he => h (i + 1) y e (by simpa using hy) (by simpa using he)) hl
      (by rw [hsz']; rw [show k + 1 + xs.length = k + (xs.length + 1) from by omega]; exact hs)
    refine ⟨(g x).cells.toList ++ es, by rw [List.flatMap_cons]; exact hx.append hes, ?_⟩
    simp only [enumP, List.map_cons, Instr.fill]
    rw [if_neg (by simp [hxl]; omega)]
    have hc2 : (g x).cells.zipIdx.foldl (fun cs (x : Value × Nat) => match x with | (c, j) => cs.setIfInBounds (k * ρ.size + j) c) cells = cells' := hc'
    rw [hc2, hfill, hcl]
    have ht : (cells.toList.take (k * ρ.size)).length = k * ρ.size := by rw [List.length_take]; omega
    congr 2
    rw [show (k + 1) * ρ.size = k * ρ.size + ρ.size from Nat.succ_mul k _]
    have e1 : (cells.toList.take (k * ρ.size) ++ (g x).cells.toList ++ cells.toList.drop (k * ρ.size + ρ.size)).take (k * ρ.size + ρ.size) = cells.toList.take (k * ρ.size) ++ (g x).cells.toList := by
      rw [List.take_append_of_le_length (by simp [hxl', ht]), List.take_of_length_le (by simp [hxl', ht])]
    have hlen : (k + (x :: xs).length) * ρ.size = (k + 1 + xs.length) * ρ.size := by congr 1; simp; omega
    have hk2 : k * ρ.size + ρ.size ≤ (k + 1 + xs.length) * ρ.size := by rw [← Nat.succ_mul]; exact Nat.mul_le_mul_right _ (by omega)
    have e2 : (cells.toList.take (k * ρ.size) ++ (g x).cells.toList ++ cells.toList.drop (k * ρ.size + ρ.size)).drop ((k + 1 + xs.length) * ρ.size) = cells.toList.drop ((k + (x :: xs).length) * ρ.size) := by
      rw [hlen, List.drop_append, List.drop_eq_nil_of_le (by simp [hxl', ht]; omega), List.nil_append, List.drop_drop]
      congr 1
      simp [hxl', ht]; omega
    rw [e1, e2]; simp
  | [], _ :: _, _, _, _, hl, _ => by simp at hl
  | _ :: _, [], _, _, _, hl, _ => by simp at hl

theorem AllPart.all {α : Type} {ρ : Rep α} {a : Act} {w : World} (hs : Sat E N Γ Ω a w) : ∀ {xs : List Operand} {ds : List α}, AllPart E N Γ Ω ρ xs ds →
    ∀ (i : Nat) (x : Operand) (d : α), xs[i]? = some x → ds[i]? = some d → AllP (fr E Ω) w (ρ.cp d) (a.eval x).cells.toList
  | [], [], _, i, x, d, h, _ => by simp at h
  | y :: xs, e :: ds, ⟨h1, h2⟩, i, x, d, hx, hd => by
    cases i with
    | zero => simp at hx hd; subst hx; subst hd; exact (h1 a w hs).1
    | succ i => simp at hx hd; exact h2.all hs i x d hx hd
  | [], _ :: _, h, _, _, _, _, _ => h.elim
  | _ :: _, [], h, _, _, _, _, _ => h.elim

theorem run_bslice {α : Type} {e t : TypeId} {ρ : Rep α} {bytes n : Nat} {xs : List Operand} {ds : List α} (hu : P.underlying t = some (.slice e)) (h : ElT P e ρ bytes) (hn : n = ds.length)
    (h24 : ds.length * ρ.size ≤ 16777216) {a : Act} {w : World} (hs : Sat E N Γ Ω a w) (hp : AllPart E N Γ Ω ρ xs ds) :
    ∃ es, AllP (fr E Ω) w (ds.flatMap ρ.cp) es ∧ ∀ o : Oper, o.op = .buildSlice t n (enumP 0 xs).toArray →
      (execOp a.eval o).run P w = .ok (.value (.slice (some ⟨w.heap.size, 0, none⟩) ds.length ds.length)) (w.alloc (.cells es.toArray e)) := by
  subst hn
  obtain ⟨i, hi, his, _, z, hz, hzs⟩ := h.info
  have hzv : (zeroValue e).run P w = .ok z w := by simp [zeroValue, typeInfo, hi, hz]
  have hlen := hp.length
  have hh : ¬ 16777216 < ds.length * ρ.size := by omega
  by_cases h0 : ds.length * ρ.size = 0
  · have hd : ds = [] := by
      rcases Nat.mul_eq_zero.1 h0 with h1 | h1
      · exact List.eq_nil_of_length_eq_zero h1
      · have := h.pos; omega
    subst hd
    have hx : xs = [] := List.eq_nil_of_length_eq_zero (by simpa using hlen)
    subst hx
    refine ⟨[], trivial, fun o ho => ?_⟩
    simp [execOp, ho, Instr.buildSlice, run_underlying hu, h.sizeOf, enumP, Instr.fill, newRow]
    rw [show Array.range 0 = #[] from by first | rfl | simp, Array.map_empty]
  · obtain ⟨es, hes, hfill⟩ := enum_fill (w := w) (F := fr E Ω) (ρ := ρ) a.eval (xs := xs) (ds := ds) (k := 0) (cells := (Array.range (ds.length * ρ.size)).map (z.cells[· % z.cells.size]!)) (hp.all hs) hlen (by simp [hlen])
    refine ⟨es, hes, fun o ho => ?_⟩
    have hfill' : Instr.fill (fun i => some (i * ρ.size, ρ.size)) ((Array.range (ds.length * ρ.size)).map (z.cells[· % z.cells.size]!)) ((enumP 0 xs).map fun p => (p.1, a.eval p.2)) = some es.toArray := by
      rw [hfill]; simp [hlen]
    simp [execOp, ho, Instr.buildSlice, run_underlying hu, h.sizeOf, hh, h0, hzv] at hfill' ⊢
    simp [hfill', newRow]

theorem bslice_at {α : Type} {ρ : Rep α} {F F' : FP} {w : World} {e : TypeId} {ds : List α} {es : List Value} (h : AllP F w (ds.flatMap ρ.cp) es) (hag : Ag F F' w (w.alloc (.cells es.toArray e))) :
    SlH ρ F' (w.alloc (.cells es.toArray e)) es.toArray 0 ds := SlH.of (h.mono hag) fun j _ => by simp

/-- []T{..} that nobody will write -/
theorem s_bslice {α : Type} {e t : TypeId} {ρ : Rep α} {bytes n : Nat} {xs : List Operand} {ds : List α} (hu : P.underlying t = some (.slice e)) (h : ElT P e ρ bytes) (hn : n = ds.length)
    (h24 : ds.length * ρ.size ≤ 16777216) (hp : AllPart E N Γ Ω ρ xs ds) : St P E N (.buildSlice t n (enumP 0 xs).toArray) ty Γ Ω [] (fun _ : Unit => slv ρ ds) (fun _ => Ω) := by
  intro a w hs
  obtain ⟨es, hes, hrun⟩ := run_bslice hu h hn h24 hs hp
  refine opwp_val (fun o ho _ => hrun o ho) ⟨(), hs.new _, ⟨some ⟨w.heap.size, 0, none⟩, ds.length, rfl, Nat.le_refl _, fun _ => ⟨w.heap.size, 0, _, e, (0, 0), rfl, hs.newFr, heap_alloc_new' w _, bslice_at hes (Sat.agNew _)⟩⟩,
    by simp, fun b hb _ => heap_alloc_lt w _ hb, fun _ _ h => h⟩

/-- []T{..} that is ours -/
theorem s_bsliceO {α : Type} {e t : TypeId} {ρ : Rep α} {bytes n : Nat} {xs : List Operand} {ds : List α} (hu : P.underlying t = some (.slice e)) (h : ElT P e ρ bytes) (hn : n = ds.length)
    (h24 : ds.length * ρ.size ≤ 16777216) (hp : AllPart E N Γ Ω ρ xs ds) :
    St P E N (.buildSlice t n (enumP 0 xs).toArray) ty Γ Ω [] (fun X : Value × List Nat => pv X.1) (fun X => Ω ++ [oa ρ X.1 X.2 ds]) := by
  intro a w hs
  obtain ⟨es, hes, hrun⟩ := run_bslice hu h hn h24 hs hp
  have hel : es.length = ds.length * ρ.size := by rw [hes.length, cp_len]
  refine opwp_val (fun o ho _ => hrun o ho) ⟨(.slice (some ⟨w.heap.size, 0, none⟩) ds.length ds.length, [w.heap.size]), ?_, rfl, by simp, fun b hb _ => heap_alloc_lt w _ hb, own_add (by simp [oa])⟩
  refine hs.add ⟨rfl, rfl, rfl⟩ (by simp) (fun _ hb => heap_alloc_lt w _ hb) (fun b hb => ?_) (by simp [oa]) ?_
  · rw [show b = w.heap.size from by simpa [oa] using hb]; exact ⟨Nat.le_refl _, by simp⟩
  · refine ⟨some ⟨w.heap.size, 0, none⟩, ds.length, rfl, Nat.le_refl _, .inr ⟨w.heap.size, 0, _, e, rfl, rfl, heap_alloc_new' w _, by simp [hel], bslice_at hes ⟨fun b hb hf => fr_add hf ?_, fun b hb _ => heap_alloc_lt w _ hb⟩⟩⟩
    simp [oa]; omega

/-- a nil slice that is ours -/
theorem nil_sl {α : Type} {ρ : Rep α} {F : FP} {w : World} {v : Value} : (pv (.slice none 0 0)).h F w v → (slv ρ ([] : List α)).h F w v := fun h => by
  rw [show v = _ from h]; exact ⟨none, 0, rfl, Nat.le_refl _, fun h => absurd rfl h⟩
theorem imp_rfl {φ : RP} {F : FP} {w : World} {v : Value} : φ.h F w v → φ.h F w v := fun h => h
def ImpAll : List RP → List RP → Prop
  | [], [] => True
  | φ :: φs, ψ :: ψs => (∀ {F w v}, φ.h F w v → ψ.h F w v) ∧ ImpAll φs ψs
  | _, _ => False
theorem ImpAll.all {F : FP} {w : World} : ∀ {φs ψs : List RP} {vs : List Value}, ImpAll φs ψs → AllP F w φs vs → AllP F w ψs vs
  | [], [], [], _, _ => trivial
  | _ :: _, _ :: _, _ :: _, ⟨h1, h2⟩, ⟨h3, h4⟩ => ⟨h1 h3, h2.all h4⟩
  | [], [], _ :: _, _, h => h.elim
  | _ :: _, _ :: _, [], _, h => h.elim
  | [], _ :: _, _, h, _ => h.elim
  | _ :: _, [], _, h, _ => h.elim

/-- less is said of a variable's cells -/
theorem ocW (j : Nat) {b : Nat} {φs : List RP} (ψs : List RP) (hj : Ω[j]? = some (oc b φs)) (h : ImpAll φs ψs) : ∀ a w, Sat E N Γ Ω a w → Sat E N Γ (Ω.set j (oc b ψs)) a w := fun a w hs => by
  have hob := hs.objAt hj
  obtain ⟨cells, ty, hb, hall⟩ := hob
  refine hs.upd hj ⟨rfl, rfl, rfl⟩ (Nat.le_refl _) (fun _ _ _ => rfl) (fun b hb => .inl hb) (by simp [oc]) ?_
  exact ⟨cells, ty, hb, h.all (hall.mono (.refl fun b' hb' hf => fr_set (o' := oc b ψs) hj hf fun hm => hf.2 (Sat.notin hj (b := b') hm)))⟩

theorem own_nil {α : Type} (ρ : Rep α) : ∀ a w, Sat E N Γ Ω a w → Sat E N Γ (Ω ++ [oa ρ (.slice none 0 0) [] ([] : List α)]) a w := fun _ _ hs =>
  hs.add ⟨rfl, rfl, rfl⟩ (Nat.le_refl _) (fun _ _ => rfl) (fun b hb => by simp [oa] at hb) (by simp [oa]) ⟨none, 0, rfl, Nat.le_refl _, .inl ⟨rfl, rfl, rfl⟩⟩

/-- string(b) -/
def bstr (d : List Int) : ByteArray := d.foldl (fun s n => s.push (UInt8.ofNat n.toNat)) ByteArray.empty

theorem r_b2s {t u e : TypeId} {x : Operand} {d : List Int} (ht : P.underlying t = some (.slice e)) (hu : P.underlying u = some .string) (he : P.underlying e = some (.int .u8)) (hx : lkO Γ x = some (slv (rI .u8) d)) :
    Rd P E N (.convert t u x) ty Γ Ω [] (sv (bstr d)) := fun a w hs => by
  obtain ⟨ad, c, hv, hc, hat⟩ := hs.op hx
  have hloop : ∀ (l : List Int) (s0 : ByteArray) (w : World), (forIn (m := Sem) (l.map fun n => Value.int .u8 n) s0 fun c r =>
      match c with
      | Value.int .u8 n => pure (ForInStep.yield (r.push (UInt8.ofNat n.toNat)))
      | _ => Functor.map (fun (_ : PUnit) => ForInStep.yield r) (stuck "bytesToString: byte expected")).run P w = .ok (l.foldl (fun s n => s.push (UInt8.ofNat n.toNat)) s0) w := by
    intro l
    induction l with
    | nil => intro s0 w; simp
    | cons x l ih => intro s0 w; simp at ih ⊢ <;> exact ih _ w
  by_cases hd : d = []
  · subst hd
    refine ⟨.string .empty, [], rfl, by simp, fun w' _ o ho _ => ?_⟩
    cases ad with
    | none => simp [execOp, ho, hv, convert, run_underlying ht, run_underlying hu, run_underlying he, Conv.bytesToString]
    | some b => simp [execOp, ho, hv, convert, run_underlying ht, run_underlying hu, run_underlying he, Conv.bytesToString, loadCells, loadCellsFrom]
  · obtain ⟨b, off, cells, cty, fz, rfl, hF, hb, hH⟩ := hat hd
    obtain ⟨es, hes, hec⟩ := hH.list
    have hese : es = d.map fun n => Value.int .u8 n := by
      clear hec hH hv hc hat hx hd hloop
      induction d generalizing es with
      | nil => cases es with
        | nil => rfl
        | cons _ _ => exact hes.elim
      | cons x d ih => cases es with
        | nil => exact hes.elim
        | cons v es => rw [List.map_cons, show v = _ from hes.1, ih _ hes.2]
    refine ⟨.string (bstr d), [b], rfl, ?_, fun w' hw' o ho _ => ?_⟩
    · intro b' hb'; rw [List.mem_singleton.1 hb']; exact ⟨size_of_get hb, .inl hF.2⟩
    · have hb2 : w'.heap[b]? = some (.cells cells cty fz) := by rw [hw' b (by simp)]; exact hb
      have hel : es.length = d.length := by rw [hese, List.length_map]
      have := run_loadCells_list (P := P) w' ⟨b, off, none⟩ es fun j v hv => by
        have hj : j < es.length := (List.getElem?_eq_some_iff.1 hv).1
        rw [addr_add, cell_at hb2, hec j (by simp [rI, one]; omega), hv]
      rw [hel] at this
      have hl := hloop d ByteArray.empty w'
      rw [← hese] at hl
      simp [execOp, ho, hv, convert, run_underlying ht, run_underlying hu, run_underlying he, Conv.bytesToString, this]
      exact (congrArg (fun r : Result ByteArray => (r.andThen fun a w' => Result.ok (Value.string a) w').andThen fun a w' => Result.ok (Next.value a) w') hl).trans rfl
end Go.Dc
