/- Part Dc.Mem of a proof: lemmas. -/
import Derived.Test.YtkcaadcoagimdaaDoorDcOps
import Derived.Laws.MakeOwn
/-! What operations on memory do. -/
namespace Go.Dc

variable {P : Program} {E : Env} {N : Nat} {Γ : List (Nat × RP)} {Ω : List OB} {ty : TypeId}

structure ElT {α : Type} (P : Program) (e : TypeId) (ρ : Rep α) (bytes : Nat) : Prop where
  info : ∃ i, P.info? e = some i ∧ i.size = ρ.size ∧ i.bytes = bytes ∧ ∃ z, i.zero = some z ∧ z.cells.size = ρ.size
  agg : ∀ w, (isAgg e).run P w = .ok ρ.agg w
  pos : 0 < ρ.size
  bpos : 0 < bytes

def ZeroT {α : Type} (P : Program) (e : TypeId) (ρ : Rep α) (d : α) : Prop :=
  ∃ i z, P.info? e = some i ∧ i.zero = some z ∧ ∀ F w, AllP F w (ρ.cp d) z.cells.toList

section el
variable {α : Type} {e : TypeId} {ρ : Rep α} {bytes : Nat}
theorem ElT.sizeOf (h : ElT P e ρ bytes) (w : World) : (Go.sizeOf e).run P w = .ok ρ.size w := by
  obtain ⟨i, hi, hs, _⟩ := h.info
  simp [Go.sizeOf, typeInfo, hi, hs]

theorem addr_add (b off n : Nat) : (⟨b, off, none⟩ : Addr).add n = ⟨b, off + n, none⟩ := by
  unfold Addr.add; split
  · simp_all
  · rfl

theorem cell_at {w : World} {b off : Nat} {cells : Array Value} {ty : TypeId} {fz : Nat × Nat} (hb : w.heap[b]? = some (.cells cells ty fz)) :
    w.cell? ⟨b, off, none⟩ = cells[off]? := by simp [World.cell?, hb]

theorem ElT.load (h : ElT P e ρ bytes) {w : World} {b off : Nat} {cells : Array Value} {ty : TypeId} {fz : Nat × Nat} {es : List Value}
    (hb : w.heap[b]? = some (.cells cells ty fz)) (hl : es.length = ρ.size) (hc : ∀ j, j < ρ.size → cells[off + j]? = es[j]?) :
    (loadVar e ⟨b, off, none⟩).run P w = .ok (mkV ρ.agg es) w := by
  have hcell : ∀ j v, es[j]? = some v → w.cell? ((⟨b, off, none⟩ : Addr).add j) = some v := fun j v hv => by
    have hj : j < es.length := (List.getElem?_eq_some_iff.1 hv).1
    rw [addr_add, cell_at hb, hc j (by omega), hv]
  unfold loadVar
  rw [Sem.run_bind, h.agg]
  cases hg : ρ.agg with
  | true =>
    have := run_loadCells_list (P := P) w ⟨b, off, none⟩ es hcell
    rw [hl] at this
    simp [h.sizeOf, this, mkV]
  | false =>
    have h1 := ρ.one hg
    rw [h1] at hl
    obtain ⟨v, rfl⟩ := List.length_eq_one_iff.1 hl
    have := hcell 0 v (by simp)
    rw [addr_add] at this
    simp [run_load, Nat.add_zero] at this ⊢
    simp [this, mkV]

theorem run_index {t : TypeId} (hu : P.underlying t = some (.slice e)) (h : ElT P e ρ bytes) {b off n c : Nat} {k : IntKind} {i : Int} (h0 : 0 ≤ i) (h1 : i < n) (w : World) :
    (Instr.indexAt t (.slice (some ⟨b, off, none⟩) n c) (.int k i)).run P w = .ok (.pointer (some ⟨b, off + i.toNat * ρ.size, none⟩)) w := by
  simp [Instr.indexAt, run_underlying hu, asIntOf, h.sizeOf, h0, h1, addr_add]

/-! ### slices that are shared -/
def idxM (d : List α) (n : Int) : Option α := if 0 ≤ n then d[n.toNat]? else none
theorem idxM_some {d : List α} {n : Int} {x : α} (h : idxM d n = some x) : 0 ≤ n ∧ n < d.length ∧ ∃ hi : n.toNat < d.length, d[n.toNat] = x := by
  unfold idxM at h
  split at h
  · obtain ⟨h1, h2⟩ := List.getElem?_eq_some_iff.1 h
    exact ⟨by assumption, by omega, h1, h2⟩
  · cases h

theorem r_index {t : TypeId} {x i : Operand} {k : IntKind} {d : List α} {n : Int} {y : α} (hy : idxM d n = some y) (hu : P.underlying t = some (.slice e)) (h : ElT P e ρ bytes)
    (hx : lkO Γ x = some (slv ρ d)) (hi : lkO Γ i = some (iv k n)) : Rd P E N (.indexAddr t x i) ty Γ Ω [] (ea ρ y) := .mk fun a w hs => by
  obtain ⟨h0, h1, hlt, hd⟩ := idxM_some hy
  obtain ⟨ad, c, hv, hc, hat⟩ := hs.op hx
  obtain ⟨b, off, cells, ty', fz, rfl, hF, hb, hH⟩ := hat (by intro e; rw [e] at hlt; simp at hlt)
  obtain ⟨es, hes, hcs⟩ := hH n.toNat hlt
  have h2 : a.eval i = .int k n := hs.op hi
  refine ⟨.pointer (some ⟨b, off + n.toNat * ρ.size, none⟩), ⟨b, _, cells, ty', fz, es, rfl, hF, hb, hd ▸ hes, hcs⟩, fun w' o ho _ => ?_⟩
  simp [execOp, ho, hv, h2, run_index hu h h0 h1]

theorem r_load {x : Operand} {y : α} (h : ElT P e ρ bytes) (hx : lkO Γ x = some (ea ρ y)) : Rd P E N (.load e x) ty Γ Ω [] (sh ρ y) := fun a w hs => by
  obtain ⟨b, off, cells, ty', fz, es, hv, hF, hb, hes, hcs⟩ := hs.op hx
  refine ⟨mkV ρ.agg es, [b], sh_iff.2 ⟨es, hes, rfl⟩, ?_, fun w' hw' o ho _ => ?_⟩
  · intro b' hb'; rw [List.mem_singleton.1 hb']; exact ⟨size_of_get hb, .inl hF.2⟩
  · have hb2 : w'.heap[b]? = some (.cells cells ty' fz) := by rw [hw' b (by simp)]; exact hb
    have := h.load hb2 (by rw [hes.length, ρ.len]) hcs
    simp [execOp, ho, hv, Instr.loadAt, Instr.sureAddr, this]

theorem r_len {t : TypeId} {x : Operand} {d : List α} (hu : P.underlying t = some (.slice e)) (hx : lkO Γ x = some (slv ρ d)) :
    Rd P E N (.call ⟨.builtin .len, #[x], #[t]⟩) ty Γ Ω [] (iv .i64 (d.length : Int)) := .mk fun a w hs => by
  obtain ⟨ad, c, hv, hc, hat⟩ := hs.op hx
  exact ⟨.int .i64 d.length, rfl, fun w' o ho _ => by simp [execOp, ho, resolve, invoke, builtin, Builtin.len_, hv, run_underlying hu, goInt]⟩

/-- s[lo:hi] -/
def slM (d : List α) (lo hi : Int) : Option (List α) := if 0 ≤ lo ∧ lo ≤ hi ∧ hi ≤ d.length then some ((d.take hi.toNat).drop lo.toNat) else none
theorem slM_some {d d' : List α} {lo hi : Int} (h : slM d lo hi = some d') : 0 ≤ lo ∧ lo ≤ hi ∧ hi ≤ d.length ∧ d' = (d.take hi.toNat).drop lo.toNat := by
  unfold slM at h
  split at h
  · rename_i hh; exact ⟨hh.1, hh.2.1, hh.2.2, by simpa using h.symm⟩
  · cases h

theorem SlH.sub {F : FP} {w : World} {cells : Array Value} {off : Nat} {d : List α} (h : SlH ρ F w cells off d) (lo hi : Nat) :
    SlH ρ F w cells (off + lo * ρ.size) ((d.take hi).drop lo) := by
  intro i hi'
  have hlt : lo + i < d.length := by simp at hi'; omega
  obtain ⟨es, h1, h2⟩ := h (lo + i) hlt
  refine ⟨es, ?_, fun j hj => ?_⟩
  · have : ((d.take hi).drop lo)[i] = d[lo + i] := by simp
    rw [this]; exact h1
  · rw [← h2 j hj, Nat.add_mul]; congr 1; omega

theorem sl_addr {F : FP} {w : World} {ad : Option Addr} {d : List α} {lo hi m l s : Nat} (h : SlAt ρ F w ad d) (hd : (d.take hi).drop lo ≠ []) (hlo : l = lo) (hm : m ≠ l ∨ l = 0) (hs : s = ρ.size) :
    SlAt ρ F w (if m = l then ad else ad.map (·.add (l * s))) ((d.take hi).drop lo) := by
  intro _
  obtain ⟨b, off, cells, ty, fz, rfl, hF, hb, hH⟩ := h (by intro e; rw [e] at hd; simp at hd)
  subst hlo; subst hs
  refine ⟨b, off + l * ρ.size, cells, ty, fz, ?_, hF, hb, hH.sub l hi⟩
  rcases hm with hm | hm
  · rw [if_neg hm]; simp [addr_add]
  · subst hm; split <;> simp [addr_add]

theorem run_slice {t : TypeId} (hu : P.underlying t = some (.slice e)) (h : ElT P e ρ bytes) {ad : Option Addr} {n c : Nat} {lo hi : Option Value} {l hh : Nat}
    (hlo : (lo = none ∧ l = 0) ∨ ∃ k, lo = some (.int k (l : Int))) (hhi : (hi = none ∧ hh = n) ∨ ∃ k, hi = some (.int k (hh : Int))) (h1 : l ≤ hh) (h2 : hh ≤ c) (w : World) :
    (Instr.sliceAt t (.slice ad n c) lo hi none).run P w = .ok (.slice (if c = l then ad else ad.map (·.add (l * ρ.size))) (hh - l) (c - l)) w := by
  have hb : (Instr.sliceBounds true n c lo hi none).run P w = .ok (l, hh, c) w := by
    rcases hlo with ⟨rfl, rfl⟩ | ⟨k, rfl⟩ <;> rcases hhi with ⟨rfl, rfl⟩ | ⟨k', rfl⟩ <;>
      simp [Instr.sliceBounds, Instr.sliceBound, asIntOf, h1, h2]
  simp [Instr.sliceAt, run_underlying hu, Instr.slice, hb, h.sizeOf]

/-- the bounds of a slice expression, as they stand in slots -/
inductive BdOk (Γ : List (Nat × RP)) (dflt : Int) : Option Operand → Int → Prop
  | dft : BdOk Γ dflt none dflt
  | of {x : Operand} {k : IntKind} {n : Int} (h : lkO Γ x = some (iv k n)) : BdOk Γ dflt (some x) n

theorem BdOk.val {lo : Option Operand} {l dflt : Int} (h : BdOk Γ dflt lo l) {a : Act} {w : World} (hs : Sat E N Γ Ω a w) :
    (lo.map a.eval = none ∧ l = dflt) ∨ ∃ k, lo.map a.eval = some (Value.int k l) := by
  cases h with
  | dft => exact .inl ⟨rfl, rfl⟩
  | of hx => exact .inr ⟨_, by simp; exact hs.op hx⟩

theorem r_slice {t : TypeId} {x : Operand} {lo hi : Option Operand} {d d' : List α} {l m : Int} (hd : slM d l m = some d') (hu : P.underlying t = some (.slice e)) (h : ElT P e ρ bytes)
    (hx : lkO Γ x = some (slv ρ d)) (hlo : BdOk Γ 0 lo l) (hhi : BdOk Γ d.length hi m) : Rd P E N (.slice t x lo hi none) ty Γ Ω [] (slv ρ d') := .mk fun a w hs => by
  obtain ⟨h0, h1, h2, rfl⟩ := slM_some hd
  obtain ⟨ad, c, hv, hc, hat⟩ := hs.op hx
  obtain ⟨l, rfl⟩ := Int.eq_ofNat_of_zero_le h0
  obtain ⟨m, rfl⟩ := Int.eq_ofNat_of_zero_le (Int.le_trans h0 h1)
  have hl := hlo.val hs
  have hm := hhi.val hs
  have e1 : l ≤ m := by omega
  have e2 : m ≤ d.length := by omega
  simp only [Int.toNat_natCast]
  refine ⟨.slice (if c = l then ad else ad.map (·.add (l * ρ.size))) (m - l) (c - l), ⟨if c = l then ad else ad.map (·.add (l * ρ.size)), c - l, ?_, ?_, ?_⟩, fun w' o ho _ => ?_⟩
  · congr 1; simp; omega
  · simp; omega
  · by_cases hne : (d.take m).drop l = []
    · intro h; exact absurd hne h
    · refine sl_addr hat hne rfl ?_ rfl
      left; intro e; apply hne; apply List.drop_eq_nil_of_le; simp; omega
  · have := run_slice (P := P) hu h (ad := ad) (n := d.length) (c := c) (lo := lo.map a.eval) (hi := hi.map a.eval) (l := l) (hh := m)
      (hl.imp (fun ⟨e1, e2⟩ => ⟨e1, by omega⟩) id) (hm.imp (fun ⟨e1, e2⟩ => ⟨e1, by omega⟩) id) e1 (by omega) w'
    simp [execOp, ho, hv, this]

/-! ### slices that are owned -/
def elA (hv : Value) (sz : Nat) (n : Int) : Value :=
  match hv with
  | .slice (some a) _ _ => .pointer (some (a.add (n.toNat * sz)))
  | _ => .pointer none

theorem r_olen {t : TypeId} {x : Operand} {d : List α} {hv : Value} {S : List Nat} {j : Nat} (hu : P.underlying t = some (.slice e)) (hx : lkO Γ x = some (pv hv)) (hj : Ω[j]? = some (oa ρ hv S d)) :
    Rd P E N (.call ⟨.builtin .len, #[x], #[t]⟩) ty Γ Ω [] (iv .i64 (d.length : Int)) := .mk fun a w hs => by
  have hv : a.eval x = hv := hs.op hx
  obtain ⟨ad, c, rfl, _⟩ := hs.objAt hj
  exact ⟨.int .i64 d.length, rfl, fun w' o ho _ => by simp [execOp, ho, resolve, invoke, builtin, Builtin.len_, hv, run_underlying hu, goInt]⟩

theorem r_oindex {t : TypeId} {x i : Operand} {k : IntKind} {d : List α} {n : Int} {y : α} {hv : Value} {S : List Nat} {j : Nat} (hy : idxM d n = some y) (hu : P.underlying t = some (.slice e)) (h : ElT P e ρ bytes)
    (hx : lkO Γ x = some (pv hv)) (hj : Ω[j]? = some (oa ρ hv S d)) (hi : lkO Γ i = some (iv k n)) : Rd P E N (.indexAddr t x i) ty Γ Ω [] (pv (elA hv ρ.size n)) := .mk fun a w hs => by
  obtain ⟨h0, h1, hlt, hd⟩ := idxM_some hy
  have hv' : a.eval x = hv := hs.op hx
  obtain ⟨ad, c, rfl, hc, hat⟩ := hs.objAt hj
  have h2 : a.eval i = .int k n := hs.op hi
  rcases hat with ⟨rfl, _, rfl⟩ | ⟨b, off, cells, ty', rfl, hS, hb, hsz, hH⟩
  · omega
  · refine ⟨_, rfl, fun w' o ho _ => ?_⟩
    simp [execOp, ho, hv', h2, run_index hu h h0 h1, elA, addr_add]

theorem r_oload {x : Operand} {d : List α} {n : Int} {y : α} {hv : Value} {S : List Nat} {j : Nat} (hy : idxM d n = some y) (h : ElT P e ρ bytes) (hx : lkO Γ x = some (pv (elA hv ρ.size n)))
    (hj : Ω[j]? = some (oa ρ hv S d)) : Rd P E N (.load e x) ty Γ Ω [j] (sh ρ y) := fun a w hs => by
  obtain ⟨h0, h1, hlt, hd⟩ := idxM_some hy
  have hv' : a.eval x = elA hv ρ.size n := hs.op hx
  have hob := hs.objAt hj
  obtain ⟨ad, c, rfl, hc, hat⟩ := hob
  rcases hat with ⟨rfl, _, rfl⟩ | ⟨b, off, cells, ty', rfl, hS, hb, hsz, hH⟩
  · omega
  · obtain ⟨es, hes, hcs⟩ := hH n.toNat hlt
    rw [hd] at hes
    refine ⟨mkV ρ.agg es, [b], sh_iff.2 ⟨es, hes, rfl⟩, ?_, fun w' hw' o ho _ => ?_⟩
    · intro b' hb'; rw [List.mem_singleton.1 hb']; exact ⟨size_of_get hb, .inr ⟨j, by simp, _, hj, by rw [show (oa ρ _ S d).S = S from rfl, hS]; simp⟩⟩
    · have hb2 : w'.heap[b]? = some (.cells cells ty' (0, 0)) := by rw [hw' b (by simp)]; exact hb
      have := h.load hb2 (by rw [hes.length, ρ.len]) hcs
      simp [execOp, ho, hv', elA, addr_add, Instr.loadAt, Instr.sureAddr, this]

/-- an owned slice is given to all -/
theorem oa_sl {hv : Value} {S : List Nat} {d : List α} {F F' : FP} {w : World} (h : (oa ρ hv S d).h F w) (hF : ∀ b, b < w.heap.size → F b → F' b) (hS : ∀ b ∈ S, F' b) : (slv ρ d).h F' w hv := by
  obtain ⟨ad, c, rfl, hc, hat⟩ := h
  refine ⟨ad, c, rfl, hc, fun hd => ?_⟩
  rcases hat with ⟨rfl, _, rfl⟩ | ⟨b, off, cells, ty', rfl, rfl, hb, hsz, hH⟩
  · exact absurd (List.eq_nil_of_length_eq_zero (by omega)) hd
  · exact ⟨b, off, cells, ty', (0, 0), rfl, hS b (by simp), hb, hH.mono (.refl hF)⟩

theorem Sat.freeze {a : Act} {w : World} (hs : Sat E N Γ Ω a w) {j : Nat} {o : OB} (hj : Ω[j]? = some o) : Sat E N Γ (Ω.set j dead) a w :=
  hs.upd hj ⟨rfl, rfl, rfl⟩ (Nat.le_refl _) (fun _ _ _ => rfl) (fun b hb => by simp [dead] at hb) (by simp [dead]) trivial

theorem mem_ow_set {j : Nat} {o o' : OB} (hj : Ω[j]? = some o) (hnd : (ow Ω).Nodup) {b : Nat} (hb : b ∈ o.S) (hb' : b ∉ o'.S) : b ∉ ow (Ω.set j o') := by
  obtain ⟨A, B, rfl, rfl⟩ := ow_split hj
  rw [set_split]
  rw [ow_mid] at hnd ⊢
  obtain ⟨nA, nR, dA⟩ := List.nodup_append.1 hnd
  obtain ⟨nO, nB, dO⟩ := List.nodup_append.1 nR
  rw [List.mem_append, List.mem_append]
  rintro (h | h | h)
  · exact dA b h b (List.mem_append_left _ hb) rfl
  · exact hb' h
  · exact dO b hb b h rfl

/-- the rule: from now on nobody writes the slice in slot t -/
theorem frz {t j : Nat} {hv : Value} {S : List Nat} {d : List α} (ht : lk Γ t = some (pv hv)) (hj : Ω[j]? = some (oa ρ hv S d)) :
    ∀ a w, Sat E N Γ Ω a w → Sat E N ((t, slv ρ d) :: Γ) (Ω.set j dead) a w := by
  intro a w hs
  have h1 := hs.freeze hj
  refine ⟨h1.sz, h1.df, fun s φ h => ?_, h1.ob, h1.nd, h1.bd, h1.kp, h1.fs⟩
  by_cases e2 : t = s
  · subst e2; rw [lk_cons_eq] at h; cases h
    have hv' : a.tmps.getD t undef = hv := hs.sl t _ ht
    rw [hv']
    have hob := hs.objAt hj
    refine oa_sl hob (fun b hb ⟨h1, h2⟩ => ⟨h1, fun hm => h2 ?_⟩) (fun b hb => ⟨?_, mem_ow_set hj hs.nd hb (by simp [dead])⟩)
    · obtain ⟨A, B, rfl, rfl⟩ := ow_split hj
      rw [set_split] at hm
      rw [ow_mid] at hm ⊢
      simp [dead] at hm
      simp only [List.mem_append]
      exact hm.imp id .inr
    · exact hs.mine (Sat.notin hj hb)
  · rw [lk_cons_ne e2] at h; exact h1.sl s φ h
end el
end Go.Dc
