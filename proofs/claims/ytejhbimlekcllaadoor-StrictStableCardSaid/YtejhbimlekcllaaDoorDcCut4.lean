/- Part Dc.Cut4 of a proof: lemmas. -/
import Derived.Test.YtejhbimlekcllaaDoorDcClo
import Derived.Lib.Overlaps
import Derived.Test.YtejhbimlekcllaaDoorDcConv
import Derived.Test.YtejhbimlekcllaaDoorDcMem5
/-! Parts of owned slices: a slice that is lengthened within its room, copied into, or cut out of. -/
namespace Go.Dc
variable {R : Type} {P : Program} {E : Env} {N : Nat} {Γ : List (Nat × RP)} {Ω : List OB} {ty : TypeId}

def capV (v : Value) : Nat := match v with | .slice _ _ c => c | _ => 0

section rows
variable {α : Type} {ρ : Rep α} {F : FP} {w : World}
/-- the memory of an owned slice: what stands ahead, the elements, what stands behind -/
theorem oa_row {ad : Option Addr} {n c : Nat} {S : List Nat} {d : List α} (h : (oa ρ (.slice ad n c) S d).h F w) (hc : 0 < c) :
    ∃ b off ct A es B, ad = some ⟨b, off, none⟩ ∧ S = [b] ∧ n = d.length ∧ w.heap[b]? = some (.cells (A ++ es ++ B).toArray ct (0, 0)) ∧ A.length = off ∧ AllP F w (d.flatMap ρ.cp) es ∧
      off + c * ρ.size ≤ (A ++ es ++ B).length ∧ d.length ≤ c ∧ es.length = d.length * ρ.size := by
  obtain ⟨ad', c', e, hdc, hob⟩ := h
  injection e with e1 e2 e3
  subst e1; subst e2; subst e3
  rcases hob with ⟨rfl, _, rfl⟩ | ⟨b, off, cells, ct, rfl, rfl, hb, hsz, hH⟩
  · omega
  · obtain ⟨es, hes, hcs⟩ := hH.list
    have hel : es.length = d.length * ρ.size := by rw [hes.length, cp_len]
    have hle : d.length * ρ.size ≤ c * ρ.size := Nat.mul_le_mul_right _ hdc
    have hll : cells.toList.length = cells.size := Array.length_toList
    have hmid : (cells.toList.drop off).take es.length = es := by
      apply List.ext_getElem?
      intro k
      rw [List.getElem?_take, List.getElem?_drop]
      by_cases hk : k < es.length
      · rw [if_pos hk, ← hcs k (by omega), Array.getElem?_toList]
      · rw [if_neg hk, List.getElem?_eq_none (by omega)]
    have hcut : cells.toList.take off ++ es ++ cells.toList.drop (off + es.length) = cells.toList := by
      rw [← hmid, List.append_assoc]
      conv => rhs; rw [← List.take_append_drop off cells.toList]
      congr 1
      rw [hmid]
      conv => rhs; rw [← List.take_append_drop es.length (cells.toList.drop off), hmid, List.drop_drop]
    refine ⟨b, off, ct, cells.toList.take off, es, cells.toList.drop (off + es.length), rfl, rfl, rfl, ?_, ?_, hes, ?_, hdc, hel⟩
    · rw [hcut]; simpa using hb
    · rw [List.length_take]; omega
    · rw [hcut]; omega

theorem row_oa {b off ct c n : Nat} {A es B L : List Value} {d : List α} (hb : w.heap[b]? = some (.cells L.toArray ct (0, 0))) (hL : L = A ++ es ++ B) (hA : A.length = off) (hes : AllP F w (d.flatMap ρ.cp) es)
    (hsz : off + c * ρ.size ≤ L.length) (hc : d.length ≤ c) (hn : n = d.length) : (oa ρ (.slice (some ⟨b, off, none⟩) n c) [b] d).h F w := by
  subst hn
  refine ⟨_, c, rfl, hc, .inr ⟨b, off, _, ct, rfl, rfl, hb, by simpa using hsz, SlH.of hes fun k hk => ?_⟩⟩
  have hel : es.length = d.length * ρ.size := by rw [hes.length, cp_len]
  subst hL
  rw [List.getElem?_toArray, List.append_assoc, List.getElem?_append_right (by omega), List.getElem?_append_left (by omega)]
  congr 1; omega

theorem flat_take (d : List α) (k : Nat) : (d.take k).flatMap ρ.cp = (d.flatMap ρ.cp).take (k * ρ.size) := by
  induction d generalizing k with
  | nil => simp
  | cons x d ih =>
    cases k with
    | zero => simp
    | succ k =>
      have e : (k + 1) * ρ.size - ρ.size = k * ρ.size := by rw [Nat.succ_mul]; omega
      rw [List.take_succ_cons, List.flatMap_cons, List.flatMap_cons, ih, List.take_append, ρ.len, e]
      congr 1
      exact (List.take_of_length_le (by rw [ρ.len, Nat.succ_mul]; omega)).symm
theorem flat_drop (d : List α) (k : Nat) : (d.drop k).flatMap ρ.cp = (d.flatMap ρ.cp).drop (k * ρ.size) := by
  induction d generalizing k with
  | nil => simp
  | cons x d ih =>
    cases k with
    | zero => simp
    | succ k =>
      have e : (k + 1) * ρ.size - ρ.size = k * ρ.size := by rw [Nat.succ_mul]; omega
      have e2 : (ρ.cp x).drop ((k + 1) * ρ.size) = [] := List.drop_eq_nil_of_le (by rw [ρ.len, Nat.succ_mul]; omega)
      rw [List.drop_succ_cons, List.flatMap_cons, ih, List.drop_append, ρ.len, e, e2, List.nil_append]
theorem all_take {es : List Value} {d : List α} (h : AllP F w (d.flatMap ρ.cp) es) (k : Nat) : AllP F w ((d.take k).flatMap ρ.cp) (es.take (k * ρ.size)) := by
  rw [flat_take]; exact h.take _
theorem all_drop {es : List Value} {d : List α} (h : AllP F w (d.flatMap ρ.cp) es) (k : Nat) : AllP F w ((d.drop k).flatMap ρ.cp) (es.drop (k * ρ.size)) := by
  rw [flat_drop]; exact h.drop _
end rows

section
variable {α : Type} {e t : TypeId} {ρ : Rep α} {bytes : Nat} {x y : Operand} {hv : Value} {S : List Nat} {d : List α} {j : Nat}

theorem Sat.cap {a : Act} {w : World} (hs : Sat E N Γ Ω a w) (hj : Ω[j]? = some (oa ρ hv S d)) : d.length ≤ capV hv := by
  obtain ⟨ad, c, rfl, hc, _⟩ := hs.objAt hj
  exact hc

theorem addr_zero (ad : Option Addr) (h : ad = none ∨ ∃ b off, ad = some ⟨b, off, none⟩) : ad.map (·.add 0) = ad := by
  rcases h with rfl | ⟨b, off, rfl⟩
  · rfl
  · simp [addr_add]

/-- a part of a part that begins where the slice begins -/
theorem r_sub2 {lo hi : Option Operand} {l m : Int} {k : Nat} (h0 : 0 ≤ l) (h1 : l ≤ m) (hm : m ≤ capV hv ∨ m ≤ d.length) (hu : P.underlying t = some (.slice e)) (h : ElT P e ρ bytes)
    (hx : lkO Γ x = some (pv (subV hv ρ.size 0 k))) (hj : Ω[j]? = some (oa ρ hv S d)) (hlo : BdOk Γ 0 lo l) (hhi : BdOk Γ k hi m) :
    Rd P E N (.slice t x lo hi none) ty Γ Ω [] (pv (subV hv ρ.size l.toNat m.toNat)) := .mk fun a w hs => by
  have hvx : a.eval x = subV hv ρ.size 0 k := hs.op hx
  obtain ⟨ad, c, rfl, hc, hob⟩ := hs.objAt hj
  obtain ⟨l, rfl⟩ := Int.eq_ofNat_of_zero_le h0
  obtain ⟨m, rfl⟩ := Int.eq_ofNat_of_zero_le (Int.le_trans h0 h1)
  have hl := hlo.val hs
  have hm' := hhi.val hs
  have e1 : l ≤ m := by omega
  have e2 : m ≤ c := by
    rcases hm with hm | hm
    · simpa [capV] using hm
    · omega
  have hz : subV (.slice ad d.length c) ρ.size 0 k = .slice ad k c := by
    have hadr : ad.map (·.add 0) = ad := addr_zero ad (by rcases hob with ⟨rfl, _⟩ | ⟨b, off, _, _, rfl, _⟩ <;> simp)
    simp [subV, hadr]
  rw [hz] at hvx
  refine ⟨_, rfl, fun w' o ho _ => ?_⟩
  have hrun := run_slice (P := P) hu h (ad := ad) (n := k) (c := c) (lo := lo.map a.eval) (hi := hi.map a.eval) (l := l) (hh := m)
    (hl.imp (fun ⟨e1, e2⟩ => ⟨e1, by omega⟩) id) (hm'.imp (fun ⟨e1, e2⟩ => ⟨e1, by omega⟩) id) e1 e2 w'
  simp [execOp, ho, hvx, hrun, subV]

theorem r_subLen {l m : Nat} (hu : P.underlying t = some (.slice e)) (hx : lkO Γ x = some (pv (subV hv ρ.size l m))) (hj : Ω[j]? = some (oa ρ hv S d)) :
    Rd P E N (.call ⟨.builtin .len, #[x], #[t]⟩) ty Γ Ω [] (iv .i64 ((m - l : Nat) : Int)) := .mk fun a w hs => by
  have hvx : a.eval x = subV hv ρ.size l m := hs.op hx
  obtain ⟨ad, c, rfl, _⟩ := hs.objAt hj
  exact ⟨.int .i64 (m - l : Nat), rfl, fun w' o ho _ => by simp [execOp, ho, resolve, invoke, builtin, Builtin.len_, hvx, run_underlying hu, goInt, subV]⟩

/-- x[l:m:k] -/
def sub3V (v : Value) (sz l m k : Nat) : Value := match v with
  | .slice ad _ _ => .slice (if k = l then ad else ad.map (·.add (l * sz))) (m - l) (k - l)
  | v => v
theorem r_sub3 {lo hi mx : Operand} {k1 k2 k3 : IntKind} {l m k : Int} (h0 : 0 ≤ l) (h1 : l ≤ m) (h2 : m ≤ k) (h3 : k ≤ d.length) (hu : P.underlying t = some (.slice e)) (h : ElT P e ρ bytes)
    (hx : lkO Γ x = some (pv hv)) (hj : Ω[j]? = some (oa ρ hv S d)) (hlo : lkO Γ lo = some (iv k1 l)) (hhi : lkO Γ hi = some (iv k2 m)) (hmx : lkO Γ mx = some (iv k3 k)) :
    Rd P E N (.slice t x (some lo) (some hi) (some mx)) ty Γ Ω [] (pv (sub3V hv ρ.size l.toNat m.toNat k.toNat)) := .mk fun a w hs => by
  have hvx : a.eval x = hv := hs.op hx
  obtain ⟨ad, c, rfl, hc, hob⟩ := hs.objAt hj
  obtain ⟨l, rfl⟩ := Int.eq_ofNat_of_zero_le h0
  obtain ⟨m, rfl⟩ := Int.eq_ofNat_of_zero_le (Int.le_trans h0 h1)
  obtain ⟨k, rfl⟩ := Int.eq_ofNat_of_zero_le (Int.le_trans h0 (Int.le_trans h1 h2))
  have e1 : a.eval lo = .int k1 (l : Int) := hs.op hlo
  have e2 : a.eval hi = .int k2 (m : Int) := hs.op hhi
  have e3 : a.eval mx = .int k3 (k : Int) := hs.op hmx
  have a1 : l ≤ m := by omega
  have a2 : m ≤ k := by omega
  have a3 : k ≤ c := by omega
  refine ⟨_, rfl, fun w' o ho _ => ?_⟩
  have hb : (Instr.sliceBounds true d.length c (some (.int k1 (l : Int))) (some (.int k2 (m : Int))) (some (.int k3 (k : Int)))).run P w' = .ok (l, m, k) w' := by
    simp [Instr.sliceBounds, Instr.sliceBound, asIntOf, a1, a2, a3]
  simp [execOp, ho, hvx, e1, e2, e3, Instr.sliceAt, run_underlying hu, Instr.slice, hb, h.sizeOf, sub3V]

/-- the owned slice gives up its tail -/
theorem b_cut {m : Nat} (hm : m ≤ d.length) (hj : Ω[j]? = some (oa ρ hv S d)) : ∀ a w, Sat E N Γ Ω a w → Sat E N Γ (Ω.set j (oa ρ (subV hv ρ.size 0 m) S (d.take m))) a w := by
  intro a w hs
  obtain ⟨ad, c, rfl, hc, hob⟩ := hs.objAt hj
  refine hs.upd hj ⟨rfl, rfl, rfl, by first | exact Nat.le_refl _ | exact Nat.le_add_right _ _⟩ (Nat.le_refl _) (fun _ _ _ => rfl) (fun b hb => .inl hb) ?_ ?_
  · rcases hob with ⟨_, rfl, _⟩ | ⟨b, _, _, _, _, rfl, _⟩ <;> simp [oa]
  · have hag : Ag (fr E Ω) (fr E (Ω.set j (oa ρ (subV (.slice ad d.length c) ρ.size 0 m) S (d.take m)))) w w :=
      .refl fun b hb hf => fr_set hj hf fun hm => hf.2 (Sat.notin hj (b := b) hm)
    have hz : subV (.slice ad d.length c) ρ.size 0 m = .slice ad m c := by
      have hadr : ad.map (·.add 0) = ad := addr_zero ad (by rcases hob with ⟨rfl, _⟩ | ⟨b, off, _, _, rfl, _⟩ <;> simp)
      simp [subV, hadr]
    rw [hz] at hag ⊢
    have hlen : (d.take m).length = m := by rw [List.length_take]; omega
    refine ⟨ad, c, by rw [hlen], by rw [hlen]; omega, ?_⟩
    rcases hob with ⟨rfl, rfl, rfl⟩ | ⟨b, off, cells, ct, rfl, rfl, hb, hsz, hH⟩
    · exact .inl ⟨rfl, rfl, rfl⟩
    · refine .inr ⟨b, off, cells, ct, rfl, rfl, hb, hsz, ?_⟩
      have := (hH.sub 0 m).mono hag
      simpa using this

/-! ### writing into the row of an owned slice -/
/-- the frame of such a write -/
theorem row_post {a : Act} {w : World} (hs : Sat E N Γ Ω a w) {b : Nat} {ad : Option Addr} {n c : Nat} {hv' : Value} {d' : List α} {cells' : Array Value} (hj : Ω[j]? = some (oa ρ (.slice ad n c) [b] d))
    (hnew : ∀ F w', Ag (fr E Ω) F w w' → w'.os = w.os → w' = w.setRow b cells' → (oa ρ hv' [b] d').h F w') :
    Sat E N Γ (Ω.set j (oa ρ hv' [b] d')) a (w.setRow b cells') ∧ Eff Ω (Ω.set j (oa ρ hv' [b] d')) [j] w (w.setRow b cells') := by
  refine ⟨?_, by simp, fun b' hb' hn' => setRow_other w b b' _ fun e => hn' j (by simp) _ hj (by rw [e]; simp [oa]), own_set hj fun b hb => .inl hb⟩
  refine hs.upd hj ⟨rfl, rfl, rfl, by first | exact Nat.le_refl _ | exact Nat.le_add_right _ _⟩ (by simp) (fun b' _ hn' => setRow_other w b b' _ fun e => hn' (by rw [e]; simp [oa])) (fun b' hb' => .inl hb') (by simp [oa]) ?_
  refine hnew _ _ ⟨fun b' _ hf => fr_set hj hf fun hm => hf.2 (Sat.notin hj (b := b') hm), fun b' _ hf => setRow_other w b b' _ fun e => hf.2 (Sat.notin hj (b := b') (by rw [e]; simp [oa]))⟩ rfl rfl
end
end Go.Dc

/-! Copying within and into owned slices; appending to parts of them. -/
namespace Go.Dc
variable {P : Program} {E : Env} {N : Nat} {Γ : List (Nat × RP)} {Ω : List OB} {ty : TypeId}

section
variable {α : Type} {e t : TypeId} {ρ : Rep α} {bytes : Nat} {x y : Operand} {hv : Value} {S : List Nat} {d : List α} {j : Nat}

theorem run_copy_call {a : Act} {o : Oper} (ho : o.op = .call ⟨.builtin .copy, #[x, y], #[t, t]⟩) {vx vy v : Value} (hx : a.eval x = vx) (hy : a.eval y = vy)
    {w w' : World} (h : (Builtin.copy_ #[t, t] o.type #[vx, vy]).run P w = .ok v w') : (execOp a.eval o).run P w = .ok (.value v) w' := by
  simp [execOp, ho, resolve, invoke, builtin, hx, hy, h]

/-- cells that go over into a row -/
theorem run_copy_to (hu : P.underlying t = some (.slice e)) (h : ElT P e ρ bytes) {w : World} {b p n c m yc q : Nat} {ya : Option Addr} {ct : TypeId} {L news : List Value} {ty : TypeId}
    (hb : w.heap[b]? = some (.cells L.toArray ct (0, 0))) (hq : q = Nat.min m n)
    (hn : (Builtin.firstCells ρ.size q (.slice ya m yc)).run P w = .ok news.toArray w) (hfit : p + news.length ≤ L.length) (h1 : ∀ v ∈ news, v.oneCell' = true) :
    (Builtin.copy_ #[t, t] ty #[.slice (some ⟨b, p, none⟩) n c, .slice ya m yc]).run P w = .ok (goInt q) (w.setRow b (L.take p ++ news ++ L.drop (p + news.length)).toArray) := by
  obtain ⟨i, hi, his, _⟩ := h.info
  have hst := run_storeCells_at P b p ct news 0 L.toArray w hb (by simpa using hfit) h1
  simp only [Nat.add_zero] at hst
  subst hq
  simp [Builtin.copy_, run_underlying hu, Builtin.lenOf, sizeOf, typeInfo, hi, his, hn, hst]

theorem subV_at {b off n c l m : Nat} (hl : c ≠ l) : subV (.slice (some ⟨b, off, none⟩) n c) ρ.size l m = .slice (some ⟨b, off + l * ρ.size, none⟩) (m - l) (c - l) := by
  simp [subV, hl, addr_add]

/-- cells go over into a part of what is ours -/
theorem copy_core {a : Act} {w : World} {l m m' yc : Nat} {ya : Option Addr} {d' : List α} {es' : List Value} (hs : Sat E N Γ Ω a w) (hj : Ω[j]? = some (oa ρ hv S d)) (hlm : l < m) (hm : m ≤ d.length) (hu : P.underlying t = some (.slice e)) (h : ElT P e ρ bytes)
    (hm' : d'.length = m') (hes' : AllP (fr E Ω) w (d'.flatMap ρ.cp) es')
    (hsrc : d'.length * ρ.size = 0 ∨ ∃ b off cells ty fz, ya = some ⟨b, off, none⟩ ∧ w.heap[b]? = some (.cells cells ty fz) ∧ ∀ j, j < d'.length * ρ.size → cells[off + j]? = es'[j]?)
    (hvx : a.eval x = subV hv ρ.size l m) (hvy : a.eval y = .slice ya m' yc) :
    opwp P (.call ⟨.builtin .copy, #[x, y], #[t, t]⟩) ty a.eval w fun v w' => ∃ _ : Unit, Sat E N Γ (Ω.set j (oa ρ hv S (d.take l ++ d'.take (m - l) ++ d.drop (l + min d'.length (m - l))))) a w' ∧
      v = .int .i64 ((min d'.length (m - l) : Nat) : Int) ∧ Eff Ω (Ω.set j (oa ρ hv S (d.take l ++ d'.take (m - l) ++ d.drop (l + min d'.length (m - l))))) [j] w w' := by
  have hob := hs.objAt hj
  obtain ⟨ad, c, rfl, hdc, _⟩ := id hob
  obtain ⟨b, off, ct, A, es, B, rfl, rfl, hn, hb, hA, hes, hsz, _, hel⟩ := oa_row hob (by omega)
  rw [subV_at (by omega)] at hvx
  subst hm'
  obtain ⟨q, hq⟩ : ∃ q, q = min d'.length (m - l) := ⟨_, rfl⟩
  have hq1 : q ≤ d'.length := by omega
  have hq2 : q ≤ m - l := by omega
  have hel' : es'.length = d'.length * ρ.size := by rw [hes'.length, cp_len]
  have hqs : q * ρ.size ≤ d'.length * ρ.size := Nat.mul_le_mul_right _ hq1
  have hql : (es'.take (q * ρ.size)).length = q * ρ.size := by rw [List.length_take, hel']; omega
  have hlq : l * ρ.size + q * ρ.size ≤ d.length * ρ.size := by rw [← Nat.add_mul]; exact Nat.mul_le_mul_right _ (by omega)
  have hls : l * ρ.size ≤ d.length * ρ.size := by omega
  have hf := run_fc (P := P) (size := ρ.size) (m := q) (yc := yc) (ya := ya) (news := es'.take (q * ρ.size)) (w := w) hql
    (hsrc.imp (fun h0 => by omega) fun ⟨b2, off2, cells2, ty2, fz2, h1, h2, h3⟩ => ⟨b2, off2, cells2, ty2, fz2, h1, h2, fun k hk => by
      rw [h3 k (by omega), List.getElem?_take, if_pos hk]⟩)
  have hf' : (Builtin.firstCells ρ.size q (.slice ya d'.length yc)).run P w = .ok (es'.take (q * ρ.size)).toArray w := by
    cases ya <;> simpa [Builtin.firstCells] using hf
  have hr := fun ty' => run_copy_to (P := P) (ty := ty') hu h (b := b) (p := off + l * ρ.size) (n := m - l) (c := c - l) (m := d'.length) (yc := yc) (q := q) (ya := ya) hb
    hq hf' (by rw [hql]; simp only [List.length_append, hel]; omega) (fun v hv => cp_atoms d' hes' v (List.mem_of_mem_take hv))
  refine opwp_val (fun o ho ht => run_copy_call ho hvx hvy (hr _)) ?_
  have htk : d'.take (m - l) = d'.take q := by
    rcases Nat.le_total d'.length (m - l) with h | h
    · rw [hq, Nat.min_eq_left h, List.take_of_length_le h, List.take_of_length_le (Nat.le_refl _)]
    · rw [hq, Nat.min_eq_right h]
  rw [htk, ← hq]
  have hpost := row_post (cells' := ((A ++ es ++ B).take (off + l * ρ.size) ++ es'.take (q * ρ.size) ++ (A ++ es ++ B).drop (off + l * ρ.size + (es'.take (q * ρ.size)).length)).toArray)
    (hv' := .slice (some ⟨b, off, none⟩) d.length c) (d' := d.take l ++ d'.take q ++ d.drop (l + q)) hs hj fun F w' hag _ hw' => by
    subst hw'
    have hd1 : (A ++ es ++ B).drop (off + l * ρ.size + (es'.take (q * ρ.size)).length) = es.drop ((l + q) * ρ.size) ++ B := by
      rw [hql, List.append_assoc, List.drop_append, List.drop_eq_nil_of_le (by omega), List.nil_append, hA, List.drop_append_of_le_length (by rw [hel]; omega)]
      congr 2; rw [Nat.add_mul]; omega
    have ht1 : (A ++ es ++ B).take (off + l * ρ.size) = A ++ es.take (l * ρ.size) := by
      rw [List.append_assoc, List.take_append, List.take_of_length_le (by omega), hA, Nat.add_sub_cancel_left, List.take_append_of_le_length (by rw [hel]; omega)]
    refine row_oa (ct := ct) (A := A) (es := es.take (l * ρ.size) ++ es'.take (q * ρ.size) ++ es.drop ((l + q) * ρ.size)) (B := B) (setRow_heap w b _ _ ct (0, 0) hb) ?_ hA ?_ ?_ ?_ ?_
    · rw [hd1, ht1]; simp
    · rw [List.flatMap_append, List.flatMap_append]
      exact ((all_take (hes.mono hag) l).append (all_take (hes'.mono hag) q)).append (all_drop (hes.mono hag) (l + q))
    · rw [hd1, ht1]
      simp only [List.length_append, List.length_take, List.length_drop, hel, hel'] at hsz ⊢
      rw [Nat.add_mul]; omega
    · simp; omega
    · simp; omega
  exact ⟨(), hpost.1, rfl, hpost.2⟩

/-- copy(x[l:m], z[l2:m2]), both ours -/
theorem s_copyO {l m l2 m2 j2 : Nat} {hv2 : Value} {S2 : List Nat} {d2 : List α} (hlm : l < m) (hm : m ≤ d.length) (hlm2 : l2 < m2) (hm2 : m2 ≤ d2.length) (hu : P.underlying t = some (.slice e)) (h : ElT P e ρ bytes)
    (hx : lkO Γ x = some (pv (subV hv ρ.size l m))) (hj : Ω[j]? = some (oa ρ hv S d)) (hy : lkO Γ y = some (pv (subV hv2 ρ.size l2 m2))) (hj2 : Ω[j2]? = some (oa ρ hv2 S2 d2)) :
    St P E N (.call ⟨.builtin .copy, #[x, y], #[t, t]⟩) ty Γ Ω [j] (fun _ : Unit => iv .i64 ((min ((d2.take m2).drop l2).length (m - l) : Nat) : Int))
      (fun _ => Ω.set j (oa ρ hv S (d.take l ++ ((d2.take m2).drop l2).take (m - l) ++ d.drop (l + min ((d2.take m2).drop l2).length (m - l))))) := by
  intro a w hs
  have hvy : a.eval y = _ := hs.op hy
  have hob := hs.objAt hj2
  obtain ⟨ad, c, rfl, hdc, _⟩ := id hob
  obtain ⟨b, off, ct, A, es, B, rfl, rfl, hn, hb, hA, hes, hsz, _, hel⟩ := oa_row hob (by omega)
  rw [subV_at (by omega)] at hvy
  have hdl : ((d2.take m2).drop l2).length = m2 - l2 := by simp; omega
  have hml : (m2 - l2) * ρ.size + l2 * ρ.size = m2 * ρ.size := by rw [← Nat.add_mul]; congr 1; omega
  have hmd : m2 * ρ.size ≤ d2.length * ρ.size := Nat.mul_le_mul_right _ hm2
  refine copy_core (es' := (es.take (m2 * ρ.size)).drop (l2 * ρ.size)) hs hj hlm hm hu h hdl (all_drop (all_take hes m2) l2) (.inr ⟨b, off + l2 * ρ.size, _, ct, (0, 0), rfl, hb, fun k hk => ?_⟩) (hs.op hx) hvy
  rw [hdl] at hk
  rw [List.getElem?_toArray, List.append_assoc, List.getElem?_append_right (by omega), List.getElem?_append_left (by omega), List.getElem?_drop, List.getElem?_take, if_pos (by omega)]
  congr 1; omega

/-- append(x[:i], x[k:]...): a part is cut out -/
theorem s_appendSS {i k : Nat} (hik : i < k) (hk : k ≤ d.length) (hu : P.underlying t = some (.slice e)) (h : ElT P e ρ bytes)
    (hx : lkO Γ x = some (pv (subV hv ρ.size 0 i))) (hy : lkO Γ y = some (pv (subV hv ρ.size k d.length))) (hj : Ω[j]? = some (oa ρ hv S d)) :
    St P E N (.call ⟨.builtin .append, #[x, y], #[t, t]⟩) ty Γ Ω [j] (fun _ : Unit => pv (subV hv ρ.size 0 (i + (d.length - k)))) (fun _ => Ω.set j (oa ρ hv S (d.take i ++ d.drop k ++ d.drop (i + (d.length - k))))) := by
  intro a w hs
  have hvx : a.eval x = _ := hs.op hx
  have hvy : a.eval y = _ := hs.op hy
  have hob := hs.objAt hj
  obtain ⟨ad, c, rfl, hdc, _⟩ := id hob
  obtain ⟨b, off, ct, A, es, B, rfl, rfl, hn, hb, hA, hes, hsz, _, hel⟩ := oa_row hob (by omega)
  rw [subV_at (by omega)] at hvx ⊢
  simp only [Nat.zero_mul, Nat.add_zero, Nat.sub_zero] at hvx ⊢
  obtain ⟨ti, hi, his, _⟩ := h.info
  have e1 : (d.length - k) * ρ.size + k * ρ.size = d.length * ρ.size := by rw [← Nat.add_mul]; congr 1; omega
  have e2 : i * ρ.size ≤ k * ρ.size := Nat.mul_le_mul_right _ (by omega)
  have hdn : (es.drop (k * ρ.size)).length = (d.length - k) * ρ.size := by rw [List.length_drop, hel]; omega
  obtain ⟨ya, hya, hf⟩ : ∃ ya, subV (.slice (some ⟨b, off, none⟩) d.length c) ρ.size k d.length = .slice ya (d.length - k) (c - k) ∧
      (Builtin.firstCells ti.size (d.length - k) (.slice ya (d.length - k) (c - k))).run P w = .ok (es.drop (k * ρ.size)).toArray w := by
    by_cases hkd : k = d.length
    · exact ⟨_, rfl, run_fc (by rw [his, hdn]) (.inl (by rw [hkd]; simp))⟩
    · rw [subV_at (by omega)]
      refine ⟨_, rfl, run_fc (by rw [his, hdn]) (.inr ⟨b, off + k * ρ.size, _, ct, (0, 0), rfl, hb, fun q hq => ?_⟩)⟩
      rw [his] at hq
      rw [List.getElem?_toArray, List.append_assoc, List.getElem?_append_right (by omega), List.getElem?_append_left (by omega), List.getElem?_drop]; congr 1; omega
  rw [hya] at hvy
  have hr := fun ty' => run_app_room (P := P) t ty' e ti hu hi (off := off) (n := i) (c := c) hb hf (by rw [his, hdn]) (fun v hv => cp_atoms d hes v (List.mem_of_mem_drop hv)) (by omega)
    (by rw [his]; simpa using hsz)
  rw [his] at hr
  refine opwp_val (fun o ho ht => run_append_call ho hvx hvy (hr _)) ?_
  have hls : i * ρ.size ≤ d.length * ρ.size := by omega
  have hpost := row_post (cells' := ((A ++ es ++ B).take (off + i * ρ.size) ++ es.drop (k * ρ.size) ++ (A ++ es ++ B).drop (off + i * ρ.size + (es.drop (k * ρ.size)).length)).toArray)
    (hv' := .slice (some ⟨b, off, none⟩) d.length c) (d' := d.take i ++ d.drop k ++ d.drop (i + (d.length - k))) hs hj fun F w' hag _ hw' => by
    subst hw'
    have hd1 : (A ++ es ++ B).drop (off + i * ρ.size + (es.drop (k * ρ.size)).length) = es.drop ((i + (d.length - k)) * ρ.size) ++ B := by
      rw [hdn, List.append_assoc, List.drop_append, List.drop_eq_nil_of_le (by omega), List.nil_append, hA, List.drop_append_of_le_length (by rw [hel]; omega)]
      congr 2; rw [Nat.add_mul]; omega
    have ht1 : (A ++ es ++ B).take (off + i * ρ.size) = A ++ es.take (i * ρ.size) := by
      rw [List.append_assoc, List.take_append, List.take_of_length_le (by omega), hA, Nat.add_sub_cancel_left, List.take_append_of_le_length (by rw [hel]; omega)]
    refine row_oa (ct := ct) (A := A) (es := es.take (i * ρ.size) ++ es.drop (k * ρ.size) ++ es.drop ((i + (d.length - k)) * ρ.size)) (B := B) (setRow_heap w b _ _ ct (0, 0) hb) ?_ hA ?_ ?_ ?_ ?_
    · rw [hd1, ht1]; simp
    · rw [List.flatMap_append, List.flatMap_append]
      exact ((all_take (hes.mono hag) i).append (all_drop (hes.mono hag) k)).append (all_drop (hes.mono hag) (i + (d.length - k)))
    · rw [hd1, ht1]
      have e3 : (i + (d.length - k)) * ρ.size = i * ρ.size + (d.length - k) * ρ.size := Nat.add_mul _ _ _
      simp only [List.length_append, List.length_take, List.length_drop, hel] at hsz ⊢
      omega
    · simp; omega
    · simp; omega
  exact ⟨(), hpost.1, rfl, hpost.2⟩
end
end Go.Dc

/-! A part of a slice with zeros appended; do two slices overlap. -/
namespace Go.Dc
variable {P : Program} {E : Env} {N : Nat} {Γ : List (Nat × RP)} {Ω : List OB} {ty : TypeId}

section
variable {α : Type} {e t yt : TypeId} {ρ : Rep α} {bytes : Nat} {x y : Operand} {hv : Value} {S : List Nat} {d : List α} {j : Nat}

end
end Go.Dc

set_option linter.unusedVariables false
set_option linter.unusedSimpArgs false
/-! Reasoning about the plain models. -/
namespace Go.Dc

variable {α β γ σ ρ : Type} {P Q : α → Prop}

/-- the model answers, and the answer is of Q -/
def T (m : Option α) (Q : α → Prop) : Prop := ∃ r, m = some r ∧ Q r

theorem T.bind {m : Option α} {f : α → Option β} {Q : β → Prop} (h : T m P) (k : ∀ a, P a → T (f a) Q) : T (Option.bind m f) Q := by
  obtain ⟨a, rfl, ha⟩ := h
  exact k a ha
theorem T.ret {a : α} (h : Q a) : T (some a) Q := ⟨a, rfl, h⟩
theorem T.mono {m : Option α} (h : T m P) (k : ∀ a, P a → Q a) : T m Q := let ⟨a, h1, h2⟩ := h; ⟨a, h1, k a h2⟩
theorem T.letM {x : β} {k : β → Option α} (h : T (k x) Q) : T (letM x k) Q := h
theorem T.join {f : β → Option α} {g : (β → Option α) → Option α} (h : T (g f) Q) : T (joinM f g) Q := h
theorem T.cond {b : Bool} {x y : Option α} (h1 : b = true → T x Q) (h2 : b = false → T y Q) : T (bif b then x else y) Q := by
  cases b
  · exact h2 rfl
  · exact h1 rfl
theorem T.of {m : Option α} {a : α} (h : m = some a) (hq : Q a) : T m Q := ⟨a, h, hq⟩
theorem T.eq {m : Option α} {a : α} (h : T m (· = a)) : m = some a := by obtain ⟨b, h1, rfl⟩ := h; exact h1
theorem T.and {m : Option α} (h1 : T m P) (h2 : T m Q) : T m (fun a => P a ∧ Q a) := by
  obtain ⟨a, e, hp⟩ := h1; obtain ⟨b, e2, hq⟩ := h2
  rw [e] at e2; cases e2
  exact ⟨a, e, hp, hq⟩

theorem T.loop {f : σ → Option (Sum ρ σ)} {Q : ρ → Prop} (I : σ → Prop) (μ : σ → Nat) {s : σ} (h0 : I s)
    (step : ∀ s, I s → T (f s) fun o => match o with | .inl r => Q r | .inr s' => I s' ∧ μ s' < μ s) : T (loopC f s) Q := by
  obtain ⟨r, h1, h2⟩ := loopC_total I Q μ (fun s hs => by
    obtain ⟨o, h1, h2⟩ := step s hs
    match o, h1, h2 with
    | .inl r, h1, h2 => exact .inl ⟨r, h1, h2⟩
    | .inr s', h1, h2 => exact .inr ⟨s', h1, h2⟩) s h0
  exact ⟨r, h1, h2⟩

theorem letM_eq {β : Type} {x : α} {k : α → β} : letM x k = k x := rfl
theorem joinM_eq {f : β → Option α} {g : (β → Option α) → Option α} : joinM f g = g f := rfl

/-! ### lists -/
theorem idxM_eq {d : List α} {n : Int} (h0 : 0 ≤ n) (h1 : n.toNat < d.length) : idxM d n = some d[n.toNat] := by
  unfold idxM; rw [if_pos h0, List.getElem?_eq_getElem h1]
theorem idxM_nat {d : List α} {n : Nat} (h1 : n < d.length) : idxM d (n : Int) = some d[n] := by
  rw [idxM_eq (by omega) (by simpa using h1)]; simp
theorem slM_eq {d : List α} {lo hi : Int} (h0 : 0 ≤ lo) (h1 : lo ≤ hi) (h2 : hi ≤ d.length) : slM d lo hi = some ((d.take hi.toNat).drop lo.toNat) := by
  unfold slM; rw [if_pos ⟨h0, h1, h2⟩]
theorem appM_eq {b : Nat} {d e : List α} (h : (d.length + e.length) * b ≤ 140737488355328) : appM b d e = some (d ++ e) := by
  unfold appM; rw [if_pos h]
/-! ### integers -/
theorem wrap64 {x : Int} (h0 : -9223372036854775808 ≤ x) (h1 : x ≤ 9223372036854775807) : IntKind.wrap .i64 x = x := by
  simp [IntKind.wrap, IntKind.signed, IntKind.bits]; omega
theorem iadd64 {x y : Int} (h0 : -9223372036854775808 ≤ x + y) (h1 : x + y ≤ 9223372036854775807) : iadd .i64 x y = x + y := wrap64 h0 h1
theorem isub64 {x y : Int} (h0 : -9223372036854775808 ≤ x - y) (h1 : x - y ≤ 9223372036854775807) : isub .i64 x y = x - y := wrap64 h0 h1
theorem imul64 {x y : Int} (h0 : -9223372036854775808 ≤ x * y) (h1 : x * y ≤ 9223372036854775807) : imul .i64 x y = x * y := wrap64 h0 h1
end Go.Dc

set_option linter.unusedVariables false
set_option linter.unusedSimpArgs false
/-! More on loops and lists of the plain models. -/
namespace Go.Dc
variable {α β γ σ ρ τ : Type} {Q : ρ → Prop}

abbrev onO (Q : ρ → Prop) (I : σ → Prop) (o : Sum ρ σ) : Prop := match o with | .inl r => Q r | .inr s => I s

theorem T.loopM {f : σ → Option (Sum ρ σ)} (I : σ → Prop) (μ : σ → Nat) {s : σ} (h0 : I s)
    (step : ∀ s, I s → T (f s) (onO Q fun s' => I s' ∧ μ s' < μ s)) : T (loopC f s) Q :=
  T.loop I μ h0 fun s hs => (step s hs).mono fun o ho => by
    match o, ho with
    | .inl r, h => exact h
    | .inr s', h => exact h

theorem T.joinP {S : Type} {f : S → Option ρ} {g : (S → Option ρ) → Option ρ} (P : S → Prop) (h1 : ∀ x, P x → T (f x) Q) (h2 : ∀ k : S → Option ρ, (∀ x, P x → T (k x) Q) → T (g k) Q) : T (joinM f g) Q := h2 f h1

theorem T.loopK {f : σ → Option (Sum ρ σ)} (n : Nat) (I : Nat → σ → Prop) {s : σ} (h0 : I 0 s)
    (step : ∀ k s, I k s → T (f s) (onO Q fun s' => k < n ∧ I (k + 1) s')) : T (loopC f s) Q := by
  suffices h : ∀ m k s, n + 1 - k ≤ m → I k s → T (loopC f s) Q from h _ 0 s (Nat.le_refl _) h0
  intro m
  induction m with
  | zero =>
    intro k s hm hs
    obtain ⟨o, h1, h2⟩ := step k s hs
    rw [loopC_eq, h1]
    match o, h2 with
    | .inl r, h2 => exact ⟨r, rfl, h2⟩
    | .inr s', h2 => have := h2.1; omega
  | succ m ih =>
    intro k s hm hs
    obtain ⟨o, h1, h2⟩ := step k s hs
    rw [loopC_eq, h1]
    match o, h2 with
    | .inl r, h2 => exact ⟨r, rfl, h2⟩
    | .inr s', h2 => exact ih (k + 1) s' (by have := h2.1; omega) h2.2

/-- a loop that looks for an element -/
theorem find_loop {l : List α} {f : Int → Option (Sum (Sum ρ Unit) Int)} (g : α → Option ρ)
    (h : ∀ i (hi : i < l.length), f (i : Int) = some (match g l[i] with | some r => .inl (.inl r) | none => .inr ((i : Int) + 1)))
    (hend : f (l.length : Int) = some (.inl (.inr ()))) : loopC f 0 = some (match l.findSome? g with | some r => .inl r | none => .inr ()) := by
  suffices hh : ∀ m i, l.length - i ≤ m → i ≤ l.length → loopC f (i : Int) = some (match (l.drop i).findSome? g with | some r => .inl r | none => .inr ()) by
    simpa using hh _ 0 (Nat.le_refl _) (Nat.zero_le _)
  intro m
  induction m with
  | zero =>
    intro i h1 h2
    have e : i = l.length := by omega
    subst e
    rw [loopC_eq, hend]; simp
  | succ m ih =>
    intro i h1 h2
    by_cases e : i = l.length
    · subst e; rw [loopC_eq, hend]; simp
    · have hi : i < l.length := by omega
      rw [loopC_eq, h i hi, List.drop_eq_getElem_cons hi, List.findSome?_cons]
      cases hg : g l[i] with
      | some r => rfl
      | none =>
        simp only [Option.bind_some]
        exact ih (i + 1) (by omega) (by omega)

theorem any_loop {l : List α} {f : Int → Option (Sum (Sum ρ Unit) Int)} (p : α → Bool) (b : ρ)
    (h : ∀ i (hi : i < l.length), f (i : Int) = some (bif p l[i] then .inl (.inl b) else .inr ((i : Int) + 1)))
    (hend : f (l.length : Int) = some (.inl (.inr ()))) : loopC f 0 = some (bif l.any p then .inl b else .inr ()) := by
  rw [find_loop (fun x => bif p x then some b else none) (fun i hi => by rw [h i hi]; cases p l[i] <;> rfl) hend]
  congr 1
  clear h hend
  induction l with
  | nil => rfl
  | cons x l ih => cases hp : p x <;> simp [List.findSome?_cons, hp, ih]

theorem some_bind {a : α} {f : α → Option β} : Option.bind (some a) f = f a := rfl
theorem sumK_inr {A B R : Type} {kr : A → Option R} {kb : B → Option R} {b : B} : sumK kr kb (.inr b) = kb b := rfl

theorem any_bind {l : List α} {p : α → Bool} {f : Int → Option (Sum (Sum Bool Unit) Int)} 
    (h : ∀ i (hi : i < l.length), f (i : Int) = some (bif p l[i] then .inl (.inl true) else .inr ((i : Int) + 1)))
    (hend : f (l.length : Int) = some (.inl (.inr ()))) : (loopC f 0).bind (sumK (fun a : Bool => some a) fun _ : Unit => some false) = some (l.any p) := by
  rw [any_loop p true h hend]
  cases l.any p <;> rfl

/-! ### getD -/
theorem iadd1 {n : Nat} (h : n ≤ 4611686018427387904) : iadd .i64 (n : Int) 1 = ((n + 1 : Nat) : Int) := by
  rw [iadd64 (by omega) (by omega)]; rfl
end Go.Dc

/-! What slices.Delete and slices.Insert make of lists, and the steps that their walks share. -/
namespace Go.Dc
variable {P : Program} {E : Env} {N : Nat} {Γ : List (Nat × RP)} {Ω : List OB} {ty : TypeId}

theorem Rd.to {op : Op} {J : List Nat} {φ ψ : RP} (h : Rd P E N op ty Γ Ω J φ) (e : φ = ψ) : Rd P E N op ty Γ Ω J ψ := e ▸ h

section
variable {α : Type} {ρ : Rep α} {hv : Value} {S : List Nat} {d d' : List α} {j : Nat}
theorem odata (hj : Ω[j]? = some (oa ρ hv S d)) (e : d = d') : ∀ a w, Sat E N Γ Ω a w → Sat E N Γ (Ω.set j (oa ρ hv S d')) a w := by
  subst e
  intro a w hs
  rw [set_same hj]; exact hs
end

/-- s without s[i:j] -/
def delM {α : Type} (s : List α) (i j : Int) : Option (List α) := if 0 ≤ i ∧ i ≤ j ∧ j ≤ s.length then some (s.take i.toNat ++ s.drop j.toNat) else none
/-- s with x at i -/
def insM {α : Type} (bytes : Nat) (s : List α) (i : Int) (v : List α) : Option (List α) :=
  if 0 ≤ i ∧ i ≤ s.length ∧ v.length = 1 ∧ (s.length + 1) * bytes ≤ 140737488355328 then some (s.take i.toNat ++ v ++ s.drop i.toNat) else none
section
variable {α : Type} {s d : List α} {i j : Int} {bytes : Nat} {v r : List α} {z p : α} {n : Nat}
theorem delM_some (h : delM s i j = some r) : 0 ≤ i ∧ i ≤ j ∧ j ≤ s.length ∧ r = s.take i.toNat ++ s.drop j.toNat := by
  unfold delM at h
  split at h
  · rename_i hh; exact ⟨hh.1, hh.2.1, hh.2.2, by simpa using h.symm⟩
  · cases h
theorem slM0 {k : Int} {d : List α} (h0 : 0 ≤ k) (h1 : k ≤ d.length) : slM d 0 k = some ((d.take k.toNat).drop (0 : Int).toNat) := slM_eq (Int.le_refl _) h0 h1
theorem slME {k : Int} {d : List α} (h0 : 0 ≤ k) (h1 : k ≤ d.length) : slM d k d.length = some ((d.take (d.length : Int).toNat).drop k.toNat) := slM_eq h0 h1 (Int.le_refl _)
theorem del_same (h : i = j) : s = s.take i.toNat ++ s.drop j.toNat := by rw [h, List.take_append_drop]
theorem del_len {a b : Nat} (h1 : a ≤ b) (h2 : b ≤ s.length) : (s.take a ++ s.drop b ++ s.drop (a + (s.length - b))).length = s.length := by simp; omega
theorem del_cut {a b : Nat} (h1 : a ≤ b) (h2 : b ≤ s.length) (X Y : List α) : ((s.take a ++ s.drop b ++ X).take (a + (s.length - b)) ++ Y).take (a + (s.length - b)) = s.take a ++ s.drop b := by
  have hl : (s.take a ++ s.drop b).length = a + (s.length - b) := by simp; omega
  rw [← hl, List.take_left, List.take_left]
theorem del_cut2 {a b : Nat} {X Y Z : List α} (h1 : a ≤ b) (h2 : b ≤ s.length) : ((s.take a ++ s.drop b ++ X).take (a + (s.length - b)) ++ Y ++ Z).take (a + (s.length - b)) = s.take a ++ s.drop b := by
  rw [List.append_assoc _ Y Z]; exact del_cut h1 h2 X (Y ++ Z)
end
/-! a struct that holds slices of ours, and is only looked at -/
def UpO (Ω : List OB) : List RP → List RP → Prop
  | [], [] => True
  | φ :: φs, ψ :: ψs => (φ = ψ ∨ (∃ (α : Type) (ρ : Rep α) (hv : Value) (S : List Nat) (d : List α) (j : Nat), φ = pv hv ∧ Ω[j]? = some (oa ρ hv S d) ∧ ψ = slv ρ d) ∨
      ∃ (α : Type) (ρ : Rep α), φ = pv (.slice none 0 0) ∧ ψ = slv ρ []) ∧ UpO Ω φs ψs
  | _, _ => False
theorem UpO.all {a : Act} {w : World} (hs : Sat E N Γ Ω a w) : ∀ {φs ψs : List RP} {vs : List Value}, UpO Ω φs ψs → AllP (fr E Ω) w φs vs → AllP (fun _ => True) w ψs vs
  | [], [], [], _, _ => trivial
  | φ :: φs, ψ :: ψs, v :: vs, ⟨h1, h2⟩, ⟨h3, h4⟩ => by
    refine ⟨?_, UpO.all hs h2 h4⟩
    rcases h1 with rfl | ⟨α, ρ, hv, S, d, j, rfl, hj, rfl⟩ | ⟨α, ρ, rfl, rfl⟩
    · exact φ.mono (.refl fun _ _ _ => trivial) h3
    · rw [show v = hv from h3]; exact oa_sl (hs.objAt hj) (fun _ _ _ => trivial) (fun _ _ => trivial)
    · exact nil_sl h3
  | [], [], _ :: _, _, h => h.elim
  | [], _ :: _, _, h, _ => h.elim
  | _ :: _, [], _, h, _ => h.elim
  | _ :: _, _ :: _, [], _, h => h.elim
theorem argAG {φs ψs : List RP} {x : Operand} (h : lkO Γ x = some (ag φs)) (hu : UpO Ω φs ψs) : ArgOk E N Γ Ω allF x (ag ψs) := fun a w hs => by
  obtain ⟨cs, e, h1⟩ := hs.op h
  exact ⟨cs, e, hu.all hs h1⟩
end Go.Dc
