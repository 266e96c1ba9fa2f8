/- Part Dc.Cut of a proof: lemmas. -/
import Derived.Test.YtnbclhmodbmdhaaDcClo
import Derived.Lib.Overlaps
/-! Parts of owned slices: a slice that is lengthened within its room, copied into, or cut out of. -/
namespace Go.Dc
variable {R : Type} {P : Program} {E : Env} {N : Nat} {Γ : List (Nat × RP)} {Ω : List OB} {ty : TypeId}

def capV (v : Value) : Nat := match v with | .slice _ _ c => c | _ => 0

section rows
variable {α : Type} {ρ : Rep α} {F : FP} {w : World}
/-- the memory of an owned slice: what stands ahead, the elements, what stands behind -/
theorem oa_row {ad : Option Addr} {n c : Nat} {S : List Nat} {d : List α} (h : (oa ρ (.slice ad n c) S d).h F w) (hc : 0 < c) :
    ∃ b off ct A es B, ad = some ⟨b, off, none⟩ ∧ S = [b] ∧ n = d.length ∧ w.heap[b]? = some (.cells (A ++ es ++ B).toArray ct (0, 0)) ∧ A.length = off ∧ AllP F w (d.flatMap ρ.cp) es ∧
      off + c * ρ.size ≤ (A ++ es ++ B).length ∧ d.length ≤ c ∧ es.length = d.length * ρ.size := by
  obtain ⟨ad', c', e, hdc, hob⟩ := h
  injection e with e1 e2 e3
  subst e1; subst e2; subst e3
  rcases hob with ⟨rfl, _, rfl⟩ | ⟨b, off, cells, ct, rfl, rfl, hb, hsz, hH⟩
  · omega
  · obtain ⟨es, hes, hcs⟩ := hH.list
    have hel : es.length = d.length * ρ.size := by rw [hes.length, cp_len]
    have hle : d.length * ρ.size ≤ c * ρ.size := Nat.mul_le_mul_right _ hdc
    have hll : cells.toList.length = cells.size := Array.length_toList
    have hmid : (cells.toList.drop off).take es.length = es := by
      apply List.ext_getElem?
      intro k
      rw [List.getElem?_take, List.getElem?_drop]
      by_cases hk : k < es.length
      · rw [if_pos hk, ← hcs k (by omega), Array.getElem?_toList]
      · rw [if_neg hk, List.getElem?_eq_none (by omega)]
    have hcut : cells.toList.take off ++ es ++ cells.toList.drop (off + es.length) = cells.toList := by
      rw [← hmid, List.append_assoc]
      conv => rhs; rw [← List.take_append_drop off cells.toList]
      congr 1
      rw [hmid]
      conv => rhs; rw [← List.take_append_drop es.length (cells.toList.drop off), hmid, List.drop_drop]
    refine ⟨b, off, ct, cells.toList.take off, es, cells.toList.drop (off + es.length), rfl, rfl, rfl, ?_, ?_, hes, ?_, hdc, hel⟩
    · rw [hcut]; simpa using hb
    · rw [List.length_take]; omega
    · rw [hcut]; omega

theorem row_oa {b off ct c n : Nat} {A es B L : List Value} {d : List α} (hb : w.heap[b]? = some (.cells L.toArray ct (0, 0))) (hL : L = A ++ es ++ B) (hA : A.length = off) (hes : AllP F w (d.flatMap ρ.cp) es)
    (hsz : off + c * ρ.size ≤ L.length) (hc : d.length ≤ c) (hn : n = d.length) : (oa ρ (.slice (some ⟨b, off, none⟩) n c) [b] d).h F w := by
  subst hn
  refine ⟨_, c, rfl, hc, .inr ⟨b, off, _, ct, rfl, rfl, hb, by simpa using hsz, SlH.of hes fun k hk => ?_⟩⟩
  have hel : es.length = d.length * ρ.size := by rw [hes.length, cp_len]
  subst hL
  rw [List.getElem?_toArray, List.append_assoc, List.getElem?_append_right (by omega), List.getElem?_append_left (by omega)]
  congr 1; omega

theorem flat_take (d : List α) (k : Nat) : (d.take k).flatMap ρ.cp = (d.flatMap ρ.cp).take (k * ρ.size) := by
  induction d generalizing k with
  | nil => simp
  | cons x d ih =>
    cases k with
    | zero => simp
    | succ k =>
      have e : (k + 1) * ρ.size - ρ.size = k * ρ.size := by rw [Nat.succ_mul]; omega
      rw [List.take_succ_cons, List.flatMap_cons, List.flatMap_cons, ih, List.take_append, ρ.len, e]
      congr 1
      exact (List.take_of_length_le (by rw [ρ.len, Nat.succ_mul]; omega)).symm
theorem flat_drop (d : List α) (k : Nat) : (d.drop k).flatMap ρ.cp = (d.flatMap ρ.cp).drop (k * ρ.size) := by
  induction d generalizing k with
  | nil => simp
  | cons x d ih =>
    cases k with
    | zero => simp
    | succ k =>
      have e : (k + 1) * ρ.size - ρ.size = k * ρ.size := by rw [Nat.succ_mul]; omega
      have e2 : (ρ.cp x).drop ((k + 1) * ρ.size) = [] := List.drop_eq_nil_of_le (by rw [ρ.len, Nat.succ_mul]; omega)
      rw [List.drop_succ_cons, List.flatMap_cons, ih, List.drop_append, ρ.len, e, e2, List.nil_append]
theorem all_take {es : List Value} {d : List α} (h : AllP F w (d.flatMap ρ.cp) es) (k : Nat) : AllP F w ((d.take k).flatMap ρ.cp) (es.take (k * ρ.size)) := by
  rw [flat_take]; exact h.take _
theorem all_drop {es : List Value} {d : List α} (h : AllP F w (d.flatMap ρ.cp) es) (k : Nat) : AllP F w ((d.drop k).flatMap ρ.cp) (es.drop (k * ρ.size)) := by
  rw [flat_drop]; exact h.drop _
end rows

section
variable {α : Type} {e t : TypeId} {ρ : Rep α} {bytes : Nat} {x y : Operand} {hv : Value} {S : List Nat} {d : List α} {j : Nat}

theorem r_ocap (hu : P.underlying t = some (.slice e)) (hx : lkO Γ x = some (pv hv)) (hj : Ω[j]? = some (oa ρ hv S d)) :
    Rd P E N (.call ⟨.builtin .cap, #[x], #[t]⟩) ty Γ Ω [] (iv .i64 (capV hv : Int)) := .mk fun a w hs => by
  have hv : a.eval x = hv := hs.op hx
  obtain ⟨ad, c, rfl, _⟩ := hs.objAt hj
  exact ⟨.int .i64 c, rfl, fun w' o ho _ => by simp [execOp, ho, resolve, invoke, builtin, Builtin.cap_, hv, run_underlying hu, goInt]⟩

theorem Sat.cap {a : Act} {w : World} (hs : Sat E N Γ Ω a w) (hj : Ω[j]? = some (oa ρ hv S d)) : d.length ≤ capV hv := by
  obtain ⟨ad, c, rfl, hc, _⟩ := hs.objAt hj
  exact hc

theorem addr_zero (ad : Option Addr) (h : ad = none ∨ ∃ b off, ad = some ⟨b, off, none⟩) : ad.map (·.add 0) = ad := by
  rcases h with rfl | ⟨b, off, rfl⟩
  · rfl
  · simp [addr_add]

/-- x[:m], m within the room -/
theorem r_oext {hi : Operand} {k : IntKind} {m : Int} (h0 : 0 ≤ m) (hm : m ≤ capV hv) (hu : P.underlying t = some (.slice e)) (h : ElT P e ρ bytes) (hx : lkO Γ x = some (pv hv)) (hj : Ω[j]? = some (oa ρ hv S d))
    (hh : lkO Γ hi = some (iv k m)) : Rd P E N (.slice t x none (some hi) none) ty Γ Ω [] (pv (subV hv ρ.size 0 m.toNat)) := .mk fun a w hs => by
  have hvx : a.eval x = hv := hs.op hx
  obtain ⟨ad, c, rfl, hc, hob⟩ := hs.objAt hj
  obtain ⟨m, rfl⟩ := Int.eq_ofNat_of_zero_le h0
  have hm' : m ≤ c := by simpa [capV] using hm
  have h2 : a.eval hi = .int k (m : Int) := hs.op hh
  refine ⟨_, rfl, fun w' o ho _ => ?_⟩
  have hrun := run_slice (P := P) hu h (ad := ad) (n := d.length) (c := c) (lo := none) (hi := some (.int k (m : Int))) (l := 0) (hh := m) (.inl ⟨rfl, rfl⟩) (.inr ⟨_, rfl⟩) (Nat.zero_le _) hm' w'
  simp [execOp, ho, hvx, h2, hrun, subV]

/-- a part of a part that begins where the slice begins -/
theorem r_sub2 {lo hi : Option Operand} {l m : Int} {k : Nat} (h0 : 0 ≤ l) (h1 : l ≤ m) (hm : m ≤ capV hv ∨ m ≤ d.length) (hu : P.underlying t = some (.slice e)) (h : ElT P e ρ bytes)
    (hx : lkO Γ x = some (pv (subV hv ρ.size 0 k))) (hj : Ω[j]? = some (oa ρ hv S d)) (hlo : BdOk Γ 0 lo l) (hhi : BdOk Γ k hi m) :
    Rd P E N (.slice t x lo hi none) ty Γ Ω [] (pv (subV hv ρ.size l.toNat m.toNat)) := .mk fun a w hs => by
  have hvx : a.eval x = subV hv ρ.size 0 k := hs.op hx
  obtain ⟨ad, c, rfl, hc, hob⟩ := hs.objAt hj
  obtain ⟨l, rfl⟩ := Int.eq_ofNat_of_zero_le h0
  obtain ⟨m, rfl⟩ := Int.eq_ofNat_of_zero_le (Int.le_trans h0 h1)
  have hl := hlo.val hs
  have hm' := hhi.val hs
  have e1 : l ≤ m := by omega
  have e2 : m ≤ c := by
    rcases hm with hm | hm
    · simpa [capV] using hm
    · omega
  have hz : subV (.slice ad d.length c) ρ.size 0 k = .slice ad k c := by
    have hadr : ad.map (·.add 0) = ad := addr_zero ad (by rcases hob with ⟨rfl, _⟩ | ⟨b, off, _, _, rfl, _⟩ <;> simp)
    simp [subV, hadr]
  rw [hz] at hvx
  refine ⟨_, rfl, fun w' o ho _ => ?_⟩
  have hrun := run_slice (P := P) hu h (ad := ad) (n := k) (c := c) (lo := lo.map a.eval) (hi := hi.map a.eval) (l := l) (hh := m)
    (hl.imp (fun ⟨e1, e2⟩ => ⟨e1, by omega⟩) id) (hm'.imp (fun ⟨e1, e2⟩ => ⟨e1, by omega⟩) id) e1 e2 w'
  simp [execOp, ho, hvx, hrun, subV]

theorem r_subLen {l m : Nat} (hu : P.underlying t = some (.slice e)) (hx : lkO Γ x = some (pv (subV hv ρ.size l m))) (hj : Ω[j]? = some (oa ρ hv S d)) :
    Rd P E N (.call ⟨.builtin .len, #[x], #[t]⟩) ty Γ Ω [] (iv .i64 ((m - l : Nat) : Int)) := .mk fun a w hs => by
  have hvx : a.eval x = subV hv ρ.size l m := hs.op hx
  obtain ⟨ad, c, rfl, _⟩ := hs.objAt hj
  exact ⟨.int .i64 (m - l : Nat), rfl, fun w' o ho _ => by simp [execOp, ho, resolve, invoke, builtin, Builtin.len_, hvx, run_underlying hu, goInt, subV]⟩

/-- x[l:m:k] -/
def sub3V (v : Value) (sz l m k : Nat) : Value := match v with
  | .slice ad _ _ => .slice (if k = l then ad else ad.map (·.add (l * sz))) (m - l) (k - l)
  | v => v
theorem r_sub3 {lo hi mx : Operand} {k1 k2 k3 : IntKind} {l m k : Int} (h0 : 0 ≤ l) (h1 : l ≤ m) (h2 : m ≤ k) (h3 : k ≤ d.length) (hu : P.underlying t = some (.slice e)) (h : ElT P e ρ bytes)
    (hx : lkO Γ x = some (pv hv)) (hj : Ω[j]? = some (oa ρ hv S d)) (hlo : lkO Γ lo = some (iv k1 l)) (hhi : lkO Γ hi = some (iv k2 m)) (hmx : lkO Γ mx = some (iv k3 k)) :
    Rd P E N (.slice t x (some lo) (some hi) (some mx)) ty Γ Ω [] (pv (sub3V hv ρ.size l.toNat m.toNat k.toNat)) := .mk fun a w hs => by
  have hvx : a.eval x = hv := hs.op hx
  obtain ⟨ad, c, rfl, hc, hob⟩ := hs.objAt hj
  obtain ⟨l, rfl⟩ := Int.eq_ofNat_of_zero_le h0
  obtain ⟨m, rfl⟩ := Int.eq_ofNat_of_zero_le (Int.le_trans h0 h1)
  obtain ⟨k, rfl⟩ := Int.eq_ofNat_of_zero_le (Int.le_trans h0 (Int.le_trans h1 h2))
  have e1 : a.eval lo = .int k1 (l : Int) := hs.op hlo
  have e2 : a.eval hi = .int k2 (m : Int) := hs.op hhi
  have e3 : a.eval mx = .int k3 (k : Int) := hs.op hmx
  have a1 : l ≤ m := by omega
  have a2 : m ≤ k := by omega
  have a3 : k ≤ c := by omega
  refine ⟨_, rfl, fun w' o ho _ => ?_⟩
  have hb : (Instr.sliceBounds true d.length c (some (.int k1 (l : Int))) (some (.int k2 (m : Int))) (some (.int k3 (k : Int)))).run P w' = .ok (l, m, k) w' := by
    simp [Instr.sliceBounds, Instr.sliceBound, asIntOf, a1, a2, a3]
  simp [execOp, ho, hvx, e1, e2, e3, Instr.sliceAt, run_underlying hu, Instr.slice, hb, h.sizeOf, sub3V]

/-- the owned slice gives up its tail -/
theorem b_cut {m : Nat} (hm : m ≤ d.length) (hj : Ω[j]? = some (oa ρ hv S d)) : ∀ a w, Sat E N Γ Ω a w → Sat E N Γ (Ω.set j (oa ρ (subV hv ρ.size 0 m) S (d.take m))) a w := by
  intro a w hs
  obtain ⟨ad, c, rfl, hc, hob⟩ := hs.objAt hj
  refine hs.upd hj ⟨rfl, rfl, rfl⟩ (Nat.le_refl _) (fun _ _ _ => rfl) (fun b hb => .inl hb) ?_ ?_
  · rcases hob with ⟨_, rfl, _⟩ | ⟨b, _, _, _, _, rfl, _⟩ <;> simp [oa]
  · have hag : Ag (fr E Ω) (fr E (Ω.set j (oa ρ (subV (.slice ad d.length c) ρ.size 0 m) S (d.take m)))) w w :=
      .refl fun b hb hf => fr_set hj hf fun hm => hf.2 (Sat.notin hj (b := b) hm)
    have hz : subV (.slice ad d.length c) ρ.size 0 m = .slice ad m c := by
      have hadr : ad.map (·.add 0) = ad := addr_zero ad (by rcases hob with ⟨rfl, _⟩ | ⟨b, off, _, _, rfl, _⟩ <;> simp)
      simp [subV, hadr]
    rw [hz] at hag ⊢
    have hlen : (d.take m).length = m := by rw [List.length_take]; omega
    refine ⟨ad, c, by rw [hlen], by rw [hlen]; omega, ?_⟩
    rcases hob with ⟨rfl, rfl, rfl⟩ | ⟨b, off, cells, ct, rfl, rfl, hb, hsz, hH⟩
    · exact .inl ⟨rfl, rfl, rfl⟩
    · refine .inr ⟨b, off, cells, ct, rfl, rfl, hb, hsz, ?_⟩
      have := (hH.sub 0 m).mono hag
      simpa using this

/-! ### writing into the row of an owned slice -/
/-- the frame of such a write -/
theorem row_post {a : Act} {w : World} (hs : Sat E N Γ Ω a w) {b : Nat} {ad : Option Addr} {n c : Nat} {hv' : Value} {d' : List α} {cells' : Array Value} (hj : Ω[j]? = some (oa ρ (.slice ad n c) [b] d))
    (hnew : ∀ F w', Ag (fr E Ω) F w w' → w'.os = w.os → w' = w.setRow b cells' → (oa ρ hv' [b] d').h F w') :
    Sat E N Γ (Ω.set j (oa ρ hv' [b] d')) a (w.setRow b cells') ∧ Eff Ω (Ω.set j (oa ρ hv' [b] d')) [j] w (w.setRow b cells') := by
  refine ⟨?_, by simp, fun b' hb' hn' => setRow_other w b b' _ fun e => hn' j (by simp) _ hj (by rw [e]; simp [oa]), own_set hj fun b hb => .inl hb⟩
  refine hs.upd hj ⟨rfl, rfl, rfl⟩ (by simp) (fun b' _ hn' => setRow_other w b b' _ fun e => hn' (by rw [e]; simp [oa])) (fun b' hb' => .inl hb') (by simp [oa]) ?_
  refine hnew _ _ ⟨fun b' _ hf => fr_set hj hf fun hm => hf.2 (Sat.notin hj (b := b') hm), fun b' _ hf => setRow_other w b b' _ fun e => hf.2 (Sat.notin hj (b := b') (by rw [e]; simp [oa]))⟩ rfl rfl
end
end Go.Dc
