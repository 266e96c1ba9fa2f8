/- Part Dc.Text of a proof: lemmas. -/
import Derived.Test.YtejhbimlekcllaaDoorDcCut4
import Derived.Test.YtejhbimlekcllaaDoorDcConv
/-! Bytes of strings; strings put together; slices whose capacity is full; copying within one slice. -/
namespace Go.Dc
variable {P : Program} {E : Env} {N : Nat} {Γ : List (Nat × RP)} {Ω : List OB} {ty : TypeId}

/-- s[i] -/
def sidxM (s : ByteArray) (i : Int) : Option Int := if 0 ≤ i then (s[i.toNat]?).map fun b => (b.toNat : Int) else none

theorem r_sidx {t : TypeId} {x i : Operand} {k : IntKind} {s : ByteArray} {n y : Int} (h : sidxM s n = some y) (hu : P.underlying t = some .string) (hx : lkO Γ x = some (sv s)) (hi : lkO Γ i = some (iv k n)) :
    Rd P E N (.index t x i) ty Γ Ω [] (iv .u8 y) := .mk fun a w hs => by
  have h1 : a.eval x = .string s := hs.op hx
  have h2 : a.eval i = .int k n := hs.op hi
  unfold sidxM at h
  by_cases h0 : 0 ≤ n
  · rw [if_pos h0] at h
    cases hb : s[n.toNat]? with
    | none => rw [hb] at h; cases h
    | some b =>
      rw [hb] at h
      cases h
      exact ⟨_, rfl, fun w' o ho _ => by simp [execOp, ho, h1, h2, Instr.index, asIntOf, run_underlying hu, h0, hb]⟩
  · rw [if_neg h0] at h; cases h

/-- a + b -/
def sconM (a b : ByteArray) : Option ByteArray := if ((a.size + b.size : Nat) : Int) > IntKind.i64.max then none else some (a ++ b)

theorem r_sadd {t yt : TypeId} {x y : Operand} {s u r : ByteArray} (h : sconM s u = some r) (hx : lkO Γ x = some (sv s)) (hy : lkO Γ y = some (sv u)) : Rd P E N (.binOp .add t x y yt) ty Γ Ω [] (sv r) := .mk fun a w hs => by
  have h1 : a.eval x = .string s := hs.op hx
  have h2 : a.eval y = .string u := hs.op hy
  unfold sconM at h
  by_cases h0 : ((s.size + u.size : Nat) : Int) > IntKind.i64.max
  · rw [if_pos h0] at h; cases h
  · rw [if_neg h0] at h
    cases h
    have hg : ∀ w', (eqGuard .add t x y (.string s) (.string u)).run P w' = .ok () w' := fun w' => by unfold eqGuard; rfl
    have hb : binOp .add t (.string s) (.string u) = Op.stringOp .add s u := rfl
    exact ⟨_, rfl, fun w' o ho _ => by
      have hm : IntKind.i64.max = 9223372036854775807 := by decide
      simp [execOp, ho, h1, h2, hg, hb, Op.stringOp]
      omega⟩

section
variable {α : Type} {e t : TypeId} {ρ : Rep α} {bytes : Nat} {x y : Operand} {hv : Value} {S : List Nat} {d : List α} {j : Nat}

/-- a slice whose capacity is its length -/
def slf {α : Type} (ρ : Rep α) (d : List α) : RP :=
  ⟨fun F w v => ∃ a, v = .slice a d.length d.length ∧ SlAt ρ F w a d, fun ag ⟨a, h1, h3⟩ => ⟨a, h1, h3.mono ag⟩⟩

theorem r_full {hi mx : Operand} {k1 k2 : IntKind} (hu : P.underlying t = some (.slice e)) (h : ElT P e ρ bytes) (hx : lkO Γ x = some (slv ρ d)) (hhi : lkO Γ hi = some (iv k1 (d.length : Int))) (hmx : lkO Γ mx = some (iv k2 (d.length : Int))) :
    Rd P E N (.slice t x none (some hi) (some mx)) ty Γ Ω [] (slf ρ d) := .mk fun a w hs => by
  obtain ⟨ad, c, hv, hc, hat⟩ := hs.op hx
  have e2 : a.eval hi = .int k1 (d.length : Int) := hs.op hhi
  have e3 : a.eval mx = .int k2 (d.length : Int) := hs.op hmx
  by_cases h0 : d = []
  · subst h0
    refine ⟨.slice (if 0 = 0 then ad else ad.map (·.add (0 * ρ.size))) 0 0, ⟨_, rfl, fun h => absurd rfl h⟩, fun w' o ho _ => ?_⟩
    have hb : (Instr.sliceBounds true 0 c none (some (.int k1 (([] : List α).length : Int))) (some (.int k2 (([] : List α).length : Int)))).run P w' = .ok (0, 0, 0) w' := by
      simp [Instr.sliceBounds, Instr.sliceBound, asIntOf]
    have hb' : (Instr.sliceBounds true 0 c none (some (.int k1 0)) (some (.int k2 0))).run P w' = .ok (0, 0, 0) w' := by simpa using hb
    simp [execOp, ho, hv, e2, e3, Instr.sliceAt, run_underlying hu, Instr.slice, hb', h.sizeOf]
  · obtain ⟨b, off, cells, ty', fz, rfl, hF, hb0, hH⟩ := hat h0
    refine ⟨.slice (some ⟨b, off, none⟩) d.length d.length, ⟨_, rfl, fun _ => ⟨b, off, cells, ty', fz, rfl, hF, hb0, hH⟩⟩, fun w' o ho _ => ?_⟩
    have hb : (Instr.sliceBounds true d.length c none (some (.int k1 (d.length : Int))) (some (.int k2 (d.length : Int)))).run P w' = .ok (0, d.length, d.length) w' := by
      simp [Instr.sliceBounds, Instr.sliceBound, asIntOf, hc]
    have hne : d.length ≠ 0 := fun e => h0 (List.eq_nil_of_length_eq_zero e)
    simp [execOp, ho, hv, e2, e3, Instr.sliceAt, run_underlying hu, Instr.slice, hb, h.sizeOf, hne, addr_add]

/-- append to such a slice: it is made anew -/
theorem s_appendF {d' d'' : List α} (hd : appM bytes d d' = some d'') (hne : Nat.ble 1 d'.length = true) (hu : P.underlying t = some (.slice e)) (h : ElT P e ρ bytes)
    (hx : lkO Γ x = some (slf ρ d)) (hy : lkO Γ y = some (slv ρ d')) :
    St P E N (.call ⟨.builtin .append, #[x, y], #[t, t]⟩) ty Γ Ω [] (fun X : Value × List Nat => pv X.1) (fun X => Ω ++ [oa ρ X.1 X.2 d'']) := by
  intro a w hs
  obtain ⟨hsz, rfl⟩ := appM_some hd
  have hne' : 1 ≤ d'.length := Nat.le_of_ble_eq_true hne
  obtain ⟨base, hvx, hxat⟩ := hs.op hx
  obtain ⟨ya, yc, hvy, hyc, hyat⟩ := hs.op hy
  obtain ⟨i, hi, his, hib, z, hz, hzs⟩ := h.info
  obtain ⟨news, hnews, hnc⟩ := sl_news hyat
  have hnl : news.length = d'.length * ρ.size := by rw [hnews.length, cp_len]
  obtain ⟨es, hes, hec⟩ := sl_news hxat
  have hnum := app_num hsz h.bpos (show d.length < d.length + d'.length by omega)
  have hf := run_fc (P := P) (size := i.size) (m := d'.length) (yc := yc) (ya := ya) (news := news) (w := w.drew) (by rw [his, hnl])
    (by rw [his]; exact hnc.imp id fun ⟨b, off, cells, ty, fz, h1, _, h3, h4⟩ => ⟨b, off, cells, ty, fz, h1, h3, h4⟩)
  have hold := run_fc (P := P) (size := i.size) (m := d.length) (yc := d.length) (ya := base) (news := es) (w := w.drew) (by rw [his, hes.length, cp_len])
    (by rw [his]; exact hec.imp id fun ⟨b, off, cells, ty, fz, h1, _, h3, h4⟩ => ⟨b, off, cells, ty, fz, h1, h3, h4⟩)
  have hr := run_app_grow (P := P) t ty e i z hu hi hz hold hf (by omega) hnum.1 (by rw [hib]; exact hnum.2)
  have hst : ∀ b, b < w.heap.size → ∀ o, (w.drew.alloc o).heap[b]? = w.heap[b]? := fun b hb o => heap_alloc_lt w.drew o hb
  refine opwp_val (fun o ho ht => run_append_call ho hvx hvy (by rw [ht]; exact hr)) ⟨(.slice (some ⟨w.heap.size, 0, none⟩) (d.length + d'.length) (grownCap w (d.length + d'.length) d.length e), [w.heap.size]), ?_, rfl, by simp, fun b hb _ => hst b hb _, own_add (by simp [oa])⟩
  refine hs.add ⟨rfl, rfl, rfl, by first | exact Nat.le_refl _ | exact Nat.le_add_right _ _⟩ (by simp) (fun b hb => hst b hb _) (fun b hb => ?_) (by simp [oa]) ?_
  · rw [show b = w.heap.size from by simpa [oa] using hb]; exact ⟨Nat.le_refl _, by show _ < (w.drew.alloc _).heap.size; rw [World.size_alloc]; exact Nat.lt_succ_self _⟩
  · have hag : ∀ o, Ag (fr E Ω) (fr E (Ω ++ [oa ρ (.slice (some ⟨w.heap.size, 0, none⟩) (d.length + d'.length) (grownCap w (d.length + d'.length) d.length e)) [w.heap.size] (d ++ d')])) w (w.drew.alloc o) := fun o =>
      ⟨fun b hb hf => fr_add hf (fun hm => by
        have : b = w.heap.size := (by simpa [oa] using hm)
        omega), fun b hb _ => hst b hb _⟩
    refine grown_oa (hes.mono (hag _)) (hnews.mono (hag _)) rfl (heap_alloc_new' w.drew _) ?_ grow_cap
    simp [Builtin.zeroCells, hzs]

/-- what copy(d[l:m], d[l2:m2]) makes of d -/
def cpO {α : Type} (d : List α) (l m l2 m2 : Int) : List α := d.take l.toNat ++ ((d.take m2.toNat).drop l2.toNat).take (m.toNat - l.toNat) ++ d.drop (l.toNat + min ((d.take m2.toNat).drop l2.toNat).length (m.toNat - l.toNat))

theorem subV_slice {ad : Option Addr} {n c l m : Nat} : subV (.slice ad n c) ρ.size l m = .slice (if c = l then ad else ad.map (·.add (l * ρ.size))) (m - l) (c - l) := rfl

theorem s_copyW {l m l2 m2 : Int} {d1 d2 : List α} (h1 : slM d l m = some d1) (h2 : slM d l2 m2 = some d2) (hu : P.underlying t = some (.slice e)) (h : ElT P e ρ bytes)
    (hx : lkO Γ x = some (pv (subV hv ρ.size l.toNat m.toNat))) (hj : Ω[j]? = some (oa ρ hv S d)) (hy : lkO Γ y = some (pv (subV hv ρ.size l2.toNat m2.toNat))) :
    St P E N (.call ⟨.builtin .copy, #[x, y], #[t, t]⟩) ty Γ Ω [j] (fun _ : Unit => iv .i64 ((min d2.length d1.length : Nat) : Int)) (fun _ => Ω.set j (oa ρ hv S (cpO d l m l2 m2))) := by
  obtain ⟨a0, a1, a2, rfl⟩ := slM_some h1
  obtain ⟨b0, b1, b2, rfl⟩ := slM_some h2
  have e1 : ((d.take m.toNat).drop l.toNat).length = m.toNat - l.toNat := by simp; omega
  rw [e1]
  by_cases hc : l.toNat < m.toNat ∧ l2.toNat < m2.toNat
  · exact s_copyO hc.1 (by omega) hc.2 (by omega) hu h hx hj hy hj
  · have hz : Nat.min (m2.toNat - l2.toNat) (m.toNat - l.toNat) = 0 := by
      generalize m2.toNat = p at *; generalize l2.toNat = q at *; generalize m.toNat = r at *; generalize l.toNat = s at *
      simp only [Nat.min_def]; split <;> omega
    intro a w hs
    have hvx : a.eval x = _ := hs.op hx
    have hvy : a.eval y = _ := hs.op hy
    obtain ⟨ad, c, rfl, hdc, hob⟩ := hs.objAt hj
    rw [subV_slice] at hvx hvy
    obtain ⟨i, hi, his, _⟩ := h.info
    have e2 : ((d.take m2.toNat).drop l2.toNat).length = m2.toNat - l2.toNat := by simp; omega
    have hn : min ((d.take m2.toNat).drop l2.toNat).length (m.toNat - l.toNat) = 0 := by rw [e2]; exact hz
    have hdd : cpO d l m l2 m2 = d := by
      unfold cpO
      rw [hn, Nat.add_zero]
      have : ((d.take m2.toNat).drop l2.toNat).take (m.toNat - l.toNat) = [] := List.eq_nil_of_length_eq_zero (by rw [List.length_take, e2, Nat.min_comm]; exact hz)
      rw [this, List.append_nil, List.take_append_drop]
    have hfc : ∀ ya yc, (Builtin.firstCells i.size 0 (.slice ya (m2.toNat - l2.toNat) yc)).run P w = .ok #[] w := fun ya yc => by
      have := run_fc (P := P) (size := i.size) (m := 0) (yc := yc) (ya := ya) (news := []) (w := w) (by simp) (.inl (by simp))
      cases ya <;> exact this
    have hr : (Builtin.copy_ #[t, t] ty #[.slice (if c = l.toNat then ad else ad.map (·.add (l.toNat * ρ.size))) (m.toNat - l.toNat) (c - l.toNat), .slice (if c = l2.toNat then ad else ad.map (·.add (l2.toNat * ρ.size))) (m2.toNat - l2.toNat) (c - l2.toNat)]).run P w = .ok (goInt 0) w := by
      simp only [Builtin.copy_]
      cases hq : (if c = l.toNat then ad else ad.map (·.add (l.toNat * ρ.size))) with
      | none => simp [run_underlying hu, Builtin.lenOf, sizeOf, typeInfo, hi, hz, hfc]
      | some q => simp [run_underlying hu, Builtin.lenOf, sizeOf, typeInfo, hi, hz, hfc, storeCells]
    refine opwp_val (fun o ho ht => run_copy_call ho hvx hvy (by rw [ht]; exact hr)) ⟨(), ?_, ?_, Nat.le_refl _, fun _ _ _ => rfl, fun b hb hm => ?_⟩
    · rw [hdd, set_same hj]; exact hs
    · rw [hn]; rfl
    · rw [hdd, set_same hj] at hm; exact hm
end
end Go.Dc
