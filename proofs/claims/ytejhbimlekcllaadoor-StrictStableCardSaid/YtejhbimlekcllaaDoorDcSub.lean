/- Part Dc.Sub of a proof: lemmas. -/
import Derived.Test.YtejhbimlekcllaaDoorDcMapIt
import Derived.Test.YtejhbimlekcllaaDoorDcText
set_option linter.unusedSectionVars false
/-! Strings: greater, parts; maps made with a size. -/
namespace Go.Dc
variable {P : Program} {E : Env} {N : Nat} {Γ : List (Nat × RP)} {Ω : List OB} {ty : TypeId} {α β : Type} [DecidableEq α]

theorem r_sgtr {t yt : TypeId} {x y : Operand} {s u : ByteArray} (hx : lkO Γ x = some (sv s)) (hy : lkO Γ y = some (sv u)) : Rd P E N (.binOp .gtr t x y yt) ty Γ Ω [] (bv (!(Op.bytesLess s.toList u.toList || s.toList == u.toList))) :=
  str_of hx hy (fun _ _ => rfl) fun w => by simp [binOp, Op.stringOp]

/-- s[lo:hi] -/
def ssubM (s : ByteArray) (lo hi : Int) : Option ByteArray := if 0 ≤ lo ∧ lo ≤ hi ∧ hi ≤ (s.size : Int) then some (s.extract lo.toNat hi.toNat) else none
theorem r_ssub {t : TypeId} {x : Operand} {lo hi : Option Operand} {s r : ByteArray} {l m : Int} (hd : ssubM s l m = some r) (hu : P.underlying t = some .string)
    (hx : lkO Γ x = some (sv s)) (hlo : BdOk Γ 0 lo l) (hhi : BdOk Γ s.size hi m) : Rd P E N (.slice t x lo hi none) ty Γ Ω [] (sv r) := .mk fun a w hs => by
  unfold ssubM at hd
  by_cases h0 : 0 ≤ l ∧ l ≤ m ∧ m ≤ (s.size : Int)
  · rw [if_pos h0] at hd
    cases hd
    obtain ⟨h0, h1, h2⟩ := h0
    obtain ⟨l, rfl⟩ := Int.eq_ofNat_of_zero_le h0
    obtain ⟨m, rfl⟩ := Int.eq_ofNat_of_zero_le (Int.le_trans h0 h1)
    have hv : a.eval x = .string s := hs.op hx
    have hl := hlo.val hs
    have hm := hhi.val hs
    have e1 : l ≤ m := by omega
    have e2 : m ≤ s.size := by omega
    refine ⟨_, rfl, fun w' o ho _ => ?_⟩
    have hH : (Instr.sliceBounds false s.size s.size (lo.map a.eval) (hi.map a.eval) none).run P w' = .ok (l, m, s.size) w' := by
      unfold Instr.sliceBounds
      have b1 : ∀ (k : IntKind) (n y : Nat) (c : BoundsCode), n ≤ y → (Instr.sliceBound (.int k (n : Int)) y c).run P w' = .ok n w' := fun k n y c h => by simp [Instr.sliceBound, asIntOf, h]
      rcases hl with ⟨q1, q⟩ | ⟨k, q1⟩ <;> rcases hm with ⟨q2, q'⟩ | ⟨k2, q2⟩ <;> rw [q1, q2]
      · have a1 : l = 0 := by omega
        have a2 : m = s.size := by omega
        subst a1; subst a2; rfl
      · have a1 : l = 0 := by omega
        subst a1
        simp [b1 k2 m s.size _ e2]
      · have a2 : m = s.size := by omega
        subst a2
        simp [b1 k l s.size _ e1]
      · simp [b1 k2 m s.size _ e2, b1 k l m _ e1]
    simp [execOp, ho, hv, Instr.sliceAt, Instr.slice, run_underlying hu, hH]
  · rw [if_neg h0] at hd; cases hd

/-- make(map[K]V, n) -/
theorem s_mkmapC {κ : Rep α} {ν : Rep β} {t kt et : TypeId} {x : Operand} {n : Int} (hu : P.underlying t = some (.map kt et)) (hx : lkO Γ x = some (iv .i64 n)) :
    St P E N (.makeMap t (some x)) ty Γ Ω [] (fun b : Nat => pv (.map (some b))) (fun b => Ω ++ [om κ ν b []]) := by
  intro a w hs
  have h1 : a.eval x = .int .i64 n := hs.op hx
  refine opwp_val (v := .map (some w.heap.size)) (w' := w.alloc (.map #[] 0)) (fun o ho ht => ?_) ⟨w.heap.size, ?_, rfl, by simp, fun b hb _ => heap_alloc_lt w _ hb, own_add (by simp [om])⟩
  · have : (Instr.makeMap t (some (.int .i64 n))).run P w = .ok (.map (some w.heap.size)) (w.alloc (.map #[] 0)) := by
      simp [Instr.makeMap, run_underlying hu, asInt, asIntOf]
    simp [execOp, ho, h1, this]
  · refine hs.add ⟨rfl, rfl, rfl, by first | exact Nat.le_refl _ | exact Nat.le_add_right _ _⟩ (by simp) (fun _ hb => heap_alloc_lt w _ hb) (fun b hb => ?_) (by simp [om]) ?_
    · rw [show b = w.heap.size from by simpa [om] using hb]; exact ⟨Nat.le_refl _, by simp⟩
    · exact ⟨#[], 0, heap_alloc_new' w _, ⟨rfl, by simp⟩, by simp, by simp⟩

/-! a part of a slice that is ours, looked at beside it -/
def vixM (lo hi i : Int) : Option Int := if 0 ≤ i ∧ i < ((hi.toNat - lo.toNat : Nat) : Int) then some ((lo.toNat : Int) + i) else none
section
variable {γ : Type} {ρ : Rep γ} {e t : TypeId} {bytes : Nat} {x : Operand} {hv : Value} {S : List Nat} {d : List γ} {j : Nat} {l m : Nat}
theorem r_vlen (hu : P.underlying t = some (.slice e)) (hx : lkO Γ x = some (pv (subV hv ρ.size l m))) (hj : Ω[j]? = some (oa ρ hv S d)) :
    Rd P E N (.call ⟨.builtin .len, #[x], #[t]⟩) ty Γ Ω [] (iv .i64 ((m - l : Nat) : Int)) := .mk fun a w hs => by
  have h1 : a.eval x = subV hv ρ.size l m := hs.op hx
  obtain ⟨ad, c, rfl, hc, hat⟩ := hs.objAt hj
  exact ⟨_, rfl, fun w' o ho _ => by simp [execOp, ho, resolve, invoke, builtin, Builtin.len_, h1, subV, run_underlying hu, goInt]⟩
theorem r_vindex {i : Operand} {lo hi : Int} {k : IntKind} {n q : Int} {y : γ} (hq : vixM lo hi q = some n) (hy : idxM d n = some y) (hu : P.underlying t = some (.slice e)) (h : ElT P e ρ bytes)
    (hx : lkO Γ x = some (pv (subV hv ρ.size lo.toNat hi.toNat))) (hj : Ω[j]? = some (oa ρ hv S d)) (hi' : lkO Γ i = some (iv k q)) : Rd P E N (.indexAddr t x i) ty Γ Ω [] (pv (elA hv ρ.size n)) := .mk fun a w hs => by
  obtain ⟨h0, h1, hlt, hd⟩ := idxM_some hy
  unfold vixM at hq
  by_cases hc0 : 0 ≤ q ∧ q < ((hi.toNat - lo.toNat : Nat) : Int)
  · rw [if_pos hc0] at hq
    cases hq
    have hv' : a.eval x = subV hv ρ.size lo.toNat hi.toNat := hs.op hx
    obtain ⟨ad, c, rfl, hc, hat⟩ := hs.objAt hj
    have h2 : a.eval i = .int k q := hs.op hi'
    rcases hat with ⟨rfl, _, rfl⟩ | ⟨b, off, cells, ty', rfl, hS, hb, hsz, hH⟩
    · omega
    · refine ⟨_, rfl, fun w' o ho _ => ?_⟩
      have hcl : c ≠ lo.toNat := by omega
      have e2 : ((lo.toNat : Int) + q).toNat = lo.toNat + q.toNat := by omega
      have e3 : elA (.slice (some ⟨b, off, none⟩) d.length c) ρ.size ((lo.toNat : Int) + q) = .pointer (some ⟨b, off + lo.toNat * ρ.size + q.toNat * ρ.size, none⟩) := by
        have : off + (lo.toNat + q.toNat) * ρ.size = off + lo.toNat * ρ.size + q.toNat * ρ.size := by rw [Nat.add_mul]; omega
        simp only [elA, e2]
        simp [addr_add, this]
      rw [subV_at hcl] at hv'
      rw [e3]
      simp [execOp, ho, hv', h2, run_index hu h hc0.1 hc0.2]
  · rw [if_neg hc0] at hq; cases hq
end

/-- append of any list to a slice whose capacity is full -/
theorem s_appendFS {γ : Type} {ρ : Rep γ} {e t : TypeId} {bytes : Nat} {x y : Operand} {d d' d'' : List γ} (hd : appM bytes d d' = some d'') (hu : P.underlying t = some (.slice e)) (h : ElT P e ρ bytes)
    (hx : lkO Γ x = some (slf ρ d)) (hy : lkO Γ y = some (slv ρ d')) :
    St P E N (.call ⟨.builtin .append, #[x, y], #[t, t]⟩) ty Γ Ω [] (fun _ : Unit => slv ρ d'') (fun _ => Ω) := by
  intro a w hs
  obtain ⟨hsz, rfl⟩ := appM_some hd
  obtain ⟨base, hvx, hxat⟩ := hs.op hx
  obtain ⟨ya, yc, hvy, hyc, hyat⟩ := hs.op hy
  obtain ⟨i, hi, his, hib, z, hz, hzs⟩ := h.info
  by_cases hne : d' = []
  · subst hne
    have hf := run_fc (P := P) (size := i.size) (m := 0) (yc := yc) (ya := ya) (news := []) (w := w) (by simp) (.inl (by simp))
    have hr : (Builtin.append_ #[t, t] ty #[.slice base d.length d.length, .slice ya 0 yc]).run P w = .ok (.slice base d.length d.length) w := by
      cases base with
      | none => simp [Builtin.append_, run_underlying hu, sizeOf, typeInfo, hi, Builtin.lenOf, hf]
      | some b => simp [Builtin.append_, run_underlying hu, sizeOf, typeInfo, hi, Builtin.lenOf, hf, storeCells]
    refine opwp_val (v := .slice base d.length d.length) (w' := w) (fun o ho ht => run_append_call ho hvx hvy (by rw [ht]; exact hr)) ⟨(), hs, ⟨base, d.length, by simp, by simp, by simpa using hxat⟩, Nat.le_refl _, fun _ _ _ => rfl, fun _ _ h => h⟩
  · have hne' : 1 ≤ d'.length := List.length_pos_iff.2 hne
    obtain ⟨news, hnews, hnc⟩ := sl_news hyat
    have hnl : news.length = d'.length * ρ.size := by rw [hnews.length, cp_len]
    obtain ⟨es, hes, hec⟩ := sl_news hxat
    have hnum := app_num hsz h.bpos (show d.length < d.length + d'.length by omega)
    have hf := run_fc (P := P) (size := i.size) (m := d'.length) (yc := yc) (ya := ya) (news := news) (w := w.drew) (by rw [his, hnl])
      (by rw [his]; exact hnc.imp id fun ⟨b, off, cells, ty, fz, h1, _, h3, h4⟩ => ⟨b, off, cells, ty, fz, h1, h3, h4⟩)
    have hold := run_fc (P := P) (size := i.size) (m := d.length) (yc := d.length) (ya := base) (news := es) (w := w.drew) (by rw [his, hes.length, cp_len])
      (by rw [his]; exact hec.imp id fun ⟨b, off, cells, ty, fz, h1, _, h3, h4⟩ => ⟨b, off, cells, ty, fz, h1, h3, h4⟩)
    have hr := run_app_grow (P := P) t ty e i z hu hi hz hold hf (by omega) hnum.1 (by rw [hib]; exact hnum.2)
    have hst : ∀ b, b < w.heap.size → ∀ o, (w.drew.alloc o).heap[b]? = w.heap[b]? := fun b hb o => heap_alloc_lt w.drew o hb
    have hsat : ∀ o, Sat E N Γ Ω a (w.drew.alloc o) := fun o => hs.ext ⟨rfl, rfl, rfl, by first | exact Nat.le_refl _ | exact Nat.le_add_right _ _⟩ (by show w.heap.size ≤ (w.drew.alloc o).heap.size; rw [World.size_alloc]; exact Nat.le_succ _) fun b hb => hst b hb o
    have hag : ∀ o, Ag (fr E Ω) (fr E Ω) w (w.drew.alloc o) := fun o => ⟨fun b hb hf => hf, fun b hb _ => hst b hb _⟩
    refine opwp_val (fun o ho ht => run_append_call ho hvx hvy (by rw [ht]; exact hr)) ⟨(), hsat _, ?_, by show w.heap.size ≤ _; rw [World.size_alloc]; exact Nat.le_succ _, fun b hb _ => hst b hb _, fun _ _ h => h⟩
    have hoa := grown_oa (F := fr E Ω) (w' := w.drew.alloc (.cells (es.toArray ++ news.toArray ++ Builtin.zeroCells z.cells (grownCap w (d.length + d'.length) d.length e - (d.length + d'.length))) e)) (c := grownCap w (d.length + d'.length) d.length e) (g := w.heap.size)
      (hes.mono (hag _)) (hnews.mono (hag _)) rfl (heap_alloc_new' w.drew _) (by simp [Builtin.zeroCells, hzs]) grow_cap
    obtain ⟨a', c', e1, e2, e3⟩ := hoa
    refine ⟨a', c', e1, e2, fun hnil => ?_⟩
    rcases e3 with ⟨_, e5, _⟩ | ⟨b, off, cells, et, e4, e5, e6, e7, e8⟩
    · exact absurd e5 (by simp)
    · have eb : b = w.heap.size := ((List.cons.inj e5).1).symm
      exact ⟨b, off, cells, et, _, e4, by rw [eb]; exact hs.newFr, e6, e8⟩
end Go.Dc
