/- Part Dc.Mem2 of a proof: lemmas. -/
import Derived.Test.YtkcaadcoagimdaaDoorDcMem
/-! Operations that make or write memory. -/
namespace Go.Dc

variable {P : Program} {E : Env} {N : Nat} {Γ : List (Nat × RP)} {Ω : List OB} {ty : TypeId}

section lists
variable {α : Type} {ρ : Rep α} {F : FP} {w : World} {cells : Array Value}

theorem cp_len (d : List α) : (d.flatMap ρ.cp).length = d.length * ρ.size := by
  induction d with
  | nil => simp
  | cons x d ih => simp [ρ.len, ih, Nat.succ_mul, Nat.add_comm]

theorem SlH.list : ∀ {d : List α} {off : Nat}, SlH ρ F w cells off d → ∃ es, AllP F w (d.flatMap ρ.cp) es ∧ ∀ j, j < d.length * ρ.size → cells[off + j]? = es[j]?
  | [], off, _ => ⟨[], trivial, fun j hj => by simp at hj⟩
  | x :: d, off, h => by
    obtain ⟨es0, h1, h2⟩ := h 0 (by simp)
    obtain ⟨es, h3, h4⟩ := SlH.list (d := d) (off := off + ρ.size) fun i hi => by
      obtain ⟨e, a, b⟩ := h (i + 1) (by simpa using hi)
      exact ⟨e, a, fun j hj => by rw [← b j hj, Nat.succ_mul]; congr 1; omega⟩
    refine ⟨es0 ++ es, by rw [List.flatMap_cons]; exact h1.append h3, fun j hj => ?_⟩
    have hl : es0.length = ρ.size := by rw [h1.length]; exact ρ.len x
    by_cases hlt : j < ρ.size
    · rw [List.getElem?_append_left (by omega)]; have := h2 j hlt; simpa using this
    · rw [List.getElem?_append_right (by omega), hl, ← h4 (j - ρ.size) (by rw [List.length_cons, Nat.succ_mul] at hj; omega)]
      congr 1; omega

theorem SlH.of : ∀ {d : List α} {off : Nat} {es : List Value}, AllP F w (d.flatMap ρ.cp) es → (∀ j, j < d.length * ρ.size → cells[off + j]? = es[j]?) → SlH ρ F w cells off d
  | [], _, _, _, _ => fun i hi => by simp at hi
  | x :: d, off, es, h1, h2 => by
    rw [List.flatMap_cons] at h1
    obtain ⟨e0, e1, rfl, a0, a1⟩ := h1.split
    have hl : e0.length = ρ.size := by rw [a0.length]; exact ρ.len x
    have hs : (x :: d).length * ρ.size = d.length * ρ.size + ρ.size := by rw [List.length_cons, Nat.succ_mul]
    have ih := SlH.of (off := off + ρ.size) a1 fun j hj => by
      have := h2 (ρ.size + j) (by omega)
      rw [List.getElem?_append_right (by omega), hl] at this
      rw [Nat.add_assoc, this]; congr 1; omega
    intro i hi
    cases i with
    | zero => exact ⟨e0, a0, fun j hj => by have := h2 j (by omega); rw [List.getElem?_append_left (by omega)] at this; simpa using this⟩
    | succ i =>
      obtain ⟨e, p, q⟩ := ih i (by simpa using hi)
      exact ⟨e, p, fun j hj => by rw [← q j hj, Nat.succ_mul]; congr 1; omega⟩

theorem cp_atoms (d : List α) {es : List Value} (h : AllP F w (d.flatMap ρ.cp) es) : ∀ v ∈ es, v.oneCell' = true :=
  h.atoms fun φ hφ => by obtain ⟨x, _, hx⟩ := List.mem_flatMap.1 hφ; exact ρ.at_ x φ hx
end lists

/-! ### append -/
def appM {α : Type} (bytes : Nat) (d e : List α) : Option (List α) := if (d.length + e.length) * bytes ≤ 140737488355328 then some (d ++ e) else none
theorem appM_some {α : Type} {bytes : Nat} {d e f : List α} (h : appM bytes d e = some f) : (d.length + e.length) * bytes ≤ 140737488355328 ∧ f = d ++ e := by
  unfold appM at h
  split at h
  · rename_i hh; exact ⟨hh, by simpa using h.symm⟩
  · cases h

theorem run_fc {size m yc : Nat} {ya : Option Addr} {news : List Value} {w : World} (hl : news.length = m * size)
    (h : m * size = 0 ∨ ∃ b off cells ty fz, ya = some ⟨b, off, none⟩ ∧ w.heap[b]? = some (.cells cells ty fz) ∧ ∀ j, j < m * size → cells[off + j]? = news[j]?) :
    (Builtin.firstCells size m (.slice ya m yc)).run P w = .ok news.toArray w := by
  rcases h with h | ⟨b, off, cells, ty, fz, rfl, hb, hc⟩
  · have : news = [] := List.eq_nil_of_length_eq_zero (by omega)
    subst this
    cases ya with
    | none => simp [Builtin.firstCells]
    | some a => simp [Builtin.firstCells, h, loadCells, loadCellsFrom]
  · refine run_firstCells_some w size m _ m yc news hl fun j v hv => ?_
    have hj : j < news.length := (List.getElem?_eq_some_iff.1 hv).1
    rw [addr_add, cell_at hb, hc j (by omega), hv]

theorem run_app_grow (t ty e : TypeId) (i : TypeInfo) (z : Value) (ht : P.underlying t = some (.slice e)) (hi : P.info? e = some i) (hz : i.zero = some z)
    {base ya : Option Addr} {n c m yc : Nat} {olds news : List Value} {w : World}
    (ho : (Builtin.firstCells i.size n (.slice base n c)).run P w.drew = .ok olds.toArray w.drew)
    (hn : (Builtin.firstCells i.size m (.slice ya m yc)).run P w.drew = .ok news.toArray w.drew)
    (hg : c < n + m) (h63 : ((n + m : Nat) : Int) ≤ 9223372036854775807) (hfit : Builtin.nextslicecap (n + m) c * i.bytes ≤ 281474976710656) :
    (Builtin.append_ #[t, t] ty #[.slice base n c, .slice ya m yc]).run P w =
      .ok (.slice (some ⟨w.heap.size, 0, none⟩) (n + m) (grownCap w (n + m) c e))
        (w.drew.alloc (.cells (olds.toArray ++ news.toArray ++ Builtin.zeroCells z.cells (grownCap w (n + m) c e - (n + m))) e)) := by
  have hn' : ¬ (n + m ≤ c) := by omega
  have h63' : ¬ (9223372036854775807 < ((n : Int) + (m : Int))) := by omega
  have h48' : ¬ (281474976710656 < Builtin.nextslicecap (n + m) c * i.bytes) := by omega
  simp [Builtin.append_, run_underlying ht, sizeOf, typeInfo, zeroValue, hi, hz, Builtin.lenOf, hn', h63', h48', Question.forced, ho, hn, newRow, grownCap]
  congr 2
  apply Array.ext'
  simp

theorem run_app_room (t ty e : TypeId) (i : TypeInfo) (ht : P.underlying t = some (.slice e)) (hi : P.info? e = some i)
    {ya : Option Addr} {g off n c m yc : Nat} {cells : Array Value} {et : TypeId} {news : List Value} {w : World} (hb : w.heap[g]? = some (.cells cells et (0, 0)))
    (hn : (Builtin.firstCells i.size m (.slice ya m yc)).run P w = .ok news.toArray w) (hl : news.length = m * i.size) (h1 : ∀ v ∈ news, v.oneCell' = true)
    (hroom : n + m ≤ c) (hfit : off + c * i.size ≤ cells.size) :
    (Builtin.append_ #[t, t] ty #[.slice (some ⟨g, off, none⟩) n c, .slice ya m yc]).run P w =
      .ok (.slice (some ⟨g, off, none⟩) (n + m) c) (w.setRow g (cells.toList.take (off + n * i.size) ++ news ++ cells.toList.drop (off + n * i.size + news.length)).toArray) := by
  have hle : (n + m) * i.size ≤ c * i.size := Nat.mul_le_mul_right _ hroom
  rw [Nat.add_mul] at hle
  have hst := run_storeCells_at P g (off + n * i.size) et news 0 cells w hb (by omega) h1
  simp only [Nat.add_zero] at hst
  simp [Builtin.append_, run_underlying ht, sizeOf, typeInfo, hi, Builtin.lenOf, hroom, hn, addr_add, hst]

section app
variable {α : Type} {e : TypeId} {ρ : Rep α} {bytes : Nat}

theorem sl_news {F : FP} {w : World} {ad : Option Addr} {d : List α} (h : SlAt ρ F w ad d) : ∃ es, AllP F w (d.flatMap ρ.cp) es ∧
    (d.length * ρ.size = 0 ∨ ∃ b off cells ty fz, ad = some ⟨b, off, none⟩ ∧ F b ∧ w.heap[b]? = some (.cells cells ty fz) ∧ ∀ j, j < d.length * ρ.size → cells[off + j]? = es[j]?) := by
  by_cases hd : d = []
  · subst hd; exact ⟨[], trivial, .inl (by simp)⟩
  · obtain ⟨b, off, cells, ty, fz, rfl, hF, hb, hH⟩ := h hd
    obtain ⟨es, h1, h2⟩ := hH.list
    exact ⟨es, h1, .inr ⟨b, off, cells, ty, fz, rfl, hF, hb, h2⟩⟩

theorem heap_alloc_new' (w : World) (o : Obj) : (w.alloc o).heap[w.heap.size]? = some o := by
  show (w.heap.push o)[w.heap.size]? = _
  simp

theorem heap_alloc_lt (w : World) (o : Obj) {b : Nat} (h : b < w.heap.size) : (w.alloc o).heap[b]? = w.heap[b]? := by
  show (w.heap.push o)[b]? = _
  rw [Array.getElem?_push, if_neg (by omega)]

theorem grow_cap {w : World} {n c : Nat} {e : TypeId} : n ≤ grownCap w n c e := by simp [grownCap, Question.cut]

/-- the memory behind an append that made a new row -/
theorem grown_oa {F : FP} {w' : World} {d d' : List α} {es es' : List Value} {zs : Array Value} {c g : Nat} (h1 : AllP F w' (d.flatMap ρ.cp) es) (h2 : AllP F w' (d'.flatMap ρ.cp) es')
    {cells : Array Value} {et : TypeId} (hcl : cells = es.toArray ++ es'.toArray ++ zs) (hb : w'.heap[g]? = some (.cells cells et (0, 0)))
    (hz : zs.size = (c - (d.length + d'.length)) * ρ.size) (hc : d.length + d'.length ≤ c) :
    (oa ρ (.slice (some ⟨g, 0, none⟩) (d.length + d'.length) c) [g] (d ++ d')).h F w' := by
  have l1 : es.length = d.length * ρ.size := by rw [h1.length, cp_len]
  have l2 : es'.length = d'.length * ρ.size := by rw [h2.length, cp_len]
  subst hcl
  refine ⟨some ⟨g, 0, none⟩, c, by rw [List.length_append], by rw [List.length_append]; exact hc, .inr ⟨g, 0, _, et, rfl, rfl, hb, ?_, ?_⟩⟩
  · have h5 : d.length * ρ.size + d'.length * ρ.size + (c - (d.length + d'.length)) * ρ.size = c * ρ.size := by
      rw [← Nat.add_mul, ← Nat.add_mul]; congr 1; omega
    simp only [Array.size_append, List.size_toArray, l1, l2, hz]
    omega
  · refine SlH.of (es := es ++ es') (by rw [List.flatMap_append]; exact h1.append h2) fun j hj => ?_
    rw [List.length_append, Nat.add_mul] at hj
    rw [Nat.zero_add, Array.getElem?_append_left (by simp [l1, l2]; omega)]
    simp

theorem run_append_call {t : TypeId} {x y : Operand} {a : Act} {o : Oper} (ho : o.op = .call ⟨.builtin .append, #[x, y], #[t, t]⟩) {vx vy v : Value} (hx : a.eval x = vx) (hy : a.eval y = vy)
    {w w' : World} (h : (Builtin.append_ #[t, t] o.type #[vx, vy]).run P w = .ok v w') : (execOp a.eval o).run P w = .ok (.value v) w' := by
  simp [execOp, ho, resolve, invoke, builtin, hx, hy, h]

theorem opwp_val {op : Op} {ty : TypeId} {ρ : Operand → Value} {w w' : World} {v : Value} {k : Value → World → Prop}
    (h : ∀ o : Oper, o.op = op → o.type = ty → (execOp ρ o).run P w = .ok (.value v) w') (hk : k v w') : opwp P op ty ρ w k := by
  intro o ho ht
  rw [h o ho ht]
  exact hk

theorem app_num {bytes n m c : Nat} (h : (n + m) * bytes ≤ 140737488355328) (hb : 0 < bytes) (hc : c < n + m) :
    ((n + m : Nat) : Int) ≤ 9223372036854775807 ∧ Builtin.nextslicecap (n + m) c * bytes ≤ 281474976710656 := by
  have : n + m ≤ (n + m) * bytes := Nat.le_mul_of_pos_right _ hb
  exact ⟨by omega, growslice_fits hc h⟩

theorem fr_set {j : Nat} {o o' : OB} (hj : Ω[j]? = some o) {b : Nat} (h : fr E Ω b) (hb : b ∉ o'.S) : fr E (Ω.set j o') b := by
  obtain ⟨A, B, rfl, rfl⟩ := ow_split hj
  rw [set_split]
  refine ⟨h.1, fun hm => h.2 ?_⟩
  rw [ow_mid] at hm ⊢
  simp only [List.mem_append] at hm ⊢
  rcases hm with hm | hm | hm
  · exact .inl hm
  · exact absurd hm hb
  · exact .inr (.inr hm)

theorem fr_add {o : OB} {b : Nat} (h : fr E Ω b) (hb : b ∉ o.S) : fr E (Ω ++ [o]) b := by
  refine ⟨h.1, fun hm => ?_⟩
  rw [ow_append, ow_one, List.mem_append] at hm
  exact hm.elim h.2 hb

theorem s_append {t : TypeId} {x y : Operand} {hv : Value} {S : List Nat} {d d' d'' : List α} {j : Nat} (hd : appM bytes d d' = some d'') (hu : P.underlying t = some (.slice e)) (h : ElT P e ρ bytes)
    (hx : lkO Γ x = some (pv hv)) (hj : Ω[j]? = some (oa ρ hv S d)) (hy : lkO Γ y = some (slv ρ d')) :
    St P E N (.call ⟨.builtin .append, #[x, y], #[t, t]⟩) ty Γ Ω [j] (fun X : Value × List Nat => pv X.1) (fun X => Ω.set j (oa ρ X.1 X.2 d'')) := by
  intro a w hs
  obtain ⟨hsz, rfl⟩ := appM_some hd
  have hvx : a.eval x = hv := hs.op hx
  obtain ⟨ya, yc, hvy, hyc, hyat⟩ := hs.op hy
  obtain ⟨base, c, rfl, hc, hob⟩ := hs.objAt hj
  obtain ⟨i, hi, his, hib, z, hz, hzs⟩ := h.info
  obtain ⟨news, hnews, hnc⟩ := sl_news hyat
  have hnl : news.length = d'.length * ρ.size := by rw [hnews.length, cp_len]
  have hSw : ∀ b ∈ S, b < w.heap.size := fun b hb => (hs.bd b (Sat.notin hj hb)).1
  by_cases hroom : d.length + d'.length ≤ c
  · rcases hob with ⟨rfl, rfl, rfl⟩ | ⟨g, off, cells, et, rfl, rfl, hb, hfit, hH⟩
    · -- nothing there and nothing to come
      have hd0 : d = [] := List.eq_nil_of_length_eq_zero (by omega)
      have hd1 : d' = [] := List.eq_nil_of_length_eq_zero (by omega)
      subst hd0; subst hd1
      have hr : (Builtin.append_ #[t, t] ty #[.slice none 0 0, .slice ya 0 yc]).run P w = .ok (.slice none 0 0) w := by
        have hf := run_fc (P := P) (size := i.size) (m := 0) (yc := yc) (ya := ya) (news := []) (w := w) (by simp) (.inl (by simp))
        simp [Builtin.append_, run_underlying hu, sizeOf, typeInfo, hi, Builtin.lenOf, hf]
      refine opwp_val (v := .slice none 0 0) (w' := w) (fun o ho ht => run_append_call ho hvx hvy (by rw [ht]; exact hr)) ⟨(.slice none 0 0, []), ?_, rfl, Nat.le_refl _, fun _ _ _ => rfl, own_set hj fun b hb => .inl hb⟩
      refine hs.upd hj ⟨rfl, rfl, rfl⟩ (Nat.le_refl _) (fun _ _ _ => rfl) (fun b hb => .inl hb) (by simp [oa]) ?_
      exact ⟨none, 0, rfl, Nat.le_refl _, .inl ⟨rfl, rfl, rfl⟩⟩
    · have hf := run_fc (P := P) (size := i.size) (m := d'.length) (yc := yc) (ya := ya) (news := news) (w := w) (by rw [his, hnl])
        (by rw [his]; exact hnc.imp id fun ⟨b, off, cells, ty, fz, h1, _, h3, h4⟩ => ⟨b, off, cells, ty, fz, h1, h3, h4⟩)
      have hr := run_app_room (P := P) t ty e i hu hi (off := off) (n := d.length) (c := c) hb hf (by rw [his, hnl]) (cp_atoms d' hnews) hroom (by rw [his]; exact hfit)
      rw [his] at hr
      obtain ⟨es, hes, hec⟩ := hH.list
      have hel : es.length = d.length * ρ.size := by rw [hes.length, cp_len]
      have hle : (d.length + d'.length) * ρ.size ≤ c * ρ.size := Nat.mul_le_mul_right _ hroom
      rw [Nat.add_mul] at hle
      refine opwp_val (fun o ho ht => run_append_call ho hvx hvy (by rw [ht]; exact hr)) ⟨(.slice (some ⟨g, off, none⟩) (d.length + d'.length) c, [g]), ?_, rfl, by simp, ?_, own_set hj fun b hb => .inl hb⟩
      · have hst : ∀ b, b < w.heap.size → b ∉ [g] → (w.setRow g (cells.toList.take (off + d.length * ρ.size) ++ news ++ cells.toList.drop (off + d.length * ρ.size + news.length)).toArray).heap[b]? = w.heap[b]? :=
          fun b _ hn => setRow_other w g b _ (by simpa using hn)
        refine hs.upd hj ⟨rfl, rfl, rfl⟩ (by simp) hst (fun b hb => .inl hb) (by simp [oa]) ?_
        have hag : Ag (fr E Ω) (fr E (Ω.set j (oa ρ (.slice (some ⟨g, off, none⟩) (d.length + d'.length) c) [g] (d ++ d')))) w
            (w.setRow g (cells.toList.take (off + d.length * ρ.size) ++ news ++ cells.toList.drop (off + d.length * ρ.size + news.length)).toArray) :=
          ⟨fun b hb hf => fr_set hj hf (fun hm => hf.2 (Sat.notin hj (b := b) hm)), fun b hb hf => hst b hb fun hm => hf.2 (Sat.notin hj (b := b) hm)⟩
        refine ⟨some ⟨g, off, none⟩, c, by rw [List.length_append], by rw [List.length_append]; exact hroom, .inr ⟨g, off, _, et, rfl, rfl, setRow_heap w g cells _ et (0, 0) hb, ?_, ?_⟩⟩
        · simp only [List.size_toArray, List.length_append, List.length_take, List.length_drop, Array.length_toList]; omega
        · refine SlH.of (es := es ++ news) (by rw [List.flatMap_append]; exact (hes.mono hag).append (hnews.mono hag)) fun k hk => ?_
          rw [List.length_append, Nat.add_mul] at hk
          rw [List.getElem?_toArray, List.append_assoc]
          have hlt : (cells.toList.take (off + d.length * ρ.size)).length = off + d.length * ρ.size := by
            have : cells.toList.length = cells.size := Array.length_toList
            rw [List.length_take, this]; omega
          by_cases hk1 : k < d.length * ρ.size
          · rw [List.getElem?_append_left (by omega), List.getElem?_append_left (by omega), List.getElem?_take, if_pos (by omega), ← hec k hk1]
            simp
          · have e1 : (cells.toList.take (off + d.length * ρ.size) ++ (news ++ cells.toList.drop (off + d.length * ρ.size + news.length)))[off + k]? = news[k - d.length * ρ.size]? := by
              rw [List.getElem?_append_right (by omega), List.getElem?_append_left (by omega), hlt]
              congr 1; omega
            have e2 : (es ++ news)[k]? = news[k - d.length * ρ.size]? := by
              rw [List.getElem?_append_right (by omega), hel]
            rw [e1, e2]
      · intro b hb hn
        exact setRow_other w g b _ (fun e => hn j (by simp) _ hj (by rw [e]; simp [oa]))
  · have hnum := app_num hsz h.bpos (Nat.lt_of_not_le hroom)
    have hdw : ∀ b : Nat, w.drew.heap[b]? = w.heap[b]? := fun _ => rfl
    have hf := run_fc (P := P) (size := i.size) (m := d'.length) (yc := yc) (ya := ya) (news := news) (w := w.drew) (by rw [his, hnl])
      (by rw [his]; exact hnc.imp id fun ⟨b, off, cells, ty, fz, h1, _, h3, h4⟩ => ⟨b, off, cells, ty, fz, h1, h3, h4⟩)
    obtain ⟨es, hes, hold⟩ : ∃ es, AllP (fr E Ω) w (d.flatMap ρ.cp) es ∧ (Builtin.firstCells i.size d.length (.slice base d.length c)).run P w.drew = .ok es.toArray w.drew := by
      rcases hob with ⟨rfl, rfl, rfl⟩ | ⟨g, off, cells, et, rfl, rfl, hb, hfit, hH⟩
      · have hd0 : d = [] := List.eq_nil_of_length_eq_zero (by omega)
        subst hd0
        exact ⟨[], trivial, run_fc (by simp) (.inl (by simp))⟩
      · obtain ⟨es, hes, hec⟩ := hH.list
        exact ⟨es, hes, run_fc (by rw [hes.length, cp_len, his]) (.inr ⟨g, off, cells, et, (0, 0), rfl, hb, by rw [his]; exact hec⟩)⟩
    have hr := run_app_grow (P := P) t ty e i z hu hi hz hold hf (Nat.lt_of_not_le hroom) hnum.1 (by rw [hib]; exact hnum.2)
    refine opwp_val (fun o ho ht => run_append_call ho hvx hvy (by rw [ht]; exact hr)) ⟨(.slice (some ⟨w.heap.size, 0, none⟩) (d.length + d'.length) (grownCap w (d.length + d'.length) c e), [w.heap.size]), ?_, rfl, by simp, ?_, own_set hj fun b hb => .inr (by simp [oa] at hb; omega)⟩
    · have hst : ∀ b, b < w.heap.size → ∀ o, (w.drew.alloc o).heap[b]? = w.heap[b]? := fun b hb o => heap_alloc_lt w.drew o hb
      refine hs.upd hj ⟨rfl, rfl, rfl⟩ (by simp) (fun b hb _ => hst b hb _) (fun b hb => .inr ?_) (by simp [oa]) ?_
      · rw [show b = w.heap.size from by simpa [oa] using hb]; exact ⟨Nat.le_refl _, by show _ < (w.drew.alloc _).heap.size; rw [World.size_alloc]; exact Nat.lt_succ_self _⟩
      · have hag : Ag (fr E Ω) (fr E (Ω.set j (oa ρ (.slice (some ⟨w.heap.size, 0, none⟩) (d.length + d'.length) (grownCap w (d.length + d'.length) c e)) [w.heap.size] (d ++ d')))) w
            (w.drew.alloc (.cells (es.toArray ++ news.toArray ++ Builtin.zeroCells z.cells (grownCap w (d.length + d'.length) c e - (d.length + d'.length))) e)) :=
          ⟨fun b hb hf => fr_set hj hf (fun hm => by
            have : b = w.heap.size := (by simpa [oa] using hm)
            omega), fun b hb _ => hst b hb _⟩
        refine grown_oa (hes.mono hag) (hnews.mono hag) rfl (heap_alloc_new' w.drew _) ?_ grow_cap
        simp [Builtin.zeroCells, hzs]
    · intro b hb _; exact heap_alloc_lt w.drew _ hb

end app
end Go.Dc
